/- The walk of the parser's two, wherever one, or two with the next row, hold here, and the latter further on. -/
import Derived.Test.YtadmmmehphhecaaGreatDoorQ
import Derived.Deep.LoopGhost
set_option linter.unusedVariables false
set_option linter.unusedSimpArgs false
namespace Go.Proofs.YtadmmmehphhecaaGreatDoor
open Go.RowKit
/-- what holds at the head of a round -/
structure TInv (s : ByteArray) (g row d : Nat) (t : PSt) (w : World) (X h : Nat) (t1 : PSt) (x : Ex) (A : Option Addr) (cap : Nat) (wr : World) : Prop where
  out : ∀ r, Out s.data.toList (.loop row x) d t1 r → Out s.data.toList (.two row) d t r
  pin : PIn TP wr g s t1
  rd : RdX wr (fun b => w.heap.size < b ∧ b ≠ X) x (.agg #[.string ⟨x.op.toArray⟩, .int .i64 x.num, .string ⟨x.name.toArray⟩, .slice A x.kids.len cap])
  kx : Bk wr X TE #[.string ⟨x.op.toArray⟩, .int .i64 x.num, .string ⟨x.name.toArray⟩, .slice A x.kids.len cap]
  k0 : Bk wr w.heap.size TE #[.string ⟨#[]⟩, .int .i64 0, .string ⟨#[]⟩, .slice none 0 0]
  gr : w.grownBy wr (some g)
  ld : Laid wr
  rw : RowsAt wr (fun b => w.heap.size < b ∧ b ≠ X) h
  le : t.at_ ≤ t1.at_
  hi : t1.at_ + t1.text.length ≤ s.size
  kd : t1.kd ≤ 2
  hX : X < wr.heap.size
  hw : w.heap.size < X
theorem PIn.belowB {T : TypeId} {w w' : World} {g B : Nat} {s : ByteArray} {t : PSt} (h : PIn T w g s t) (hb : Below B w w') (hg : g < B) : PIn T w' g s t := by
  obtain ⟨nm, h1, h2⟩ := h; exact ⟨nm, h1.below hb hg, h2⟩
theorem RdX.lt {w : World} {P : Nat → Prop} {e : Ex} {v : Value} (h : RdX w P e v) : RdX w (fun b => P b ∧ b < w.heap.size) e v :=
  RdX.keep (fun b off u hp hu => ⟨⟨hp, World.block_lt_of_cell? w _ hu⟩, hu⟩) e v h
theorem RowsAt.lt {w : World} {P : Nat → Prop} {h : Nat} (hr : RowsAt w P h) : RowsAt w (fun b => P b ∧ b < w.heap.size) h := by
  obtain ⟨h0, h1⟩ := hr
  obtain ⟨b0, _, hc0, _⟩ := h1 0 (by decide)
  refine ⟨⟨h0, World.block_lt_of_cell? w _ hc0⟩, fun i hi => ?_⟩
  obtain ⟨b, hb, h2, h3⟩ := h1 i hi
  have hlt : b < w.heap.size := World.block_lt_of_cell? w _ (h3 0 (.string ⟨(rowsF[i][0]'(by
    have : ∀ i (hi : i < rowsF.length), 0 < rowsF[i].length := by decide
    exact this i hi)).toArray⟩) (strL_at _ _ _))
  exact ⟨b, ⟨hb, hlt⟩, h2, h3⟩
theorem RowsAt.grownP {w w' : World} {P : Nat → Prop} {g h : Nat} (hr : RowsAt w P h) (hP : ∀ b, P b → b ≠ g) (hb : w.grownBy w' (some g)) : RowsAt w' P h :=
  hr.keep (fun b off u hp hu => ⟨hp, (World.cell?_of_block (w := w) (w' := w') (a := ⟨b, off, none⟩) (hb.block b (World.block_lt_of_cell? w _ hu) (by intro e; injection e with e; exact hP b hp e))).trans hu⟩) (fun _ h => h)
theorem RowsAt.low {w : World} {P Q : Nat → Prop} {h : Nat} (hr : RowsAt w P h) (hPQ : ∀ b, P b → Q b) : RowsAt w Q h := hr.keep (fun b off u hp hu => ⟨hPQ b hp, hu⟩) hPQ
theorem RowsAt.belowW {w w' : World} {P : Nat → Prop} {h : Nat} (hr : RowsAt w P h) (hb : Below w.heap.size w w') : RowsAt w' P h :=
  hr.keep (fun b off u hp hu => ⟨hp, (hb.cell (World.block_lt_of_cell? w _ hu)).trans hu⟩) (fun _ h => h)
theorem RowsAt.put4 {w1 : World} {P : Nat → Prop} {h b : Nat} (hr : RowsAt w1 P h) (hP : ∀ x, P x → x ≠ b) (a0 a1 a2 a3 : Value) : RowsAt ((((w1.setCell ⟨b, 0, none⟩ a0).setCell ⟨b, 1, none⟩ a1).setCell ⟨b, 2, none⟩ a2).setCell ⟨b, 3, none⟩ a3) P h :=
  hr.keep (fun c off u hp hu => ⟨hp, far (far (far (far hu (hP c hp)) (hP c hp)) (hP c hp)) (hP c hp)⟩) (fun _ h => h)
set_option maxRecDepth 100000 in
set_option maxHeartbeats 4000000 in
theorem two_step (s : ByteArray) (g row d : Nat) (t : PSt) (hs : s.size ≤ 100000) (hgb : GBig g) (hat : t.at_ + t.text.length ≤ s.size) (hkd : t.kd ≤ 2) (hrow : row ≤ 10)
    (hO : PFun 110 s g .one d t) (hN : row < 10 → PFunT s g (row + 1) d t) (hM : row < 10 → ∀ t', t.at_ < t'.at_ → t'.at_ + t'.text.length ≤ s.size → t'.kd ≤ 2 → PFunT s g (row + 1) d t') :
    PFunT s g row d t := by
  intro w di ri hdi hri hL hp
  subst hdi hri
  have HGB := hid hgb
  have HL := hid hL
  have HP := hid hp
  have hg := hp.lt
  have HOO := hid hO
  have HNN := hid hN
  have HMM := hid hM
  clear hgb hL hO hN hM hp
  by_cases h10 : row = 10
  · subst h10
    rw [show ((10 : Nat) : Int) = 10 from rfl]
    go_enter Tryz.func92, Tryz.ntmps92
    go_wp2_with fail
    ((with_reducible refine (rows_any _).mono ?_); rintro e w2 ⟨h, rfl, hrw, hb2⟩)
    go_wp2_with fail
    have hbw : Below w.heap.size w w2 := ((Below.refl w.heap.size w).alloc (Nat.le_refl _) (.cells #[.string ⟨#[]⟩, .int .i64 0, .string ⟨#[]⟩, .slice none 0 0] TE)).trans (hb2.mono (by simp))
    have k0 := (Bk.new w TE #[.string ⟨#[]⟩, .int .i64 0, .string ⟨#[]⟩, .slice none 0 0]).below hb2 (by simp)
    ((with_reducible refine (HOO.out.call _ _ rfl (HL.out.below hbw) (HP.out.belowB hbw hg)).mono ?_); rintro e w6 ⟨r, hout, hg6, hres⟩)
    have HG6 := hid (grownBy_trans (grown_of_below (row := some g) hbw) hg6)
    have k0 := k0.grown hg6 (by intro e; injection e with e; omega)
    have hsz6 : w.heap.size < w2.heap.size := by have := hb2.size; simp at this; omega
    cases r with
    | error x =>
      obtain ⟨a, er⟩ := x
      dsimp only at hres
      subst hres
      exact ⟨rfl, PPost.bad (two_one (s := s.data.toList) hout) HG6.out rfl⟩
    | ok q =>
      obtain ⟨x, t1⟩ := q
      obtain ⟨⟨v, rfl, hx⟩, hp6, hm1, hm2, hm3⟩ := hres
      obtain ⟨A, cap, rfl, hcap, hkids⟩ := hx.form
      have HF := hid (PPost.good (two_one (s := s.data.toList) hout) (put4_grown (b := w.heap.size) (.string ⟨x.op.toArray⟩) (.int .i64 x.num) (.string ⟨x.name.toArray⟩) (.slice A x.kids.len cap) HG6.out (Nat.le_refl _)) rfl ((put4_rd _ _ _ _ (hx.low (Q := fun b => w.heap.size < b) (fun b hb => by have hb2 : w2.heap.size ≤ b := hb; omega)) (fun b hb => by omega)).low (fun b hb => by omega)) (put4_pin _ _ _ _ hp6 (by omega)) hm1 hm2 hm3)
      obtain ⟨r0, r1, r2, r3⟩ := k0.cells4
      obtain ⟨g0, g1, g2, g3⟩ := k0.free4
      clear k0 hx hp6 hg6 hout hkids hb2 hrw
      go_wp2_with fail
      refine bodyPost_ret (v := .agg #[.string ⟨x.op.toArray⟩, .int .i64 x.num, .string ⟨x.name.toArray⟩, .slice A x.kids.len cap]) (by simp [results, Tryz.results92, go_sem, r0, r1, r2, r3, g0, g1, g2, g3]) rfl ?_
      exact HF.out
  · have hlt : row < 10 := by omega
    have hrl : row < rowsF.length := hlt
    have hne : ((row : Int) == 10) = false := by simp; omega
    have HR1 : Hid ((row : Int) + 1 = ((row + 1 : Nat) : Int)) := hid (by omega)
    have hr0 : (0 : Int) ≤ (row : Int) := Int.natCast_nonneg _
    have hr1 : (row : Int) < 10 := by omega
    have HGD : Hid (rowsF.getD row [] = rowsF[row]) := hid (by simp [List.getD, List.getElem?_eq_getElem hrl])
    clear h10
    go_enter Tryz.func92, Tryz.ntmps92
    go_wp2_with fail
    ((with_reducible refine (rows_any _).mono ?_); rintro e w2 ⟨h, rfl, hrw, hb2⟩)
    go_wp2_with fail
    have hbw : Below w.heap.size w w2 := ((Below.refl w.heap.size w).alloc (Nat.le_refl _) (.cells #[.string ⟨#[]⟩, .int .i64 0, .string ⟨#[]⟩, .slice none 0 0] TE)).trans (hb2.mono (by simp))
    have k0 := (Bk.new w TE #[.string ⟨#[]⟩, .int .i64 0, .string ⟨#[]⟩, .slice none 0 0]).below hb2 (by simp)
    have HRW := hid (hrw.low (Q := fun b => w.heap.size < b) (fun b hb => by simp at hb; omega))
    ((with_reducible refine ((HNN.out hlt).call _ _ _ rfl HR1.out (HL.out.below hbw) (HP.out.belowB hbw hg)).mono ?_); rintro e w6 ⟨r, hout, hg6, hres⟩)
    have HG6 := hid (grownBy_trans (grown_of_below (row := some g) hbw) hg6)
    have k0 := k0.grown hg6 (by intro e; injection e with e; omega)
    have hsz6 : w.heap.size < w2.heap.size := by have := hb2.size; simp at this; omega
    have hsz62 : w2.heap.size ≤ w6.heap.size := hg6.size
    cases r with
    | error x =>
      obtain ⟨a, er⟩ := x
      dsimp only at hres
      subst hres
      exact ⟨rfl, PPost.bad (two_err (s := s.data.toList) (by omega) hout) HG6.out rfl⟩
    | ok q =>
      obtain ⟨x, t1⟩ := q
      obtain ⟨⟨v, rfl, hx⟩, hp6, hm1, hm2, hm3⟩ := hres
      obtain ⟨A, cap, rfl, hcap, hkids⟩ := hx.form
      have HI : Hid (TInv s g row d t w w6.heap.size h t1 x A cap (w6.alloc (.cells #[.string ⟨x.op.toArray⟩, .int .i64 x.num, .string ⟨x.name.toArray⟩, .slice A x.kids.len cap] TE))) := hid {
        out := fun r hr => two_loop (by omega) hout hr
        pin := hp6.alloc _
        rd := (hx.lt.low (fun b hb => by have hb2 : w2.heap.size ≤ b := hb.1; exact ⟨by omega, by omega⟩)).alloc _
        kx := Bk.new w6 TE _
        k0 := k0.alloc _
        gr := grownBy_trans HG6.out (grown_alloc _ _ _)
        ld := ((HL.out.below hbw).grown hg6 HGB.out).below ((Below.refl _ _).alloc (Nat.le_refl _) _)
        rw := (((HRW.out.grownP (fun b hb => by omega) hg6).lt).low (fun b hb => ⟨hb.1, by omega⟩)).belowW ((Below.refl _ _).alloc (Nat.le_refl _) _)
        le := hm1
        hi := hm2
        kd := hm3
        hX := by simp
        hw := by omega }
      clear hx hp6 hg6 hout hkids hb2 hrw k0 hbw HRW
      go_wp2_with fail
      obtain ⟨X, hX⟩ : ∃ X, X = w6.heap.size := ⟨_, rfl⟩
      rw [← hX] at HI ⊢
      clear hX
      go_loopg [9] (s.size - t1.at_) (fun gh v9 wr => ∃ (t1 : PSt) (x : Ex) (A : Option Addr) (cap : Nat), gh = s.size - t1.at_ ∧ Hid (TInv s g row d t w X h t1 x A cap wr))
      case atStart => exact ⟨t1, x, A, cap, rfl, HI⟩
      case round =>
        clear HI hm1 hm2 hm3 hcap
        obtain ⟨t1, x, A, cap, rfl, HI⟩ := hrel
        have hX := HI.out.hX
        have hw := HI.out.hw
        have hhi := HI.out.hi
        have hle := HI.out.le
        have hk1 := HI.out.kd
        obtain ⟨nm1, hkp, _⟩ := (show PIn TP wr g s t1 from HI.out.pin)
        obtain ⟨c0, c1, c2, c3, c4⟩ := hkp.cells5
        obtain ⟨q0, q1, q2, q3⟩ := HI.out.kx.cells4
        by_cases hc : t1.kd = 0 ∧ t1.text ≠ [] ∧ t1.text ∈ rowsF.getD row []
        · have HC := hid hc
          have hemp : t1.text.isEmpty = false := by
            rcases h : t1.text with _ | ⟨a, b⟩
            · exact (hc.2.1 h).elim
            · rfl
          have HTL : Hid (0 < t1.text.length) := hid (List.length_pos_iff.2 hc.2.1)
          have HIN : Hid (decide (t1.text ∈ rowsF[row]) = true) := hid (by rw [← HGD.out]; simpa using hc.2.2)
          rw [hc.1, show kindS 0 = [] from rfl] at c4
          obtain ⟨hP0, hrows⟩ := HI.out.rw
          obtain ⟨bR, hbR, hcR, hatR⟩ := hrows row hrl
          have HATR := hid hatR
          have hRl : rowsF[row].length ≤ 100 := by
            have : ∀ i (hi : i < rowsF.length), rowsF[i].length ≤ 100 := by decide
            exact this row hrl
          have HRL := hid hRl
          clear hc hrows hatR hRl hkp hbR hP0
          go_wp2_with fail
          ((with_reducible refine (in_any g t1.text bR rowsF[row] _ c2 HRL.out HATR.out).mono ?_); rintro e w7 ⟨rfl, rfl⟩)
          rw [HIN.out]
          go_wp2_with fail
          ((with_reducible refine (next_any s g t1 _ HI.out.ld hs HGB.out HI.out.pin hhi).mono ?_); rintro e w8 ⟨hg8, hres⟩)
          have HG8 := hid (grownBy_trans HI.out.gr hg8)
          cases hn : nextF s.data.toList t1 with
          | error u =>
            obtain ⟨a, er⟩ := u
            rw [hn] at hres
            dsimp only at hres
            subst hres
            exact ⟨rfl, PPost.bad (HI.out.out _ (loop_next (s := s.data.toList) HC.out hn)) HG8.out rfl⟩
          | ok t2 =>
            rw [hn] at hres
            obtain ⟨rfl, hp8⟩ := hres
            have hl2 := next_le _ _ _ hn (by simpa using hhi)
            obtain ⟨hn1, hn2, hn3⟩ := hl2
            have hn2 : t2.at_ + t2.text.length ≤ s.size := by simpa using hn2
            have hst1 : t1.at_ < t2.at_ := by have := HTL.out; omega
            have hstr : t.at_ < t2.at_ := by omega
            have HNX := hid hn
            have HLD := hid (HI.out.ld.grown hg8 HGB.out).drew
            have HPD := hid hp8.drew
            have hkX := HI.out.kx.grown hg8 (by intro e; injection e with e; omega)
            have hk0 := HI.out.k0.grown hg8 (by intro e; injection e with e; omega)
            have HXD := hid ((HI.out.rd.grownP (fun b hb => by omega) hg8).below (Below.refl _ _).drew)
            have HRD := hid ((HI.out.rw.grownP (fun b hb => by omega) hg8).belowW (Below.refl _ _).drew)
            have HKXD := hid hkX.drew
            have HK0D := hid hk0.drew
            have HGDD := hid (grown_drew HG8.out)
            have hX8 : X < w8.heap.size := hkX.lt
            clear q0 q1 q2 q3 c0 c1 c2 c3 c4 hcR
            obtain ⟨q0, q1, q2, q3⟩ := hkX.cells4
            clear hkX hk0 hg8 hp8 hn
            go_wp2_with fail
            have hwr : IntKind.i64.wrap ((row : Int) + 1) = (row : Int) + 1 := IntWalk.i64_in _ (by omega)
            go_region_with (go_at_call 92; (with_reducible refine ((HMM.out hlt t2 hstr hn2 hn3).call w8.drew _ _ rfl HR1.out HLD.out HPD.out).mono ?_); clear hwr; rintro e w10 ⟨r, hout, hg10, hres⟩; rcases r with ⟨a, er⟩ | ⟨z, t3⟩; (dsimp only at hres; subst hres; exact ⟨rfl, PPost.bad (HI.out.out _ (loop_err (s := s.data.toList) HC.out HNX.out hout)) (grownBy_trans HGDD.out hg10) rfl⟩); obtain ⟨⟨v2, rfl, hz⟩, hp10, hy1, hy2, hy3⟩ := hres; obtain ⟨A3, cap3, rfl, hcap3, _⟩ := hz.form; have HOU := hid hout; have hsz10 : w8.heap.size ≤ w10.heap.size := hg10.size; have hltX : X < w10.heap.size := (by omega); have hneX : ¬ X = w10.heap.size := (by omega); have HG10 := hid (grownBy_trans HGDD.out hg10); have HZ10 := hid hz; have HP10 := hid hp10; have HL10 := hid (HLD.out.grown hg10 HGB.out); have HX10 := hid (HXD.out.grownP (fun b hb => (by omega)) hg10); have HR10 := hid (HRD.out.grownP (fun b hb => (by omega)) hg10); have kX := HKXD.out.grown hg10 (by intro e; injection e with e; omega); have k0 := HK0D.out.grown hg10 (by intro e; injection e with e; omega); have HK010 := hid k0; have HKX10 := hid kX; obtain ⟨u0, u1, u2, u3⟩ := kX.cells4; obtain ⟨g0, g1, g2, g3⟩ := kX.free4; clear hout hg10 hz hp10 kX k0)
            all_goals
              have kX1 := (HKX10.out.put4 (.string ⟨t1.text.toArray⟩) (.int .i64 0) (.string ⟨#[]⟩) (.slice (some ⟨w10.heap.size, 0, none⟩) 2 2)).alloc (.cells #[.string ⟨x.op.toArray⟩, .int .i64 x.num, .string ⟨x.name.toArray⟩, .slice A x.kids.len cap, .string ⟨z.op.toArray⟩, .int .i64 z.num, .string ⟨z.name.toArray⟩, .slice A3 z.kids.len cap3] TE)
              have k01 := (HK010.out.put4far (b := X) (by omega) (.string ⟨t1.text.toArray⟩) (.int .i64 0) (.string ⟨#[]⟩) (.slice (some ⟨w10.heap.size, 0, none⟩) 2 2)).alloc (.cells #[.string ⟨x.op.toArray⟩, .int .i64 x.num, .string ⟨x.name.toArray⟩, .slice A x.kids.len cap, .string ⟨z.op.toArray⟩, .int .i64 z.num, .string ⟨z.name.toArray⟩, .slice A3 z.kids.len cap3] TE)
              have kN : Bk (((((w10.setCell ⟨X, 0, none⟩ (.string ⟨t1.text.toArray⟩)).setCell ⟨X, 1, none⟩ (.int .i64 0)).setCell ⟨X, 2, none⟩ (.string ⟨#[]⟩)).setCell ⟨X, 3, none⟩ (.slice (some ⟨w10.heap.size, 0, none⟩) 2 2)).alloc (.cells #[.string ⟨x.op.toArray⟩, .int .i64 x.num, .string ⟨x.name.toArray⟩, .slice A x.kids.len cap, .string ⟨z.op.toArray⟩, .int .i64 z.num, .string ⟨z.name.toArray⟩, .slice A3 z.kids.len cap3] TE)) w10.heap.size TE #[.string ⟨x.op.toArray⟩, .int .i64 x.num, .string ⟨x.name.toArray⟩, .slice A x.kids.len cap, .string ⟨z.op.toArray⟩, .int .i64 z.num, .string ⟨z.name.toArray⟩, .slice A3 z.kids.len cap3] := by
                have := Bk.new ((((w10.setCell ⟨X, 0, none⟩ (.string ⟨t1.text.toArray⟩)).setCell ⟨X, 1, none⟩ (.int .i64 0)).setCell ⟨X, 2, none⟩ (.string ⟨#[]⟩)).setCell ⟨X, 3, none⟩ (.slice (some ⟨w10.heap.size, 0, none⟩) 2 2)) TE #[.string ⟨x.op.toArray⟩, .int .i64 x.num, .string ⟨x.name.toArray⟩, .slice A x.kids.len cap, .string ⟨z.op.toArray⟩, .int .i64 z.num, .string ⟨z.name.toArray⟩, .slice A3 z.kids.len cap3]
                simpa [World.setCell] using this
              have hzF := (put4_rd (b := X) (.string ⟨t1.text.toArray⟩) (.int .i64 0) (.string ⟨#[]⟩) (.slice (some ⟨w10.heap.size, 0, none⟩) 2 2) (HZ10.out.lt.low (Q := fun b => w.heap.size < b ∧ b ≠ X) (fun b hb => by have hb2 : w8.heap.size ≤ b := hb.1; exact ⟨by omega, by omega⟩)) (fun b hb => hb.2)).alloc (.cells #[.string ⟨x.op.toArray⟩, .int .i64 x.num, .string ⟨x.name.toArray⟩, .slice A x.kids.len cap, .string ⟨z.op.toArray⟩, .int .i64 z.num, .string ⟨z.name.toArray⟩, .slice A3 z.kids.len cap3] TE)
              have hxF := (put4_rd (b := X) (.string ⟨t1.text.toArray⟩) (.int .i64 0) (.string ⟨#[]⟩) (.slice (some ⟨w10.heap.size, 0, none⟩) 2 2) HX10.out (fun b hb => hb.2)).alloc (.cells #[.string ⟨x.op.toArray⟩, .int .i64 x.num, .string ⟨x.name.toArray⟩, .slice A x.kids.len cap, .string ⟨z.op.toArray⟩, .int .i64 z.num, .string ⟨z.name.toArray⟩, .slice A3 z.kids.len cap3] TE)
              have HF : Hid (TInv s g row d t w X h t3 (.mk t1.text 0 [] (.cons x (.cons z .nil))) (some ⟨w10.heap.size, 0, none⟩) 2 (((((w10.setCell ⟨X, 0, none⟩ (.string ⟨t1.text.toArray⟩)).setCell ⟨X, 1, none⟩ (.int .i64 0)).setCell ⟨X, 2, none⟩ (.string ⟨#[]⟩)).setCell ⟨X, 3, none⟩ (.slice (some ⟨w10.heap.size, 0, none⟩) 2 2)).alloc (.cells #[.string ⟨x.op.toArray⟩, .int .i64 x.num, .string ⟨x.name.toArray⟩, .slice A x.kids.len cap, .string ⟨z.op.toArray⟩, .int .i64 z.num, .string ⟨z.name.toArray⟩, .slice A3 z.kids.len cap3] TE))) := hid {
                out := fun r hr => HI.out.out r (loop_in (s := s.data.toList) HC.out HNX.out HOU.out hr)
                pin := (put4_pin _ _ _ _ HP10.out (by omega)).alloc _
                rd := RdX.mk (op := t1.text) (nm := []) (n := 0) (k := .cons x (.cons z .nil)) (l := 2) (cap := 2) rfl (Nat.le_refl _) (RdL.two ⟨by omega, by omega⟩ kN hxF hzF)
                kx := kX1
                k0 := k01
                gr := grownBy_trans (put4_grown (b := X) (.string ⟨t1.text.toArray⟩) (.int .i64 0) (.string ⟨#[]⟩) (.slice (some ⟨w10.heap.size, 0, none⟩) 2 2) HG10.out (by omega)) (grown_alloc _ _ (.cells #[.string ⟨x.op.toArray⟩, .int .i64 x.num, .string ⟨x.name.toArray⟩, .slice A x.kids.len cap, .string ⟨z.op.toArray⟩, .int .i64 z.num, .string ⟨z.name.toArray⟩, .slice A3 z.kids.len cap3] TE))
                ld := (put4_laid (b := X) HL10.out (by have := HGB.out; unfold GBig at *; omega) (.string ⟨t1.text.toArray⟩) (.int .i64 0) (.string ⟨#[]⟩) (.slice (some ⟨w10.heap.size, 0, none⟩) 2 2)).below ((Below.refl _ _).alloc (Nat.le_refl _) _)
                rw := (HR10.out.put4 (fun b hb => hb.2) (.string ⟨t1.text.toArray⟩) (.int .i64 0) (.string ⟨#[]⟩) (.slice (some ⟨w10.heap.size, 0, none⟩) 2 2)).belowW ((Below.refl _ _).alloc (Nat.le_refl _) _)
                le := by omega
                hi := hy2
                kd := hy3
                hX := by simp [World.setCell]; omega
                hw := hw }
              clear kX1 k01 kN hzF hxF
              go_wp2_with fail
              go_roundg (s.size - t3.at_)
              case measure => omega
              case rel => exact ⟨t3, _, _, _, rfl, HF⟩
        · have HF := hid (PPost.good (HI.out.out _ (loop_end (s := s.data.toList) hc)) (put4_grown (b := w.heap.size) (.string ⟨x.op.toArray⟩) (.int .i64 x.num) (.string ⟨x.name.toArray⟩) (.slice A x.kids.len cap) HI.out.gr (Nat.le_refl _)) rfl ((put4_rd _ _ _ _ HI.out.rd (fun b hb => by omega)).low (fun b hb => by omega)) (put4_pin _ _ _ _ HI.out.pin (by omega)) hle hhi hk1)
          obtain ⟨r0, r1, r2, r3⟩ := HI.out.k0.cells4
          obtain ⟨g0, g1, g2, g3⟩ := HI.out.k0.free4
          by_cases hz : t1.kd = 0
          · rw [hz, show kindS 0 = [] from rfl] at c4
            by_cases htx : t1.text = []
            · rw [htx] at c2
              clear hc hkp
              go_wp2_with fail
              refine bodyPost_ret (v := .agg #[.string ⟨x.op.toArray⟩, .int .i64 x.num, .string ⟨x.name.toArray⟩, .slice A x.kids.len cap]) (by simp [results, Tryz.results92, go_sem, r0, r1, r2, r3, g0, g1, g2, g3]) rfl ?_
              exact HF.out
            · have hemp : t1.text.isEmpty = false := by
                rcases h : t1.text with _ | ⟨a, b⟩
                · exact (htx h).elim
                · rfl
              have HIN : Hid (decide (t1.text ∈ rowsF[row]) = false) := hid (by
                rw [← HGD.out]
                have : ¬ t1.text ∈ rowsF.getD row [] := fun h => hc ⟨hz, htx, h⟩
                simpa using this)
              obtain ⟨hP0, hrows⟩ := HI.out.rw
              obtain ⟨bR, hbR, hcR, hatR⟩ := hrows row hrl
              have HATR := hid hatR
              have hRl : rowsF[row].length ≤ 100 := by
                have : ∀ i (hi : i < rowsF.length), rowsF[i].length ≤ 100 := by decide
                exact this row hrl
              have HRL := hid hRl
              clear hc hrows hatR hRl hkp hbR hP0 htx
              go_wp2_with fail
              ((with_reducible refine (in_any g t1.text bR rowsF[row] _ c2 HRL.out HATR.out).mono ?_); rintro e w7 ⟨rfl, rfl⟩)
              rw [HIN.out]
              go_wp2_with fail
              refine bodyPost_ret (v := .agg #[.string ⟨x.op.toArray⟩, .int .i64 x.num, .string ⟨x.name.toArray⟩, .slice A x.kids.len cap]) (by simp [results, Tryz.results92, go_sem, r0, r1, r2, r3, g0, g1, g2, g3]) rfl ?_
              exact HF.out
          · have hk0 := kind_ne t1.kd hz
            generalize kindS t1.kd = ks1 at *
            clear hc hkp hz
            go_wp2_with fail
            refine bodyPost_ret (v := .agg #[.string ⟨x.op.toArray⟩, .int .i64 x.num, .string ⟨x.name.toArray⟩, .slice A x.kids.len cap]) (by simp [results, Tryz.results92, go_sem, r0, r1, r2, r3, g0, g1, g2, g3]) rfl ?_
            exact HF.out
end Go.Proofs.YtadmmmehphhecaaGreatDoor
