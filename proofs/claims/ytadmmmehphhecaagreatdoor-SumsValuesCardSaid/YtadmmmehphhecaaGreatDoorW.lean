/- The walk of the parser's whole, wherever choice holds here and whole further on. -/
import Derived.Test.YtadmmmehphhecaaGreatDoorO
set_option linter.unusedVariables false
set_option linter.unusedSimpArgs false
namespace Go.Proofs.YtadmmmehphhecaaGreatDoor
open Go.RowKit
theorem name_str (x : List UInt8) : (⟨x.toArray⟩ : ByteArray) = ⟨#[110, 97, 109, 101]⟩ ↔ x = nameO := by
  constructor
  · intro h
    have := congrArg (fun b : ByteArray => b.data.toList) h
    simpa [nameO] using this
  · intro h; subst h; rfl
theorem Laid.drew {w : World} (h : Laid w) : Laid w.drew := h.below (Below.refl w.heap.size w).drew
theorem PIn.drew {T : TypeId} {w : World} {g : Nat} {s : ByteArray} {t : PSt} (h : PIn T w g s t) : PIn T w.drew g s t := by
  obtain ⟨nm, h, h2⟩ := h; exact ⟨nm, h.drew, h2⟩
theorem grown_drew {w w1 : World} {row : Option Nat} (h : w.grownBy w1 row) : w.grownBy w1.drew row := ⟨h.os, h.tape, h.output, h.size, h.block⟩
set_option maxRecDepth 100000 in
set_option maxHeartbeats 4000000 in
theorem whole_step (s : ByteArray) (g : Nat) (d : Nat) (t : PSt) (hs : s.size ≤ 100000) (hgb : GBig g) (hat : t.at_ + t.text.length ≤ s.size) (hd : d ≤ 40) (hkd : t.kd ≤ 2)
    (hC : PFun 76 s g .choice d t) (hW : d < 40 → ∀ t', t.at_ < t'.at_ → t'.at_ + t'.text.length ≤ s.size → t'.kd ≤ 2 → PFun 41 s g .whole (d + 1) t') :
    PFun 41 s g .whole d t := by
  intro w di hdi hL hp
  subst hdi
  have HGB := hid hgb
  have HL := hid hL
  have HP := hid hp
  have hg := hp.lt
  have HWW := hid hW
  have HCC := hid hC
  obtain ⟨al, hal⟩ : ∃ al : Bool, al = decide (t.kd = 2) := ⟨_, rfl⟩
  have HAL := hid hal
  obtain ⟨nm, hk, _⟩ := hp
  obtain ⟨c0, c1, c2, c3, c4⟩ := hk.cells5
  have hkn : ((⟨(kindS t.kd).toArray⟩ : ByteArray) = ⟨#[110, 97, 109, 101]⟩) ↔ al = true := by
    rw [name_str, hal, decide_eq_true_eq]
    match h : t.kd, hkd with
    | 0, _ => simp [kindS, nameO]
    | 1, _ => simp [kindS, nameO]
    | 2, _ => simp [kindS, nameO]
  have hks : (kindS t.kd == [110, 97, 109, 101]) = al := by
    rw [hal]
    match h : t.kd, hkd with
    | 0, _ => rfl
    | 1, _ => rfl
    | 2, _ => rfl
  generalize kindS t.kd = ks at *
  clear hgb hL hW hC hal hk hkn
  go_enter Tryz.func41, Tryz.ntmps41
  go_wp2_with fail
  ((with_reducible refine (HCC.out.call _ _ rfl (HL.out.below ((Below.refl _ _).alloc (Nat.le_refl _) _)) (HP.out.alloc _)).mono ?_); rintro e w6 ⟨r, hout, hg6, hres⟩)
  have HG6 := hid (grownBy_trans (grown_alloc w (some g) (.cells #[.string ⟨#[]⟩, .int .i64 0, .string ⟨#[]⟩, .slice none 0 0] TE)) hg6)
  have k0 := (Bk.new w TE #[.string ⟨#[]⟩, .int .i64 0, .string ⟨#[]⟩, .slice none 0 0]).grown hg6 (by intro e; injection e with e; omega)
  have hsz6 : w.heap.size < w6.heap.size := k0.lt
  cases r with
  | error x =>
    obtain ⟨a, er⟩ := x
    dsimp only at hres
    subst hres
    exact ⟨rfl, PPost.bad (whole_err (s := s.data.toList) hout) HG6.out rfl⟩
  | ok q =>
    obtain ⟨x, t1⟩ := q
    obtain ⟨⟨v, rfl, hx⟩, hp6, hm1, hm2, hm3⟩ := hres
    obtain ⟨A, cap, rfl, hcap, hkids⟩ := hx.form
    have hk7 := k0.alloc (.cells #[.string ⟨x.op.toArray⟩, .int .i64 x.num, .string ⟨x.name.toArray⟩, .slice A x.kids.len cap] TE)
    have kX := Bk.new w6 TE #[.string ⟨x.op.toArray⟩, .int .i64 x.num, .string ⟨x.name.toArray⟩, .slice A x.kids.len cap]
    have hp7 := hp6.alloc (.cells #[.string ⟨x.op.toArray⟩, .int .i64 x.num, .string ⟨x.name.toArray⟩, .slice A x.kids.len cap] TE)
    have hx7 := hx.alloc (.cells #[.string ⟨x.op.toArray⟩, .int .i64 x.num, .string ⟨x.name.toArray⟩, .slice A x.kids.len cap] TE)
    have HG7 := hid (grownBy_trans HG6.out (grown_alloc _ _ (.cells #[.string ⟨x.op.toArray⟩, .int .i64 x.num, .string ⟨x.name.toArray⟩, .slice A x.kids.len cap] TE)))
    have HL7 := hid (((HL.out.below ((Below.refl _ _).alloc (Nat.le_refl _) _)).grown hg6 HGB.out).below ((Below.refl _ _).alloc (Nat.le_refl _) (.cells #[.string ⟨x.op.toArray⟩, .int .i64 x.num, .string ⟨x.name.toArray⟩, .slice A x.kids.len cap] TE)))
    have hsz7 : w6.heap.size < (w6.alloc (.cells #[.string ⟨x.op.toArray⟩, .int .i64 x.num, .string ⟨x.name.toArray⟩, .slice A x.kids.len cap] TE)).heap.size := by simp
    have HOUT := hid hout
    obtain ⟨nm1, hkp, _⟩ := (show PIn TP _ g s t1 from hp7)
    go_upto_region 3 with fail
    obtain ⟨X, hX⟩ : ∃ X, X = w6.heap.size := ⟨_, rfl⟩
    rw [← hX] at kX hsz7 ⊢
    have hXw : w.heap.size < X := by omega
    generalize w6.alloc (.cells #[.string ⟨x.op.toArray⟩, .int .i64 x.num, .string ⟨x.name.toArray⟩, .slice A x.kids.len cap] TE) = w7 at *
    have HPP := hid hp7
    have HXX := hid (hx7.low (Q := fun b => w.heap.size < b) (fun b hb => by simp at hb; omega))
    have HK0 := hid hk7
    have HKX := hid kX
    clear hx hx7 hp6 hp7 hg6 hout hkids hX c0 c1 c2 c3 c4 k0 hk7 kX
    obtain ⟨c0, c1, c2, c3, c4⟩ := hkp.cells5
    by_cases hset : t1.kd = 0 ∧ setF t1.text = true
    · obtain ⟨hz, hsf⟩ := hset
      rw [hz] at c4
      rw [show kindS 0 = [] from rfl] at c4
      have HSF := hid hsf
      clear hsf
      have hs1 : t1.kd = 0 ∧ setF t1.text = true := ⟨hz, HSF.out⟩
      have HS1 := hid hs1
      clear hs1 hz
      obtain ⟨k0c, k1c, k2c, k3c⟩ := HKX.out.cells4
      have hway : al = false ∨ (al = true ∧ (x.op == [110, 97, 109, 101]) = false) ∨ (al = true ∧ x.op = nameO) := by
        cases al
        · exact .inl rfl
        · by_cases h : x.op = nameO
          · exact .inr (.inr ⟨rfl, h⟩)
          · exact .inr (.inl ⟨rfl, by simpa [nameO] using h⟩)
      have HKD : Hid (al = true → t.kd = 2) := hid (fun h => by have := HAL.out; rw [h] at this; simpa using this.symm)
      rcases hway with hal | ⟨hal, hop⟩ | ⟨hal, hop⟩
      · have HO1 := hid (whole_place (s := s.data.toList) HOUT.out HS1.out (by rintro ⟨h, _⟩; have := HAL.out; rw [hal, h] at this; simp at this))
        subst hal
        clear hkp
        go_wp2_with fail
        ((with_reducible refine (isSet_any t1.text _).mono ?_); rintro e w8 ⟨rfl, rfl⟩)
        rw [HSF.out]
        go_wp2_with fail
        ((with_reducible refine (fail_any g 25 _ t1.at_ c1).mono ?_); rintro e w9 ⟨rfl, rfl⟩)
        exact ⟨rfl, PPost.bad HO1.out HG7.out rfl⟩
      · have HO1 := hid (whole_place (s := s.data.toList) HOUT.out HS1.out (by rintro ⟨_, h⟩; rw [h] at hop; simp [nameO] at hop))
        subst hal
        clear hkp
        go_wp2_with fail
        ((with_reducible refine (isSet_any t1.text _).mono ?_); rintro e w8 ⟨rfl, rfl⟩)
        rw [HSF.out]
        go_wp2_with fail
        ((with_reducible refine (fail_any g 25 _ t1.at_ c1).mono ?_); rintro e w9 ⟨rfl, rfl⟩)
        exact ⟨rfl, PPost.bad HO1.out HG7.out rfl⟩
      have HNM : Hid (t.kd = 2 ∧ x.op = nameO) := hid ⟨HKD.out hal, hop⟩
      have hopd : (x.op == [110, 97, 109, 101]) = true := by rw [hop]; rfl
      have HOP := hid hop
      subst hal
      clear hop hkp
      by_cases hd40 : d = 40
      · have HO1 := hid (whole_deep (s := s.data.toList) HOUT.out HS1.out HNM.out hd40)
        subst hd40
        rw [show ((40 : Nat) : Int) = 40 from rfl]
        go_wp2_with fail
        ((with_reducible refine (isSet_any t1.text _).mono ?_); rintro e w8 ⟨rfl, rfl⟩)
        rw [HSF.out]
        go_wp2_with fail
        ((with_reducible refine (deeper_no g _ t1.at_ c1).mono ?_); rintro e w9 ⟨rfl, rfl⟩)
        exact ⟨rfl, PPost.bad HO1.out HG7.out rfl⟩
      have hdl : (d : Int) < 40 := by omega
      have hd0 : (0 : Int) ≤ (d : Int) := by omega
      have HD1 : Hid ((d : Int) + 1 = ((d + 1 : Nat) : Int)) := hid (by omega)
      have HTL : Hid (0 < t1.text.length) := hid (by
        have := HSF.out
        rcases h : t1.text with _ | ⟨a, b⟩
        · rw [h] at this; exact absurd this (by decide)
        · simp)
      go_wp2_with fail
      ((with_reducible refine (isSet_any t1.text _).mono ?_); rintro e w8 ⟨rfl, rfl⟩)
      rw [HSF.out]
      go_wp2_with fail
      ((with_reducible refine (deeper_yes g d _ hd0 hdl).mono ?_); rintro e w9 ⟨rfl, rfl⟩)
      go_wp2_with fail
      ((with_reducible refine (next_any s g t1 _ HL7.out hs HGB.out HPP.out hm2).mono ?_); rintro e w9 ⟨hg9, hres⟩)
      have HG9 := hid (grownBy_trans HG7.out hg9)
      cases hn : nextF s.data.toList t1 with
      | error y =>
        obtain ⟨a, er⟩ := y
        rw [hn] at hres
        dsimp only at hres
        subst hres
        exact ⟨rfl, PPost.bad (whole_next (s := s.data.toList) HOUT.out HS1.out HNM.out hd40 hn) HG9.out rfl⟩
      | ok t2 =>
        rw [hn] at hres
        obtain ⟨rfl, hp9⟩ := hres
        have hl2 := next_le _ _ _ hn (by simpa using hm2)
        obtain ⟨hn1, hn2, hn3⟩ := hl2
        have hn2 : t2.at_ + t2.text.length ≤ s.size := by simpa using hn2
        have hstr : t.at_ < t2.at_ := by have := HTL.out; omega
        have HL9 := hid (HL7.out.grown hg9 HGB.out)
        have hkX9 := HKX.out.grown hg9 (by intro e; injection e with e; omega)
        have hk09 := HK0.out.grown hg9 (by intro e; injection e with e; omega)
        have HNN := hid hn
        have HP9 := hid hp9
        have hX9 : X < w9.heap.size := hkX9.lt
        clear hn hg9 hp9 k0c k1c k2c k3c c0 c1 c2 c3 c4
        obtain ⟨k0c, k1c, k2c, k3c⟩ := hkX9.cells4
        have HK09 := hid hk09
        have HKX9 := hid hkX9
        clear hk09 hkX9
        go_wp2_with fail
        have HLD := hid HL9.out.drew
        have HPD := hid HP9.out.drew
        have HKXD := hid HKX9.out.drew
        have HK0D := hid HK09.out.drew
        have HGD := hid (grown_drew HG9.out)
        go_region_with (go_at_call 41; refine ((HWW.out (by omega) t2 hstr hn2 hn3).call w9.drew _ HD1.out HLD.out HPD.out).mono ?_; rintro e w10 ⟨r, hout, hg10, hres⟩; rcases r with ⟨a, er⟩ | ⟨x2, t3⟩; (dsimp only at hres; subst hres; exact ⟨rfl, PPost.bad (whole_in (s := s.data.toList) HOUT.out HS1.out HNM.out hd40 HNN.out hout) (grownBy_trans HGD.out hg10) rfl⟩); obtain ⟨⟨v2, rfl, hx2⟩, hp10, hy1, hy2, hy3⟩ := hres; obtain ⟨A2, cap2, rfl, hcap2, _⟩ := hx2.form; have HOU := hid hout; have hsz10 : w9.heap.size ≤ w10.heap.size := hg10.size; have hlt10 : w.heap.size < w10.heap.size := (by omega); have hne10 : ¬ w.heap.size = w10.heap.size := (by omega); have hltX : X < w10.heap.size := (by omega); have hneX : ¬ X = w10.heap.size := (by omega); have HG10 := hid (grownBy_trans HGD.out hg10); have HXX := hid hx2; have HP10 := hid hp10; have kX := HKXD.out.grown hg10 (by intro e; injection e with e; omega); have k0 := HK0D.out.grown hg10 (by intro e; injection e with e; omega); have HKX10 := hid kX; have HK010 := hid k0; obtain ⟨u0, u1, u2, u3⟩ := kX.cells4; obtain ⟨r0, r1, r2, r3⟩ := k0.cells4; obtain ⟨g0, g1, g2, g3⟩ := k0.free4; clear hout hg10 hx2 hp10 kX k0)
        all_goals
          have HO1 : Hid (Out s.data.toList .whole d t (.ok (.mk t1.text 0 x.name (.cons x2 .nil), t3))) := hid (whole_in (s := s.data.toList) HOUT.out HS1.out HNM.out hd40 HNN.out HOU.out)
          have kF := (HK010.out.put4 (.string ⟨t1.text.toArray⟩) (.int .i64 0) (.string ⟨x.name.toArray⟩) (.slice (some ⟨w10.heap.size, 0, none⟩) 1 1)).alloc (.cells #[.string ⟨x2.op.toArray⟩, .int .i64 x2.num, .string ⟨x2.name.toArray⟩, .slice A2 x2.kids.len cap2] TE)
          have kN : Bk (((((w10.setCell ⟨w.heap.size, 0, none⟩ (.string ⟨t1.text.toArray⟩)).setCell ⟨w.heap.size, 1, none⟩ (.int .i64 0)).setCell ⟨w.heap.size, 2, none⟩ (.string ⟨x.name.toArray⟩)).setCell ⟨w.heap.size, 3, none⟩ (.slice (some ⟨w10.heap.size, 0, none⟩) 1 1)).alloc (.cells #[.string ⟨x2.op.toArray⟩, .int .i64 x2.num, .string ⟨x2.name.toArray⟩, .slice A2 x2.kids.len cap2] TE)) w10.heap.size TE #[.string ⟨x2.op.toArray⟩, .int .i64 x2.num, .string ⟨x2.name.toArray⟩, .slice A2 x2.kids.len cap2] := by
            have := Bk.new ((((w10.setCell ⟨w.heap.size, 0, none⟩ (.string ⟨t1.text.toArray⟩)).setCell ⟨w.heap.size, 1, none⟩ (.int .i64 0)).setCell ⟨w.heap.size, 2, none⟩ (.string ⟨x.name.toArray⟩)).setCell ⟨w.heap.size, 3, none⟩ (.slice (some ⟨w10.heap.size, 0, none⟩) 1 1)) TE #[.string ⟨x2.op.toArray⟩, .int .i64 x2.num, .string ⟨x2.name.toArray⟩, .slice A2 x2.kids.len cap2]
            simpa [World.setCell] using this
          have hxF := (put4_rd (b := w.heap.size) (.string ⟨t1.text.toArray⟩) (.int .i64 0) (.string ⟨x.name.toArray⟩) (.slice (some ⟨w10.heap.size, 0, none⟩) 1 1) HXX.out (fun b hb => by have hb2 : w9.heap.size ≤ b := hb; omega)).alloc (.cells #[.string ⟨x2.op.toArray⟩, .int .i64 x2.num, .string ⟨x2.name.toArray⟩, .slice A2 x2.kids.len cap2] TE)
          have HF := hid (PPost.good HO1.out (grownBy_trans (put4_grown (b := w.heap.size) (.string ⟨t1.text.toArray⟩) (.int .i64 0) (.string ⟨x.name.toArray⟩) (.slice (some ⟨w10.heap.size, 0, none⟩) 1 1) HG10.out (Nat.le_refl _)) (grown_alloc _ _ (.cells #[.string ⟨x2.op.toArray⟩, .int .i64 x2.num, .string ⟨x2.name.toArray⟩, .slice A2 x2.kids.len cap2] TE))) rfl
            (RdX.mk (op := t1.text) (nm := x.name) (n := 0) (k := .cons x2 .nil) (l := 1) (cap := 1) rfl (Nat.le_refl _) (RdL.one (by omega) kN (hxF.low (fun b hb => by have hb2 : w9.heap.size ≤ b := hb; omega)))) ((put4_pin _ _ _ _ HP10.out (by omega)).alloc _) (by omega) hy2 hy3)
          obtain ⟨e0, e1, e2, e3⟩ := kF.cells4
          clear kF kN hxF
          go_wp2_with fail
          refine bodyPost_ret (v := .agg #[.string ⟨t1.text.toArray⟩, .int .i64 0, .string ⟨x.name.toArray⟩, .slice (some ⟨w10.heap.size, 0, none⟩) 1 1]) (by simp [results, Tryz.results41, go_sem, e0, e1, e2, e3]) rfl ?_
          exact HF.out
    · have HO1 := hid (whole_same (s := s.data.toList) HOUT.out hset)
      have HF := hid (PPost.good HO1.out (put4_grown (b := w.heap.size) (.string ⟨x.op.toArray⟩) (.int .i64 x.num) (.string ⟨x.name.toArray⟩) (.slice A x.kids.len cap) HG7.out (Nat.le_refl _)) rfl ((put4_rd _ _ _ _ HXX.out (fun b hb => by omega)).low (fun b hb => by omega)) (put4_pin _ _ _ _ HPP.out (by omega)) (by omega) hm2 hm3)
      obtain ⟨q0, q1, q2, q3⟩ := HKX.out.cells4
      obtain ⟨r0, r1, r2, r3⟩ := HK0.out.cells4
      obtain ⟨g0, g1, g2, g3⟩ := HK0.out.free4
      by_cases hz : t1.kd = 0
      · have HSF : Hid (setF t1.text = false) := hid (by cases h : setF t1.text; rfl; exact (hset ⟨hz, h⟩).elim)
        rw [hz, show kindS 0 = [] from rfl] at c4
        clear hset hkp
        go_wp2_with fail
        ((with_reducible refine (isSet_any t1.text _).mono ?_); rintro e w8 ⟨rfl, rfl⟩)
        rw [HSF.out]
        go_wp2_with fail
        refine bodyPost_ret (v := .agg #[.string ⟨x.op.toArray⟩, .int .i64 x.num, .string ⟨x.name.toArray⟩, .slice A x.kids.len cap]) (by simp [results, Tryz.results41, go_sem, r0, r1, r2, r3, g0, g1, g2, g3]) rfl ?_
        exact HF.out
      · have hk0 := kind_ne t1.kd hz
        generalize kindS t1.kd = ks1 at *
        clear hset hkp hz
        go_wp2_with fail
        refine bodyPost_ret (v := .agg #[.string ⟨x.op.toArray⟩, .int .i64 x.num, .string ⟨x.name.toArray⟩, .slice A x.kids.len cap]) (by simp [results, Tryz.results41, go_sem, r0, r1, r2, r3, g0, g1, g2, g3]) rfl ?_
        exact HF.out
end Go.Proofs.YtadmmmehphhecaaGreatDoor
