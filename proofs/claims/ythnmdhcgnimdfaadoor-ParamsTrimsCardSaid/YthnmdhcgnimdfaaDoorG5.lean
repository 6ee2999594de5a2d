/- The walk of globs.Compile without paths, for texts of up to ten thousand bytes. -/
import Derived.Test.YthnmdhcgnimdfaaDoorG4
import Derived.Deep.DeepCutAuto
import Derived.Deep.CutBlock
import Derived.Deep.LoopGhost
set_option linter.unusedVariables false
set_option linter.unusedSimpArgs false
namespace Go.Proofs.YthnmdhcgnimdfaaDoor
open Go.RowKit
attribute [local go_sem ↓] Go.wp_at_zero Go.wp_at_succ
theorem Tryd.info69 : (Tryd.prog.info? 69).map (fun i => (i.zero, i.size, i.bytes)) = some (some (.agg #[.int .i64 0, .int .u8 0, .bool false, .slice none 0 0]), 4, 40) := by kernel_rfl
theorem gl_le (first : Bool) (rs : List Rg) (n : Nat) (t : List Ch) : ∀ {l : List Rg} {k : Nat}, gl first rs n t = some (l, k) → n < k ∧ k ≤ n + t.length := by
  intro l k h
  induction hm : t.length using Nat.strongRecOn generalizing first rs n t with
  | _ m ih =>
    cases t with
    | nil => rw [gl] at h; cases h
    | cons c r =>
      rw [gl] at h
      split at h
      · cases h; simp at hm; omega
      · cases ht : thingB c r with
        | none => rw [ht] at h; cases h
        | some p =>
          obtain ⟨l', k'⟩ := p
          have hle := thing_le ht
          rw [ht] at h
          simp at hm
          have := ih (r.drop (k' - 1)).length (by simp; omega) _ _ _ _ h rfl
          simp at this
          omega
theorem grp_le {t : List Ch} {ng : Bool} {l : List Rg} {k : Nat} (h : grp t = some (ng, l, k)) : 1 ≤ k ∧ k ≤ t.length := by
  unfold grp at h
  split at h
  · rename_i hb
    cases hg : gl true [] 1 (t.drop 1) with
    | none => rw [hg] at h; cases h
    | some p =>
      obtain ⟨l', k'⟩ := p
      have := gl_le _ _ _ _ hg
      rw [hg] at h; cases h
      have h1 := (bareB_iff _ _).1 hb 0 (by decide)
      obtain ⟨hlt, _⟩ := List.getElem?_eq_some_iff.1 h1
      simp at this; omega
  · cases hg : gl true [] 0 t with
    | none => rw [hg] at h; cases h
    | some p =>
      obtain ⟨l', k'⟩ := p
      have := gl_le _ _ _ _ hg
      rw [hg] at h; cases h
      omega
theorem item1_le (c : Ch) (r : List Ch) : 1 ≤ (item1 c r).2 ∧ (item1 c r).2 ≤ r.length + 1 := by
  unfold item1
  split
  · simp
  split
  · simp
  split
  · simp
  split
  · cases r <;> simp
  split
  · cases hg : grp r with
    | none => simp
    | some p =>
      obtain ⟨ng, l, k⟩ := p
      have := grp_le hg
      simp; omega
  · simp
theorem cgo_cons (out : List It) (c : Ch) (r : List Ch) : cgo out (c :: r) = cgo (push out (item1 c r).1) ((c :: r).drop (item1 c r).2) := by
  have := (item1_le c r).1
  obtain ⟨k, hk⟩ : ∃ k, (item1 c r).2 = k + 1 := ⟨(item1 c r).2 - 1, by omega⟩
  rw [cgo, hk]; simp
theorem cgo_nil (out : List It) : cgo out [] = out := by rw [cgo]
theorem item1_q {c : Ch} {r : List Ch} (h : c.2 = true) : item1 c r = (⟨1, c.1, false, []⟩, 1) := by unfold item1; rw [if_pos h]
theorem item1_any {c : Ch} {r : List Ch} (h : c.2 = false) (h1 : c.1 = 63) : item1 c r = (⟨2, 0, false, []⟩, 1) := by unfold item1; rw [if_neg (by simp [h]), if_pos h1]
theorem item1_star {c : Ch} {r : List Ch} (h : c.2 = false) (h1 : c.1 = 42) : item1 c r = (⟨3, 0, false, []⟩, 1) := by unfold item1; rw [if_neg (by simp [h]), if_neg (by rw [h1]; decide), if_pos h1]
theorem item1_esc {c d : Ch} {r : List Ch} (h : c.2 = false) (h1 : c.1 = 92) : item1 c (d :: r) = (⟨1, d.1, false, []⟩, 2) := by unfold item1; rw [if_neg (by simp [h]), if_neg (by rw [h1]; decide), if_neg (by rw [h1]; decide), if_pos h1]
theorem item1_esc0 {c : Ch} (h : c.2 = false) (h1 : c.1 = 92) : item1 c [] = (⟨1, c.1, false, []⟩, 1) := by unfold item1; rw [if_neg (by simp [h]), if_neg (by rw [h1]; decide), if_neg (by rw [h1]; decide), if_pos h1, h1]
theorem item1_grp {c : Ch} {r : List Ch} (h : c.2 = false) (h1 : c.1 = 91) {ng : Bool} {l : List Rg} {k : Nat} (hg : grp r = some (ng, l, k)) : item1 c r = (⟨4, 0, ng, l⟩, k + 1) := by unfold item1; rw [if_neg (by simp [h]), if_neg (by rw [h1]; decide), if_neg (by rw [h1]; decide), if_neg (by rw [h1]; decide), if_pos h1, hg]
theorem item1_grp0 {c : Ch} {r : List Ch} (h : c.2 = false) (h1 : c.1 = 91) (hg : grp r = none) : item1 c r = (⟨1, c.1, false, []⟩, 1) := by unfold item1; rw [if_neg (by simp [h]), if_neg (by rw [h1]; decide), if_neg (by rw [h1]; decide), if_neg (by rw [h1]; decide), if_pos h1, hg, h1]
theorem item1_else {c : Ch} {r : List Ch} (h1 : c.1 ≠ 63) (h2 : c.1 ≠ 42) (h3 : c.1 ≠ 92) (h4 : c.1 ≠ 91) : item1 c r = (⟨1, c.1, false, []⟩, 1) := by
  unfold item1; rw [if_neg h1, if_neg h2, if_neg h3, if_neg h4]; split <;> rfl
theorem u8_yes {c : UInt8} {k : Int} (h : (c.toNat : Int) = k) : ((c.toNat : Int) == k) = true := by simpa using h
theorem u8_no {c d : UInt8} {k : Int} (h : c ≠ d) (hk : (d.toNat : Int) = k) : ((c.toNat : Int) == k) = false := by
  rw [← hk, u8_eq]; simpa using h
/-- how far compiling has come -/
structure CInv (B : Nat) (w : World) (t t' : List Ch) (ps : List (It × Value)) (vt vo : Value) (wr : World) : Prop where
  rd : Rd w vt t'.length (chs t')
  ow : wr.ownsRow B 69 4 vo ps.length (itc ps)
  rs : ∀ p ∈ ps, wr.ownsRow B 121 2 p.2 p.1.rs.length (rgs p.1.rs)
  hc : compile t = cgo (ps.map Prod.fst) t'
  hl : ps.length + t'.length ≤ t.length
  hb : Below B w wr
def ItemAt (B X : Nat) (c : Ch) (r : List Ch) (wr wx : World) (n : Nat) : Prop :=
  ∃ x u, item1 c r = (x, n) ∧ Bk wx X 69 #[.int .i64 x.kind, .int .u8 (x.b.toNat : Int), .bool x.neg, u] ∧ wx.ownsRow B 121 2 u x.rs.length (rgs x.rs) ∧ Below wr.heap.size wr wx ∧ X < wx.heap.size
theorem ItemAt.new {B n : Nat} {c : Ch} {r : List Ch} {wr : World} {kd : Int} {b : UInt8} (hi : item1 c r = (⟨kd, b, false, []⟩, n)) : ItemAt B wr.heap.size c r wr (wr.alloc (.cells #[.int .i64 kd, .int .u8 (b.toNat : Int), .bool false, .slice none 0 0] 69)) n :=
  ⟨_, .slice none 0 0, hi, Bk.new wr 69 _, World.ownsRow_nil _ _ _ _, (Below.refl _ _).alloc (Nat.le_refl _) _, by simp⟩
set_option maxRecDepth 100000 in
set_option maxHeartbeats 4000000 in
theorem compile_any (v : Value) (t : List Ch) (w : World) (h : Rd w v t.length (chs t)) (hl : t.length ≤ 10000) :
    Calls Tryd.prog 22 #[v, .bool false] w fun e w' => ∃ v', e = .returned v' ∧ RdI w' v' (compile t) ∧ (compile t).length ≤ t.length ∧ Below w.heap.size w w' := by
  obtain ⟨i0, hi, hz0, hz1, hz2⟩ := info_parts Tryd.info69
  have hinit : CInv w.heap.size w t t [] v (.slice none 0 0) w := ⟨h, World.ownsRow_nil _ _ _ _, by simp, rfl, by simp, Below.refl _ _⟩
  obtain ⟨A, cap, rfl, hcap, _⟩ := h.open_
  clear h
  go_enter Tryd.func22, Tryd.ntmps22
  go_wp2_with fail
  go_loopg [0, 5] t.length (fun g vt vo wr => ∃ t' ps, g = t'.length ∧ CInv w.heap.size w t t' ps vt vo wr)
  case atStart => exact ⟨t, [], rfl, hinit⟩
  case round =>
    clear hinit hcap
    obtain ⟨t', ps, rfl, hinv⟩ := hrel
    cases t' with
    | nil =>
      obtain ⟨A', cap', rfl, hcap', _⟩ := hinv.rd.open_
      obtain ⟨oa, oc, rfl⟩ := own_slice hinv.ow
      have HF : Hid (RdI wr (.slice oa ps.length oc) (compile t) ∧ (compile t).length ≤ t.length ∧ Below w.heap.size w wr) := hid (by
        have h1 := hinv.hc
        rw [cgo_nil] at h1
        exact ⟨⟨ps, h1.symm, Rd.of_own hinv.ow, fun p hp => Rd.of_own (hinv.rs p hp)⟩, by rw [h1, List.length_map]; have := hinv.hl; omega, hinv.hb⟩)
      clear hinv
      go_wp2
      go_ret
      exact ⟨_, rfl, HF.out⟩
    | cons c r =>
      obtain ⟨b, off, cap', hvt, hcap', hat⟩ := hinv.rd.form (by simp [chs])
      rw [List.length_cons] at hvt hcap'
      subst hvt
      have hatr := (show At w b off (chs (c :: r)) from hat).below hinv.hb
      obtain ⟨c1, c2⟩ := hatr.ch 0 (by simp)
      simp only [Nat.zero_mul, Nat.add_zero, List.getElem_cons_zero] at c1 c2
      obtain ⟨oa, oc, rfl⟩ := own_slice hinv.ow
      have hbw : b < wr.heap.size := World.block_lt_of_cell? wr _ c1
      have HI := hid hinv
      have hpl : ps.length + r.length + 1 ≤ 10000 := by have := hinv.hl; simp at this; omega
      have hsz := hinv.hb.size
      clear hinv hat
      go_upto_block 2 with fail
      go_cut [7] (fun s7 wx => ∃ n : Nat, s7 = .int .i64 n ∧ ItemAt w.heap.size wr.heap.size c r wr wx n)
      case first =>
        cases hq : c.2 with
        | true =>
          have HF := hid (ItemAt.new (B := w.heap.size) (wr := wr) (item1_q (r := r) hq))
          rw [hq] at c2
          clear hq
          go_wp2_with fail
          go_meet
          exact ⟨1, rfl, HF.out⟩
        | false =>
          rw [hq] at c2
          have HQ := hid hq
          clear hq
          by_cases h63 : c.1 = 63
          · have e63 : ((c.1.toNat : Int) == 63) = true := by rw [h63]; rfl
            have HF := hid (ItemAt.new (B := w.heap.size) (wr := wr) (item1_any (r := r) HQ.out h63))
            clear h63
            go_wp2_with fail
            go_meet
            exact ⟨1, rfl, HF.out⟩
          · have e63 : ((c.1.toNat : Int) == 63) = false := u8_no h63 rfl
            by_cases h42 : c.1 = 42
            · have e42 : ((c.1.toNat : Int) == 42) = true := by rw [h42]; rfl
              have HF := hid (ItemAt.new (B := w.heap.size) (wr := wr) (item1_star (r := r) HQ.out h42))
              clear h63 h42
              go_wp2_with fail
              go_meet
              exact ⟨1, rfl, HF.out⟩
            · have e42 : ((c.1.toNat : Int) == 42) = false := u8_no h42 rfl
              by_cases h92 : c.1 = 92
              · have e92 : ((c.1.toNat : Int) == 92) = true := by rw [h92]; rfl
                cases r with
                | nil =>
                  have e91 : ((c.1.toNat : Int) == 91) = false := by rw [h92]; rfl
                  have HF := hid (ItemAt.new (B := w.heap.size) (wr := wr) (item1_esc0 HQ.out h92))
                  clear h63 h42 h92
                  go_wp2_with fail
                  go_meet
                  exact ⟨1, rfl, HF.out⟩
                | cons d r =>
                  have c3 := (hatr.ch 1 (by simp)).1
                  simp only [Nat.one_mul, List.getElem_cons_succ, List.getElem_cons_zero] at c3
                  have HF := hid (ItemAt.new (B := w.heap.size) (wr := wr) (item1_esc (d := d) (r := r) HQ.out h92))
                  have hr0 : decide ((1 : Int) < (r.length : Int) + 1 + 1) = true := by simp; omega
                  clear h63 h42 h92
                  go_wp2_with fail
                  go_meet
                  exact ⟨2, rfl, HF.out⟩
              · have e92 : ((c.1.toNat : Int) == 92) = false := u8_no h92 rfl
                by_cases h91 : c.1 = 91
                · have e91 : ((c.1.toNat : Int) == 91) = true := by rw [h91]; rfl
                  have hcut : ∀ w, (Instr.slice 22 (.slice (some ⟨b, off, none⟩) (r.length + 1) cap') (some (.int .i64 1)) none none).run Tryd.prog w = .ok (.slice (cutA (some ⟨b, off, none⟩) cap' 1 2) r.length (cap' - 1)) w :=
                    run_cut (P := Tryd.prog) 22 55 Tryd.underlying22 2 sz55 _ (r.length + 1) cap' 1 (by simp)
                  have HC : Hid (Rd wr (.slice (cutA (some ⟨b, off, none⟩) cap' 1 2) r.length (cap' - 1)) r.length (chs r)) := hid ((hatr.rd (n := (c :: r).length) hcap').chs_cut 1 (by simp))
                  have HN : Hid (grp r = none → item1 c r = (⟨1, c.1, false, []⟩, 1)) := hid (fun h => item1_grp0 HQ.out h91 h)
                  have HS : Hid (∀ ng l k, grp r = some (ng, l, k) → item1 c r = (⟨4, 0, ng, l⟩, k + 1)) := hid (fun ng l k h => item1_grp HQ.out h91 h)
                  have k0 := Bk.new wr 69 #[.int .i64 1, .int .u8 (c.1.toNat : Int), .bool false, .slice none 0 0]
                  have hb0 := (Below.refl wr.heap.size wr).alloc (Nat.le_refl _) (.cells #[.int .i64 1, .int .u8 (c.1.toNat : Int), .bool false, .slice none 0 0] 69)
                  clear h63 h42 h92 h91
                  go_wp2_with fail
                  ((with_reducible refine (group_any _ r _ (HC.out.alloc _) (by omega)).mono ?_); rintro e w2 ⟨hb2, hgr⟩)
                  have k0 := k0.below hb2 (by simp)
                  have hb0 := hb0.trans (hb2.mono (by simp))
                  have hlt0 := k0.lt
                  rcases hgr with ⟨hnone, rfl⟩ | ⟨ng, l, k, u, hsome, hk0, hk1, rfl, hown⟩
                  · have hIt := HN.out hnone
                    have HF : Hid (ItemAt w.heap.size wr.heap.size c r wr (w2.alloc (.cells #[.int .i64 0, .int .u8 0, .bool false, .slice none 0 0] 69)) 1) := hid
                      ⟨_, .slice none 0 0, hIt, k0.alloc _, World.ownsRow_nil _ _ _ _, hb0.alloc (Nat.le_of_lt hlt0) _, by simp; omega⟩
                    clear hIt hnone k0 hb0 hb2
                    go_wp2_with fail
                    go_meet
                    exact ⟨1, rfl, HF.out⟩
                  · have hIt := HS.out _ _ _ hsome
                    have hkp : decide ((0 : Int) < (k : Int)) = true := by simp; omega
                    obtain ⟨ua, uc, rfl⟩ := own_slice hown
                    obtain ⟨p0, p1, p2, p3⟩ := k0.cells4
                    obtain ⟨f0, f1, f2, f3⟩ := k0.free4
                    have HF : Hid (ItemAt w.heap.size wr.heap.size c r wr (((((w2.setCell ⟨wr.heap.size, 0, none⟩ (.int .i64 4)).setCell ⟨wr.heap.size, 1, none⟩ (.int .u8 0)).setCell ⟨wr.heap.size, 2, none⟩ (.bool ng)).setCell ⟨wr.heap.size, 3, none⟩ (.slice ua l.length uc)).alloc (.cells #[.int .i64 4, .int .u8 0, .bool ng, .slice ua l.length uc] 69)) (k + 1)) := hid
                      ⟨_, .slice ua l.length uc, hIt, ((((k0.set_ 0 _).set_ 1 _).set_ 2 _).set_ 3 _).alloc _,
                        (own_low (ownsRow_setCell_below (ownsRow_setCell_below (ownsRow_setCell_below (ownsRow_setCell_below hown (by simp) _) (by simp) _) (by simp) _) (by simp) _) (by simp; omega)).alloc _,
                        ((((hb0.setCell (by simp) _).setCell (by simp) _).setCell (by simp) _).setCell (by simp) _).alloc (by simp [World.setCell]; omega) _, by simp [World.setCell]; omega⟩
                    clear hIt hsome k0 hb0 hb2 hown
                    go_wp2_with fail
                    go_meet
                    exact ⟨k + 1, by go_num, HF.out⟩
                · have e91 : ((c.1.toNat : Int) == 91) = false := u8_no h91 rfl
                  have HF := hid (ItemAt.new (B := w.heap.size) (wr := wr) (item1_else (r := r) h63 h42 h92 h91))
                  clear h63 h42 h92 h91
                  go_wp2_with fail
                  go_meet
                  exact ⟨1, rfl, HF.out⟩
      case rest =>
        obtain ⟨n, rfl, x, u, hit, kx, hou, hbx, hX⟩ := hcut
        have hn1 := item1_le c r
        rw [hit] at hn1
        obtain ⟨hn1, hn2⟩ := hn1
        dsimp only at hn1 hn2
        have hcut : ∀ w, (Instr.slice 22 (.slice (some ⟨b, off, none⟩) (r.length + 1) cap') (some (.int .i64 (n : Int))) none none).run Tryd.prog w = .ok (.slice (cutA (some ⟨b, off, none⟩) cap' n 2) (r.length + 1 - n) (cap' - n)) w :=
          run_cut (P := Tryd.prog) 22 55 Tryd.underlying22 2 sz55 _ (r.length + 1) cap' n (by omega)
        have hrd0 : Rd w (.slice (some ⟨b, off, none⟩) (c :: r).length cap') (c :: r).length (chs (c :: r)) := HI.out.rd
        have hrd := hrd0.chs_cut n (by simp; omega)
        have hcg := HI.out.hc
        rw [cgo_cons, hit] at hcg
        obtain ⟨p0, p1, p2, p3⟩ := kx.cells4
        obtain ⟨ua, uc, rfl⟩ := own_slice hou
        have how := own_below HI.out.ow hbx
        have hrs : ∀ p ∈ ps, wc.ownsRow w.heap.size 121 2 p.2 p.1.rs.length (rgs p.1.rs) := fun p hp => own_below (HI.out.rs p hp) hbx
        have hbw2 := HI.out.hb.trans (hbx.mono hsz)
        obtain ⟨kd, xb, xn, xr⟩ := x
        dsimp only at p0 p1 p2 p3 hou how hrs kx hcg hit
        by_cases hk3 : kd = 3
        · subst hk3
          rcases List.eq_nil_or_concat ps with hps | ⟨qs, p, hps⟩
          · have hpush : push (ps.map Prod.fst) ⟨3, xb, xn, xr⟩ = ps.map Prod.fst ++ [⟨3, xb, xn, xr⟩] := by rw [hps]; simp [push]
            have h0 : ps.length = 0 := by rw [hps]; rfl
            have h0d : decide (0 < ps.length) = false := by simp; omega
            clear h0 hps
            have hlt1 : ps.length ≤ 10000 := by omega
            go_wp2_with (at_builtin; refine wpList_append_lies _ rfl _ _ 48 rfl w.heap.size 69 i0 _ 4 40 Tryd.underlying48 hi hz0 hz1 hz2 rfl (by decide) (.slice oa ps.length oc) ps.length (itc ps) rfl (how.alloc _) ⟨wc.heap.size, 0, none⟩ 1 1 [.int .i64 3, .int .u8 (xb.toNat : Int), .bool xn, .slice ua xr.length uc] rfl rfl (World.news_of_block (cs := #[.int .i64 3, .int .u8 (xb.toNat : Int), .bool xn, .slice ua xr.length uc]) (t := 69) (fr := (0, 0)) (heap_alloc_new wc _)) (by simp [Value.oneCell']) (by omega) (by unfold maxLen; omega) (by omega) (by simp; omega) (wc.heap.size + 1) (by simp) ?_)
            intro g capn w3 hown3 hgrow hat3 hlt3
            have HF : Hid (CInv w.heap.size w t ((c :: r).drop n) (ps ++ [(⟨3, xb, xn, xr⟩, .slice ua xr.length uc)]) (.slice (cutA (some ⟨b, off, none⟩) cap' n 2) (r.length + 1 - n) (cap' - n)) (.slice (some ⟨g, 0, none⟩) (ps.length + 1) capn) w3) := hid {
              rd := hrd
              ow := by rw [itc_append, List.length_append]; exact hown3
              rs := fun p hp => by
                rcases List.mem_append.1 hp with hp | hp
                · exact ((hrs p hp).alloc _).kept hgrow (own_ne (hrs p hp) how (by decide))
                · rw [List.mem_singleton] at hp; subst hp
                  exact (hou.alloc _).kept hgrow (own_ne hou how (by decide))
              hc := by rw [List.map_append]; exact hpush.symm ▸ hcg
              hl := by have := HI.out.hl; simp at this ⊢; omega
              hb := (hbw2.alloc hbw2.size _).grown hgrow (by simp; have := hbw2.size; omega) (fun k e => (how.lt k e).1) }
            clear hown3 hgrow hat3 hlt3 hrd hrd0 hrs how hou hbx kx hcg hpush HI
            go_wp2_with fail
            go_roundg ((c :: r).drop n).length
            case measure => simp; omega
            case rel => exact ⟨_, _, rfl, HF.out⟩
          · rw [List.concat_eq_append] at hps
            have h0 : ps.length = qs.length + 1 := by rw [hps]; simp
            have h0d : decide (0 < ps.length) = true := by simp; omega
            obtain ⟨gg, capg, hv, _, _⟩ := how.form (by omega)
            have hoa : oa = some ⟨gg, 0, none⟩ := by injection hv
            subst hoa
            have hcl : wc.cell? ⟨gg, qs.length * 4, none⟩ = some (.int .i64 p.1.kind) := by
              have h1 := At.of_own (how)
              have h2 := (itc_at ps qs.length (by omega)).1
              have h3 : ps[qs.length]'(by omega) = p := by simp [hps]
              rw [h3] at h2
              have := h1 _ _ h2
              rwa [Nat.zero_add] at this
            have hsub : ((ps.length : Int) - 1) = (qs.length : Int) := by omega
            have hi0 : (0 : Int) ≤ (qs.length : Int) := Int.natCast_nonneg _
            have hi1 : (qs.length : Int) < (ps.length : Int) := by omega
            by_cases hp3 : p.1.kind = 3
            · have hpush : push (ps.map Prod.fst) ⟨3, xb, xn, xr⟩ = ps.map Prod.fst := by unfold push; rw [if_pos ⟨rfl, by rw [hps]; simp [isStar, hp3]⟩]
              rw [hp3] at hcl
              have HF : Hid (CInv w.heap.size w t ((c :: r).drop n) ps (.slice (cutA (some ⟨b, off, none⟩) cap' n 2) (r.length + 1 - n) (cap' - n)) (.slice (some ⟨gg, 0, none⟩) ps.length oc) wc) := hid {
                rd := hrd
                ow := how
                rs := hrs
                hc := hpush ▸ hcg
                hl := by have := HI.out.hl; simp at this ⊢; omega
                hb := hbw2 }
              clear hrd hrd0 hrs how hou hbx kx hcg hpush HI hps hp3 h0
              go_wp2_with fail
              go_roundg ((c :: r).drop n).length
              case measure => simp; omega
              case rel => exact ⟨_, _, rfl, HF.out⟩
            · have hpush : push (ps.map Prod.fst) ⟨3, xb, xn, xr⟩ = ps.map Prod.fst ++ [⟨3, xb, xn, xr⟩] := by unfold push; rw [if_neg (by rintro ⟨_, h⟩; rw [hps] at h; simp [isStar, hp3] at h)]
              have hp3' : (p.1.kind == 3) = false := by simpa using hp3
              clear hps hp3 h0
              have hlt1 : ps.length ≤ 10000 := by omega
              go_wp2_with (at_builtin; refine wpList_append_lies _ rfl _ _ 48 rfl w.heap.size 69 i0 _ 4 40 Tryd.underlying48 hi hz0 hz1 hz2 rfl (by decide) (.slice (some ⟨gg, 0, none⟩) ps.length oc) ps.length (itc ps) rfl (how.alloc _) ⟨wc.heap.size, 0, none⟩ 1 1 [.int .i64 3, .int .u8 (xb.toNat : Int), .bool xn, .slice ua xr.length uc] rfl rfl (World.news_of_block (cs := #[.int .i64 3, .int .u8 (xb.toNat : Int), .bool xn, .slice ua xr.length uc]) (t := 69) (fr := (0, 0)) (heap_alloc_new wc _)) (by simp [Value.oneCell']) (by omega) (by unfold maxLen; omega) (by omega) (by simp; omega) (wc.heap.size + 1) (by simp) ?_)
              intro g capn w3 hown3 hgrow hat3 hlt3
              have HF : Hid (CInv w.heap.size w t ((c :: r).drop n) (ps ++ [(⟨3, xb, xn, xr⟩, .slice ua xr.length uc)]) (.slice (cutA (some ⟨b, off, none⟩) cap' n 2) (r.length + 1 - n) (cap' - n)) (.slice (some ⟨g, 0, none⟩) (ps.length + 1) capn) w3) := hid {
                rd := hrd
                ow := by rw [itc_append, List.length_append]; exact hown3
                rs := fun p hp => by
                  rcases List.mem_append.1 hp with hp | hp
                  · exact ((hrs p hp).alloc _).kept hgrow (own_ne (hrs p hp) how (by decide))
                  · rw [List.mem_singleton] at hp; subst hp
                    exact (hou.alloc _).kept hgrow (own_ne hou how (by decide))
                hc := by rw [List.map_append]; exact hpush.symm ▸ hcg
                hl := by have := HI.out.hl; simp at this ⊢; omega
                hb := (hbw2.alloc hbw2.size _).grown hgrow (by simp; have := hbw2.size; omega) (fun k e => (how.lt k e).1) }
              clear hown3 hgrow hat3 hlt3 hrd hrd0 hrs how hou hbx kx hcg hpush HI
              go_wp2_with fail
              go_roundg ((c :: r).drop n).length
              case measure => simp; omega
              case rel => exact ⟨_, _, rfl, HF.out⟩
        · have e3 : (kd == 3) = false := by simpa using hk3
          have hpush : push (ps.map Prod.fst) ⟨kd, xb, xn, xr⟩ = ps.map Prod.fst ++ [⟨kd, xb, xn, xr⟩] := by unfold push; rw [if_neg (by simp [isStar, e3])]
          have hlt1 : ps.length ≤ 10000 := by omega
          go_wp2_with (at_builtin; refine wpList_append_lies _ rfl _ _ 48 rfl w.heap.size 69 i0 _ 4 40 Tryd.underlying48 hi hz0 hz1 hz2 rfl (by decide) (.slice oa ps.length oc) ps.length (itc ps) rfl (how.alloc _) ⟨wc.heap.size, 0, none⟩ 1 1 [.int .i64 kd, .int .u8 (xb.toNat : Int), .bool xn, .slice ua xr.length uc] rfl rfl (World.news_of_block (cs := #[.int .i64 kd, .int .u8 (xb.toNat : Int), .bool xn, .slice ua xr.length uc]) (t := 69) (fr := (0, 0)) (heap_alloc_new wc _)) (by simp [Value.oneCell']) (by omega) (by unfold maxLen; omega) (by omega) (by simp; omega) (wc.heap.size + 1) (by simp) ?_)
          intro g capn w3 hown3 hgrow hat3 hlt3
          have HF : Hid (CInv w.heap.size w t ((c :: r).drop n) (ps ++ [(⟨kd, xb, xn, xr⟩, .slice ua xr.length uc)]) (.slice (cutA (some ⟨b, off, none⟩) cap' n 2) (r.length + 1 - n) (cap' - n)) (.slice (some ⟨g, 0, none⟩) (ps.length + 1) capn) w3) := hid {
            rd := hrd
            ow := by rw [itc_append, List.length_append]; exact hown3
            rs := fun p hp => by
              rcases List.mem_append.1 hp with hp | hp
              · exact ((hrs p hp).alloc _).kept hgrow (own_ne (hrs p hp) how (by decide))
              · rw [List.mem_singleton] at hp; subst hp
                exact (hou.alloc _).kept hgrow (own_ne hou how (by decide))
            hc := by rw [List.map_append]; exact hpush.symm ▸ hcg
            hl := by have := HI.out.hl; simp at this ⊢; omega
            hb := (hbw2.alloc hbw2.size _).grown hgrow (by simp; have := hbw2.size; omega) (fun k e => (how.lt k e).1) }
          clear hown3 hgrow hat3 hlt3 hrd hrd0 hrs how hou hbx kx hcg hpush HI
          go_wp2_with fail
          go_roundg ((c :: r).drop n).length
          case measure => simp; omega
          case rel => exact ⟨_, _, rfl, HF.out⟩
end Go.Proofs.YthnmdhcgnimdfaaDoor
