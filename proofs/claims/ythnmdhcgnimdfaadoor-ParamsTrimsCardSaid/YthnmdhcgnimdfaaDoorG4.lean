/- The walk of globs.group, for texts of up to a hundred thousand bytes. -/
import Derived.Test.YthnmdhcgnimdfaaDoorG3
set_option linter.unusedVariables false
set_option linter.unusedSimpArgs false
namespace Go.Proofs.YthnmdhcgnimdfaaDoor
open Go.RowKit
attribute [local go_sem ↓] Go.wp_at_zero Go.wp_at_succ
theorem Tryd.info121 : (Tryd.prog.info? 121).map (fun i => (i.zero, i.size, i.bytes)) = some (some (.agg #[.int .u8 0, .int .u8 0]), 2, 2) := by kernel_rfl
theorem class_few (nm : List UInt8) : (classL nm).length ≤ 4 := by
  have ite_len : ∀ (p : Prop) [Decidable p] (a b : List Rg), a.length ≤ 4 → b.length ≤ 4 → (if p then a else b).length ≤ 4 := fun p _ a b ha hb => by split <;> assumption
  unfold classL
  repeat (apply ite_len; (· simp))
  simp
theorem named_le {t : List Ch} {nm : List UInt8} {n : Nat} (h : namedB t = some (nm, n)) : 1 ≤ n ∧ n ≤ t.length := by
  unfold namedB at h
  split at h
  · split at h
    · cases h
    · split at h
      · rename_i hb
        injection h with h; injection h with _ h
        have := (bareB_iff _ _).1 hb 1 (by decide)
        obtain ⟨hlt, _⟩ := List.getElem?_eq_some_iff.1 this
        simp at hlt; omega
      · cases h
  · cases h
theorem thing_le {c : Ch} {r : List Ch} {l : List Rg} {k : Nat} (h : thingB c r = some (l, k)) : 1 ≤ k ∧ k ≤ r.length + 1 ∧ l.length ≤ 4 := by
  have hr : ∀ a b : UInt8, (rangeL a b).length ≤ 4 := fun a b => by unfold rangeL; split <;> simp
  cases hn : namedB (c :: r) with
  | none =>
    rcases thing_cases c r hn with ⟨_, h'⟩ | ⟨e, _, h2, _, _, h'⟩
    · rw [h'] at h; cases h; exact ⟨by omega, by omega, hr _ _⟩
    · rw [h'] at h; cases h; exact ⟨by omega, by omega, hr _ _⟩
  | some p =>
    obtain ⟨nm, n⟩ := p
    have := named_le hn
    simp only [thingB, hn] at h
    split at h
    · cases h
    · cases h; exact ⟨this.1, this.2, class_few nm⟩
theorem gl_end (first : Bool) (rs : List Rg) (n : Nat) : gl first rs n [] = none := by rw [gl]
theorem gl_close (rs : List Rg) (n : Nat) (c : Ch) (r : List Ch) (h : bareB (c :: r) [93] = true) : gl false rs n (c :: r) = some (rs, n + 1) := by
  rw [bareB_one] at h; simp at h; rw [gl, if_pos ⟨rfl, h⟩]
theorem gl_none (first : Bool) (rs : List Rg) (n : Nat) (c : Ch) (r : List Ch) (h : first = false → bareB (c :: r) [93] = false) (ht : thingB c r = none) : gl first rs n (c :: r) = none := by
  rw [gl, if_neg ?_, ht]
  rintro ⟨h1, h2⟩
  have := h h1
  rw [bareB_one, h2] at this; simp at this
theorem gl_some (first : Bool) (rs : List Rg) (n : Nat) (c : Ch) (r : List Ch) (h : first = false → bareB (c :: r) [93] = false) {l : List Rg} {k : Nat} (ht : thingB c r = some (l, k)) :
    gl first rs n (c :: r) = gl false (rs ++ l) (n + k) ((c :: r).drop k) := by
  have hk := (thing_le ht).1
  obtain ⟨k, rfl⟩ : ∃ k', k = k' + 1 := ⟨k - 1, by omega⟩
  rw [gl, if_neg ?_, ht]
  · simp
  rintro ⟨h1, h2⟩
  have := h h1
  rw [bareB_one, h2] at this; simp at this
theorem own_low {w : World} {b b' e size n : Nat} {v : Value} {xs : List Value} (h : w.ownsRow b e size v n xs) (hb : b' ≤ b) : w.ownsRow b' e size v n xs :=
  ⟨h.1, h.2.imp id fun ⟨g, cap, cur, e1, e2, r⟩ => ⟨g, cap, cur, e1, by omega, r⟩⟩
def GroupPost (t : List Ch) (w : World) (e : Ending) (w' : World) : Prop :=
  Below w.heap.size w w' ∧ ((grp t = none ∧ e = .returned (.tuple #[.agg #[.int .i64 0, .int .u8 0, .bool false, .slice none 0 0], .int .i64 0])) ∨
   ∃ ng l k u, grp t = some (ng, l, k) ∧ 0 < k ∧ k ≤ 1000000 ∧ e = .returned (.tuple #[.agg #[.int .i64 4, .int .u8 0, .bool ng, u], .int .i64 (k : Nat)]) ∧ w'.ownsRow w.heap.size 121 2 u l.length (rgs l))
def ngN (ng : Bool) : Nat := if ng then 1 else 0
theorem grp_eq (t : List Ch) : grp t = (gl true [] (ngN (bareB t [33])) (t.drop (ngN (bareB t [33])))).map fun x => (bareB t [33], x.1, x.2) := by
  cases h : bareB t [33] <;> simp [grp, h, ngN]
set_option maxRecDepth 100000 in
set_option maxHeartbeats 3000000 in
theorem group_any (v : Value) (t : List Ch) (w : World) (h : Rd w v t.length (chs t)) (hl : t.length ≤ 100000) :
    Calls Tryd.prog 35 #[v, .bool false] w (GroupPost t w) := by
  have HR := hid h
  obtain ⟨A, cap, rfl, hcap, _⟩ := h.open_
  clear h
  obtain ⟨i0, hi, hz0, hz1, hz2⟩ := info_parts Tryd.info121
  have HG := hid (grp_eq t)
  generalize hng : bareB t [33] = ng at *
  have HNG := hid hng
  clear hng
  have kB := Bk.new w 69 #[.int .i64 0, .int .u8 0, .bool false, .slice none 0 0]
  go_enter Tryd.func35, Tryd.ntmps35
  go_wp2_with fail
  ((with_reducible refine (bare_any _ t ⟨#[33]⟩ _ ((HR.out.alloc _).alloc _) (by omega) (by decide)).mono ?_); rintro e w1 ⟨rfl, hb1⟩)
  rw [HNG.out]
  have k0 : Bk w1 w.heap.size 69 #[.int .i64 0, .int .u8 0, .bool false, .slice none 0 0] := (kB.alloc _).below hb1 (by simp; omega)
  have k1 : Bk w1 (w.heap.size + 1) 69 #[.int .i64 4, .int .u8 0, .bool false, .slice none 0 0] := by
    have := Bk.new (w.alloc (.cells #[.int .i64 0, .int .u8 0, .bool false, .slice none 0 0] 69)) 69 #[.int .i64 4, .int .u8 0, .bool false, .slice none 0 0]
    have e : (w.alloc (.cells #[.int .i64 0, .int .u8 0, .bool false, .slice none 0 0] 69)).heap.size = w.heap.size + 1 := by simp
    rw [e] at this
    exact this.below hb1 (by simp)
  have hbB : Below w.heap.size w w1 := (((Below.refl w.heap.size w).alloc (Nat.le_refl _) _).alloc (by simp) _).trans (hb1.mono (by simp; omega))
  have hsz1 : w.heap.size + 2 ≤ w1.heap.size := by have := hb1.size; simpa using this
  clear hb1 kB
  obtain ⟨bv, hbv⟩ : ∃ bv : Bool, bv = ng := ⟨_, rfl⟩
  obtain ⟨ws, n0, hws, hn0, k0', k1', hbB', hsz'⟩ : ∃ (ws : World) (n0 : Nat), ws = (if ng then w1.setCell ⟨w.heap.size + 1, 2, none⟩ (.bool true) else w1) ∧ n0 = ngN ng ∧
      Bk ws w.heap.size 69 #[.int .i64 0, .int .u8 0, .bool false, .slice none 0 0] ∧ Bk ws (w.heap.size + 1) 69 #[.int .i64 4, .int .u8 0, .bool bv, .slice none 0 0] ∧ Below w.heap.size w ws ∧ w.heap.size + 2 ≤ ws.heap.size := by
    subst hbv
    cases bv
    · exact ⟨_, _, rfl, rfl, k0, k1, hbB, hsz1⟩
    · exact ⟨_, _, rfl, rfl, k0.far (by simp) _, k1.set_ 2 _, hbB.setCell (by simp) _, by simpa [World.setCell] using hsz1⟩
  have c12 := k1.cell 2 _ rfl
  have f12 := k1.free 2
  have hn01 : n0 ≤ 1 := by rw [hn0]; unfold ngN; split <;> omega
  have HG' : Hid (grp t = (gl true [] n0 (t.drop n0)).map fun x => (bv, x.1, x.2)) := hid (by rw [hn0, hbv]; exact HG.out)
  have HR' := hid (HR.out)
  have hng : n0 = 0 ∧ ng = false ∨ n0 = 1 ∧ ng = true := by rw [hn0]; cases ng <;> simp [ngN]
  clear k0 k1 hbB hsz1 HG hbv hn0
  rcases hng with ⟨h0, rfl⟩ | ⟨h0, rfl⟩
  all_goals
    simp only [if_true, if_false, Bool.false_eq_true, reduceIte] at hws
    subst hws
    go_wp2_with fail
    go_loopw [7, 8] (fun i f wr => ∃ (n : Nat) (first : Bool) (rs : List Rg) (u : Value), n ≤ t.length + 1 ∧ i = .int .i64 n ∧ f = .bool first ∧ Hid (grp t = (gl first rs n (t.drop n)).map fun x => (bv, x.1, x.2)) ∧
      Bk wr w.heap.size 69 #[.int .i64 0, .int .u8 0, .bool false, .slice none 0 0] ∧ Bk wr (w.heap.size + 1) 69 #[.int .i64 4, .int .u8 0, .bool bv, u] ∧ wr.ownsRow (w.heap.size + 2) 121 2 u rs.length (rgs rs) ∧ rs.length ≤ 4 * n ∧ Below w.heap.size w wr ∧ w.heap.size + 2 ≤ wr.heap.size) (fun i _ _ => t.length + 1 - (intOf i).toNat)
    case atStart =>
      exact ⟨n0, true, [], .slice none 0 0, by omega, by rw [h0]; rfl, rfl, HG', k0', k1', World.ownsRow_nil _ _ _ _, by simp, hbB', hsz'⟩
    case round =>
      clear k0' k1' hbB' hsz' c12 f12 h0 HG'
      obtain ⟨n, first, rs, u, hn, rfl, rfl, HK, k0, k1, hown, hrs, hb, hsz⟩ := hrel
      obtain ⟨ua, uc, rfl⟩ := own_slice hown
      obtain ⟨q0, q1, q2, q3⟩ := k0.cells4
      obtain ⟨p0, p1, p2, p3⟩ := k1.cells4
      obtain ⟨g0, g1, g2, g3⟩ := k0.free4
      obtain ⟨f0, f1, f2, f3⟩ := k1.free4
      by_cases hlt : n < t.length
      · obtain ⟨c, r, hcr⟩ : ∃ c r, t.drop n = c :: r := by
          cases h : t.drop n with
          | nil => have := congrArg List.length h; simp at this; omega
          | cons c r => exact ⟨c, r, rfl⟩
        have hrl : r.length + 1 = t.length - n := by have := congrArg List.length hcr; simp at this; omega
        have hcut := run_cut (P := Tryd.prog) 22 55 Tryd.underlying22 2 sz55 A t.length cap n (by omega)
        rw [← hrl] at hcut
        have HC : Hid (Rd wr (.slice (cutA A cap n 2) (r.length + 1) (cap - n)) (r.length + 1) (chs (c :: r))) := hid (by
          have := ((HR'.out).below hb).chs_cut n (by omega)
          rw [hcr] at this
          rw [hrl]
          have e : (c :: r).length = t.length - n := by rw [← hrl]; rfl
          rw [e] at this; exact this)
        have HCR := hid hcr
        have hrl2 : r.length ≤ 100000 := by omega
        have HRL := hid hrl
        clear hcr hrl
        by_cases hcl : first = false ∧ bareB (c :: r) [93] = true
        · obtain ⟨rfl, hcl⟩ := hcl
          have HCL := hid hcl
          have hg := gl_close rs n c r hcl
          rw [← HCR.out] at hg
          have hfin := HK.out
          rw [hg] at hfin
          have HF := hid hfin
          clear hcl hg hfin HK q0 q1 q2 q3 p0 p1 p2 p3 g0 g1 g2 g3 f0 f1 f2 f3
          go_wp2_with fail
          ((with_reducible refine (bare_any _ (c :: r) ⟨#[93]⟩ _ HC.out (by simp; omega) (by decide)).mono ?_); rintro e w2 ⟨rfl, hb2⟩)
          rw [HCL.out]
          have k0 := k0.below hb2 (by omega)
          have k1 := k1.below hb2 (by omega)
          have hown := own_below hown hb2
          have hb := hb.trans (hb2.mono hb.size)
          obtain ⟨q0, q1, q2, q3⟩ := k0.cells4
          obtain ⟨p0, p1, p2, p3⟩ := k1.cells4
          obtain ⟨g0, g1, g2, g3⟩ := k0.free4
          clear k0 k1 hb2
          have how2 : ((((w2.setCell ⟨w.heap.size, 0, none⟩ (.int .i64 4)).setCell ⟨w.heap.size, 1, none⟩ (.int .u8 0)).setCell ⟨w.heap.size, 2, none⟩ (.bool bv)).setCell ⟨w.heap.size, 3, none⟩ (.slice ua rs.length uc)).ownsRow w.heap.size 121 2 (.slice ua rs.length uc) rs.length (rgs rs) :=
            own_low (ownsRow_setCell_below (ownsRow_setCell_below (ownsRow_setCell_below (ownsRow_setCell_below hown (by simp) _) (by simp) _) (by simp) _) (by simp) _) (by omega)
          have hbF := (((hb.setCell (p := ⟨w.heap.size, 0, none⟩) (by simp) (.int .i64 4)).setCell (p := ⟨w.heap.size, 1, none⟩) (by simp) (.int .u8 0)).setCell (p := ⟨w.heap.size, 2, none⟩) (by simp) (.bool bv)).setCell (p := ⟨w.heap.size, 3, none⟩) (by simp) (.slice ua rs.length uc)
          clear hown hb
          go_wp2_with fail
          refine bodyPost_ret (v := .tuple #[.agg #[.int .i64 4, .int .u8 0, .bool bv, .slice ua rs.length uc], .int .i64 ((n : Int) + 1)]) (by simp [results, Tryd.results35, go_sem, q0, q1, q2, q3, g0, g1, g2, g3]) rfl ?_
          exact ⟨hbF, .inr ⟨_, _, n + 1, _, HF.out, by omega, by omega, by simp, how2⟩⟩
        · have hno : Hid (first = false → bareB (c :: r) [93] = false) := hid (fun h => by
            cases hb : bareB (c :: r) [93]
            · rfl
            · exact (hcl ⟨h, hb⟩).elim)
          have HNN : Hid (thingB c r = none → gl first rs n (c :: r) = none) := hid (fun ht => gl_none first rs n c r hno.out ht)
          have HNS : Hid (∀ l k, thingB c r = some (l, k) → gl first rs n (c :: r) = gl false (rs ++ l) (n + k) ((c :: r).drop k)) := hid (fun l k ht => gl_some first rs n c r hno.out ht)
          have HNB : Hid (first = true ∨ bareB (c :: r) [93] = false) := hid (by cases first; exact .inr (hno.out rfl); exact .inl rfl)
          clear hcl hno q0 q1 q2 q3 p0 p1 p2 p3 g0 g1 g2 g3 f0 f1 f2 f3
          cases first
          · go_wp2_with fail
            ((with_reducible refine (bare_any _ (c :: r) ⟨#[93]⟩ _ HC.out (by simp; omega) (by decide)).mono ?_); rintro e w4 ⟨rfl, hb4⟩)
            rw [HNB.out.resolve_left (by decide)]
            have k0 := k0.below hb4 (by omega)
            have k1 := k1.below hb4 (by omega)
            have hown := own_below hown hb4
            have hsz := Nat.le_trans hsz hb4.size
            have hb := hb.trans (hb4.mono hb.size)
            have HC := hid (HC.out.below hb4)
            clear hb4
            go_wp2_with fail
            ((with_reducible refine (thing_any _ c r _ HC.out (by omega)).mono ?_); rintro e w2 ⟨hb2, hth⟩)
            have k0 := k0.below hb2 (by omega)
            have k1 := k1.below hb2 (by omega)
            have hown := own_below hown hb2
            have hsz := Nat.le_trans hsz hb2.size
            have hb := hb.trans (hb2.mono hb.size)
            clear hb2
            rcases hth with ⟨hnone, rfl⟩ | ⟨l, k, u, hsome, rfl, hrd⟩
            · have hg := HNN.out hnone
              rw [← HCR.out] at hg
              have hfin := HK.out
              rw [hg] at hfin
              have HF := hid hfin
              obtain ⟨q0, q1, q2, q3⟩ := k0.cells4
              obtain ⟨g0, g1, g2, g3⟩ := k0.free4
              have hbF := (((hb.setCell (p := ⟨w.heap.size, 0, none⟩) (by simp) (.int .i64 0)).setCell (p := ⟨w.heap.size, 1, none⟩) (by simp) (.int .u8 0)).setCell (p := ⟨w.heap.size, 2, none⟩) (by simp) (.bool false)).setCell (p := ⟨w.heap.size, 3, none⟩) (by simp) (.slice none 0 0)
              clear hnone hg hfin HK k0 k1 hown hb
              go_wp2_with fail
              refine bodyPost_ret (v := .tuple #[.agg #[.int .i64 0, .int .u8 0, .bool false, .slice none 0 0], .int .i64 0]) (by simp [results, Tryd.results35, go_sem, q0, q1, q2, q3, g0, g1, g2, g3]) rfl ?_
              exact ⟨hbF, .inl ⟨HF.out, rfl⟩⟩
            · have hle := thing_le hsome
              have hg := HNS.out _ _ hsome
              rw [← HCR.out, List.drop_drop] at hg
              have hfin := HK.out
              rw [hg] at hfin
              have HF := hid hfin
              have hkn : ((k : Int) == 0) = false := by simp; omega
              obtain ⟨hk1, hk2, hl4⟩ := hle
              obtain ⟨p0, p1, p2, p3⟩ := k1.cells4
              obtain ⟨f0, f1, f2, f3⟩ := k1.free4
              have HRL2 := HRL.out
              clear hg hfin HK hsome
              go_wp2_with (at_builtin; refine wpList_append_rd _ rfl _ _ 67 rfl (w.heap.size + 2) 121 i0 _ 2 2 Tryd.underlying67 hi hz0 hz1 hz2 rfl (by decide) _ rs.length (rgs rs) rfl hown u l.length (rgs l) rfl hrd (rgs_len _) (rgs_one _) (by unfold maxLen; omega) (by omega) (by omega) ?_)
              intro v' w3 hown3 hgrow hat
              have k0 := k0.grown hgrow (own_bk_ne hown k0 (by decide))
              have k1 := k1.grown hgrow (own_bk_ne hown k1 (by decide))
              have hbF := (hb.grown hgrow hb.size (fun j hj => by have := (hown.lt j hj).1; omega)).setCell (p := ⟨w.heap.size + 1, 3, none⟩) (by simp) v'
              have hszF := Nat.le_trans hsz hgrow.size
              obtain ⟨va, vc, rfl⟩ := own_slice hown3
              have k0F := k0.far (p := ⟨w.heap.size + 1, 3, none⟩) (by simp) (.slice va (rs.length + l.length) vc)
              have k1F : Bk (w3.setCell ⟨w.heap.size + 1, 3, none⟩ (.slice va (rs.length + l.length) vc)) (w.heap.size + 1) 69 #[.int .i64 4, .int .u8 0, .bool bv, .slice va (rs.length + l.length) vc] := k1.set_ 3 _
              have hownF : (w3.setCell ⟨w.heap.size + 1, 3, none⟩ (.slice va (rs.length + l.length) vc)).ownsRow (w.heap.size + 2) 121 2 (.slice va (rs.length + l.length) vc) (rs ++ l).length (rgs (rs ++ l)) := by
                rw [rgs_append, List.length_append]; exact ownsRow_setCell_below hown3 (by simp) _
              obtain ⟨q0, q1, q2, q3⟩ := k0.cells4
              obtain ⟨p0, p1, p2, p3⟩ := k1.cells4
              obtain ⟨f0, f1, f2, f3⟩ := k1.free4
              clear hgrow hat hown hown3 hb k0 k1 hrd
              go_wp2_with fail
              go_roundw
              case rel => exact ⟨n + k, false, rs ++ l, .slice va (rs.length + l.length) vc, by omega, by go_num, rfl, HF, k0F, k1F, hownF, by rw [List.length_append]; omega, hbF, by simpa [World.setCell] using hszF⟩
              case measure => simp [intOf]; omega
          · go_wp2_with fail
            ((with_reducible refine (thing_any _ c r _ HC.out (by omega)).mono ?_); rintro e w2 ⟨hb2, hth⟩)
            have k0 := k0.below hb2 (by omega)
            have k1 := k1.below hb2 (by omega)
            have hown := own_below hown hb2
            have hsz := Nat.le_trans hsz hb2.size
            have hb := hb.trans (hb2.mono hb.size)
            clear hb2
            rcases hth with ⟨hnone, rfl⟩ | ⟨l, k, u, hsome, rfl, hrd⟩
            · have hg := HNN.out hnone
              rw [← HCR.out] at hg
              have hfin := HK.out
              rw [hg] at hfin
              have HF := hid hfin
              obtain ⟨q0, q1, q2, q3⟩ := k0.cells4
              obtain ⟨g0, g1, g2, g3⟩ := k0.free4
              have hbF := (((hb.setCell (p := ⟨w.heap.size, 0, none⟩) (by simp) (.int .i64 0)).setCell (p := ⟨w.heap.size, 1, none⟩) (by simp) (.int .u8 0)).setCell (p := ⟨w.heap.size, 2, none⟩) (by simp) (.bool false)).setCell (p := ⟨w.heap.size, 3, none⟩) (by simp) (.slice none 0 0)
              clear hnone hg hfin HK k0 k1 hown hb
              go_wp2_with fail
              refine bodyPost_ret (v := .tuple #[.agg #[.int .i64 0, .int .u8 0, .bool false, .slice none 0 0], .int .i64 0]) (by simp [results, Tryd.results35, go_sem, q0, q1, q2, q3, g0, g1, g2, g3]) rfl ?_
              exact ⟨hbF, .inl ⟨HF.out, rfl⟩⟩
            · have hle := thing_le hsome
              have hg := HNS.out _ _ hsome
              rw [← HCR.out, List.drop_drop] at hg
              have hfin := HK.out
              rw [hg] at hfin
              have HF := hid hfin
              have hkn : ((k : Int) == 0) = false := by simp; omega
              obtain ⟨hk1, hk2, hl4⟩ := hle
              obtain ⟨p0, p1, p2, p3⟩ := k1.cells4
              obtain ⟨f0, f1, f2, f3⟩ := k1.free4
              have HRL2 := HRL.out
              clear hg hfin HK hsome
              go_wp2_with (at_builtin; refine wpList_append_rd _ rfl _ _ 67 rfl (w.heap.size + 2) 121 i0 _ 2 2 Tryd.underlying67 hi hz0 hz1 hz2 rfl (by decide) _ rs.length (rgs rs) rfl hown u l.length (rgs l) rfl hrd (rgs_len _) (rgs_one _) (by unfold maxLen; omega) (by omega) (by omega) ?_)
              intro v' w3 hown3 hgrow hat
              have k0 := k0.grown hgrow (own_bk_ne hown k0 (by decide))
              have k1 := k1.grown hgrow (own_bk_ne hown k1 (by decide))
              have hbF := (hb.grown hgrow hb.size (fun j hj => by have := (hown.lt j hj).1; omega)).setCell (p := ⟨w.heap.size + 1, 3, none⟩) (by simp) v'
              have hszF := Nat.le_trans hsz hgrow.size
              obtain ⟨va, vc, rfl⟩ := own_slice hown3
              have k0F := k0.far (p := ⟨w.heap.size + 1, 3, none⟩) (by simp) (.slice va (rs.length + l.length) vc)
              have k1F : Bk (w3.setCell ⟨w.heap.size + 1, 3, none⟩ (.slice va (rs.length + l.length) vc)) (w.heap.size + 1) 69 #[.int .i64 4, .int .u8 0, .bool bv, .slice va (rs.length + l.length) vc] := k1.set_ 3 _
              have hownF : (w3.setCell ⟨w.heap.size + 1, 3, none⟩ (.slice va (rs.length + l.length) vc)).ownsRow (w.heap.size + 2) 121 2 (.slice va (rs.length + l.length) vc) (rs ++ l).length (rgs (rs ++ l)) := by
                rw [rgs_append, List.length_append]; exact ownsRow_setCell_below hown3 (by simp) _
              obtain ⟨q0, q1, q2, q3⟩ := k0.cells4
              obtain ⟨p0, p1, p2, p3⟩ := k1.cells4
              obtain ⟨f0, f1, f2, f3⟩ := k1.free4
              clear hgrow hat hown hown3 hb k0 k1 hrd
              go_wp2_with fail
              go_roundw
              case rel => exact ⟨n + k, false, rs ++ l, .slice va (rs.length + l.length) vc, by omega, by go_num, rfl, HF, k0F, k1F, hownF, by rw [List.length_append]; omega, hbF, by simpa [World.setCell] using hszF⟩
              case measure => simp [intOf]; omega
      · have hfin := HK.out
        rw [List.drop_eq_nil_of_le (by omega), gl_end] at hfin
        have HF := hid hfin
        have hbF := (((hb.setCell (p := ⟨w.heap.size, 0, none⟩) (by simp) (.int .i64 0)).setCell (p := ⟨w.heap.size, 1, none⟩) (by simp) (.int .u8 0)).setCell (p := ⟨w.heap.size, 2, none⟩) (by simp) (.bool false)).setCell (p := ⟨w.heap.size, 3, none⟩) (by simp) (.slice none 0 0)
        clear hfin HK k0 k1 hown hb
        go_wp2_with fail
        refine bodyPost_ret (v := .tuple #[.agg #[.int .i64 0, .int .u8 0, .bool false, .slice none 0 0], .int .i64 0]) (by simp [results, Tryd.results35, go_sem, q0, q1, q2, q3, g0, g1, g2, g3]) rfl ?_
        exact ⟨hbF, .inl ⟨HF.out, rfl⟩⟩
end Go.Proofs.YthnmdhcgnimdfaaDoor
