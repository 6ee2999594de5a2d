/- The walk of globs.matches with no place held hard, and of globs.Match: up to a hundred thousand items, texts of up to a hundred thousand bytes. -/
import Derived.Test.YthnmdhcgnimdfaaDoorG6
import Derived.Deep.DeepMust
set_option linter.unusedVariables false
set_option linter.unusedSimpArgs false
namespace Go.Proofs.YthnmdhcgnimdfaaDoor
open Go.RowKit
attribute [local go_sem ↓] Go.wp_at_zero Go.wp_at_succ
/-- the n-th of a list, by its length alone -/
def nth {α : Type} : List α → Nat → Option α
  | [], _ => none
  | a :: _, 0 => some a
  | _ :: l, n + 1 => nth l n
theorem nth_eq {α : Type} (l : List α) (n : Nat) : nth l n = l[n]? := by
  induction l generalizing n with
  | nil => cases n <;> rfl
  | cons a l ih => cases n <;> simp [nth, ih]
section
variable {P : Program} {md : Region.Mode} {ops : Array Oper} {Q : Exit → Act → World → Prop} {S : World → Prop}
theorem takeYes {i : Nat} {oi : Oper} {v : Value} {fuel : Nat} {listed : Array Bool} {a : Act} {w : World} (hi : nth ops.toList i = some oi)
    (hs : Region.noSelect ops = true) (hf : Region.free md ops listed i = true) (hr : (Region.ready md ops listed).contains i = true)
    (hQ : ∀ c a w, Q (.panic c) (a.put oi.dst v) w → Q (.panic c) a w) (hw : Region.wanted oi (yielded ops a.tmps) = true) (hy : ∀ w, S w → (execOp a.eval oi).run P w = .ok (.value v) w) (hS : S w)
    (h : wpAnyH P md ops Q S fuel (listed.setIfInBounds i true) (a.put oi.dst v) w) : wpAnyH P md ops Q S (fuel + 1) listed a w :=
  wpAnyH_take (by rw [← hi, nth_eq]; simp) hs hf hr hQ (Or.inl ⟨hw, hy⟩) hS h
theorem takeNo {i : Nat} {oi : Oper} {fuel : Nat} {listed : Array Bool} {a : Act} {w : World} (hi : nth ops.toList i = some oi)
    (hs : Region.noSelect ops = true) (hf : Region.free md ops listed i = true) (hr : (Region.ready md ops listed).contains i = true)
    (hQ : ∀ c a w, Q (.panic c) (a.put oi.dst undef) w → Q (.panic c) a w) (hw : Region.wanted oi (yielded ops a.tmps) = false) (hS : S w)
    (h : wpAnyH P md ops Q S fuel (listed.setIfInBounds i true) (a.put oi.dst undef) w) : wpAnyH P md ops Q S (fuel + 1) listed a w :=
  wpAnyH_take (by rw [← hi, nth_eq]; simp) hs hf hr hQ (Or.inr ⟨hw, rfl⟩) hS h
end
theorem hard_no (i : Int) (w : World) : Calls Tryd.prog 57 #[.int .i64 i] w fun e w' => e = .returned (.bool false) ∧ w = w' := by
  go_enter Tryd.func57, Tryd.ntmps57
  go_wp2
  go_ret
  exact ⟨rfl, rfl⟩
theorem fits_is (x : It) (u : Value) (c : UInt8) (w : World) (h : Rd w u x.rs.length (rgs x.rs)) (hl : x.rs.length ≤ 1000000) (r : Bool) (hr : fitsB x c = r) :
    Calls Tryd.prog 76 #[.agg #[.int .i64 x.kind, .int .u8 (x.b.toNat : Int), .bool x.neg, u], .int .u8 (c.toNat : Int)] w fun e w' => e = .returned (.bool r) ∧ Below w.heap.size w w' := by
  rw [← hr]; exact fits_any x u c w h hl
theorem fits_kinds {x : It} {c : UInt8} (h : fitsB x c = true) : x.kind = 1 ∨ x.kind = 2 ∨ x.kind = 4 := by
  unfold fitsB at h
  split at h
  · exact .inl ‹_›
  · split at h
    · exact .inr (.inl ‹_›)
    · split at h
      · exact .inr (.inr ‹_›)
      · cases h
theorem At.it {w : World} {b off : Nat} {ps : List (It × Value)} (h : At w b off (itc ps)) (k : Nat) (hk : k < ps.length) :
    w.cell? ⟨b, off + k * 4, none⟩ = some (.int .i64 ps[k].1.kind) ∧ w.cell? ⟨b, off + k * 4 + 1, none⟩ = some (.int .u8 (ps[k].1.b.toNat : Int)) ∧
    w.cell? ⟨b, off + k * 4 + 2, none⟩ = some (.bool ps[k].1.neg) ∧ w.cell? ⟨b, off + k * 4 + 3, none⟩ = some ps[k].2 := by
  obtain ⟨h1, h2, h3, h4⟩ := itc_at ps k hk
  exact ⟨h _ _ h1, h _ _ h2, h _ _ h3, h _ _ h4⟩
theorem itc_ne {l : List (It × Value)} {k : Nat} (h : k < l.length) (e : itc l = []) : False := by have := itc_len l; rw [e] at this; simp at this; omega
theorem Gr.st_le {P : List It} {S : List UInt8} {i k st fr : Nat} (g : Gr P S i k st fr) : st ≤ k ∧ (st ≠ 0 → fr ≤ i) := by
  by_cases h0 : st = 0
  · exact ⟨by omega, fun h => (h h0).elim⟩
  · obtain ⟨h1, h2, _⟩ := g.yes h0
    exact ⟨h1, fun _ => h2⟩
set_option maxRecDepth 100000 in
set_option maxHeartbeats 4000000 in
theorem matches_any (v : Value) (p : List It) (s : ByteArray) (w : World) (h : RdI w v p) (hp : p.length ≤ 100000) (hs : s.size ≤ 100000) (hr : ∀ x ∈ p, x.rs.length ≤ 1000000) :
    Calls Tryd.prog 56 #[v, .string s, .func (.func 57) #[] #[]] w fun e w' => e = .returned (.bool (M p s.data.toList)) ∧ Below w.heap.size w w' := by
  obtain ⟨ps, rfl, hrd, hus⟩ := h
  obtain ⟨A, cap, rfl, hcap, hx⟩ := hrd.open_
  clear hrd
  rw [List.length_map] at hp
  have hlen : s.data.toList.length = s.size := by simp
  have HLEN := hid hlen
  clear hlen
  go_enter Tryd.func56, Tryd.ntmps56
  go_wp2_with fail
  go_step3
  go_wp2_with fail
  go_step3
  go_wp2_with fail
  go_loopg [7, 8, 9, 10] (meas s.size (ps.length + 1) s.size s.size) (fun g vi vk vs vf wr => ∃ (i k st fr : Nat) (sv : Int), vi = .int .i64 i ∧ vk = .int .i64 k ∧ vs = .int .i64 sv ∧ vf = .int .i64 fr ∧ Hid (Gr (ps.map Prod.fst) s.data.toList i k st fr) ∧
    i ≤ s.size ∧ k ≤ ps.length ∧ st ≤ k ∧ fr ≤ s.size ∧ Hid (sv = (st : Int) - 1) ∧ sv ≤ 1000000 ∧ g = meas s.size (ps.length + 1 - st) (s.size - fr) (s.size - i) ∧ Below w.heap.size w wr)
  case atStart => exact ⟨0, 0, 0, 0, -1, rfl, rfl, rfl, rfl, hid (Gr.start _ _), by omega, by omega, by omega, by omega, hid rfl, by omega, by simp, Below.refl _ _⟩
  case round =>
    obtain ⟨i, k, st, fr, sv, rfl, rfl, rfl, rfl, HG, hi, hk, hst, hfr, HSV, hsv, rfl, hb⟩ := hrel
    have hsz := hb.size
    by_cases hit : i < s.size
    · have hiL : i < s.data.toList.length := by rw [HLEN.out]; exact hit
      have HSI := hid (show s.data.toList[i] = s[i] by rw [Array.getElem_toList]; rfl)
      have hi0 : (0 : Int) ≤ (i : Int) := Int.natCast_nonneg _
      have hi1 : (i : Int) < (s.size : Int) := by omega
      by_cases hkt : k < ps.length
      · rcases hx with hx | ⟨b, off, rfl, hc⟩
        · exact (itc_ne hkt hx).elim
        · obtain ⟨c1, c2, c3, c4⟩ := (show At w b off (itc ps) from hc).below hb |>.it k hkt
          have hkP : k < (ps.map Prod.fst).length := by simpa using hkt
          have HPK := hid (show (ps.map Prod.fst)[k] = ps[k].1 by simp)
          have hrdu := (hus ps[k] (List.getElem_mem hkt)).below hb
          have hrl := hr ps[k].1 (by simp; exact ⟨ps[k].2, List.getElem_mem hkt⟩)
          clear hc
          generalize ps[k] = pk at *
          obtain ⟨x, u⟩ := pk
          dsimp only at c1 c2 c3 c4 HPK hrdu hrl
          by_cases h3 : x.kind = 3
          · have hG' := HG.out.star hkP (by rw [HPK.out]; simp [isStar, h3])
            have HG2 := hid hG'
            rw [h3] at c1
            clear hG' h3 HG hrdu
            go_wp2_with fail
            go_roundg (meas s.size (ps.length + 1 - (k + 1)) (s.size - i) (s.size - i))
            case measure => exact meas_a (by omega) (by omega) (by omega)
            case rel => exact ⟨i, k + 1, k + 1, i, k, rfl, by go_num, rfl, rfl, HG2, by omega, by omega, by omega, by omega, hid (by omega), by omega, rfl, hb⟩
          · have e3 : (x.kind == 3) = false := by simpa using h3
            have HNS := hid (show isStar (ps.map Prod.fst)[k] = false by rw [HPK.out]; simpa [isStar] using h3)
            clear h3
            have hkP0 := hkP
            obtain ⟨ua, uc, rfl⟩ : ∃ a c, u = .slice a x.rs.length c := by obtain ⟨a, c, h, _⟩ := hrdu; exact ⟨a, c, h⟩
            have hrduD : Rd wr.drew (.slice ua x.rs.length uc) x.rs.length (rgs x.rs) := hrdu
            have HX := hid (show (ps.map Prod.fst)[k] = x from HPK.out)
            obtain ⟨kd, xb, xn, xr⟩ := x
            dsimp only at c1 c2 c3 c4 hrl hrduD e3 hrdu HX
            clear hrdu HPK
            go_upto_region 7 with fail
            go_cut [58] (fun v58 wx => v58 = .bool (fitsB ⟨kd, xb, xn, xr⟩ s[i]) ∧ Below wr.drew.heap.size wr.drew wx)
            case first =>
              cases hf : fitsB ⟨kd, xb, xn, xr⟩ s[i]
              · have HFB := hid hf
                clear hf
                refine wp_region_held_drew (S := (fun w' => w'.cell? ⟨b, off + k * 4, none⟩ = some (.int .i64 kd) ∧ w'.cell? ⟨b, off + k * 4 + 1, none⟩ = some (.int .u8 (xb.toNat : Int)) ∧ w'.cell? ⟨b, off + k * 4 + 2, none⟩ = some (.bool xn) ∧ w'.cell? ⟨b, off + k * 4 + 3, none⟩ = some (.slice ua xr.length uc))) (by kernel_rfl) ⟨c1, c2, c3, c4⟩ (fun hHeld => ?_)
                refine takeYes (i := 0) (v := .int .i64 (k : Int)) rfl (by kernel_rfl) (by kernel_rfl) (by kernel_rfl) (fun _ _ _ h => h) (by rfl) ?_ (by assumption) ?_
                · intro w hSw; obtain ⟨q1, q2, q3, q4⟩ := hSw; go_simp
                try simp only [Act.put, List.setIfInBounds_toArray, List.set_cons_zero, List.set_cons_succ]
                refine takeYes (i := 1) (v := .slice (some ⟨b, off, none⟩) ps.length cap) rfl (by kernel_rfl) (by kernel_rfl) (by kernel_rfl) (fun _ _ _ h => h) (by rfl) ?_ (by assumption) ?_
                · intro w hSw; obtain ⟨q1, q2, q3, q4⟩ := hSw; go_simp
                try simp only [Act.put, List.setIfInBounds_toArray, List.set_cons_zero, List.set_cons_succ]
                refine takeYes (i := 2) (v := .int .i64 (ps.length : Int)) rfl (by kernel_rfl) (by kernel_rfl) (by kernel_rfl) (fun _ _ _ h => h) (by rfl) ?_ (by assumption) ?_
                · intro w hSw; obtain ⟨q1, q2, q3, q4⟩ := hSw; go_simp
                try simp only [Act.put, List.setIfInBounds_toArray, List.set_cons_zero, List.set_cons_succ]
                refine takeYes (i := 3) (v := .bool true) rfl (by kernel_rfl) (by kernel_rfl) (by kernel_rfl) (fun _ _ _ h => h) (by rfl) ?_ (by assumption) ?_
                · intro w hSw; obtain ⟨q1, q2, q3, q4⟩ := hSw; go_simp
                try simp only [Act.put, List.setIfInBounds_toArray, List.set_cons_zero, List.set_cons_succ]
                refine takeYes (i := 4) (v := .bool true) rfl (by kernel_rfl) (by kernel_rfl) (by kernel_rfl) (fun _ _ _ h => h) (by rfl) ?_ (by assumption) ?_
                · intro w hSw; obtain ⟨q1, q2, q3, q4⟩ := hSw; go_simp
                try simp only [Act.put, List.setIfInBounds_toArray, List.set_cons_zero, List.set_cons_succ]
                refine takeYes (i := 5) (v := .slice (some ⟨b, off, none⟩) ps.length cap) rfl (by kernel_rfl) (by kernel_rfl) (by kernel_rfl) (fun _ _ _ h => h) (by rfl) ?_ (by assumption) ?_
                · intro w hSw; obtain ⟨q1, q2, q3, q4⟩ := hSw; go_simp
                try simp only [Act.put, List.setIfInBounds_toArray, List.set_cons_zero, List.set_cons_succ]
                refine takeYes (i := 6) (v := .int .i64 (k : Int)) rfl (by kernel_rfl) (by kernel_rfl) (by kernel_rfl) (fun _ _ _ h => h) (by rfl) ?_ (by assumption) ?_
                · intro w hSw; obtain ⟨q1, q2, q3, q4⟩ := hSw; go_simp
                try simp only [Act.put, List.setIfInBounds_toArray, List.set_cons_zero, List.set_cons_succ]
                refine takeYes (i := 7) (v := .pointer (some ⟨b, off + k * 4, none⟩)) rfl (by kernel_rfl) (by kernel_rfl) (by kernel_rfl) (fun _ _ _ h => h) (by rfl) ?_ (by assumption) ?_
                · intro w hSw; obtain ⟨q1, q2, q3, q4⟩ := hSw; go_simp
                try simp only [Act.put, List.setIfInBounds_toArray, List.set_cons_zero, List.set_cons_succ]
                refine takeYes (i := 8) (v := .agg #[.int .i64 kd, .int .u8 (xb.toNat : Int), .bool xn, .slice ua xr.length uc]) rfl (by kernel_rfl) (by kernel_rfl) (by kernel_rfl) (fun _ _ _ h => h) (by rfl) ?_ (by assumption) ?_
                · intro w hSw; obtain ⟨q1, q2, q3, q4⟩ := hSw; go_simp
                try simp only [Act.put, List.setIfInBounds_toArray, List.set_cons_zero, List.set_cons_succ]
                refine takeYes (i := 9) (v := .string s) rfl (by kernel_rfl) (by kernel_rfl) (by kernel_rfl) (fun _ _ _ h => h) (by rfl) ?_ (by assumption) ?_
                · intro w hSw; obtain ⟨q1, q2, q3, q4⟩ := hSw; go_simp
                try simp only [Act.put, List.setIfInBounds_toArray, List.set_cons_zero, List.set_cons_succ]
                refine takeYes (i := 10) (v := .int .i64 (i : Int)) rfl (by kernel_rfl) (by kernel_rfl) (by kernel_rfl) (fun _ _ _ h => h) (by rfl) ?_ (by assumption) ?_
                · intro w hSw; obtain ⟨q1, q2, q3, q4⟩ := hSw; go_simp
                try simp only [Act.put, List.setIfInBounds_toArray, List.set_cons_zero, List.set_cons_succ]
                refine takeYes (i := 11) (v := .int .u8 (s[i].toNat : Int)) rfl (by kernel_rfl) (by kernel_rfl) (by kernel_rfl) (fun _ _ _ h => h) (by rfl) ?_ (by assumption) ?_
                · intro w hSw; obtain ⟨q1, q2, q3, q4⟩ := hSw; go_simp
                try simp only [Act.put, List.setIfInBounds_toArray, List.set_cons_zero, List.set_cons_succ]
                refine wpAnyH_ready (rs := [12]) (by kernel_rfl) (by simp) ?_
                refine AllReadyH.cons rfl (fun K hK => ?_) AllReadyH.nil
                go_simp
                (go_at_call 76; (with_reducible refine (fits_is ⟨kd, xb, xn, xr⟩ _ s[i] _ hrduD hrl false HFB.out).mono ?_); rintro e wy ⟨rfl, hby⟩)
                go_wp2_with fail
                refine hK.out _ _ ?_ (fun hHeld => ?_)
                · exact ⟨bel_cell hby c1, bel_cell hby c2, bel_cell hby c3, bel_cell hby c4⟩
                clear hK K
                try simp only [Act.put, List.setIfInBounds_toArray, List.set_cons_zero, List.set_cons_succ]
                refine takeYes (i := 13) (v := .bool false) rfl (by kernel_rfl) (by kernel_rfl) (by kernel_rfl) (fun _ _ _ h => h) (by rfl) ?_ (by assumption) ?_
                · intro w hSw; obtain ⟨q1, q2, q3, q4⟩ := hSw; go_simp
                try simp only [Act.put, List.setIfInBounds_toArray, List.set_cons_zero, List.set_cons_succ]
                refine takeYes (i := 14) (v := .bool false) rfl (by kernel_rfl) (by kernel_rfl) (by kernel_rfl) (fun _ _ _ h => h) (by rfl) ?_ (by assumption) ?_
                · intro w hSw; obtain ⟨q1, q2, q3, q4⟩ := hSw; go_simp
                try simp only [Act.put, List.setIfInBounds_toArray, List.set_cons_zero, List.set_cons_succ]
                refine takeNo (i := 15) rfl (by kernel_rfl) (by kernel_rfl) (by kernel_rfl) (fun _ _ _ h => h) (by rfl) (by assumption) ?_
                try simp only [Act.put, List.setIfInBounds_toArray, List.set_cons_zero, List.set_cons_succ]
                refine takeNo (i := 16) rfl (by kernel_rfl) (by kernel_rfl) (by kernel_rfl) (fun _ _ _ h => h) (by rfl) (by assumption) ?_
                try simp only [Act.put, List.setIfInBounds_toArray, List.set_cons_zero, List.set_cons_succ]
                refine takeNo (i := 17) rfl (by kernel_rfl) (by kernel_rfl) (by kernel_rfl) (fun _ _ _ h => h) (by rfl) (by assumption) ?_
                try simp only [Act.put, List.setIfInBounds_toArray, List.set_cons_zero, List.set_cons_succ]
                refine takeNo (i := 18) rfl (by kernel_rfl) (by kernel_rfl) (by kernel_rfl) (fun _ _ _ h => h) (by rfl) (by assumption) ?_
                try simp only [Act.put, List.setIfInBounds_toArray, List.set_cons_zero, List.set_cons_succ]
                refine takeNo (i := 19) rfl (by kernel_rfl) (by kernel_rfl) (by kernel_rfl) (fun _ _ _ h => h) (by rfl) (by assumption) ?_
                try simp only [Act.put, List.setIfInBounds_toArray, List.set_cons_zero, List.set_cons_succ]
                refine takeNo (i := 20) rfl (by kernel_rfl) (by kernel_rfl) (by kernel_rfl) (fun _ _ _ h => h) (by rfl) (by assumption) ?_
                try simp only [Act.put, List.setIfInBounds_toArray, List.set_cons_zero, List.set_cons_succ]
                refine takeNo (i := 21) rfl (by kernel_rfl) (by kernel_rfl) (by kernel_rfl) (fun _ _ _ h => h) (by rfl) (by assumption) ?_
                try simp only [Act.put, List.setIfInBounds_toArray, List.set_cons_zero, List.set_cons_succ]
                refine takeNo (i := 22) rfl (by kernel_rfl) (by kernel_rfl) (by kernel_rfl) (fun _ _ _ h => h) (by rfl) (by assumption) ?_
                try simp only [Act.put, List.setIfInBounds_toArray, List.set_cons_zero, List.set_cons_succ]
                refine takeNo (i := 23) rfl (by kernel_rfl) (by kernel_rfl) (by kernel_rfl) (fun _ _ _ h => h) (by rfl) (by assumption) ?_
                try simp only [Act.put, List.setIfInBounds_toArray, List.set_cons_zero, List.set_cons_succ]
                refine takeNo (i := 24) rfl (by kernel_rfl) (by kernel_rfl) (by kernel_rfl) (fun _ _ _ h => h) (by rfl) (by assumption) ?_
                try simp only [Act.put, List.setIfInBounds_toArray, List.set_cons_zero, List.set_cons_succ]
                refine takeNo (i := 25) rfl (by kernel_rfl) (by kernel_rfl) (by kernel_rfl) (fun _ _ _ h => h) (by rfl) (by assumption) ?_
                try simp only [Act.put, List.setIfInBounds_toArray, List.set_cons_zero, List.set_cons_succ]
                refine takeNo (i := 26) rfl (by kernel_rfl) (by kernel_rfl) (by kernel_rfl) (fun _ _ _ h => h) (by rfl) (by assumption) ?_
                try simp only [Act.put, List.setIfInBounds_toArray, List.set_cons_zero, List.set_cons_succ]
                refine takeYes (i := 27) (v := .bool false) rfl (by kernel_rfl) (by kernel_rfl) (by kernel_rfl) (fun _ _ _ h => h) (by rfl) ?_ (by assumption) ?_
                · intro w hSw; obtain ⟨q1, q2, q3, q4⟩ := hSw; go_simp
                try simp only [Act.put, List.setIfInBounds_toArray, List.set_cons_zero, List.set_cons_succ]
                refine wpAnyH_done (by kernel_rfl) ?_ _
                go_wp2_with fail
                go_meet
                exact ⟨by rw [HFB.out], hby⟩
              · have HFB := hid hf
                have hkd := fits_kinds hf
                dsimp only at hkd
                clear hf e3
                rcases hkd with rfl | rfl | rfl
                · refine wp_region_held_drew (S := (fun w' => w'.cell? ⟨b, off + k * 4, none⟩ = some (.int .i64 1) ∧ w'.cell? ⟨b, off + k * 4 + 1, none⟩ = some (.int .u8 (xb.toNat : Int)) ∧ w'.cell? ⟨b, off + k * 4 + 2, none⟩ = some (.bool xn) ∧ w'.cell? ⟨b, off + k * 4 + 3, none⟩ = some (.slice ua xr.length uc))) (by kernel_rfl) ⟨c1, c2, c3, c4⟩ (fun hHeld => ?_)
                  refine takeYes (i := 0) (v := .int .i64 (k : Int)) rfl (by kernel_rfl) (by kernel_rfl) (by kernel_rfl) (fun _ _ _ h => h) (by rfl) ?_ (by assumption) ?_
                  · intro w hSw; obtain ⟨q1, q2, q3, q4⟩ := hSw; go_simp
                  try simp only [Act.put, List.setIfInBounds_toArray, List.set_cons_zero, List.set_cons_succ]
                  refine takeYes (i := 1) (v := .slice (some ⟨b, off, none⟩) ps.length cap) rfl (by kernel_rfl) (by kernel_rfl) (by kernel_rfl) (fun _ _ _ h => h) (by rfl) ?_ (by assumption) ?_
                  · intro w hSw; obtain ⟨q1, q2, q3, q4⟩ := hSw; go_simp
                  try simp only [Act.put, List.setIfInBounds_toArray, List.set_cons_zero, List.set_cons_succ]
                  refine takeYes (i := 2) (v := .int .i64 (ps.length : Int)) rfl (by kernel_rfl) (by kernel_rfl) (by kernel_rfl) (fun _ _ _ h => h) (by rfl) ?_ (by assumption) ?_
                  · intro w hSw; obtain ⟨q1, q2, q3, q4⟩ := hSw; go_simp
                  try simp only [Act.put, List.setIfInBounds_toArray, List.set_cons_zero, List.set_cons_succ]
                  refine takeYes (i := 3) (v := .bool true) rfl (by kernel_rfl) (by kernel_rfl) (by kernel_rfl) (fun _ _ _ h => h) (by rfl) ?_ (by assumption) ?_
                  · intro w hSw; obtain ⟨q1, q2, q3, q4⟩ := hSw; go_simp
                  try simp only [Act.put, List.setIfInBounds_toArray, List.set_cons_zero, List.set_cons_succ]
                  refine takeYes (i := 4) (v := .bool true) rfl (by kernel_rfl) (by kernel_rfl) (by kernel_rfl) (fun _ _ _ h => h) (by rfl) ?_ (by assumption) ?_
                  · intro w hSw; obtain ⟨q1, q2, q3, q4⟩ := hSw; go_simp
                  try simp only [Act.put, List.setIfInBounds_toArray, List.set_cons_zero, List.set_cons_succ]
                  refine takeYes (i := 5) (v := .slice (some ⟨b, off, none⟩) ps.length cap) rfl (by kernel_rfl) (by kernel_rfl) (by kernel_rfl) (fun _ _ _ h => h) (by rfl) ?_ (by assumption) ?_
                  · intro w hSw; obtain ⟨q1, q2, q3, q4⟩ := hSw; go_simp
                  try simp only [Act.put, List.setIfInBounds_toArray, List.set_cons_zero, List.set_cons_succ]
                  refine takeYes (i := 6) (v := .int .i64 (k : Int)) rfl (by kernel_rfl) (by kernel_rfl) (by kernel_rfl) (fun _ _ _ h => h) (by rfl) ?_ (by assumption) ?_
                  · intro w hSw; obtain ⟨q1, q2, q3, q4⟩ := hSw; go_simp
                  try simp only [Act.put, List.setIfInBounds_toArray, List.set_cons_zero, List.set_cons_succ]
                  refine takeYes (i := 7) (v := .pointer (some ⟨b, off + k * 4, none⟩)) rfl (by kernel_rfl) (by kernel_rfl) (by kernel_rfl) (fun _ _ _ h => h) (by rfl) ?_ (by assumption) ?_
                  · intro w hSw; obtain ⟨q1, q2, q3, q4⟩ := hSw; go_simp
                  try simp only [Act.put, List.setIfInBounds_toArray, List.set_cons_zero, List.set_cons_succ]
                  refine takeYes (i := 8) (v := .agg #[.int .i64 1, .int .u8 (xb.toNat : Int), .bool xn, .slice ua xr.length uc]) rfl (by kernel_rfl) (by kernel_rfl) (by kernel_rfl) (fun _ _ _ h => h) (by rfl) ?_ (by assumption) ?_
                  · intro w hSw; obtain ⟨q1, q2, q3, q4⟩ := hSw; go_simp
                  try simp only [Act.put, List.setIfInBounds_toArray, List.set_cons_zero, List.set_cons_succ]
                  refine takeYes (i := 9) (v := .string s) rfl (by kernel_rfl) (by kernel_rfl) (by kernel_rfl) (fun _ _ _ h => h) (by rfl) ?_ (by assumption) ?_
                  · intro w hSw; obtain ⟨q1, q2, q3, q4⟩ := hSw; go_simp
                  try simp only [Act.put, List.setIfInBounds_toArray, List.set_cons_zero, List.set_cons_succ]
                  refine takeYes (i := 10) (v := .int .i64 (i : Int)) rfl (by kernel_rfl) (by kernel_rfl) (by kernel_rfl) (fun _ _ _ h => h) (by rfl) ?_ (by assumption) ?_
                  · intro w hSw; obtain ⟨q1, q2, q3, q4⟩ := hSw; go_simp
                  try simp only [Act.put, List.setIfInBounds_toArray, List.set_cons_zero, List.set_cons_succ]
                  refine takeYes (i := 11) (v := .int .u8 (s[i].toNat : Int)) rfl (by kernel_rfl) (by kernel_rfl) (by kernel_rfl) (fun _ _ _ h => h) (by rfl) ?_ (by assumption) ?_
                  · intro w hSw; obtain ⟨q1, q2, q3, q4⟩ := hSw; go_simp
                  try simp only [Act.put, List.setIfInBounds_toArray, List.set_cons_zero, List.set_cons_succ]
                  refine wpAnyH_ready (rs := [12]) (by kernel_rfl) (by simp) ?_
                  refine AllReadyH.cons rfl (fun K hK => ?_) AllReadyH.nil
                  go_simp
                  (go_at_call 76; (with_reducible refine (fits_is ⟨1, xb, xn, xr⟩ _ s[i] _ hrduD hrl true HFB.out).mono ?_); rintro e wy ⟨rfl, hby⟩)
                  go_wp2_with fail
                  refine hK.out _ _ ?_ (fun hHeld => ?_)
                  · exact ⟨bel_cell hby c1, bel_cell hby c2, bel_cell hby c3, bel_cell hby c4⟩
                  clear hK K
                  try simp only [Act.put, List.setIfInBounds_toArray, List.set_cons_zero, List.set_cons_succ]
                  refine takeYes (i := 13) (v := .bool true) rfl (by kernel_rfl) (by kernel_rfl) (by kernel_rfl) (fun _ _ _ h => h) (by rfl) ?_ (by assumption) ?_
                  · intro w hSw; obtain ⟨q1, q2, q3, q4⟩ := hSw; go_simp
                  try simp only [Act.put, List.setIfInBounds_toArray, List.set_cons_zero, List.set_cons_succ]
                  refine takeYes (i := 14) (v := .bool true) rfl (by kernel_rfl) (by kernel_rfl) (by kernel_rfl) (fun _ _ _ h => h) (by rfl) ?_ (by assumption) ?_
                  · intro w hSw; obtain ⟨q1, q2, q3, q4⟩ := hSw; go_simp
                  try simp only [Act.put, List.setIfInBounds_toArray, List.set_cons_zero, List.set_cons_succ]
                  refine takeYes (i := 15) (v := .slice (some ⟨b, off, none⟩) ps.length cap) rfl (by kernel_rfl) (by kernel_rfl) (by kernel_rfl) (fun _ _ _ h => h) (by rfl) ?_ (by assumption) ?_
                  · intro w hSw; obtain ⟨q1, q2, q3, q4⟩ := hSw; go_simp
                  try simp only [Act.put, List.setIfInBounds_toArray, List.set_cons_zero, List.set_cons_succ]
                  refine takeYes (i := 16) (v := .int .i64 (k : Int)) rfl (by kernel_rfl) (by kernel_rfl) (by kernel_rfl) (fun _ _ _ h => h) (by rfl) ?_ (by assumption) ?_
                  · intro w hSw; obtain ⟨q1, q2, q3, q4⟩ := hSw; go_simp
                  try simp only [Act.put, List.setIfInBounds_toArray, List.set_cons_zero, List.set_cons_succ]
                  refine takeYes (i := 17) (v := .pointer (some ⟨b, off + k * 4, none⟩)) rfl (by kernel_rfl) (by kernel_rfl) (by kernel_rfl) (fun _ _ _ h => h) (by rfl) ?_ (by assumption) ?_
                  · intro w hSw; obtain ⟨q1, q2, q3, q4⟩ := hSw; go_simp
                  try simp only [Act.put, List.setIfInBounds_toArray, List.set_cons_zero, List.set_cons_succ]
                  refine takeYes (i := 18) (v := .pointer (some ⟨b, off + k * 4, none⟩)) rfl (by kernel_rfl) (by kernel_rfl) (by kernel_rfl) (fun _ _ _ h => h) (by rfl) ?_ (by assumption) ?_
                  · intro w hSw; obtain ⟨q1, q2, q3, q4⟩ := hSw; go_simp
                  try simp only [Act.put, List.setIfInBounds_toArray, List.set_cons_zero, List.set_cons_succ]
                  refine takeYes (i := 19) (v := .int .i64 1) rfl (by kernel_rfl) (by kernel_rfl) (by kernel_rfl) (fun _ _ _ h => h) (by rfl) ?_ (by assumption) ?_
                  · intro w hSw; obtain ⟨q1, q2, q3, q4⟩ := hSw; go_simp
                  try simp only [Act.put, List.setIfInBounds_toArray, List.set_cons_zero, List.set_cons_succ]
                  refine takeYes (i := 20) (v := .bool true) rfl (by kernel_rfl) (by kernel_rfl) (by kernel_rfl) (fun _ _ _ h => h) (by rfl) ?_ (by assumption) ?_
                  · intro w hSw; obtain ⟨q1, q2, q3, q4⟩ := hSw; go_simp
                  try simp only [Act.put, List.setIfInBounds_toArray, List.set_cons_zero, List.set_cons_succ]
                  refine takeYes (i := 21) (v := .bool true) rfl (by kernel_rfl) (by kernel_rfl) (by kernel_rfl) (fun _ _ _ h => h) (by rfl) ?_ (by assumption) ?_
                  · intro w hSw; obtain ⟨q1, q2, q3, q4⟩ := hSw; go_simp
                  try simp only [Act.put, List.setIfInBounds_toArray, List.set_cons_zero, List.set_cons_succ]
                  refine takeNo (i := 22) rfl (by kernel_rfl) (by kernel_rfl) (by kernel_rfl) (fun _ _ _ h => h) (by rfl) (by assumption) ?_
                  try simp only [Act.put, List.setIfInBounds_toArray, List.set_cons_zero, List.set_cons_succ]
                  refine takeNo (i := 23) rfl (by kernel_rfl) (by kernel_rfl) (by kernel_rfl) (fun _ _ _ h => h) (by rfl) (by assumption) ?_
                  try simp only [Act.put, List.setIfInBounds_toArray, List.set_cons_zero, List.set_cons_succ]
                  refine takeNo (i := 24) rfl (by kernel_rfl) (by kernel_rfl) (by kernel_rfl) (fun _ _ _ h => h) (by rfl) (by assumption) ?_
                  try simp only [Act.put, List.setIfInBounds_toArray, List.set_cons_zero, List.set_cons_succ]
                  refine takeNo (i := 25) rfl (by kernel_rfl) (by kernel_rfl) (by kernel_rfl) (fun _ _ _ h => h) (by rfl) (by assumption) ?_
                  try simp only [Act.put, List.setIfInBounds_toArray, List.set_cons_zero, List.set_cons_succ]
                  refine takeYes (i := 26) (v := .bool true) rfl (by kernel_rfl) (by kernel_rfl) (by kernel_rfl) (fun _ _ _ h => h) (by rfl) ?_ (by assumption) ?_
                  · intro w hSw; obtain ⟨q1, q2, q3, q4⟩ := hSw; go_simp
                  try simp only [Act.put, List.setIfInBounds_toArray, List.set_cons_zero, List.set_cons_succ]
                  refine takeYes (i := 27) (v := .bool true) rfl (by kernel_rfl) (by kernel_rfl) (by kernel_rfl) (fun _ _ _ h => h) (by rfl) ?_ (by assumption) ?_
                  · intro w hSw; obtain ⟨q1, q2, q3, q4⟩ := hSw; go_simp
                  try simp only [Act.put, List.setIfInBounds_toArray, List.set_cons_zero, List.set_cons_succ]
                  refine wpAnyH_done (by kernel_rfl) ?_ _
                  go_wp2_with fail
                  go_meet
                  exact ⟨by rw [HFB.out], hby⟩
                · refine wp_region_held_drew (S := (fun w' => w'.cell? ⟨b, off + k * 4, none⟩ = some (.int .i64 2) ∧ w'.cell? ⟨b, off + k * 4 + 1, none⟩ = some (.int .u8 (xb.toNat : Int)) ∧ w'.cell? ⟨b, off + k * 4 + 2, none⟩ = some (.bool xn) ∧ w'.cell? ⟨b, off + k * 4 + 3, none⟩ = some (.slice ua xr.length uc))) (by kernel_rfl) ⟨c1, c2, c3, c4⟩ (fun hHeld => ?_)
                  refine takeYes (i := 0) (v := .int .i64 (k : Int)) rfl (by kernel_rfl) (by kernel_rfl) (by kernel_rfl) (fun _ _ _ h => h) (by rfl) ?_ (by assumption) ?_
                  · intro w hSw; obtain ⟨q1, q2, q3, q4⟩ := hSw; go_simp
                  try simp only [Act.put, List.setIfInBounds_toArray, List.set_cons_zero, List.set_cons_succ]
                  refine takeYes (i := 1) (v := .slice (some ⟨b, off, none⟩) ps.length cap) rfl (by kernel_rfl) (by kernel_rfl) (by kernel_rfl) (fun _ _ _ h => h) (by rfl) ?_ (by assumption) ?_
                  · intro w hSw; obtain ⟨q1, q2, q3, q4⟩ := hSw; go_simp
                  try simp only [Act.put, List.setIfInBounds_toArray, List.set_cons_zero, List.set_cons_succ]
                  refine takeYes (i := 2) (v := .int .i64 (ps.length : Int)) rfl (by kernel_rfl) (by kernel_rfl) (by kernel_rfl) (fun _ _ _ h => h) (by rfl) ?_ (by assumption) ?_
                  · intro w hSw; obtain ⟨q1, q2, q3, q4⟩ := hSw; go_simp
                  try simp only [Act.put, List.setIfInBounds_toArray, List.set_cons_zero, List.set_cons_succ]
                  refine takeYes (i := 3) (v := .bool true) rfl (by kernel_rfl) (by kernel_rfl) (by kernel_rfl) (fun _ _ _ h => h) (by rfl) ?_ (by assumption) ?_
                  · intro w hSw; obtain ⟨q1, q2, q3, q4⟩ := hSw; go_simp
                  try simp only [Act.put, List.setIfInBounds_toArray, List.set_cons_zero, List.set_cons_succ]
                  refine takeYes (i := 4) (v := .bool true) rfl (by kernel_rfl) (by kernel_rfl) (by kernel_rfl) (fun _ _ _ h => h) (by rfl) ?_ (by assumption) ?_
                  · intro w hSw; obtain ⟨q1, q2, q3, q4⟩ := hSw; go_simp
                  try simp only [Act.put, List.setIfInBounds_toArray, List.set_cons_zero, List.set_cons_succ]
                  refine takeYes (i := 5) (v := .slice (some ⟨b, off, none⟩) ps.length cap) rfl (by kernel_rfl) (by kernel_rfl) (by kernel_rfl) (fun _ _ _ h => h) (by rfl) ?_ (by assumption) ?_
                  · intro w hSw; obtain ⟨q1, q2, q3, q4⟩ := hSw; go_simp
                  try simp only [Act.put, List.setIfInBounds_toArray, List.set_cons_zero, List.set_cons_succ]
                  refine takeYes (i := 6) (v := .int .i64 (k : Int)) rfl (by kernel_rfl) (by kernel_rfl) (by kernel_rfl) (fun _ _ _ h => h) (by rfl) ?_ (by assumption) ?_
                  · intro w hSw; obtain ⟨q1, q2, q3, q4⟩ := hSw; go_simp
                  try simp only [Act.put, List.setIfInBounds_toArray, List.set_cons_zero, List.set_cons_succ]
                  refine takeYes (i := 7) (v := .pointer (some ⟨b, off + k * 4, none⟩)) rfl (by kernel_rfl) (by kernel_rfl) (by kernel_rfl) (fun _ _ _ h => h) (by rfl) ?_ (by assumption) ?_
                  · intro w hSw; obtain ⟨q1, q2, q3, q4⟩ := hSw; go_simp
                  try simp only [Act.put, List.setIfInBounds_toArray, List.set_cons_zero, List.set_cons_succ]
                  refine takeYes (i := 8) (v := .agg #[.int .i64 2, .int .u8 (xb.toNat : Int), .bool xn, .slice ua xr.length uc]) rfl (by kernel_rfl) (by kernel_rfl) (by kernel_rfl) (fun _ _ _ h => h) (by rfl) ?_ (by assumption) ?_
                  · intro w hSw; obtain ⟨q1, q2, q3, q4⟩ := hSw; go_simp
                  try simp only [Act.put, List.setIfInBounds_toArray, List.set_cons_zero, List.set_cons_succ]
                  refine takeYes (i := 9) (v := .string s) rfl (by kernel_rfl) (by kernel_rfl) (by kernel_rfl) (fun _ _ _ h => h) (by rfl) ?_ (by assumption) ?_
                  · intro w hSw; obtain ⟨q1, q2, q3, q4⟩ := hSw; go_simp
                  try simp only [Act.put, List.setIfInBounds_toArray, List.set_cons_zero, List.set_cons_succ]
                  refine takeYes (i := 10) (v := .int .i64 (i : Int)) rfl (by kernel_rfl) (by kernel_rfl) (by kernel_rfl) (fun _ _ _ h => h) (by rfl) ?_ (by assumption) ?_
                  · intro w hSw; obtain ⟨q1, q2, q3, q4⟩ := hSw; go_simp
                  try simp only [Act.put, List.setIfInBounds_toArray, List.set_cons_zero, List.set_cons_succ]
                  refine takeYes (i := 11) (v := .int .u8 (s[i].toNat : Int)) rfl (by kernel_rfl) (by kernel_rfl) (by kernel_rfl) (fun _ _ _ h => h) (by rfl) ?_ (by assumption) ?_
                  · intro w hSw; obtain ⟨q1, q2, q3, q4⟩ := hSw; go_simp
                  try simp only [Act.put, List.setIfInBounds_toArray, List.set_cons_zero, List.set_cons_succ]
                  refine wpAnyH_ready (rs := [12]) (by kernel_rfl) (by simp) ?_
                  refine AllReadyH.cons rfl (fun K hK => ?_) AllReadyH.nil
                  go_simp
                  (go_at_call 76; (with_reducible refine (fits_is ⟨2, xb, xn, xr⟩ _ s[i] _ hrduD hrl true HFB.out).mono ?_); rintro e wy ⟨rfl, hby⟩)
                  go_wp2_with fail
                  refine hK.out _ _ ?_ (fun hHeld => ?_)
                  · exact ⟨bel_cell hby c1, bel_cell hby c2, bel_cell hby c3, bel_cell hby c4⟩
                  clear hK K
                  try simp only [Act.put, List.setIfInBounds_toArray, List.set_cons_zero, List.set_cons_succ]
                  refine takeYes (i := 13) (v := .bool true) rfl (by kernel_rfl) (by kernel_rfl) (by kernel_rfl) (fun _ _ _ h => h) (by rfl) ?_ (by assumption) ?_
                  · intro w hSw; obtain ⟨q1, q2, q3, q4⟩ := hSw; go_simp
                  try simp only [Act.put, List.setIfInBounds_toArray, List.set_cons_zero, List.set_cons_succ]
                  refine takeYes (i := 14) (v := .bool true) rfl (by kernel_rfl) (by kernel_rfl) (by kernel_rfl) (fun _ _ _ h => h) (by rfl) ?_ (by assumption) ?_
                  · intro w hSw; obtain ⟨q1, q2, q3, q4⟩ := hSw; go_simp
                  try simp only [Act.put, List.setIfInBounds_toArray, List.set_cons_zero, List.set_cons_succ]
                  refine takeYes (i := 15) (v := .slice (some ⟨b, off, none⟩) ps.length cap) rfl (by kernel_rfl) (by kernel_rfl) (by kernel_rfl) (fun _ _ _ h => h) (by rfl) ?_ (by assumption) ?_
                  · intro w hSw; obtain ⟨q1, q2, q3, q4⟩ := hSw; go_simp
                  try simp only [Act.put, List.setIfInBounds_toArray, List.set_cons_zero, List.set_cons_succ]
                  refine takeYes (i := 16) (v := .int .i64 (k : Int)) rfl (by kernel_rfl) (by kernel_rfl) (by kernel_rfl) (fun _ _ _ h => h) (by rfl) ?_ (by assumption) ?_
                  · intro w hSw; obtain ⟨q1, q2, q3, q4⟩ := hSw; go_simp
                  try simp only [Act.put, List.setIfInBounds_toArray, List.set_cons_zero, List.set_cons_succ]
                  refine takeYes (i := 17) (v := .pointer (some ⟨b, off + k * 4, none⟩)) rfl (by kernel_rfl) (by kernel_rfl) (by kernel_rfl) (fun _ _ _ h => h) (by rfl) ?_ (by assumption) ?_
                  · intro w hSw; obtain ⟨q1, q2, q3, q4⟩ := hSw; go_simp
                  try simp only [Act.put, List.setIfInBounds_toArray, List.set_cons_zero, List.set_cons_succ]
                  refine takeYes (i := 18) (v := .pointer (some ⟨b, off + k * 4, none⟩)) rfl (by kernel_rfl) (by kernel_rfl) (by kernel_rfl) (fun _ _ _ h => h) (by rfl) ?_ (by assumption) ?_
                  · intro w hSw; obtain ⟨q1, q2, q3, q4⟩ := hSw; go_simp
                  try simp only [Act.put, List.setIfInBounds_toArray, List.set_cons_zero, List.set_cons_succ]
                  refine takeYes (i := 19) (v := .int .i64 2) rfl (by kernel_rfl) (by kernel_rfl) (by kernel_rfl) (fun _ _ _ h => h) (by rfl) ?_ (by assumption) ?_
                  · intro w hSw; obtain ⟨q1, q2, q3, q4⟩ := hSw; go_simp
                  try simp only [Act.put, List.setIfInBounds_toArray, List.set_cons_zero, List.set_cons_succ]
                  refine takeYes (i := 20) (v := .bool false) rfl (by kernel_rfl) (by kernel_rfl) (by kernel_rfl) (fun _ _ _ h => h) (by rfl) ?_ (by assumption) ?_
                  · intro w hSw; obtain ⟨q1, q2, q3, q4⟩ := hSw; go_simp
                  try simp only [Act.put, List.setIfInBounds_toArray, List.set_cons_zero, List.set_cons_succ]
                  refine takeYes (i := 21) (v := .bool false) rfl (by kernel_rfl) (by kernel_rfl) (by kernel_rfl) (fun _ _ _ h => h) (by rfl) ?_ (by assumption) ?_
                  · intro w hSw; obtain ⟨q1, q2, q3, q4⟩ := hSw; go_simp
                  try simp only [Act.put, List.setIfInBounds_toArray, List.set_cons_zero, List.set_cons_succ]
                  refine takeYes (i := 22) (v := .func (.func 57) #[] #[]) rfl (by kernel_rfl) (by kernel_rfl) (by kernel_rfl) (fun _ _ _ h => h) (by rfl) ?_ (by assumption) ?_
                  · intro w hSw; obtain ⟨q1, q2, q3, q4⟩ := hSw; go_simp
                  try simp only [Act.put, List.setIfInBounds_toArray, List.set_cons_zero, List.set_cons_succ]
                  refine takeYes (i := 23) (v := .int .i64 (i : Int)) rfl (by kernel_rfl) (by kernel_rfl) (by kernel_rfl) (fun _ _ _ h => h) (by rfl) ?_ (by assumption) ?_
                  · intro w hSw; obtain ⟨q1, q2, q3, q4⟩ := hSw; go_simp
                  try simp only [Act.put, List.setIfInBounds_toArray, List.set_cons_zero, List.set_cons_succ]
                  refine wpAnyH_ready (rs := [24]) (by kernel_rfl) (by simp) ?_
                  refine AllReadyH.cons rfl (fun K hK => ?_) AllReadyH.nil
                  go_simp
                  (go_at_call 57; (with_reducible refine (hard_no _ _).mono ?_); rintro e wz ⟨rfl, rfl⟩)
                  go_wp2_with fail
                  refine hK.out _ _ ?_ (fun hHeld => ?_)
                  · assumption
                  clear hK K
                  try simp only [Act.put, List.setIfInBounds_toArray, List.set_cons_zero, List.set_cons_succ]
                  refine takeYes (i := 25) (v := .bool true) rfl (by kernel_rfl) (by kernel_rfl) (by kernel_rfl) (fun _ _ _ h => h) (by rfl) ?_ (by assumption) ?_
                  · intro w hSw; obtain ⟨q1, q2, q3, q4⟩ := hSw; go_simp
                  try simp only [Act.put, List.setIfInBounds_toArray, List.set_cons_zero, List.set_cons_succ]
                  refine takeYes (i := 26) (v := .bool true) rfl (by kernel_rfl) (by kernel_rfl) (by kernel_rfl) (fun _ _ _ h => h) (by rfl) ?_ (by assumption) ?_
                  · intro w hSw; obtain ⟨q1, q2, q3, q4⟩ := hSw; go_simp
                  try simp only [Act.put, List.setIfInBounds_toArray, List.set_cons_zero, List.set_cons_succ]
                  refine takeYes (i := 27) (v := .bool true) rfl (by kernel_rfl) (by kernel_rfl) (by kernel_rfl) (fun _ _ _ h => h) (by rfl) ?_ (by assumption) ?_
                  · intro w hSw; obtain ⟨q1, q2, q3, q4⟩ := hSw; go_simp
                  try simp only [Act.put, List.setIfInBounds_toArray, List.set_cons_zero, List.set_cons_succ]
                  refine wpAnyH_done (by kernel_rfl) ?_ _
                  go_wp2_with fail
                  go_meet
                  exact ⟨by rw [HFB.out], hby⟩
                · refine wp_region_held_drew (S := (fun w' => w'.cell? ⟨b, off + k * 4, none⟩ = some (.int .i64 4) ∧ w'.cell? ⟨b, off + k * 4 + 1, none⟩ = some (.int .u8 (xb.toNat : Int)) ∧ w'.cell? ⟨b, off + k * 4 + 2, none⟩ = some (.bool xn) ∧ w'.cell? ⟨b, off + k * 4 + 3, none⟩ = some (.slice ua xr.length uc))) (by kernel_rfl) ⟨c1, c2, c3, c4⟩ (fun hHeld => ?_)
                  refine takeYes (i := 0) (v := .int .i64 (k : Int)) rfl (by kernel_rfl) (by kernel_rfl) (by kernel_rfl) (fun _ _ _ h => h) (by rfl) ?_ (by assumption) ?_
                  · intro w hSw; obtain ⟨q1, q2, q3, q4⟩ := hSw; go_simp
                  try simp only [Act.put, List.setIfInBounds_toArray, List.set_cons_zero, List.set_cons_succ]
                  refine takeYes (i := 1) (v := .slice (some ⟨b, off, none⟩) ps.length cap) rfl (by kernel_rfl) (by kernel_rfl) (by kernel_rfl) (fun _ _ _ h => h) (by rfl) ?_ (by assumption) ?_
                  · intro w hSw; obtain ⟨q1, q2, q3, q4⟩ := hSw; go_simp
                  try simp only [Act.put, List.setIfInBounds_toArray, List.set_cons_zero, List.set_cons_succ]
                  refine takeYes (i := 2) (v := .int .i64 (ps.length : Int)) rfl (by kernel_rfl) (by kernel_rfl) (by kernel_rfl) (fun _ _ _ h => h) (by rfl) ?_ (by assumption) ?_
                  · intro w hSw; obtain ⟨q1, q2, q3, q4⟩ := hSw; go_simp
                  try simp only [Act.put, List.setIfInBounds_toArray, List.set_cons_zero, List.set_cons_succ]
                  refine takeYes (i := 3) (v := .bool true) rfl (by kernel_rfl) (by kernel_rfl) (by kernel_rfl) (fun _ _ _ h => h) (by rfl) ?_ (by assumption) ?_
                  · intro w hSw; obtain ⟨q1, q2, q3, q4⟩ := hSw; go_simp
                  try simp only [Act.put, List.setIfInBounds_toArray, List.set_cons_zero, List.set_cons_succ]
                  refine takeYes (i := 4) (v := .bool true) rfl (by kernel_rfl) (by kernel_rfl) (by kernel_rfl) (fun _ _ _ h => h) (by rfl) ?_ (by assumption) ?_
                  · intro w hSw; obtain ⟨q1, q2, q3, q4⟩ := hSw; go_simp
                  try simp only [Act.put, List.setIfInBounds_toArray, List.set_cons_zero, List.set_cons_succ]
                  refine takeYes (i := 5) (v := .slice (some ⟨b, off, none⟩) ps.length cap) rfl (by kernel_rfl) (by kernel_rfl) (by kernel_rfl) (fun _ _ _ h => h) (by rfl) ?_ (by assumption) ?_
                  · intro w hSw; obtain ⟨q1, q2, q3, q4⟩ := hSw; go_simp
                  try simp only [Act.put, List.setIfInBounds_toArray, List.set_cons_zero, List.set_cons_succ]
                  refine takeYes (i := 6) (v := .int .i64 (k : Int)) rfl (by kernel_rfl) (by kernel_rfl) (by kernel_rfl) (fun _ _ _ h => h) (by rfl) ?_ (by assumption) ?_
                  · intro w hSw; obtain ⟨q1, q2, q3, q4⟩ := hSw; go_simp
                  try simp only [Act.put, List.setIfInBounds_toArray, List.set_cons_zero, List.set_cons_succ]
                  refine takeYes (i := 7) (v := .pointer (some ⟨b, off + k * 4, none⟩)) rfl (by kernel_rfl) (by kernel_rfl) (by kernel_rfl) (fun _ _ _ h => h) (by rfl) ?_ (by assumption) ?_
                  · intro w hSw; obtain ⟨q1, q2, q3, q4⟩ := hSw; go_simp
                  try simp only [Act.put, List.setIfInBounds_toArray, List.set_cons_zero, List.set_cons_succ]
                  refine takeYes (i := 8) (v := .agg #[.int .i64 4, .int .u8 (xb.toNat : Int), .bool xn, .slice ua xr.length uc]) rfl (by kernel_rfl) (by kernel_rfl) (by kernel_rfl) (fun _ _ _ h => h) (by rfl) ?_ (by assumption) ?_
                  · intro w hSw; obtain ⟨q1, q2, q3, q4⟩ := hSw; go_simp
                  try simp only [Act.put, List.setIfInBounds_toArray, List.set_cons_zero, List.set_cons_succ]
                  refine takeYes (i := 9) (v := .string s) rfl (by kernel_rfl) (by kernel_rfl) (by kernel_rfl) (fun _ _ _ h => h) (by rfl) ?_ (by assumption) ?_
                  · intro w hSw; obtain ⟨q1, q2, q3, q4⟩ := hSw; go_simp
                  try simp only [Act.put, List.setIfInBounds_toArray, List.set_cons_zero, List.set_cons_succ]
                  refine takeYes (i := 10) (v := .int .i64 (i : Int)) rfl (by kernel_rfl) (by kernel_rfl) (by kernel_rfl) (fun _ _ _ h => h) (by rfl) ?_ (by assumption) ?_
                  · intro w hSw; obtain ⟨q1, q2, q3, q4⟩ := hSw; go_simp
                  try simp only [Act.put, List.setIfInBounds_toArray, List.set_cons_zero, List.set_cons_succ]
                  refine takeYes (i := 11) (v := .int .u8 (s[i].toNat : Int)) rfl (by kernel_rfl) (by kernel_rfl) (by kernel_rfl) (fun _ _ _ h => h) (by rfl) ?_ (by assumption) ?_
                  · intro w hSw; obtain ⟨q1, q2, q3, q4⟩ := hSw; go_simp
                  try simp only [Act.put, List.setIfInBounds_toArray, List.set_cons_zero, List.set_cons_succ]
                  refine wpAnyH_ready (rs := [12]) (by kernel_rfl) (by simp) ?_
                  refine AllReadyH.cons rfl (fun K hK => ?_) AllReadyH.nil
                  go_simp
                  (go_at_call 76; (with_reducible refine (fits_is ⟨4, xb, xn, xr⟩ _ s[i] _ hrduD hrl true HFB.out).mono ?_); rintro e wy ⟨rfl, hby⟩)
                  go_wp2_with fail
                  refine hK.out _ _ ?_ (fun hHeld => ?_)
                  · exact ⟨bel_cell hby c1, bel_cell hby c2, bel_cell hby c3, bel_cell hby c4⟩
                  clear hK K
                  try simp only [Act.put, List.setIfInBounds_toArray, List.set_cons_zero, List.set_cons_succ]
                  refine takeYes (i := 13) (v := .bool true) rfl (by kernel_rfl) (by kernel_rfl) (by kernel_rfl) (fun _ _ _ h => h) (by rfl) ?_ (by assumption) ?_
                  · intro w hSw; obtain ⟨q1, q2, q3, q4⟩ := hSw; go_simp
                  try simp only [Act.put, List.setIfInBounds_toArray, List.set_cons_zero, List.set_cons_succ]
                  refine takeYes (i := 14) (v := .bool true) rfl (by kernel_rfl) (by kernel_rfl) (by kernel_rfl) (fun _ _ _ h => h) (by rfl) ?_ (by assumption) ?_
                  · intro w hSw; obtain ⟨q1, q2, q3, q4⟩ := hSw; go_simp
                  try simp only [Act.put, List.setIfInBounds_toArray, List.set_cons_zero, List.set_cons_succ]
                  refine takeYes (i := 15) (v := .slice (some ⟨b, off, none⟩) ps.length cap) rfl (by kernel_rfl) (by kernel_rfl) (by kernel_rfl) (fun _ _ _ h => h) (by rfl) ?_ (by assumption) ?_
                  · intro w hSw; obtain ⟨q1, q2, q3, q4⟩ := hSw; go_simp
                  try simp only [Act.put, List.setIfInBounds_toArray, List.set_cons_zero, List.set_cons_succ]
                  refine takeYes (i := 16) (v := .int .i64 (k : Int)) rfl (by kernel_rfl) (by kernel_rfl) (by kernel_rfl) (fun _ _ _ h => h) (by rfl) ?_ (by assumption) ?_
                  · intro w hSw; obtain ⟨q1, q2, q3, q4⟩ := hSw; go_simp
                  try simp only [Act.put, List.setIfInBounds_toArray, List.set_cons_zero, List.set_cons_succ]
                  refine takeYes (i := 17) (v := .pointer (some ⟨b, off + k * 4, none⟩)) rfl (by kernel_rfl) (by kernel_rfl) (by kernel_rfl) (fun _ _ _ h => h) (by rfl) ?_ (by assumption) ?_
                  · intro w hSw; obtain ⟨q1, q2, q3, q4⟩ := hSw; go_simp
                  try simp only [Act.put, List.setIfInBounds_toArray, List.set_cons_zero, List.set_cons_succ]
                  refine takeYes (i := 18) (v := .pointer (some ⟨b, off + k * 4, none⟩)) rfl (by kernel_rfl) (by kernel_rfl) (by kernel_rfl) (fun _ _ _ h => h) (by rfl) ?_ (by assumption) ?_
                  · intro w hSw; obtain ⟨q1, q2, q3, q4⟩ := hSw; go_simp
                  try simp only [Act.put, List.setIfInBounds_toArray, List.set_cons_zero, List.set_cons_succ]
                  refine takeYes (i := 19) (v := .int .i64 4) rfl (by kernel_rfl) (by kernel_rfl) (by kernel_rfl) (fun _ _ _ h => h) (by rfl) ?_ (by assumption) ?_
                  · intro w hSw; obtain ⟨q1, q2, q3, q4⟩ := hSw; go_simp
                  try simp only [Act.put, List.setIfInBounds_toArray, List.set_cons_zero, List.set_cons_succ]
                  refine takeYes (i := 20) (v := .bool false) rfl (by kernel_rfl) (by kernel_rfl) (by kernel_rfl) (fun _ _ _ h => h) (by rfl) ?_ (by assumption) ?_
                  · intro w hSw; obtain ⟨q1, q2, q3, q4⟩ := hSw; go_simp
                  try simp only [Act.put, List.setIfInBounds_toArray, List.set_cons_zero, List.set_cons_succ]
                  refine takeYes (i := 21) (v := .bool false) rfl (by kernel_rfl) (by kernel_rfl) (by kernel_rfl) (fun _ _ _ h => h) (by rfl) ?_ (by assumption) ?_
                  · intro w hSw; obtain ⟨q1, q2, q3, q4⟩ := hSw; go_simp
                  try simp only [Act.put, List.setIfInBounds_toArray, List.set_cons_zero, List.set_cons_succ]
                  refine takeYes (i := 22) (v := .func (.func 57) #[] #[]) rfl (by kernel_rfl) (by kernel_rfl) (by kernel_rfl) (fun _ _ _ h => h) (by rfl) ?_ (by assumption) ?_
                  · intro w hSw; obtain ⟨q1, q2, q3, q4⟩ := hSw; go_simp
                  try simp only [Act.put, List.setIfInBounds_toArray, List.set_cons_zero, List.set_cons_succ]
                  refine takeYes (i := 23) (v := .int .i64 (i : Int)) rfl (by kernel_rfl) (by kernel_rfl) (by kernel_rfl) (fun _ _ _ h => h) (by rfl) ?_ (by assumption) ?_
                  · intro w hSw; obtain ⟨q1, q2, q3, q4⟩ := hSw; go_simp
                  try simp only [Act.put, List.setIfInBounds_toArray, List.set_cons_zero, List.set_cons_succ]
                  refine wpAnyH_ready (rs := [24]) (by kernel_rfl) (by simp) ?_
                  refine AllReadyH.cons rfl (fun K hK => ?_) AllReadyH.nil
                  go_simp
                  (go_at_call 57; (with_reducible refine (hard_no _ _).mono ?_); rintro e wz ⟨rfl, rfl⟩)
                  go_wp2_with fail
                  refine hK.out _ _ ?_ (fun hHeld => ?_)
                  · assumption
                  clear hK K
                  try simp only [Act.put, List.setIfInBounds_toArray, List.set_cons_zero, List.set_cons_succ]
                  refine takeYes (i := 25) (v := .bool true) rfl (by kernel_rfl) (by kernel_rfl) (by kernel_rfl) (fun _ _ _ h => h) (by rfl) ?_ (by assumption) ?_
                  · intro w hSw; obtain ⟨q1, q2, q3, q4⟩ := hSw; go_simp
                  try simp only [Act.put, List.setIfInBounds_toArray, List.set_cons_zero, List.set_cons_succ]
                  refine takeYes (i := 26) (v := .bool true) rfl (by kernel_rfl) (by kernel_rfl) (by kernel_rfl) (fun _ _ _ h => h) (by rfl) ?_ (by assumption) ?_
                  · intro w hSw; obtain ⟨q1, q2, q3, q4⟩ := hSw; go_simp
                  try simp only [Act.put, List.setIfInBounds_toArray, List.set_cons_zero, List.set_cons_succ]
                  refine takeYes (i := 27) (v := .bool true) rfl (by kernel_rfl) (by kernel_rfl) (by kernel_rfl) (fun _ _ _ h => h) (by rfl) ?_ (by assumption) ?_
                  · intro w hSw; obtain ⟨q1, q2, q3, q4⟩ := hSw; go_simp
                  try simp only [Act.put, List.setIfInBounds_toArray, List.set_cons_zero, List.set_cons_succ]
                  refine wpAnyH_done (by kernel_rfl) ?_ _
                  go_wp2_with fail
                  go_meet
                  exact ⟨by rw [HFB.out], hby⟩
            case rest =>
              obtain ⟨rfl, hbx⟩ := hcut
              have HX2 := HX.out
              cases hf : fitsB ⟨kd, xb, xn, xr⟩ s[i]
              · have HNS' := hid (show ∀ hk : k < (ps.map Prod.fst).length, isStar (ps.map Prod.fst)[k] = false from fun _ => HNS.out)
                have HNF := hid (show ∀ hk : k < (ps.map Prod.fst).length, fitsB (ps.map Prod.fst)[k] s.data.toList[i] = false from fun _ => by rw [HX2, HSI.out]; exact hf)
                clear HX2 hf
                have hb := hb.drew.trans (hbx.mono hsz)
                clear hbx
                by_cases hs0 : st = 0
                · have hneg : sv < 0 := by have := HSV.out; omega
                  have hM : M (ps.map Prod.fst) s.data.toList = false := by subst hs0; exact HG.out.fail hiL HNS'.out HNF.out
                  have HM := hid hM
                  clear hM HG
                  go_wp2_with fail
                  try rw [Exit.noGoto_ret]
                  go_ret
                  exact ⟨ret_bool HM.out.symm, hb⟩
                · have hnn : ¬ sv < 0 := by have := HSV.out; omega
                  have hsv0 : 0 ≤ sv := by omega
                  have hG' := HG.out.back hs0 hiL HNS'.out HNF.out
                  have HG2 := hid hG'
                  have hle := (HG.out.st_le).2 hs0
                  have hst1 : ((sv + 1 : Int)) = (st : Int) := by have := HSV.out; omega
                  have HST := hid hst1
                  have hkl : k ≤ ps.length := hk
                  clear hG' HG hs0 hst1
                  go_wp2_with (go_at_call 57; (with_reducible refine (hard_no _ _).mono ?_); rintro e wz ⟨rfl, rfl⟩)
                  go_roundg (meas s.size (ps.length + 1 - st) (s.size - (fr + 1)) (s.size - (fr + 1)))
                  case measure => exact meas_c (by omega) (by omega)
                  case rel => exact ⟨fr + 1, st, st, fr + 1, sv, by go_num, by rw [HST.out], rfl, by go_num, HG2, by omega, by omega, by omega, by omega, HSV, by omega, rfl, hb⟩
              · have hG' := HG.out.fit hkP hiL HNS.out (by rw [HX2, HSI.out]; exact hf)
                have HG2 := hid hG'
                have hbF := hb.drew.trans (hbx.mono hsz)
                clear hG' HG hf HX2 hbx
                go_wp2_with fail
                go_roundg (meas s.size (ps.length + 1 - st) (s.size - fr) (s.size - (i + 1)))
                case measure => exact meas_b (by omega)
                case rel => exact ⟨i + 1, k + 1, st, fr, sv, by go_num, by go_num, rfl, rfl, HG2, by omega, by omega, by omega, by omega, HSV, by omega, rfl, hbF⟩
      · have hge : decide (k < ps.length) = false := by simp; omega
        have HNS' := hid (show ∀ hk : k < (ps.map Prod.fst).length, isStar (ps.map Prod.fst)[k] = false from fun h => by simp at h; omega)
        have HNF := hid (show ∀ hk : k < (ps.map Prod.fst).length, fitsB (ps.map Prod.fst)[k] s.data.toList[i] = false from fun h => by simp at h; omega)
        clear hx
        go_upto_region 7 with fail
        go_cut [58] (fun v58 wx => v58 = .bool false ∧ Below wr.drew.heap.size wr.drew wx)
        case first =>
          refine wp_region_held_drew (S := fun _ => True) (by kernel_rfl) trivial (fun hHeld => ?_)
          refine takeYes (i := 0) (v := .int .i64 (k : Int)) rfl (by kernel_rfl) (by kernel_rfl) (by kernel_rfl) (fun _ _ _ h => h) (by rfl) ?_ trivial ?_
          · intro w hSw; go_simp
          try simp only [Act.put, List.setIfInBounds_toArray, List.set_cons_zero, List.set_cons_succ]
          refine takeYes (i := 1) (v := .slice A ps.length cap) rfl (by kernel_rfl) (by kernel_rfl) (by kernel_rfl) (fun _ _ _ h => h) (by rfl) ?_ trivial ?_
          · intro w hSw; go_simp
          try simp only [Act.put, List.setIfInBounds_toArray, List.set_cons_zero, List.set_cons_succ]
          refine takeYes (i := 2) (v := .int .i64 (ps.length : Int)) rfl (by kernel_rfl) (by kernel_rfl) (by kernel_rfl) (fun _ _ _ h => h) (by rfl) ?_ trivial ?_
          · intro w hSw; go_simp
          try simp only [Act.put, List.setIfInBounds_toArray, List.set_cons_zero, List.set_cons_succ]
          refine takeYes (i := 3) (v := .bool false) rfl (by kernel_rfl) (by kernel_rfl) (by kernel_rfl) (fun _ _ _ h => h) (by rfl) ?_ trivial ?_
          · intro w hSw; go_simp
          try simp only [Act.put, List.setIfInBounds_toArray, List.set_cons_zero, List.set_cons_succ]
          refine takeYes (i := 4) (v := .bool false) rfl (by kernel_rfl) (by kernel_rfl) (by kernel_rfl) (fun _ _ _ h => h) (by rfl) ?_ trivial ?_
          · intro w hSw; go_simp
          try simp only [Act.put, List.setIfInBounds_toArray, List.set_cons_zero, List.set_cons_succ]
          refine takeNo (i := 5) rfl (by kernel_rfl) (by kernel_rfl) (by kernel_rfl) (fun _ _ _ h => h) (by rfl) trivial ?_
          try simp only [Act.put, List.setIfInBounds_toArray, List.set_cons_zero, List.set_cons_succ]
          refine takeNo (i := 6) rfl (by kernel_rfl) (by kernel_rfl) (by kernel_rfl) (fun _ _ _ h => h) (by rfl) trivial ?_
          try simp only [Act.put, List.setIfInBounds_toArray, List.set_cons_zero, List.set_cons_succ]
          refine takeNo (i := 7) rfl (by kernel_rfl) (by kernel_rfl) (by kernel_rfl) (fun _ _ _ h => h) (by rfl) trivial ?_
          try simp only [Act.put, List.setIfInBounds_toArray, List.set_cons_zero, List.set_cons_succ]
          refine takeNo (i := 8) rfl (by kernel_rfl) (by kernel_rfl) (by kernel_rfl) (fun _ _ _ h => h) (by rfl) trivial ?_
          try simp only [Act.put, List.setIfInBounds_toArray, List.set_cons_zero, List.set_cons_succ]
          refine takeNo (i := 9) rfl (by kernel_rfl) (by kernel_rfl) (by kernel_rfl) (fun _ _ _ h => h) (by rfl) trivial ?_
          try simp only [Act.put, List.setIfInBounds_toArray, List.set_cons_zero, List.set_cons_succ]
          refine takeNo (i := 10) rfl (by kernel_rfl) (by kernel_rfl) (by kernel_rfl) (fun _ _ _ h => h) (by rfl) trivial ?_
          try simp only [Act.put, List.setIfInBounds_toArray, List.set_cons_zero, List.set_cons_succ]
          refine takeNo (i := 11) rfl (by kernel_rfl) (by kernel_rfl) (by kernel_rfl) (fun _ _ _ h => h) (by rfl) trivial ?_
          try simp only [Act.put, List.setIfInBounds_toArray, List.set_cons_zero, List.set_cons_succ]
          refine takeNo (i := 12) rfl (by kernel_rfl) (by kernel_rfl) (by kernel_rfl) (fun _ _ _ h => h) (by rfl) trivial ?_
          try simp only [Act.put, List.setIfInBounds_toArray, List.set_cons_zero, List.set_cons_succ]
          refine takeYes (i := 13) (v := .bool false) rfl (by kernel_rfl) (by kernel_rfl) (by kernel_rfl) (fun _ _ _ h => h) (by rfl) ?_ trivial ?_
          · intro w hSw; go_simp
          try simp only [Act.put, List.setIfInBounds_toArray, List.set_cons_zero, List.set_cons_succ]
          refine takeYes (i := 14) (v := .bool false) rfl (by kernel_rfl) (by kernel_rfl) (by kernel_rfl) (fun _ _ _ h => h) (by rfl) ?_ trivial ?_
          · intro w hSw; go_simp
          try simp only [Act.put, List.setIfInBounds_toArray, List.set_cons_zero, List.set_cons_succ]
          refine takeNo (i := 15) rfl (by kernel_rfl) (by kernel_rfl) (by kernel_rfl) (fun _ _ _ h => h) (by rfl) trivial ?_
          try simp only [Act.put, List.setIfInBounds_toArray, List.set_cons_zero, List.set_cons_succ]
          refine takeNo (i := 16) rfl (by kernel_rfl) (by kernel_rfl) (by kernel_rfl) (fun _ _ _ h => h) (by rfl) trivial ?_
          try simp only [Act.put, List.setIfInBounds_toArray, List.set_cons_zero, List.set_cons_succ]
          refine takeNo (i := 17) rfl (by kernel_rfl) (by kernel_rfl) (by kernel_rfl) (fun _ _ _ h => h) (by rfl) trivial ?_
          try simp only [Act.put, List.setIfInBounds_toArray, List.set_cons_zero, List.set_cons_succ]
          refine takeNo (i := 18) rfl (by kernel_rfl) (by kernel_rfl) (by kernel_rfl) (fun _ _ _ h => h) (by rfl) trivial ?_
          try simp only [Act.put, List.setIfInBounds_toArray, List.set_cons_zero, List.set_cons_succ]
          refine takeNo (i := 19) rfl (by kernel_rfl) (by kernel_rfl) (by kernel_rfl) (fun _ _ _ h => h) (by rfl) trivial ?_
          try simp only [Act.put, List.setIfInBounds_toArray, List.set_cons_zero, List.set_cons_succ]
          refine takeNo (i := 20) rfl (by kernel_rfl) (by kernel_rfl) (by kernel_rfl) (fun _ _ _ h => h) (by rfl) trivial ?_
          try simp only [Act.put, List.setIfInBounds_toArray, List.set_cons_zero, List.set_cons_succ]
          refine takeNo (i := 21) rfl (by kernel_rfl) (by kernel_rfl) (by kernel_rfl) (fun _ _ _ h => h) (by rfl) trivial ?_
          try simp only [Act.put, List.setIfInBounds_toArray, List.set_cons_zero, List.set_cons_succ]
          refine takeNo (i := 22) rfl (by kernel_rfl) (by kernel_rfl) (by kernel_rfl) (fun _ _ _ h => h) (by rfl) trivial ?_
          try simp only [Act.put, List.setIfInBounds_toArray, List.set_cons_zero, List.set_cons_succ]
          refine takeNo (i := 23) rfl (by kernel_rfl) (by kernel_rfl) (by kernel_rfl) (fun _ _ _ h => h) (by rfl) trivial ?_
          try simp only [Act.put, List.setIfInBounds_toArray, List.set_cons_zero, List.set_cons_succ]
          refine takeNo (i := 24) rfl (by kernel_rfl) (by kernel_rfl) (by kernel_rfl) (fun _ _ _ h => h) (by rfl) trivial ?_
          try simp only [Act.put, List.setIfInBounds_toArray, List.set_cons_zero, List.set_cons_succ]
          refine takeNo (i := 25) rfl (by kernel_rfl) (by kernel_rfl) (by kernel_rfl) (fun _ _ _ h => h) (by rfl) trivial ?_
          try simp only [Act.put, List.setIfInBounds_toArray, List.set_cons_zero, List.set_cons_succ]
          refine takeNo (i := 26) rfl (by kernel_rfl) (by kernel_rfl) (by kernel_rfl) (fun _ _ _ h => h) (by rfl) trivial ?_
          try simp only [Act.put, List.setIfInBounds_toArray, List.set_cons_zero, List.set_cons_succ]
          refine takeYes (i := 27) (v := .bool false) rfl (by kernel_rfl) (by kernel_rfl) (by kernel_rfl) (fun _ _ _ h => h) (by rfl) ?_ trivial ?_
          · intro w hSw; go_simp
          try simp only [Act.put, List.setIfInBounds_toArray, List.set_cons_zero, List.set_cons_succ]
          refine wpAnyH_done (by kernel_rfl) ?_ _
          go_wp2_with fail
          go_meet
          exact ⟨rfl, Below.refl _ _⟩
        case rest =>
          obtain ⟨rfl, hbx⟩ := hcut
          have hb := hb.drew.trans (hbx.mono hsz)
          clear hbx
          by_cases hs0 : st = 0
          · have hneg : sv < 0 := by have := HSV.out; omega
            have hM : M (ps.map Prod.fst) s.data.toList = false := by subst hs0; exact HG.out.fail hiL HNS'.out HNF.out
            have HM := hid hM
            clear hM HG
            go_wp2_with fail
            try rw [Exit.noGoto_ret]
            go_ret
            exact ⟨ret_bool HM.out.symm, hb⟩
          · have hnn : ¬ sv < 0 := by have := HSV.out; omega
            have hsv0 : 0 ≤ sv := by omega
            have hG' := HG.out.back hs0 hiL HNS'.out HNF.out
            have HG2 := hid hG'
            have hle := (HG.out.st_le).2 hs0
            have hst1 : ((sv + 1 : Int)) = (st : Int) := by have := HSV.out; omega
            have HST := hid hst1
            have hkl : k ≤ ps.length := hk
            clear hG' HG hs0 hst1
            go_wp2_with (go_at_call 57; (with_reducible refine (hard_no _ _).mono ?_); rintro e wz ⟨rfl, rfl⟩)
            go_roundg (meas s.size (ps.length + 1 - st) (s.size - (fr + 1)) (s.size - (fr + 1)))
            case measure => exact meas_c (by omega) (by omega)
            case rel => exact ⟨fr + 1, st, st, fr + 1, sv, by go_num, by rw [HST.out], rfl, by go_num, HG2, by omega, by omega, by omega, by omega, HSV, by omega, rfl, hb⟩
    · obtain rfl : i = s.size := by omega
      have hG' := HG.out
      rw [← HLEN.out] at hG'
      have HD := hid hG'.done
      clear hG' HG hit
      go_wp2_with fail
      go_loopg [8] (ps.length - k) (fun g vk wr' => ∃ k' : Nat, vk = .int .i64 k' ∧ k' ≤ ps.length ∧ Hid (M (ps.map Prod.fst) s.data.toList = M ((ps.map Prod.fst).drop k') []) ∧ g = ps.length - k' ∧ wr = wr')
      case atStart => exact ⟨k, rfl, hk, HD, rfl, rfl⟩
      case round =>
        obtain ⟨k', rfl, hk', HD, rfl, rfl⟩ := hrel
        by_cases hkt : k' < ps.length
        · rcases hx with hx | ⟨b, off, rfl, hc⟩
          · exact (itc_ne hkt hx).elim
          · have c1 := ((show At w b off (itc ps) from hc).below hb |>.it k' hkt).1
            have hkP : k' < (ps.map Prod.fst).length := by simpa using hkt
            have HPK := hid (show (ps.map Prod.fst)[k'] = ps[k'].1 by simp)
            have hi0 : (0 : Int) ≤ (k' : Int) := Int.natCast_nonneg _
            have hi1 : (k' : Int) < (ps.length : Int) := by omega
            clear hc
            generalize ps[k'] = pk at *
            by_cases h3 : pk.1.kind = 3
            · have hM := HD.out
              rw [ends_star _ _ hkP (by rw [HPK.out]; simp [isStar, h3])] at hM
              have HM := hid hM
              rw [h3] at c1
              clear hM HD h3
              go_wp2_with fail
              go_roundg (ps.length - (k' + 1))
              case measure => omega
              case rel => exact ⟨k' + 1, by go_num, by omega, HM, rfl, rfl⟩
            · have e3 : (pk.1.kind == 3) = false := by simpa using h3
              have hM := HD.out
              rw [ends_no _ _ hkP (by rw [HPK.out]; simpa [isStar] using h3)] at hM
              have HM := hid hM
              have hne : ((k' : Int) == (ps.length : Int)) = false := by simp; omega
              clear hM HD h3
              go_wp2_with fail
              try rw [Exit.noGoto_ret]
              go_ret
              exact ⟨ret_bool HM.out.symm, hb⟩
        · obtain rfl : k' = ps.length := by omega
          have hM := HD.out
          rw [show ps.length = (ps.map Prod.fst).length by simp, ends_yes] at hM
          have HM := hid hM
          clear hM HD
          go_wp2_with fail
          try rw [Exit.noGoto_ret]
          go_ret
          exact ⟨ret_bool HM.out.symm, hb⟩
set_option maxHeartbeats 400000 in
theorem match_any (v : Value) (p : List It) (s : ByteArray) (w : World) (h : RdI w v p) (hp : p.length ≤ 100000) (hs : s.size ≤ 100000) (hr : ∀ x ∈ p, x.rs.length ≤ 1000000) :
    Calls Tryd.prog 36 #[v, .string s] w fun e w' => e = .returned (.bool (M p s.data.toList)) ∧ Below w.heap.size w w' := by
  go_enter Tryd.func36, Tryd.ntmps36
  go_wp2_with fail
  ((with_reducible refine (matches_any v p s _ h hp hs hr).mono ?_); rintro e w1 ⟨rfl, hb⟩)
  go_wp2_with fail
  go_ret
  exact ⟨rfl, hb⟩
end Go.Proofs.YthnmdhcgnimdfaaDoor
