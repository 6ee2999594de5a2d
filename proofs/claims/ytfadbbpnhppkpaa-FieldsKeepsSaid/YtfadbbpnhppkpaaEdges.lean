/- The walk of FieldsEdges: it returns true at every input; with the plain law beneath it. No condition but that lengths fit an int. -/
import Derived.Test.YtfadbbpnhppkpaaEnds
import Derived.Deep.RegionHeld3
set_option linter.unusedVariables false
set_option linter.unusedSimpArgs false
namespace Go.Proofs.Ytfadbbpnhppkpaa
open Go.RowKit
attribute [local go_sem ↓] Go.wp_at_zero Go.wp_at_succ

theorem blank_iff (e : UInt8) : blankB e = true ↔ e = 32 ∨ e = 9 ∨ e = 10 := by
  simp only [blankB, hasB, List.any_cons, List.any_nil, Bool.or_false, Bool.or_eq_true, beq_iff_eq]
  constructor <;> (rintro (h | h | h) <;> simp [h])
theorem in_list (t : List UInt8) (c : UInt8) (w : World) (b : Bool) (hb : hasB t c = b) (hs : t.length ≤ 9223372036854775807) :
    Calls Try.prog 10 #[.string ⟨t.toArray⟩, .int .u8 (c.toNat : Int)] w fun e w' => e = .returned (.bool b) ∧ w = w' :=
  (in_any ⟨t.toArray⟩ c w (by simpa [ByteArray.size] using hs)).mono fun e w' ⟨he, hw⟩ => ⟨by rw [he]; exact ret_bool hb, hw⟩
def strV (t : List UInt8) : Value := .string ⟨t.toArray⟩
/-- texts with an edge behind each -/
def edged (e : UInt8) (l : List (List UInt8)) : List UInt8 := l.flatMap fun t => t ++ [e]
theorem edged_snoc (e : UInt8) (l : List (List UInt8)) (k : Nat) (h : k < l.length) : edged e (l.take (k + 1)) = edged e (l.take k) ++ (l[k] ++ [e]) := by
  unfold edged; rw [List.take_succ_eq_append_getElem h, List.flatMap_append]; simp
theorem edged_len (e : UInt8) (n : Nat) (l : List (List UInt8)) (h : ∀ t ∈ l, t.length ≤ n) : (edged e l).length ≤ l.length * (n + 1) := by
  induction l with
  | nil => simp [edged]
  | cons a r ih =>
    have := ih fun t ht => h t (List.mem_cons_of_mem _ ht)
    have h1 := h a (List.mem_cons_self ..)
    simp only [edged, List.flatMap_cons, List.length_append, List.length_cons, List.length_nil] at this ⊢
    rw [Nat.add_mul]; omega

theorem str_app2' (a b : List UInt8) (c : Array UInt8) : (((⟨a.toArray⟩ : ByteArray) ++ (⟨b.toArray⟩ : ByteArray)) ++ (⟨c⟩ : ByteArray)) = ⟨(a ++ (b ++ c.toList)).toArray⟩ := by
  apply ByteArray.ext; simp [ByteArray.data_append]
theorem run_text (ifs t : List UInt8) (h : ∀ c ∈ t, hasB ifs c = false) : ∀ s : St, run ifs s (softBits t) = if t = [] then s else ⟨s.out, some (s.now.getD [] ++ t.map (·, false)), false⟩ := by
  induction t with
  | nil => intro s; rfl
  | cons c r ih =>
    intro s
    have h1 : softB ifs (2, c) = false := by simp [softB, h c (List.mem_cons_self ..)]
    have e : run ifs s (softBits (c :: r)) = run ifs (step ifs s (2, c)) (softBits r) := rfl
    rw [e, ih fun c hc => h c (List.mem_cons_of_mem _ hc), step_byte ifs s 2 c (by rfl) h1, if_neg (show ¬ (c :: r = []) by simp)]
    split
    · next hr => subst hr; rfl
    · simp
theorem run_edge (e : UInt8) (hb : blankB e = false) (t : List UInt8) (h : hasB t e = false) (out) : run [e] ⟨out, none, false⟩ (softBits (t ++ [e])) = ⟨out ++ [t.map (·, false)], none, false⟩ := by
  have ht : ∀ c ∈ t, hasB [e] c = false := by
    intro c hc
    simp only [hasB, List.any_cons, List.any_nil, Bool.or_false]
    rw [beq_eq_false_iff_ne]
    rintro rfl
    simp only [hasB, List.any_eq_false] at h
    exact h e hc (by simp)
  rw [softBits_append, run_append, run_text [e] t ht]
  have he : hasB [e] e = true := by simp [hasB]
  show step [e] _ (2, e) = _
  rw [step_edge [e] _ e he hb]
  split
  · next hr => subst hr; rfl
  · rfl
theorem run_edges (e : UInt8) (hb : blankB e = false) (l : List (List UInt8)) (h : ∀ t ∈ l, hasB t e = false) : ∀ out, run [e] ⟨out, none, false⟩ (softBits (edged e l)) = ⟨out ++ l.map (fun t => t.map (·, false)), none, false⟩ := by
  induction l with
  | nil => intro out; simp [edged, softBits, run]
  | cons t r ih =>
    intro out
    have e1 : edged e (t :: r) = (t ++ [e]) ++ edged e r := by simp [edged]
    rw [e1, softBits_append, run_append, run_edge e hb t (h t (List.mem_cons_self ..)), ih fun t ht => h t (List.mem_cons_of_mem _ ht)]
    simp
theorem edges_law (e : UInt8) (l : List (List UInt8)) (hb : blankB e = false) (h : ∀ t ∈ l, hasB t e = false) : softOf [e] (edged e l) = edged 0 l := by
  unfold softOf split
  rw [run_edges e hb l h]
  simp only [fin, Option.toList, List.append_nil, List.nil_append, cat0, edged, List.flatMap_map]
  congr 1
  funext t
  simp [tail0, Function.comp_def]
theorem edges_one (s : List UInt8) : (split [] (softBits s)).length = min s.length 1 := by
  unfold split
  rw [run_text [] s (fun c _ => rfl)]
  split
  · next h => subst h; rfl
  · next h => 
    have : 0 < s.length := List.length_pos_iff.2 h
    simp [fin]; omega

set_option maxRecDepth 100000 in
set_option maxHeartbeats 2000000 in
theorem edges_any (v : Value) (l : List (List UInt8)) (e : UInt8) (w : World) (h : Rd w v l.length (l.map strV)) (hl9 : l.length ≤ 9223372036854775807) (hs9 : ∀ t ∈ l, t.length ≤ 9223372036854775807) :
    Calls Try.prog 4 #[v, .int .u8 (e.toNat : Int)] w fun e w' => e = .returned (.bool true) ∧ Below w.heap.size w w' := by
  obtain ⟨A, cap, rfl, hcap, hx⟩ := h.open_
  clear h
  by_cases h1 : 20 < l.length
  · go_enter Try.func4, Try.ntmps4
    go_wp2_with (go_at_call 8; refine (awake_any _).mono ?_; rintro e w1 ⟨rfl, hb1⟩)
    go_ret
    exact ⟨rfl, hb1⟩
  by_cases h2 : blankB e = true
  · have h3 : e = 32 ∨ e = 9 ∨ e = 10 := (blank_iff e).1 h2
    rcases h3 with rfl | rfl | rfl
    all_goals
      go_enter Try.func4, Try.ntmps4
      go_wp2_with (go_at_call 8; refine (awake_any _).mono ?_; rintro e w1 ⟨rfl, hb1⟩)
      go_ret
      exact ⟨rfl, hb1⟩
  have h3 : e ≠ 32 ∧ e ≠ 9 ∧ e ≠ 10 := ⟨fun h => h2 ((blank_iff e).2 (.inl h)), fun h => h2 ((blank_iff e).2 (.inr (.inl h))), fun h => h2 ((blank_iff e).2 (.inr (.inr h)))⟩
  obtain ⟨g1, g2, g3⟩ := h3
  have f1 : ((e.toNat : Int) == 32) = false := by rw [show (32 : Int) = ((32 : UInt8).toNat : Int) from rfl, u8_eq]; simpa using g1
  have f2 : ((e.toNat : Int) == 9) = false := by rw [show (9 : Int) = ((9 : UInt8).toNat : Int) from rfl, u8_eq]; simpa using g2
  have f3 : ((e.toNat : Int) == 10) = false := by rw [show (10 : Int) = ((10 : UInt8).toNat : Int) from rfl, u8_eq]; simpa using g3
  have d1 : decide ((20 : Int) < (l.length : Int)) = false := by simp; omega
  clear g1 g2 g3
  go_enter Try.func4, Try.ntmps4
  go_wp2
  go_loopw [5, 6, 7] (fun s want i wr => ∃ k : Nat, k ≤ l.length ∧ i = .int .i64 k ∧ s = .string ⟨(edged e (l.take k)).toArray⟩ ∧ want = .string ⟨(edged 0 (l.take k)).toArray⟩ ∧ (∀ t ∈ l.take k, t.length ≤ 20 ∧ hasB t e = false) ∧ Below w.heap.size w wr) (fun _ _ i _ => l.length - (intOf i).toNat)
  case atStart => exact ⟨0, Nat.zero_le _, rfl, rfl, rfl, fun t ht => by simp at ht, Below.refl _ _⟩
  case round =>
    obtain ⟨k, hk, rfl, rfl, rfl, hall, hb⟩ := hrel
    by_cases hlt : k < l.length
    · rcases hx with hx | ⟨b, off, rfl, hc⟩
      · simp at hx; rw [hx] at hlt; simp at hlt
      · have hbw := hc.lt (by simp; omega)
        have hc1 := (hc.below hb) k (strV l[k]) (by simp [List.getElem?_eq_getElem hlt])
        have hS1 := hid (edged_snoc e l k hlt)
        have hS0 := hid (edged_snoc 0 l k hlt)
        have hA := hid hall
        have hsz9 := hs9 l[k] (List.getElem_mem hlt)
        have htk := hid (List.take_succ_eq_append_getElem hlt)
        have hL1 := edged_len e 20 (l.take k) (fun t ht => (hall t ht).1)
        have hL0 := edged_len 0 20 (l.take k) (fun t ht => (hall t ht).1)
        have htl : (l.take k).length ≤ 20 := by have := List.length_take_le k l; omega
        have hL1' : (edged e (l.take k)).length ≤ 20 * 21 := Nat.le_trans hL1 (Nat.mul_le_mul_right _ htl)
        have hL0' : (edged 0 (l.take k)).length ≤ 20 * 21 := Nat.le_trans hL0 (Nat.mul_le_mul_right _ htl)
        clear hall hL1 hL0 htl hc
        generalize l[k] = t at *
        generalize edged e (l.take k) = se at *
        generalize edged 0 (l.take k) = s0 at *
        unfold strV at hc1
        by_cases h20 : 20 < t.length
        · go_wp2_with (go_at_call 8; refine (awake_any _).mono ?_; rintro e w1 ⟨rfl, hb1⟩)
          go_ret
          exact ⟨rfl, hb.trans (hb1.mono hb.size)⟩
        · have d20 : decide ((20 : Int) < (t.length : Int)) = false := by simp; omega
          cases hh : hasB t e with
          | true =>
            have HH := hid hh
            clear hh
            go_wp2_with fail
            refine (in_list t e _ true HH.out hsz9).mono ?_; rintro e w1 ⟨rfl, rfl⟩
            go_wp2_with (go_at_call 8; refine (awake_any _).mono ?_; rintro e w1 ⟨rfl, hb1⟩)
            go_ret
            exact ⟨rfl, hb.trans (hb1.mono hb.size)⟩
          | false =>
            have HH := hid hh
            clear hh
            have hi0 : (0 : Int) ≤ (k : Int) := Int.natCast_nonneg _
            have hi1 : (k : Int) < (l.length : Int) := by omega
            have hcv := run_convert_bytes_back (P := Try.prog) ((wr.alloc (.cells #[.int .u8 (e.toNat : Int)] 5)).drew) 27 9 5 ⟨wr.heap.size, 0, none⟩ 1 [e] Try.underlying27 Try.underlying5 Try.underlying9 (fun j hj => by
              have hj0 : j = 0 := by simpa using hj
              subst hj0
              exact World.cell?_alloc_mark _ _ _ _ 0)
            simp only [List.length_cons, List.length_nil, Nat.zero_add] at hcv
            have HCV := hid hcv
            clear hcv
            go_wp2_with fail
            refine (in_list t e _ false HH.out hsz9).mono ?_; rintro e w1 ⟨rfl, rfl⟩
            go_wp2_with fail
            have hcv := HCV.out
            have q1 := al (o := .cells #[.int .u8 (e.toNat : Int)] 5) hc1
            have n1 : ¬ 9223372036854775807 < se.length + t.length := by omega
            have n2 : ¬ 9223372036854775807 < se.length + t.length + 1 := by omega
            go_region
            go_wp2
            go_roundw
            case rel =>
              refine ⟨k + 1, by omega, by go_num, by rw [hS1.out, str_app2'], by rw [hS0.out, str_app2'], ?_, (hb.alloc hb.size _).drew⟩
              intro u hu
              rw [htk.out, List.mem_append, List.mem_singleton] at hu
              rcases hu with hu | rfl
              · exact hA.out u hu
              · exact ⟨by omega, HH.out⟩
            case measure => simp [intOf]; omega
    · obtain rfl : k = l.length := by omega
      rw [List.take_length] at hall ⊢
      have hlaw := edges_law e l (Bool.eq_false_iff.2 h2) (fun t ht => (hall t ht).2)
      have hone := edges_one (edged e l)
      have hL1 := edged_len e 20 l (fun t ht => (hall t ht).1)
      have hL1' : (edged e l).length ≤ 20 * 21 := Nat.le_trans hL1 (Nat.mul_le_mul_right _ (by omega))
      clear hL1 hall
      have HLAW := hid hlaw
      have HONE := hid hone
      clear hlaw hone
      generalize edged e l = se at *
      generalize edged 0 l = s0 at *
      go_wp2_with fail
      refine (bits_any ⟨se.toArray⟩ 2 _ (by rw [size_arr]; omega)).mono ?_; rintro e1 w1 ⟨v1, rfl, hr1, hb1⟩
      go_wp2_with fail
      have hr1' : Rd w1 v1 (softBits se).length (bts (softBits se)) := by simpa [softBits, ByteArray.size] using hr1
      refine (split_any v1 (softBits se) ⟨#[]⟩ w1 hr1' (by simp [softBits]; omega)).mono ?_
      rintro e2 w2 ⟨N, v2, vs, rfl, hrows, hb2⟩
      have hln := hrows.ln
      obtain ⟨A2, cap2, rfl, _⟩ := Rd.of_own hrows.ro
      have hone : vs.length = min se.length 1 := by rw [hln]; exact HONE.out
      have hml : ∃ m : Nat, vs.length = m ∧ ((m = 0 ∧ se = []) ∨ (m = 1 ∧ 1 ≤ se.length)) := by
        refine ⟨_, rfl, ?_⟩
        rcases Nat.eq_zero_or_pos se.length with hz | hz
        · exact .inl ⟨by omega, List.length_eq_zero_iff.1 hz⟩
        · exact .inr ⟨by omega, hz⟩
      obtain ⟨m, hvm, hm⟩ := hml
      rw [hvm]
      clear hone hvm
      clear hrows hln hr1 hr1'
      have b1 := hb.trans (hb1.mono hb.size)
      have b2 := b1.trans (hb2.mono b1.size)
      have hcv := run_convert_bytes_back (P := Try.prog) (w2.alloc (.cells #[.int .u8 (e.toNat : Int)] 5)) 27 9 5 ⟨w2.heap.size, 0, none⟩ 1 [e] Try.underlying27 Try.underlying5 Try.underlying9 (fun j hj => by
        have hj0 : j = 0 := by simpa using hj
        subst hj0
        exact World.cell?_alloc_mark _ _ _ _ 0)
      simp only [List.length_cons, List.length_nil, Nat.zero_add] at hcv
      go_wp2_with fail
      refine (soft_eq ⟨se.toArray⟩ ⟨[e].toArray⟩ s0 _ (by rw [size_arr]; omega) HLAW.out).mono ?_; rintro e3 w3 ⟨rfl, hb3⟩
      have b3 := (b2.alloc b2.size _).trans (hb3.mono (by simp; have := b2.size; omega))
      clear hcv
      have hm2 : (m : Int) = min (se.length : Int) 1 := by
        rcases hm with ⟨rfl, rfl⟩ | ⟨rfl, h⟩
        · rfl
        · omega
      have HM2 := hid hm2
      clear hm2 hm
      go_wp2_with (go_at_call 8; refine (awake_any _).mono ?_; rintro e w4 ⟨rfl, hb4⟩)
      · go_ret
        exact ⟨rfl, b3.trans (hb4.mono b3.size)⟩
end Go.Proofs.Ytfadbbpnhppkpaa
