/- The walk of the law text soft: fields as texts with a byte 0 behind each, for up to 100000 bytes. -/
import Derived.Test.YtfadbbpnhppkpaaW3
set_option linter.unusedVariables false
set_option linter.unusedSimpArgs false
namespace Go.Proofs.Ytfadbbpnhppkpaa
open Go.RowKit

/-- a slice of slices of marked bytes -/
def RdR (w : World) (v : Value) (ll : List (List (UInt8 × Bool))) : Prop :=
  ∃ vs : List Value, vs.length = ll.length ∧ Rd w v vs.length vs ∧ ∀ (i : Nat) (u : Value) (l : List (UInt8 × Bool)), vs[i]? = some u → ll[i]? = some l → Rd w u l.length (chs l)
theorem RdR.below {w w' : World} {v : Value} {ll} (h : RdR w v ll) (hb : Below w.heap.size w w') : RdR w' v ll := by
  obtain ⟨vs, h1, h2, h3⟩ := h
  exact ⟨vs, h1, h2.below hb, fun i u l a b => (h3 i u l a b).below hb⟩
theorem RdR.of_rows {B N : Nat} {vo vn : Value} {vs : List Value} {out now} {w : World} (h : SRows B N vo vs vn out now w) : RdR w vo out :=
  ⟨vs, h.ln, Rd.of_own h.ro, fun i u l a b => Rd.of_own (h.rs i u l a b).1⟩

/-- fields as texts with a byte 0 behind each -/
def tail0 (l : List (UInt8 × Bool)) : List UInt8 := l.map Prod.fst ++ [0]
def cat0 (ll : List (List (UInt8 × Bool))) : List UInt8 := ll.flatMap tail0
def softBits (s : List UInt8) : List (Int × UInt8) := s.map fun c => (2, c)
def softOf (ifs s : List UInt8) : List UInt8 := cat0 (split ifs (softBits s))
theorem cat0_snoc (ll : List (List (UInt8 × Bool))) (k : Nat) (h : k < ll.length) : cat0 (ll.take (k + 1)) = cat0 (ll.take k) ++ tail0 ll[k] := by
  unfold cat0; rw [List.take_succ_eq_append_getElem h, List.flatMap_append]; simp
theorem cat0_len (n : Nat) (ll : List (List (UInt8 × Bool))) (h : ∀ l ∈ ll, l.length ≤ n) : (cat0 ll).length ≤ ll.length * (n + 1) := by
  induction ll with
  | nil => simp [cat0]
  | cons a r ih =>
    have := ih fun l hl => h l (List.mem_cons_of_mem _ hl)
    have h1 := h a (List.mem_cons_self ..)
    simp only [cat0, List.flatMap_cons, List.length_append, List.length_cons, tail0, List.length_map, List.length_nil] at this ⊢
    rw [Nat.add_mul]; omega
theorem split_len (ifs : List UInt8) (l : List (Int × UInt8)) : (split ifs l).length ≤ l.length := by
  have := run_len ifs l ⟨[], none, false⟩
  have h0 : (none : Option (List (UInt8 × Bool))).toList.length = 0 := rfl
  simp only [List.length_nil, h0] at this
  simp only [split, fin, List.length_append]; omega
/-- no field has more bytes than there were bits -/
theorem step_each (ifs : List UInt8) (n : Nat) (s : St) (b : Int × UInt8) (h : ∀ l ∈ s.out ++ s.now.toList, l.length ≤ n) : ∀ l ∈ (step ifs s b).out ++ (step ifs s b).now.toList, l.length ≤ n + 1 := by
  obtain ⟨out, now, af⟩ := s
  intro l hl
  have h' : ∀ l ∈ out ++ now.toList, l.length ≤ n + 1 := fun l hl => Nat.le_succ_of_le (h l hl)
  unfold step at hl
  cases now with
  | none =>
    (repeat' split at hl) <;> simp_all <;> (try rcases hl with hl | hl) <;> (try (have := h' l hl; omega)) <;> (try (subst hl; simp))
  | some m =>
    (repeat' split at hl) <;> simp_all <;> (try rcases hl with hl | hl) <;> (try (have := h' l (.inl hl); omega)) <;> (try (have := h m (.inr rfl); rw [hl]; simp; omega))
theorem run_each (ifs : List UInt8) (l : List (Int × UInt8)) : ∀ (n : Nat) (s : St), (∀ l ∈ s.out ++ s.now.toList, l.length ≤ n) → ∀ m ∈ (run ifs s l).out ++ (run ifs s l).now.toList, m.length ≤ n + l.length := by
  induction l with
  | nil => intro n s h; simpa [run] using h
  | cons b r ih =>
    intro n s h m hm
    have := ih (n + 1) (step ifs s b) (step_each ifs n s b h) m (by simpa [run] using hm)
    simp only [List.length_cons]; omega
theorem split_each (ifs : List UInt8) (l : List (Int × UInt8)) : ∀ m ∈ split ifs l, m.length ≤ l.length := by
  intro m hm
  have := run_each ifs l 0 ⟨[], none, false⟩ (by simp) m hm
  omega

theorem str_app (a b : List UInt8) : ((⟨a.toArray⟩ : ByteArray) ++ (⟨b.toArray⟩ : ByteArray)) = ⟨(a ++ b).toArray⟩ := by
  apply ByteArray.ext; simp [ByteArray.data_append]
theorem str_app3 (a b : List UInt8) (c : Array UInt8) : (((⟨a.toArray⟩ : ByteArray) ++ (⟨b.toArray⟩ : ByteArray)) ++ (⟨c⟩ : ByteArray)) = ⟨(a ++ b ++ c.toList).toArray⟩ := by
  apply ByteArray.ext; simp [ByteArray.data_append]
set_option maxHeartbeats 1000000 in
theorem soft_any (s ifs : ByteArray) (w : World) (hs : s.size ≤ 100000) :
    Calls Try.prog 9 #[.string s, .string ifs] w fun e w' => e = .returned (.string ⟨(softOf ifs.data.toList s.data.toList).toArray⟩) ∧ Below w.heap.size w w' := by
  go_enter Try.func9, Try.ntmps9
  go_wp2_with fail
  refine (bits_any s 2 _ (by omega)).mono ?_; rintro e w1 ⟨v1, rfl, hr1, hb1⟩
  go_wp2_with fail
  have hr1' : Rd w1 v1 (softBits s.data.toList).length (bts (softBits s.data.toList)) := by simpa [softBits] using hr1
  refine (split_any v1 (softBits s.data.toList) ifs w1 hr1' (by simpa [softBits] using hs)).mono ?_
  rintro e w2 ⟨N, v2, vs, rfl, hrows, hb2⟩
  have hR := RdR.of_rows hrows
  have hB := hb1.trans (hb2.mono hb1.size)
  have hE := split_each ifs.data.toList (softBits s.data.toList)
  have hL := split_len ifs.data.toList (softBits s.data.toList)
  have hn : (softBits s.data.toList).length ≤ 100000 := by simpa [softBits] using hs
  have HSO := hid (show softOf ifs.data.toList s.data.toList = cat0 (split ifs.data.toList (softBits s.data.toList)) from rfl)
  generalize split ifs.data.toList (softBits s.data.toList) = ll at *
  clear hr1 hr1' hrows hb1 hb2
  obtain ⟨us, hul, hru, hus⟩ := hR
  have hlen : ll.length ≤ 100000 := by omega
  have hUl := hid hul
  have hE2 : ∀ l ∈ ll, l.length ≤ 100000 := fun l hl => Nat.le_trans (hE l hl) hn
  obtain ⟨A, cap, rfl, hcap, hx⟩ := hru.open_
  clear hE hru
  rw [hul] at hcap
  rw [hul]
  clear hul
  go_wp2_with fail
  go_loopw [6, 7] (fun o i wr => ∃ k : Nat, k ≤ ll.length ∧ i = .int .i64 k ∧ o = .string ⟨(cat0 (ll.take k)).toArray⟩ ∧ Below w2.heap.size w2 wr) (fun _ i _ => ll.length - (intOf i).toNat)
  case atStart => exact ⟨0, Nat.zero_le _, rfl, rfl, Below.refl _ _⟩
  case round =>
    obtain ⟨k, hk, rfl, rfl, hb⟩ := hrel
    by_cases hlt : k < ll.length
    · have hku : k < us.length := by rw [hUl.out]; exact hlt
      rcases hx with hx | ⟨b, off, rfl, hc⟩
      · rw [hx] at hku; simp at hku
      · have hc1 := (hc.below hb) k us[k] (List.getElem?_eq_getElem hku)
        have hrk := (hus k us[k] ll[k] (List.getElem?_eq_getElem hku) (List.getElem?_eq_getElem hlt)).below hb
        generalize us[k] = u at *
        have hel := hE2 ll[k] (List.getElem_mem hlt)
        have hcl := cat0_len 100000 (ll.take k) (fun l hl => hE2 l (List.mem_of_mem_take hl))
        have hcl2 : (cat0 (ll.take k)).length ≤ 100000 * 100001 := by
          have : (ll.take k).length ≤ 100000 := by have := List.length_take_le k ll; omega
          exact Nat.le_trans hcl (Nat.mul_le_mul_right _ this)
        have HS := hid (cat0_snoc ll k hlt)
        obtain ⟨au, cu, rfl⟩ : ∃ a c, u = .slice a ll[k].length c := by obtain ⟨a, c, h, _⟩ := hrk; exact ⟨a, c, h⟩
        clear hcl hus hc
        generalize ll[k] = lk at *
        generalize cat0 (ll.take k) = ck at *
        go_wp2_with fail
        refine (plain_any _ lk _ hrk (by omega)).mono ?_; rintro e w3 ⟨rfl, hb3⟩
        go_wp2
        go_roundw
        case rel => exact ⟨k + 1, by omega, by go_num, by rw [HS.out, str_app3]; simp [tail0], hb.trans (hb3.mono hb.size)⟩
        case measure => simp [intOf]; omega
    · obtain rfl : k = ll.length := by omega
      rw [List.take_length]
      go_wp2
      go_ret
      exact ⟨ret_val (by rw [HSO.out]; rfl), hB.trans (hb.mono hB.size)⟩
end Go.Proofs.Ytfadbbpnhppkpaa
