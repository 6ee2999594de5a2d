/- What a pattern matches, as a plain function, with the laws of a greedy walk and of a table. No program in sight; no condition. -/
import Derived.Test.YthnmdhcgnimdfaaDoorGlob
set_option linter.unusedVariables false
set_option linter.unusedSimpArgs false
namespace Go.Proofs.YthnmdhcgnimdfaaDoor
open Go.RowKit

def M (p : List It) (s : List UInt8) : Bool :=
  match p, s with
  | [], s => s.isEmpty
  | x :: ps, [] => isStar x && M ps []
  | x :: ps, c :: r => if isStar x then M ps (c :: r) || M (x :: ps) r else fitsB x c && M ps r
termination_by p.length + s.length

theorem M_nil (s : List UInt8) : M [] s = s.isEmpty := by rw [M]
theorem M_end (x : It) (ps : List It) : M (x :: ps) [] = (isStar x && M ps []) := by rw [M]
theorem M_star (x : It) (ps : List It) (c : UInt8) (r : List UInt8) (h : isStar x = true) : M (x :: ps) (c :: r) = (M ps (c :: r) || M (x :: ps) r) := by rw [M, if_pos h]
theorem M_plain (x : It) (ps : List It) (c : UInt8) (r : List UInt8) (h : isStar x = false) : M (x :: ps) (c :: r) = (fitsB x c && M ps r) := by rw [M, if_neg (by simp [h])]

theorem star_iff (x : It) (ps : List It) (h : isStar x = true) (s : List UInt8) : M (x :: ps) s = true ↔ ∃ d, d ≤ s.length ∧ M ps (s.drop d) = true := by
  induction s with
  | nil =>
    rw [M_end, h]; simp
  | cons c r ih =>
    rw [M_star x ps c r h, Bool.or_eq_true, ih]
    constructor
    · rintro (h | ⟨d, hd, hm⟩)
      · exact ⟨0, by simp, by simpa using h⟩
      · exact ⟨d + 1, by simpa using hd, by simpa using hm⟩
    · rintro ⟨d, hd, hm⟩
      cases d with
      | zero => left; simpa using hm
      | succ d => right; exact ⟨d, by simpa using hd, by simpa using hm⟩
theorem star_all (x : It) (h : isStar x = true) (s : List UInt8) : M [x] s = true := by
  rw [star_iff x [] h]; exact ⟨s.length, Nat.le_refl _, by rw [M_nil]; simp⟩

/-- two rows of items, one behind the other -/
theorem M_append (ps qs : List It) (s : List UInt8) : M (ps ++ qs) s = true ↔ ∃ d, d ≤ s.length ∧ M ps (s.take d) = true ∧ M qs (s.drop d) = true := by
  induction hn : ps.length + s.length using Nat.strongRecOn generalizing ps s with
  | _ n ih =>
    match ps, s with
    | [], s =>
      constructor
      · intro h; exact ⟨0, by simp, by simp [M_nil], by simpa using h⟩
      · rintro ⟨d, hd, h1, h2⟩
        rw [M_nil] at h1
        have : d = 0 ∨ s = [] := by simpa using h1
        rcases this with rfl | rfl
        · simpa using h2
        · simpa using h2
    | x :: ps, [] =>
      rw [List.cons_append, M_end, Bool.and_eq_true, ih (ps.length + 0) (by simp at hn; simp; omega) ps [] rfl]
      constructor
      · rintro ⟨h, d, hd, h1, h2⟩
        have hd0 : d = 0 := by simpa using hd
        subst hd0
        exact ⟨0, by simp, by simp at h1; simp [M_end, h, h1], by simpa using h2⟩
      · rintro ⟨d, hd, h1, h2⟩
        have hd0 : d = 0 := by simpa using hd
        subst hd0
        simp [M_end] at h1
        exact ⟨h1.1, 0, by simp, by simpa using h1.2, by simpa using h2⟩
    | x :: ps, c :: r =>
      cases hx : isStar x with
      | true =>
        rw [List.cons_append, M_star _ _ _ _ hx, Bool.or_eq_true, ih (ps.length + (c :: r).length) (by simp at hn ⊢; omega) ps (c :: r) rfl, ← List.cons_append, ih ((x :: ps).length + r.length) (by simp at hn ⊢; omega) (x :: ps) r rfl]
        constructor
        · rintro (⟨d, hd, h1, h2⟩ | ⟨d, hd, h1, h2⟩)
          · refine ⟨d, hd, ?_, h2⟩
            cases d with
            | zero => simp at h1 ⊢; simp [M_end, hx, h1]
            | succ d => rw [List.take_succ_cons] at h1 ⊢; rw [M_star _ _ _ _ hx, h1]; rfl
          · exact ⟨d + 1, by simpa using hd, by rw [List.take_succ_cons, M_star _ _ _ _ hx, h1]; simp, by simpa using h2⟩
        · rintro ⟨d, hd, h1, h2⟩
          cases d with
          | zero =>
            left; refine ⟨0, by simp, ?_, h2⟩
            simp [M_end] at h1; simpa using h1.2
          | succ d =>
            rw [List.take_succ_cons, M_star _ _ _ _ hx, Bool.or_eq_true] at h1
            rcases h1 with h1 | h1
            · left; exact ⟨d + 1, hd, by rw [List.take_succ_cons]; exact h1, h2⟩
            · right; exact ⟨d, by simpa using hd, h1, by simpa using h2⟩
      | false =>
        rw [List.cons_append, M_plain _ _ _ _ hx, Bool.and_eq_true, ih (ps.length + r.length) (by simp at hn ⊢; omega) ps r rfl]
        constructor
        · rintro ⟨hf, d, hd, h1, h2⟩
          exact ⟨d + 1, by simpa using hd, by rw [List.take_succ_cons, M_plain _ _ _ _ hx, hf, h1]; rfl, by simpa using h2⟩
        · rintro ⟨d, hd, h1, h2⟩
          cases d with
          | zero => simp [M_end, hx] at h1
          | succ d =>
            rw [List.take_succ_cons, M_plain _ _ _ _ hx, Bool.and_eq_true] at h1
            exact ⟨h1.1, d, by simpa using hd, h1.2, by simpa using h2⟩
theorem M_one (x : It) (h : isStar x = false) (s : List UInt8) : M [x] s = true ↔ ∃ c, s = [c] ∧ fitsB x c = true := by
  cases s with
  | nil => simp [M_end, h]
  | cons c r =>
    rw [M_plain _ _ _ _ h, Bool.and_eq_true, M_nil]
    constructor
    · rintro ⟨h1, h2⟩; exact ⟨c, by simpa using h2, h1⟩
    · rintro ⟨d, h1, h2⟩
      injection h1 with h1 h3
      subst h1 h3
      exact ⟨h2, rfl⟩
/-- the table: a star -/
theorem tab_star (P : List It) (k : Nat) (hk : k < P.length) (S : List UInt8) (i : Nat) (hi : i ≤ S.length) (h : isStar P[k] = true) :
    M (P.take (k + 1)) (S.take i) = (M (P.take k) (S.take i) || (decide (0 < i) && M (P.take (k + 1)) (S.take (i - 1)))) := by
  rw [Bool.eq_iff_iff, Bool.or_eq_true, Bool.and_eq_true, List.take_succ_eq_append_getElem hk, M_append, M_append]
  constructor
  · rintro ⟨d, hd, h1, _⟩
    rw [List.length_take] at hd
    rw [List.take_take, Nat.min_eq_left (by omega)] at h1
    by_cases hdi : d = i
    · left; rw [← hdi]; exact h1
    · right
      refine ⟨by simp; omega, d, by rw [List.length_take]; omega, ?_, star_all _ h _⟩
      rw [List.take_take, Nat.min_eq_left (by omega)]; exact h1
  · rintro (h1 | ⟨h0, d, hd, h1, _⟩)
    · exact ⟨i, by rw [List.length_take]; omega, by rw [List.take_take, Nat.min_self]; exact h1, star_all _ h _⟩
    · rw [List.length_take] at hd
      rw [List.take_take, Nat.min_eq_left (by omega)] at h1
      exact ⟨d, by rw [List.length_take]; omega, by rw [List.take_take, Nat.min_eq_left (by omega)]; exact h1, star_all _ h _⟩
theorem tab_zero (P : List It) (k : Nat) (hk : k < P.length) (h : isStar P[k] = false) : M (P.take (k + 1)) [] = false := by
  rw [Bool.eq_false_iff, List.take_succ_eq_append_getElem hk]
  intro hh
  rw [M_append] at hh
  obtain ⟨d, hd, _, h2⟩ := hh
  rw [List.drop_nil, M_one _ h] at h2
  obtain ⟨c, hc, _⟩ := h2
  cases hc
theorem tab_plain (P : List It) (k : Nat) (hk : k < P.length) (S : List UInt8) (i : Nat) (hi : i < S.length) (h : isStar P[k] = false) :
    M (P.take (k + 1)) (S.take (i + 1)) = (M (P.take k) (S.take i) && fitsB P[k] S[i]) := by
  rw [Bool.eq_iff_iff, Bool.and_eq_true, List.take_succ_eq_append_getElem hk, M_append]
  constructor
  · rintro ⟨d, hd, h1, h2⟩
    rw [M_one _ h] at h2
    obtain ⟨c, hc, hf⟩ := h2
    have hl := congrArg List.length hc
    simp at hl hd
    obtain rfl : d = i := by omega
    rw [List.take_take, Nat.min_eq_left (by omega)] at h1
    have h0 := congrArg (fun l => l[0]?) hc
    simp at h0
    rw [List.getElem?_eq_getElem hi] at h0
    injection h0 with h0
    rw [h0]
    exact ⟨h1, hf⟩
  · rintro ⟨h1, h2⟩
    refine ⟨i, by simp; omega, by rw [List.take_take, Nat.min_eq_left (by omega)]; exact h1, ?_⟩
    rw [M_one _ h]
    refine ⟨S[i], ?_, h2⟩
    rw [List.take_succ_eq_append_getElem hi, List.drop_append_of_le_length (by simp; omega), List.drop_eq_nil_of_le (by simp; omega)]; rfl
theorem tab_none (S : List UInt8) (i : Nat) (hi : i ≤ S.length) : M [] (S.take i) = decide (i = 0) := by
  rw [M_nil, Bool.eq_iff_iff]; simp
  intro h; subst h; simpa using hi
/-- the greedy walk -/
theorem drop_cons (P : List It) (k : Nat) (hk : k < P.length) : P.drop k = P[k] :: P.drop (k + 1) := List.drop_eq_getElem_cons hk
theorem sdrop_cons (S : List UInt8) (i : Nat) (hi : i < S.length) : S.drop i = S[i] :: S.drop (i + 1) := List.drop_eq_getElem_cons hi
/-- n items that are no stars fit n bytes -/
def Seg (P : List It) (S : List UInt8) (a b n : Nat) : Prop := a + n ≤ P.length ∧ b + n ≤ S.length ∧ ∀ j, j < n → ∃ (h1 : a + j < P.length) (h2 : b + j < S.length), isStar P[a + j] = false ∧ fitsB P[a + j] S[b + j] = true
theorem Seg.zero {P : List It} {S : List UInt8} {a b : Nat} (ha : a ≤ P.length) (hb : b ≤ S.length) : Seg P S a b 0 := ⟨by omega, by omega, fun j hj => by omega⟩
theorem Seg.snoc {P : List It} {S : List UInt8} {a b n : Nat} (h : Seg P S a b n) (h1 : a + n < P.length) (h2 : b + n < S.length) (h3 : isStar P[a + n] = false) (h4 : fitsB P[a + n] S[b + n] = true) : Seg P S a b (n + 1) :=
  ⟨by omega, by omega, fun j hj => by
    by_cases hjn : j < n
    · exact h.2.2 j hjn
    · obtain rfl : j = n := by omega
      exact ⟨h1, h2, h3, h4⟩⟩
theorem Seg.eq {P : List It} {S : List UInt8} {a b n : Nat} (h : Seg P S a b n) : M (P.drop a) (S.drop b) = M (P.drop (a + n)) (S.drop (b + n)) := by
  induction n with
  | zero => rfl
  | succ n ih =>
    have h' : Seg P S a b n := ⟨by have := h.1; omega, by have := h.2.1; omega, fun j hj => h.2.2 j (by omega)⟩
    obtain ⟨h1, h2, h3, h4⟩ := h.2.2 n (by omega)
    rw [ih h', drop_cons P _ h1, sdrop_cons S _ h2, M_plain _ _ _ _ h3, h4]; rfl
theorem skip {P : List It} {a n : Nat} (h : ∀ j, j < n → ∃ (h1 : a + j < P.length), isStar P[a + j] = false) (s : List UInt8) (hm : M (P.drop a) s = true) : n ≤ s.length ∧ M (P.drop (a + n)) (s.drop n) = true := by
  induction n generalizing a s with
  | zero => exact ⟨by omega, by simpa using hm⟩
  | succ n ih =>
    obtain ⟨h1, h2⟩ := h 0 (by omega)
    simp only [Nat.add_zero] at h1 h2
    rw [drop_cons P _ h1] at hm
    cases s with
    | nil => rw [M_end, h2] at hm; cases hm
    | cons c r =>
      rw [M_plain _ _ _ _ h2, Bool.and_eq_true] at hm
      obtain ⟨e1, e2⟩ := ih (a := a + 1) (fun j hj => by
        obtain ⟨h3, h4⟩ := h (j + 1) (by omega)
        exact ⟨by omega, by rw [show P[a + 1 + j]'(by omega) = P[a + (j + 1)] by congr 1; omega]; exact h4⟩) r hm.2
      exact ⟨by simp; omega, by rw [show a + (n + 1) = a + 1 + n by omega]; simpa using e2⟩
/-- where the walk has come to: the star that holds, or none -/
structure Gr (P : List It) (S : List UInt8) (i k st fr : Nat) : Prop where
  hi : i ≤ S.length
  hk : k ≤ P.length
  no : st = 0 → M P S = M (P.drop k) (S.drop i)
  yes : st ≠ 0 → st ≤ k ∧ fr ≤ i ∧ k = st + (i - fr) ∧ (∃ h : st - 1 < P.length, isStar (P[st - 1]'h) = true) ∧ M P S = M (P.drop (st - 1)) (S.drop fr) ∧ Seg P S st fr (i - fr)
theorem Gr.start (P : List It) (S : List UInt8) : Gr P S 0 0 0 0 := ⟨by omega, by omega, fun _ => rfl, fun h => (h rfl).elim⟩
theorem Gr.stop {P : List It} {S : List UInt8} {i k st fr : Nat} (g : Gr P S i k st fr) (hk : k < P.length) (h : isStar P[k] = true) : M P S = M (P.drop k) (S.drop i) := by
  by_cases h0 : st = 0
  · exact g.no h0
  · obtain ⟨h1, h2, h3, ⟨h4, h5⟩, h6, h7⟩ := g.yes h0
    rw [h6, Bool.eq_iff_iff, drop_cons P _ h4, star_iff _ _ h5, show st - 1 + 1 = st by omega]
    have hki : st + (i - fr) = k := h3.symm
    constructor
    · rintro ⟨d, hd, hm⟩
      rw [List.drop_drop] at hm
      obtain ⟨e1, e2⟩ := skip (n := i - fr) (fun j hj => by obtain ⟨x1, _, x3, _⟩ := h7.2.2 j hj; exact ⟨x1, x3⟩) _ hm
      rw [hki, List.drop_drop, drop_cons P _ hk, star_iff _ _ h] at e2
      obtain ⟨d', hd', e3⟩ := e2
      rw [drop_cons P _ hk, star_iff _ _ h]
      refine ⟨d + d', ?_, ?_⟩
      · simp at hd hd' e1 ⊢; omega
      · rw [List.drop_drop] at e3 ⊢; rw [show i + (d + d') = fr + d + (i - fr) + d' by omega]; exact e3
    · intro hm
      refine ⟨0, by simp, ?_⟩
      rw [List.drop_zero, h7.eq, hki, show fr + (i - fr) = i by omega]; exact hm
theorem Gr.star {P : List It} {S : List UInt8} {i k st fr : Nat} (g : Gr P S i k st fr) (hk : k < P.length) (h : isStar P[k] = true) : Gr P S i (k + 1) (k + 1) i :=
  ⟨g.hi, hk, fun h => by omega, fun _ => ⟨by omega, by omega, by omega, ⟨by simpa using hk, by simpa using h⟩, by simpa using g.stop hk h, by rw [Nat.sub_self]; exact Seg.zero (by omega) g.hi⟩⟩
theorem Gr.fit {P : List It} {S : List UInt8} {i k st fr : Nat} (g : Gr P S i k st fr) (hk : k < P.length) (hi : i < S.length) (h : isStar P[k] = false) (hf : fitsB P[k] S[i] = true) : Gr P S (i + 1) (k + 1) st fr :=
  ⟨hi, hk, fun h0 => by rw [g.no h0, drop_cons P _ hk, sdrop_cons S _ hi, M_plain _ _ _ _ h, hf]; rfl, fun h0 => by
    obtain ⟨h1, h2, h3, h4, h5, h6⟩ := g.yes h0
    refine ⟨by omega, by omega, by omega, h4, h5, ?_⟩
    rw [show i + 1 - fr = (i - fr) + 1 by omega]
    have e1 : st + (i - fr) = k := h3.symm
    have e2 : fr + (i - fr) = i := by omega
    refine h6.snoc (by omega) (by omega) ?_ ?_
    · rw [show P[st + (i - fr)]'(by omega) = P[k] by congr 1]; exact h
    · rw [show P[st + (i - fr)]'(by omega) = P[k] by congr 1, show S[fr + (i - fr)]'(by omega) = S[i] by congr 1]; exact hf⟩
theorem miss {P : List It} {S : List UInt8} {i k : Nat} (hi : i < S.length) (h1 : ∀ hk : k < P.length, isStar P[k] = false) (h2 : ∀ hk : k < P.length, fitsB P[k] S[i] = false) : M (P.drop k) (S.drop i) = false := by
  rw [sdrop_cons S _ hi]
  by_cases hk : k < P.length
  · rw [drop_cons P _ hk, M_plain _ _ _ _ (h1 hk), h2 hk]; rfl
  · rw [List.drop_eq_nil_of_le (by omega), M_nil]; rfl
theorem Gr.fail {P : List It} {S : List UInt8} {i k fr : Nat} (g : Gr P S i k 0 fr) (hi : i < S.length) (h1 : ∀ hk : k < P.length, isStar P[k] = false) (h2 : ∀ hk : k < P.length, fitsB P[k] S[i] = false) : M P S = false := by
  rw [g.no rfl]; exact miss hi h1 h2
theorem Gr.back {P : List It} {S : List UInt8} {i k st fr : Nat} (g : Gr P S i k st fr) (h0 : st ≠ 0) (hi : i < S.length) (h1 : ∀ hk : k < P.length, isStar P[k] = false) (h2 : ∀ hk : k < P.length, fitsB P[k] S[i] = false) : Gr P S (fr + 1) st st (fr + 1) := by
  obtain ⟨e1, e2, e3, ⟨e4, e5⟩, e6, e7⟩ := g.yes h0
  refine ⟨by omega, by have := g.hk; omega, fun h => (h0 h).elim, fun _ => ⟨Nat.le_refl _, Nat.le_refl _, by omega, ⟨e4, e5⟩, ?_, by rw [Nat.sub_self]; exact Seg.zero (by have := g.hk; omega) (by omega)⟩⟩
  rw [e6, drop_cons P _ e4, sdrop_cons S fr (by omega), M_star _ _ _ _ e5, ← sdrop_cons S fr (by omega), show st - 1 + 1 = st by omega, e7.eq, show st + (i - fr) = k by omega, show fr + (i - fr) = i by omega, miss hi h1 h2]
  rfl
theorem Gr.done {P : List It} {S : List UInt8} {k st fr : Nat} (g : Gr P S S.length k st fr) : M P S = M (P.drop k) [] := by
  by_cases h0 : st = 0
  · rw [g.no h0, List.drop_eq_nil_of_le (Nat.le_refl _)]
  · obtain ⟨h1, h2, h3, ⟨h4, h5⟩, h6, h7⟩ := g.yes h0
    have hki : st + (S.length - fr) = k := h3.symm
    rw [h6, Bool.eq_iff_iff, drop_cons P _ h4, star_iff _ _ h5, show st - 1 + 1 = st by omega]
    constructor
    · rintro ⟨d, hd, hm⟩
      rw [List.drop_drop] at hm
      obtain ⟨e1, e2⟩ := skip (n := S.length - fr) (fun j hj => by obtain ⟨x1, _, x3, _⟩ := h7.2.2 j hj; exact ⟨x1, x3⟩) _ hm
      rw [hki, List.drop_drop, List.drop_eq_nil_of_le (as := S) (by simp at hd e1; omega)] at e2
      exact e2
    · intro hm
      refine ⟨0, by simp, ?_⟩
      rw [List.drop_zero, h7.eq, hki, List.drop_eq_nil_of_le (as := S) (by omega)]; exact hm
theorem ends_star (P : List It) (k : Nat) (hk : k < P.length) (h : isStar P[k] = true) : M (P.drop k) [] = M (P.drop (k + 1)) [] := by rw [drop_cons P _ hk, M_end, h]; rfl
theorem ends_no (P : List It) (k : Nat) (hk : k < P.length) (h : isStar P[k] = false) : M (P.drop k) [] = false := by rw [drop_cons P _ hk, M_end, h]; rfl
theorem ends_yes (P : List It) : M (P.drop P.length) [] = true := by rw [List.drop_eq_nil_of_le (Nat.le_refl _), M_nil]; rfl
/-- how many rounds are left at most -/
def meas (n a b c : Nat) : Nat := (a * (n + 1) + b) * (n + 1) + c
theorem meas_a {n a a' b b' c c' : Nat} (ha : a' + 1 ≤ a) (hb : b' ≤ n) (hc : c' ≤ c) : meas n a' b' c' < meas n a b c := by
  unfold meas
  have h1 : (a' + 1) * (n + 1) ≤ a * (n + 1) := Nat.mul_le_mul_right _ ha
  have h2 : a' * (n + 1) + b' + 1 ≤ a * (n + 1) + b := by rw [Nat.add_mul] at h1; omega
  have h3 := Nat.mul_le_mul_right (n + 1) h2
  rw [Nat.add_mul] at h3
  omega
theorem meas_b {n a b c c' : Nat} (hc : c' < c) : meas n a b c' < meas n a b c := by unfold meas; omega
theorem meas_c {n a b b' c c' : Nat} (hb : b' + 1 ≤ b) (hc : c' ≤ n) : meas n a b' c' < meas n a b c := by
  unfold meas
  have h3 := Nat.mul_le_mul_right (n + 1) (show a * (n + 1) + b' + 1 ≤ a * (n + 1) + b by omega)
  rw [Nat.add_mul] at h3
  omega
end Go.Proofs.YthnmdhcgnimdfaaDoor
