/- What the parser computes, as a function with fuel; more fuel changes nothing. No program in sight; no condition. -/
import Derived.Test.YtadmmmehphhecaaGreatDoorP
set_option linter.unusedVariables false
set_option linter.unusedSimpArgs false
namespace Go.Proofs.YtadmmmehphhecaaGreatDoor
open Go.RowKit
inductive Md where
  | whole
  | choice
  | two (row : Nat)
  | loop (row : Nat) (e : Ex)
  | one
abbrev PR := Option (Except (Nat × Int) (Ex × PSt))
def andT {α β : Type} (a : Option (Except (Nat × Int) α)) (f : α → Option (Except (Nat × Int) β)) : Option (Except (Nat × Int) β) :=
  match a with
  | none => none
  | some (.error x) => some (.error x)
  | some (.ok v) => f v
def LE {α : Type} (a b : Option α) : Prop := ∀ r, a = some r → b = some r
theorem LE.refl {α : Type} (a : Option α) : LE a a := fun _ h => h
theorem LE.trans {α : Type} {a b c : Option α} (h : LE a b) (k : LE b c) : LE a c := fun r e => k r (h r e)
theorem andT_le {α β : Type} {a a' : Option (Except (Nat × Int) α)} {f f' : α → Option (Except (Nat × Int) β)} (h : LE a a') (hf : ∀ v, LE (f v) (f' v)) : LE (andT a f) (andT a' f') := by
  intro r hr
  cases a with
  | none => cases hr
  | some x =>
    rw [h x rfl]
    cases x with
    | error y => exact hr
    | ok v => exact hf v r hr
theorem ite_le {α : Type} {p : Prop} [Decidable p] {a a' b b' : Option α} (h : LE a a') (k : LE b b') : LE (if p then a else b) (if p then a' else b') := by
  split <;> assumption
def nameO : List UInt8 := [110, 97, 109, 101]
def numO : List UInt8 := [110, 117, 109]
def F (s : List UInt8) : Nat → Md → Nat → PSt → PR
  | 0, _, _, _ => none
  | n + 1, .whole, d, t => andT (F s n .choice d t) fun p =>
      if ¬ (p.2.kd = 0 ∧ setF p.2.text = true) then some (.ok p)
      else if ¬ (t.kd = 2 ∧ p.1.op = nameO) then some (.error (p.2.at_, 25))
      else if d = 40 then some (.error (p.2.at_, 32))
      else andT (some (nextF s p.2)) fun t2 => andT (F s n .whole (d + 1) t2) fun q => some (.ok (.mk p.2.text 0 p.1.name (.cons q.1 .nil), q.2))
  | n + 1, .choice, d, t => andT (F s n (.two 0) d t) fun p =>
      if ¬ (p.2.kd = 0 ∧ p.2.text = [63]) then some (.ok p)
      else if d = 40 then some (.error (p.2.at_, 32))
      else andT (some (nextF s p.2)) fun t2 => andT (F s n .whole (d + 1) t2) fun q => andT (some (takesF s q.2 [58])) fun t4 => andT (F s n .choice (d + 1) t4) fun u =>
        some (.ok (.mk [63] 0 [] (.cons p.1 (.cons q.1 (.cons u.1 .nil))), u.2))
  | n + 1, .two row, d, t => if row = 10 then F s n .one d t else andT (F s n (.two (row + 1)) d t) fun p => F s n (.loop row p.1) d p.2
  | n + 1, .loop row e, d, t => if t.kd = 0 ∧ t.text ≠ [] ∧ t.text ∈ rowsF.getD row [] then
        andT (some (nextF s t)) fun t1 => andT (F s n (.two (row + 1)) d t1) fun q => F s n (.loop row (.mk t.text 0 [] (.cons e (.cons q.1 .nil)))) d q.2
      else some (.ok (e, t))
  | n + 1, .one, d, t =>
      if t.kd = 1 then andT (some (nextF s t)) fun t1 => some (.ok (.mk numO t.num [] .nil, t1))
      else if t.kd ≠ 0 then andT (some (nextF s t)) fun t1 => some (.ok (.mk nameO 0 t.text .nil, t1))
      else if t.text = [40] then
        if d = 40 then some (.error (t.at_, 32))
        else andT (some (nextF s t)) fun t1 => andT (F s n .whole (d + 1) t1) fun q => andT (some (takesF s q.2 [41])) fun t3 => some (.ok (q.1, t3))
      else if aheadF t.text ≠ [] then
        if d = 40 then some (.error (t.at_, 32))
        else andT (some (nextF s t)) fun t1 => andT (F s n .one (d + 1) t1) fun q => some (.ok (.mk (aheadF t.text) 0 [] (.cons q.1 .nil), q.2))
      else some (.error (t.at_, 31))
theorem F_mono (s : List UInt8) : ∀ (n : Nat) (m : Md) (d : Nat) (t : PSt), LE (F s n m d t) (F s (n + 1) m d t) := by
  intro n
  induction n with
  | zero => intro m d t r h; cases h
  | succ n ih =>
    intro m d t
    cases m with
    | whole => exact andT_le (ih _ _ _) fun p => ite_le (LE.refl _) (ite_le (LE.refl _) (ite_le (LE.refl _) (andT_le (LE.refl _) fun t2 => andT_le (ih _ _ _) fun q => LE.refl _)))
    | choice => exact andT_le (ih _ _ _) fun p => ite_le (LE.refl _) (ite_le (LE.refl _) (andT_le (LE.refl _) fun t2 => andT_le (ih _ _ _) fun q => andT_le (LE.refl _) fun t4 => andT_le (ih _ _ _) fun u => LE.refl _))
    | two row => exact ite_le (ih _ _ _) (andT_le (ih _ _ _) fun p => ih _ _ _)
    | loop row e => exact ite_le (andT_le (LE.refl _) fun t1 => andT_le (ih _ _ _) fun q => ih _ _ _) (LE.refl _)
    | one =>
      exact ite_le (LE.refl _) (ite_le (LE.refl _) (ite_le (ite_le (LE.refl _) (andT_le (LE.refl _) fun t1 => andT_le (ih _ _ _) fun q => LE.refl _)) (ite_le (ite_le (LE.refl _) (andT_le (LE.refl _) fun t1 => andT_le (ih _ _ _) fun q => LE.refl _)) (LE.refl _))))
theorem F_le (s : List UInt8) (m : Md) (d : Nat) (t : PSt) (n k : Nat) (h : n ≤ k) : LE (F s n m d t) (F s k m d t) := by
  induction k with
  | zero =>
    obtain rfl : n = 0 := by omega
    exact LE.refl _
  | succ k ih =>
    by_cases hk : n = k + 1
    · rw [hk]; exact LE.refl _
    · exact (ih (by omega)).trans (F_mono s k m d t)
/-- what comes out, whatever the fuel -/
def Out (s : List UInt8) (m : Md) (d : Nat) (t : PSt) (r : Except (Nat × Int) (Ex × PSt)) : Prop := ∃ n, F s n m d t = some r
theorem Out.same {s : List UInt8} {m : Md} {d : Nat} {t : PSt} {r r' : Except (Nat × Int) (Ex × PSt)} (h : Out s m d t r) (h' : Out s m d t r') : r = r' := by
  obtain ⟨n, h⟩ := h
  obtain ⟨k, h'⟩ := h'
  have h1 := F_le s m d t n (max n k) (Nat.le_max_left _ _) _ h
  have h2 := F_le s m d t k (max n k) (Nat.le_max_right _ _) _ h'
  rw [h1] at h2; injection h2
theorem andT_ok {α β : Type} {a : Option (Except (Nat × Int) α)} {v : α} {f : α → Option (Except (Nat × Int) β)} (h : a = some (.ok v)) : andT a f = f v := by rw [h]; rfl
theorem andT_error {α β : Type} {a : Option (Except (Nat × Int) α)} {x : Nat × Int} {f : α → Option (Except (Nat × Int) β)} (h : a = some (.error x)) : andT a f = some (.error x) := by rw [h]; rfl
section
variable {s : List UInt8} {d : Nat} {t : PSt}
theorem whole_err {x : Nat × Int} (h : Out s .choice d t (.error x)) : Out s .whole d t (.error x) := by
  obtain ⟨n, h⟩ := h; exact ⟨n + 1, andT_error h⟩
theorem whole_same {p : Ex × PSt} (h : Out s .choice d t (.ok p)) (hn : ¬ (p.2.kd = 0 ∧ setF p.2.text = true)) : Out s .whole d t (.ok p) := by
  obtain ⟨n, h⟩ := h; exact ⟨n + 1, (andT_ok h).trans (if_pos hn)⟩
theorem whole_place {p : Ex × PSt} (h : Out s .choice d t (.ok p)) (hs : p.2.kd = 0 ∧ setF p.2.text = true) (hn : ¬ (t.kd = 2 ∧ p.1.op = nameO)) : Out s .whole d t (.error (p.2.at_, 25)) := by
  obtain ⟨n, h⟩ := h; exact ⟨n + 1, (andT_ok h).trans ((if_neg (by simpa using hs)).trans (if_pos hn))⟩
theorem whole_deep {p : Ex × PSt} (h : Out s .choice d t (.ok p)) (hs : p.2.kd = 0 ∧ setF p.2.text = true) (hn : t.kd = 2 ∧ p.1.op = nameO) (hd : d = 40) : Out s .whole d t (.error (p.2.at_, 32)) := by
  obtain ⟨n, h⟩ := h; exact ⟨n + 1, (andT_ok h).trans ((if_neg (by simpa using hs)).trans ((if_neg (by simpa using hn)).trans (if_pos hd)))⟩
theorem whole_next {p : Ex × PSt} {x : Nat × Int} (h : Out s .choice d t (.ok p)) (hs : p.2.kd = 0 ∧ setF p.2.text = true) (hn : t.kd = 2 ∧ p.1.op = nameO) (hd : ¬ d = 40) (hx : nextF s p.2 = .error x) : Out s .whole d t (.error x) := by
  obtain ⟨n, h⟩ := h; exact ⟨n + 1, (andT_ok h).trans ((if_neg (by simpa using hs)).trans ((if_neg (by simpa using hn)).trans ((if_neg hd).trans (andT_error (by rw [hx])))))⟩
theorem whole_in {p : Ex × PSt} {t2 : PSt} {r : Except (Nat × Int) (Ex × PSt)} (h : Out s .choice d t (.ok p)) (hs : p.2.kd = 0 ∧ setF p.2.text = true) (hn : t.kd = 2 ∧ p.1.op = nameO) (hd : ¬ d = 40) (hx : nextF s p.2 = .ok t2) (hr : Out s .whole (d + 1) t2 r) :
    Out s .whole d t (match r with | .error x => .error x | .ok q => .ok (.mk p.2.text 0 p.1.name (.cons q.1 .nil), q.2)) := by
  obtain ⟨n, h⟩ := h
  obtain ⟨k, hr⟩ := hr
  refine ⟨max n k + 1, (andT_ok (F_le _ _ _ _ n _ (Nat.le_max_left _ _) _ h)).trans ((if_neg (by simpa using hs)).trans ((if_neg (by simpa using hn)).trans ((if_neg hd).trans ((andT_ok (by rw [hx])).trans ?_))))⟩
  have h2 := F_le _ _ _ _ k (max n k) (Nat.le_max_right _ _) _ hr
  cases r with
  | error x => exact andT_error h2
  | ok q => exact andT_ok h2
theorem choice_err {x : Nat × Int} (h : Out s (.two 0) d t (.error x)) : Out s .choice d t (.error x) := by
  obtain ⟨n, h⟩ := h; exact ⟨n + 1, andT_error h⟩
theorem choice_same {p : Ex × PSt} (h : Out s (.two 0) d t (.ok p)) (hn : ¬ (p.2.kd = 0 ∧ p.2.text = [63])) : Out s .choice d t (.ok p) := by
  obtain ⟨n, h⟩ := h; exact ⟨n + 1, (andT_ok h).trans (if_pos hn)⟩
theorem choice_deep {p : Ex × PSt} (h : Out s (.two 0) d t (.ok p)) (hs : p.2.kd = 0 ∧ p.2.text = [63]) (hd : d = 40) : Out s .choice d t (.error (p.2.at_, 32)) := by
  obtain ⟨n, h⟩ := h; exact ⟨n + 1, (andT_ok h).trans ((if_neg (by simpa using hs)).trans (if_pos hd))⟩
theorem choice_next {p : Ex × PSt} {x : Nat × Int} (h : Out s (.two 0) d t (.ok p)) (hs : p.2.kd = 0 ∧ p.2.text = [63]) (hd : ¬ d = 40) (hx : nextF s p.2 = .error x) : Out s .choice d t (.error x) := by
  obtain ⟨n, h⟩ := h; exact ⟨n + 1, (andT_ok h).trans ((if_neg (by simpa using hs)).trans ((if_neg hd).trans (andT_error (by rw [hx]))))⟩
theorem choice_a {p : Ex × PSt} {t2 : PSt} {x : Nat × Int} (h : Out s (.two 0) d t (.ok p)) (hs : p.2.kd = 0 ∧ p.2.text = [63]) (hd : ¬ d = 40) (hx : nextF s p.2 = .ok t2) (hr : Out s .whole (d + 1) t2 (.error x)) : Out s .choice d t (.error x) := by
  obtain ⟨n, h⟩ := h
  obtain ⟨k, hr⟩ := hr
  exact ⟨max n k + 1, (andT_ok (F_le _ _ _ _ n _ (Nat.le_max_left _ _) _ h)).trans ((if_neg (by simpa using hs)).trans ((if_neg hd).trans ((andT_ok (by rw [hx])).trans (andT_error (F_le _ _ _ _ k _ (Nat.le_max_right _ _) _ hr)))))⟩
theorem choice_takes {p q : Ex × PSt} {t2 : PSt} {x : Nat × Int} (h : Out s (.two 0) d t (.ok p)) (hs : p.2.kd = 0 ∧ p.2.text = [63]) (hd : ¬ d = 40) (hx : nextF s p.2 = .ok t2) (hr : Out s .whole (d + 1) t2 (.ok q)) (hy : takesF s q.2 [58] = .error x) : Out s .choice d t (.error x) := by
  obtain ⟨n, h⟩ := h
  obtain ⟨k, hr⟩ := hr
  exact ⟨max n k + 1, (andT_ok (F_le _ _ _ _ n _ (Nat.le_max_left _ _) _ h)).trans ((if_neg (by simpa using hs)).trans ((if_neg hd).trans ((andT_ok (by rw [hx])).trans ((andT_ok (F_le _ _ _ _ k _ (Nat.le_max_right _ _) _ hr)).trans (andT_error (by rw [hy]))))))⟩
theorem choice_in {p q : Ex × PSt} {t2 t4 : PSt} {r : Except (Nat × Int) (Ex × PSt)} (h : Out s (.two 0) d t (.ok p)) (hs : p.2.kd = 0 ∧ p.2.text = [63]) (hd : ¬ d = 40) (hx : nextF s p.2 = .ok t2) (hr : Out s .whole (d + 1) t2 (.ok q)) (hy : takesF s q.2 [58] = .ok t4) (hz : Out s .choice (d + 1) t4 r) :
    Out s .choice d t (match r with | .error x => .error x | .ok u => .ok (.mk [63] 0 [] (.cons p.1 (.cons q.1 (.cons u.1 .nil))), u.2)) := by
  obtain ⟨n, h⟩ := h
  obtain ⟨k, hr⟩ := hr
  obtain ⟨j, hz⟩ := hz
  refine ⟨max (max n k) j + 1, (andT_ok (F_le _ _ _ _ n _ (by omega) _ h)).trans ((if_neg (by simpa using hs)).trans ((if_neg hd).trans ((andT_ok (by rw [hx])).trans ((andT_ok (F_le _ _ _ _ k _ (by omega) _ hr)).trans ((andT_ok (by rw [hy])).trans ?_)))))⟩
  have h2 := F_le _ _ _ _ j (max (max n k) j) (by omega) _ hz
  cases r with
  | error x => exact andT_error h2
  | ok q => exact andT_ok h2
theorem two_one {r : Except (Nat × Int) (Ex × PSt)} (h : Out s .one d t r) : Out s (.two 10) d t r := by
  obtain ⟨n, h⟩ := h; exact ⟨n + 1, (if_pos rfl).trans h⟩
theorem two_err {row : Nat} {x : Nat × Int} (hr : ¬ row = 10) (h : Out s (.two (row + 1)) d t (.error x)) : Out s (.two row) d t (.error x) := by
  obtain ⟨n, h⟩ := h; exact ⟨n + 1, (if_neg hr).trans (andT_error h)⟩
theorem two_loop {row : Nat} {p : Ex × PSt} {r : Except (Nat × Int) (Ex × PSt)} (hr : ¬ row = 10) (h : Out s (.two (row + 1)) d t (.ok p)) (hl : Out s (.loop row p.1) d p.2 r) : Out s (.two row) d t r := by
  obtain ⟨n, h⟩ := h
  obtain ⟨k, hl⟩ := hl
  exact ⟨max n k + 1, (if_neg hr).trans ((andT_ok (F_le _ _ _ _ n _ (Nat.le_max_left _ _) _ h)).trans (F_le _ _ _ _ k _ (Nat.le_max_right _ _) _ hl))⟩
theorem loop_end {row : Nat} {e : Ex} (h : ¬ (t.kd = 0 ∧ t.text ≠ [] ∧ t.text ∈ rowsF.getD row [])) : Out s (.loop row e) d t (.ok (e, t)) := ⟨1, if_neg h⟩
theorem loop_next {row : Nat} {e : Ex} {x : Nat × Int} (h : t.kd = 0 ∧ t.text ≠ [] ∧ t.text ∈ rowsF.getD row []) (hx : nextF s t = .error x) : Out s (.loop row e) d t (.error x) := ⟨1, (if_pos h).trans (andT_error (by rw [hx]))⟩
theorem loop_err {row : Nat} {e : Ex} {t1 : PSt} {x : Nat × Int} (h : t.kd = 0 ∧ t.text ≠ [] ∧ t.text ∈ rowsF.getD row []) (hx : nextF s t = .ok t1) (hr : Out s (.two (row + 1)) d t1 (.error x)) : Out s (.loop row e) d t (.error x) := by
  obtain ⟨n, hr⟩ := hr; exact ⟨n + 1, (if_pos h).trans ((andT_ok (by rw [hx])).trans (andT_error hr))⟩
theorem loop_in {row : Nat} {e : Ex} {t1 : PSt} {q : Ex × PSt} {r : Except (Nat × Int) (Ex × PSt)} (h : t.kd = 0 ∧ t.text ≠ [] ∧ t.text ∈ rowsF.getD row []) (hx : nextF s t = .ok t1) (hq : Out s (.two (row + 1)) d t1 (.ok q))
    (hl : Out s (.loop row (.mk t.text 0 [] (.cons e (.cons q.1 .nil)))) d q.2 r) : Out s (.loop row e) d t r := by
  obtain ⟨n, hq⟩ := hq
  obtain ⟨k, hl⟩ := hl
  exact ⟨max n k + 1, (if_pos h).trans ((andT_ok (by rw [hx])).trans ((andT_ok (F_le _ _ _ _ n _ (Nat.le_max_left _ _) _ hq)).trans (F_le _ _ _ _ k _ (Nat.le_max_right _ _) _ hl)))⟩
theorem one_num (h : t.kd = 1) {x : Except (Nat × Int) PSt} (hx : nextF s t = x) : Out s .one d t (match x with | .error y => .error y | .ok t1 => .ok (.mk numO t.num [] .nil, t1)) := by
  refine ⟨1, (if_pos h).trans ?_⟩
  cases x with
  | error y => exact andT_error (by rw [hx])
  | ok v => exact andT_ok (by rw [hx])
theorem one_name (h : ¬ t.kd = 1) (h2 : t.kd ≠ 0) {x : Except (Nat × Int) PSt} (hx : nextF s t = x) : Out s .one d t (match x with | .error y => .error y | .ok t1 => .ok (.mk nameO 0 t.text .nil, t1)) := by
  refine ⟨1, (if_neg h).trans ((if_pos h2).trans ?_)⟩
  cases x with
  | error y => exact andT_error (by rw [hx])
  | ok v => exact andT_ok (by rw [hx])
theorem one_br (h : t.kd = 0) (h2 : t.text = [40]) (n : Nat) : F s (n + 1) .one d t = if d = 40 then some (.error (t.at_, 32)) else andT (some (nextF s t)) fun t1 => andT (F s n .whole (d + 1) t1) fun q => andT (some (takesF s q.2 [41])) fun t3 => some (.ok (q.1, t3)) :=
  (if_neg (by omega)).trans ((if_neg (by simpa using h)).trans (if_pos h2))
theorem one_deep (h : t.kd = 0) (h2 : t.text = [40]) (hd : d = 40) : Out s .one d t (.error (t.at_, 32)) := ⟨1, (one_br h h2 0).trans (if_pos hd)⟩
theorem one_next (h : t.kd = 0) (h2 : t.text = [40]) (hd : ¬ d = 40) {x : Nat × Int} (hx : nextF s t = .error x) : Out s .one d t (.error x) := ⟨1, (one_br h h2 0).trans ((if_neg hd).trans (andT_error (by rw [hx])))⟩
theorem one_err (h : t.kd = 0) (h2 : t.text = [40]) (hd : ¬ d = 40) {t1 : PSt} {x : Nat × Int} (hx : nextF s t = .ok t1) (hr : Out s .whole (d + 1) t1 (.error x)) : Out s .one d t (.error x) := by
  obtain ⟨n, hr⟩ := hr; exact ⟨n + 1, (one_br h h2 n).trans ((if_neg hd).trans ((andT_ok (by rw [hx])).trans (andT_error hr)))⟩
theorem one_in (h : t.kd = 0) (h2 : t.text = [40]) (hd : ¬ d = 40) {t1 : PSt} {q : Ex × PSt} (hx : nextF s t = .ok t1) (hr : Out s .whole (d + 1) t1 (.ok q)) {y : Except (Nat × Int) PSt} (hy : takesF s q.2 [41] = y) :
    Out s .one d t (match y with | .error z => .error z | .ok t3 => .ok (q.1, t3)) := by
  obtain ⟨n, hr⟩ := hr
  refine ⟨n + 1, (one_br h h2 n).trans ((if_neg hd).trans ((andT_ok (by rw [hx])).trans ((andT_ok hr).trans ?_)))⟩
  cases y with
  | error z => exact andT_error (by rw [hy])
  | ok v => exact andT_ok (by rw [hy])
theorem one_ah (h : t.kd = 0) (h2 : ¬ t.text = [40]) (h3 : aheadF t.text ≠ []) (n : Nat) : F s (n + 1) .one d t = if d = 40 then some (.error (t.at_, 32)) else andT (some (nextF s t)) fun t1 => andT (F s n .one (d + 1) t1) fun q => some (.ok (.mk (aheadF t.text) 0 [] (.cons q.1 .nil), q.2)) :=
  (if_neg (by omega)).trans ((if_neg (by simpa using h)).trans ((if_neg h2).trans (if_pos h3)))
theorem ah_deep (h : t.kd = 0) (h2 : ¬ t.text = [40]) (h3 : aheadF t.text ≠ []) (hd : d = 40) : Out s .one d t (.error (t.at_, 32)) := ⟨1, (one_ah h h2 h3 0).trans (if_pos hd)⟩
theorem ah_next (h : t.kd = 0) (h2 : ¬ t.text = [40]) (h3 : aheadF t.text ≠ []) (hd : ¬ d = 40) {x : Nat × Int} (hx : nextF s t = .error x) : Out s .one d t (.error x) := ⟨1, (one_ah h h2 h3 0).trans ((if_neg hd).trans (andT_error (by rw [hx])))⟩
theorem ah_in (h : t.kd = 0) (h2 : ¬ t.text = [40]) (h3 : aheadF t.text ≠ []) (hd : ¬ d = 40) {t1 : PSt} {r : Except (Nat × Int) (Ex × PSt)} (hx : nextF s t = .ok t1) (hr : Out s .one (d + 1) t1 r) :
    Out s .one d t (match r with | .error x => .error x | .ok q => .ok (.mk (aheadF t.text) 0 [] (.cons q.1 .nil), q.2)) := by
  obtain ⟨n, hr⟩ := hr
  refine ⟨n + 1, (one_ah h h2 h3 n).trans ((if_neg hd).trans ((andT_ok (by rw [hx])).trans ?_))⟩
  cases r with
  | error x => exact andT_error hr
  | ok q => exact andT_ok hr
theorem one_no (h : t.kd = 0) (h2 : ¬ t.text = [40]) (h3 : ¬ aheadF t.text ≠ []) : Out s .one d t (.error (t.at_, 31)) :=
  ⟨1, (if_neg (by omega)).trans ((if_neg (by simpa using h)).trans ((if_neg h2).trans (if_neg h3)))⟩
end
/-- things go on -/
theorem next_le (s : List UInt8) (t t' : PSt) (h : nextF s t = .ok t') (hat : t.at_ + t.text.length ≤ s.length) : t.at_ + t.text.length ≤ t'.at_ ∧ t'.at_ + t'.text.length ≤ s.length ∧ t'.kd ≤ 2 := by
  unfold nextF at h
  have hb := longN_le blkB (s.drop (t.at_ + t.text.length))
  rw [List.length_drop] at hb
  generalize t.at_ + t.text.length = p0 at *
  generalize hk : longN blkB (s.drop p0) = k at *
  have hl : (s.drop (p0 + k)).length = s.length - (p0 + k) := List.length_drop
  generalize s.drop (p0 + k) = l at *
  unfold tokF at h
  cases l with
  | nil => simp at h; subst h; simp; omega
  | cons c r =>
    dsimp only at h
    split at h
    · split at h
      · cases h
      · split at h
        · cases h
        · injection h with h; subst h
          have := endF_le (c :: r)
          simp at this hl ⊢; omega
    · split at h
      · injection h with h; subst h
        have := (List.takeWhile_prefix wrdB (l := c :: r)).length_le
        simp only [List.length_cons] at this hl
        refine ⟨by simp, ?_, by simp⟩
        dsimp only; omega
      · split at h
        · cases h
        · rename_i m q hm
          injection h with h; subst h
          have hml : (m :: q).length ≤ (c :: r).length := by
            rw [← hm]; unfold markF
            split
            · rw [List.length_take]; omega
            · split
              · rw [List.length_take]; omega
              · dsimp only; split <;> simp
          simp only [List.length_cons] at hml hl
          refine ⟨by simp, ?_, by simp⟩
          simp only [List.length_cons]; omega
end Go.Proofs.YtadmmmehphhecaaGreatDoor
