/- Plain: a value keeps a table's texts short, grows it little, and is a number of 64 bits. -/
import Derived.Test.YtadmmmehphhecaaGreatDoorLo
set_option linter.unusedVariables false
set_option linter.unusedSimpArgs false
namespace Go.Proofs.YtadmmmehphhecaaGreatDoor
open Go.RowKit
def I64 (n : Int) : Prop := -9223372036854775808 ≤ n ∧ n ≤ 9223372036854775807
theorem wrap64_rng (n : Int) : I64 (wrap64 n) := by unfold wrap64 I64; omega
theorem bits_rng (o : BinOp) (a b : Int) : I64 (bits o .i64 a b) := by
  show I64 (IntKind.i64.wrap _)
  rw [IntWalk.i64_left]; exact wrap64_rng _
theorem bool_rng (p : Prop) [Decidable p] : I64 (if p then 1 else 0) := by unfold I64; split <;> omega
theorem bool_rng' (p : Prop) [Decidable p] : I64 (if p then 0 else 1) := by unfold I64; split <;> omega
theorem tmod_rng (a b : Int) (ha : I64 a) (hb : I64 b) (h0 : b ≠ 0) : I64 (a.tmod b) := by
  have h1 := Int.natAbs_tmod a b
  have h2 : a.natAbs % b.natAbs < b.natAbs := Nat.mod_lt _ (by omega)
  unfold I64 at *; omega
theorem shr_rng (a : Int) (k : Nat) (ha : I64 a) : I64 (a / 2 ^ k) := by
  have hd : (0 : Int) < 2 ^ k := Int.pow_pos (by decide)
  generalize (2 : Int) ^ k = d at *
  unfold I64 at *
  refine ⟨Int.le_ediv_of_mul_le hd ?_, Int.le_of_lt_add_one (Int.ediv_lt_of_lt_mul hd ?_)⟩
  · have : -9223372036854775808 * d ≤ -9223372036854775808 * 1 := by omega
    omega
  · have : 9223372036854775808 * 1 ≤ 9223372036854775808 * d := by omega
    omega
def OkI (x : Except Int Int) : Prop := ∀ n, x = .ok n → I64 n
theorem OkI.ite {p : Prop} [Decidable p] {a b : Except Int Int} (h : p → OkI a) (k : ¬ p → OkI b) : OkI (if p then a else b) := by
  split
  · exact h ‹_›
  · exact k ‹_›
theorem OkI.ok {n : Int} (h : I64 n) : OkI (.ok n) := fun k hk => by injection hk with hk; subst hk; exact h
theorem OkI.bad (e : Int) : OkI (.error e) := fun k hk => by cases hk
theorem ite_rng {p : Prop} [Decidable p] {a b : Int} (h : I64 a) (k : I64 b) : I64 (if p then a else b) := by split <;> assumption
theorem two_okI (op : List UInt8) {a b : Int} (ha : I64 a) (hb : I64 b) : OkI (twoV op a b) := by
  unfold twoV
  repeat' (refine OkI.ite (fun h => ?_) (fun h => ?_))
  all_goals first
    | exact OkI.bad _
    | exact OkI.ok (wrap64_rng _)
    | exact OkI.ok (bits_rng _ _ _)
    | exact OkI.ok (bool_rng _)
    | exact OkI.ok (bool_rng' _)
    | exact OkI.ok (shr_rng _ _ ha)
    | exact OkI.ok (tmod_rng _ _ ha hb (by assumption))
    | exact OkI.ok (ite_rng (wrap64_rng _) (by unfold I64; omega))
theorem two_rng {op : List UInt8} {a b n : Int} (ha : I64 a) (hb : I64 b) (h : twoV op a b = .ok n) : I64 n := two_okI op ha hb n h
theorem sign_rng (less : Bool) (q : List UInt8) : I64 (signF less q).1 := by
  unfold signF
  split
  · rename_i k hk
    by_cases h : endF q = q.length ∧ k ≤ (if less then 9223372036854775808 else 9223372036854775807)
    · rw [if_pos h]
      have := h.2
      unfold I64
      cases less <;> simp at this ⊢ <;> omega
    · rw [if_neg h]; unfold I64; simp
  · unfold I64; simp
theorem number_rng (l : List UInt8) : I64 (numberF l).1 := by
  unfold numberF
  split
  · unfold I64; simp
  · split
    · exact sign_rng _ _
    · split <;> exact sign_rng _ _
/-- what is wanted of a value as a function of the table -/
def GoodV (f : Tab → VR) (m : Nat) : Prop := ∀ T, Short T → Short (f T).2 ∧ (f T).2.length ≤ T.length + m ∧ ∀ n, (f T).1 = .ok n → I64 n
theorem GoodV.le {f : Tab → VR} {m m' : Nat} (h : GoodV f m) (hm : m ≤ m') : GoodV f m' := fun T hT => by
  obtain ⟨h1, h2, h3⟩ := h T hT; exact ⟨h1, by omega, h3⟩
theorem GoodV.ok {n : Int} (h : I64 n) : GoodV (fun T => (.ok n, T)) 0 := fun T hT => ⟨hT, by simp, fun k hk => by injection hk with hk; subst hk; exact h⟩
theorem GoodV.bad (e : Int) : GoodV (fun T => (.error e, T)) 0 := fun T hT => ⟨hT, by simp, fun k hk => by cases hk⟩
theorem GoodV.then_ {f : Tab → VR} {g : Int → Tab → VR} {m m' : Nat} (h : GoodV f m) (k : ∀ n, I64 n → GoodV (g n) m') : GoodV (fun T => thenV (f T) g) (m + m') := fun T hT => by
  obtain ⟨h1, h2, h3⟩ := h T hT
  show Short (thenV (f T) g).2 ∧ (thenV (f T) g).2.length ≤ T.length + (m + m') ∧ ∀ n, (thenV (f T) g).1 = .ok n → I64 n
  cases hf : f T with
  | mk r T1 =>
    rw [hf] at h1 h2 h3
    cases r with
    | error e => exact ⟨h1, by show T1.length ≤ _; dsimp only at h2; omega, fun n hn => by cases hn⟩
    | ok n =>
      obtain ⟨k1, k2, k3⟩ := k n (h3 n rfl) T1 h1
      exact ⟨k1, by show (g n T1).2.length ≤ _; dsimp only at h2; omega, k3⟩
theorem putF_short : ∀ (T : Tab) (x y : List UInt8), Short T → y.length ≤ 100 → Short (putF T x y).2 ∧ (putF T x y).2.length ≤ T.length + 1
  | [], x, y, _, hy => by simp [putF, Short]; exact hy
  | (n, v, f) :: r, x, y, h, hy => by
    have hr : Short r := fun p hp => h p (by simp [hp])
    have h0 : v.length ≤ 100 := h (n, v, f) (by simp)
    obtain ⟨i1, i2⟩ := putF_short r x y hr hy
    unfold putF
    split
    · split
      · exact ⟨h, by simp⟩
      · refine ⟨fun p hp => ?_, by simp⟩
        simp at hp
        rcases hp with rfl | hp
        · exact hy
        · exact hr p hp
    · refine ⟨fun p hp => ?_, by simp; omega⟩
      simp at hp
      rcases hp with rfl | hp
      · exact h0
      · exact i1 p hp
theorem GoodV.store (nm : List UInt8) {n : Int} (h : I64 n) : GoodV (storeV nm n) 1 := fun T hT => by
  have hl := itoa_len n h.1 h.2
  obtain ⟨h1, h2⟩ := putF_short T nm (Lib.itoa n) hT (by omega)
  unfold storeV
  split
  · exact ⟨h1, h2, fun k hk => by injection hk with hk; subst hk; exact h⟩
  · exact ⟨h1, h2, fun k hk => by cases hk⟩
theorem name_rng {T : Tab} {x : List UInt8} {n : Int} (h : nameV T x = .ok n) : I64 n := by
  unfold nameV at h
  dsimp only at h
  split at h
  · injection h with h; subst h; exact number_rng _
  · cases h
theorem GoodV.name (x : List UInt8) : GoodV (fun T => (nameV T x, T)) 0 := fun T hT => ⟨hT, by simp, fun n hn => name_rng hn⟩
theorem GoodV.set_ (op nm : List UInt8) {f : Tab → VR} {m : Nat} (h : GoodV f m) : GoodV (setV op nm f) (m + 1) := by
  unfold setV
  by_cases ho : op = [61]
  · simp only [if_pos ho]
    exact h.then_ fun n hn => GoodV.store nm hn
  · simp only [if_neg ho]
    intro T hT
    dsimp only
    cases hn : nameV T nm with
    | error e => exact ⟨hT, by simp, fun n hn => by cases hn⟩
    | ok a =>
      refine (h.then_ (g := fun b T1 => match twoV op.dropLast a b with | .error e => (.error e, T1) | .ok n => storeV nm n T1) (m' := 1) fun b hb => ?_) T hT
      intro T1 hT1
      dsimp only
      cases h2 : twoV op.dropLast a b with
      | error e => exact ((GoodV.bad e).le (by omega)) T1 hT1
      | ok n => exact GoodV.store nm (two_rng (name_rng hn) hb h2) T1 hT1
theorem GoodV.two (op : List UInt8) {a b : Int} (ha : I64 a) (hb : I64 b) : GoodV (fun T => (twoV op a b, T)) 0 := fun T hT => ⟨hT, by simp, fun n hn => two_rng ha hb hn⟩
theorem val_good : ∀ e : Ex, okF e = true → GoodV (valF e) (szF e) := by
  intro e
  induction hs : szF e using Nat.strongRecOn generalizing e with
  | _ m ih =>
    subst hs
    intro ho
    obtain ⟨op, n, nm, k⟩ := e
    simp only [okF, Bool.and_eq_true, decide_eq_true_eq] at ho
    obtain ⟨⟨⟨o1, o2⟩, o3⟩, o4⟩ := ho
    have key : ∀ x : Ex, szF x < szF (.mk op n nm k) → okF x = true → GoodV (valF x) (szF x) := fun x hx ho => ih _ hx x rfl ho
    have hv : (valL k).length = k.len := by rw [valL_map, List.length_map, Exs.toL_len]
    show GoodV (combV op n nm (valL k)) _
    by_cases hl : (k.len : Int) = kidsF op
    case neg =>
      have : combV op n nm (valL k) = fun T => (.error 1, T) := by funext T; unfold combV; rw [hv, if_pos hl]
      rw [this]; exact (GoodV.bad 1).le (by omega)
    have hc : combV op n nm (valL k) = fun T => combV op n nm (valL k) T := rfl
    rcases op_kinds (op := op) (by omega) with rfl | rfl | h | rfl | h | ⟨h, h', h''⟩
    · have : combV numO n nm (valL k) = fun T => (.ok n, T) := by funext T; unfold combV; rw [hv, if_neg (by simpa using hl), if_neg (by decide), if_pos rfl]
      rw [this]; exact (GoodV.ok ⟨o1, o2⟩).le (by omega)
    · have : combV nameO n nm (valL k) = fun T => (nameV T nm, T) := by funext T; unfold combV; rw [hv, if_neg (by simpa using hl), if_neg (by decide), if_neg (by decide), if_pos rfl]
      rw [this]; exact (GoodV.name nm).le (by omega)
    · have hl' := hl
      rw [kidsF_una h] at hl'
      obtain ⟨x, rfl⟩ := Exs.one (k := k) (by omega)
      simp only [okL, Bool.and_eq_true] at o4
      have hx := key x (by simp only [szF, szL]; omega) o4.1
      have hsz : szF x ≤ szF (.mk op n nm (.cons x .nil)) := by simp only [szF, szL]; omega
      rcases h with rfl | rfl | rfl | rfl
      · exact (hx.then_ (g := fun a T1 => (.ok (wrap64 (-a)), T1)) (m' := 0) fun a ha => GoodV.ok (wrap64_rng _)).le hsz
      · exact hx.le hsz
      · exact (hx.then_ (g := fun a T1 => (.ok (if a = 0 then 1 else 0), T1)) (m' := 0) fun a ha => GoodV.ok (bool_rng _)).le hsz
      · exact (hx.then_ (g := fun a T1 => (.ok (-1 - a), T1)) (m' := 0) fun a ha => GoodV.ok (by unfold I64 at *; omega)).le hsz
    · rw [show kidsF [63] = 3 by decide] at hl
      obtain ⟨x, y, z, rfl⟩ := Exs.three (k := k) (by omega)
      simp only [okL, Bool.and_eq_true] at o4
      have hx := key x (by simp only [szF, szL]; omega) o4.1
      have hy := key y (by simp only [szF, szL]; omega) o4.2.1
      have hz := key z (by simp only [szF, szL]; omega) o4.2.2.1
      refine (hx.then_ (g := fun a T1 => if a = 0 then valF z T1 else valF y T1) (m' := szF y + szF z) fun a ha => ?_).le (by simp only [szF, szL]; omega)
      by_cases h0 : a = 0
      · simp only [if_pos h0]; exact hz.le (by omega)
      · simp only [if_neg h0]; exact hy.le (by omega)
    · have hl' := hl
      rw [setF_kids h] at hl'
      obtain ⟨x, rfl⟩ := Exs.one (k := k) (by omega)
      simp only [okL, Bool.and_eq_true] at o4
      have hx := key x (by simp only [szF, szL]; omega) o4.1
      have : combV op n nm (valL (.cons x .nil)) = setV op nm (valF x) := by funext T; unfold combV; rw [hv, if_neg (by simpa using hl), if_pos h]; rfl
      rw [this]; exact (hx.set_ op nm).le (by simp only [szF, szL]; omega)
    · have hl' := hl
      rw [h''] at hl'
      obtain ⟨x, y, rfl⟩ := Exs.two (k := k) (by omega)
      simp only [okL, Bool.and_eq_true] at o4
      have hx := key x (by simp only [szF, szL]; omega) o4.1
      have hy := key y (by simp only [szF, szL]; omega) o4.2.1
      have hsz : szF x + szF y ≤ szF (.mk op n nm (.cons x (.cons y .nil))) := by simp only [szF, szL]; omega
      have e1 : op ≠ numO := by rintro rfl; revert h; decide
      have e2 : op ≠ nameO := by rintro rfl; revert h; decide
      have e3 : op ≠ [110, 101, 103] := by rintro rfl; revert h; decide
      have e4 : op ≠ [112, 111, 115] := by rintro rfl; revert h; decide
      have e5 : op ≠ [110, 111, 116] := by rintro rfl; revert h; decide
      have e6 : op ≠ [99, 111, 109] := by rintro rfl; revert h; decide
      have e7 : op ≠ [63] := by rintro rfl; revert h; decide
      by_cases h1 : op = [38, 38]
      · subst h1
        refine (hx.then_ (g := fun a T1 => if a = 0 then (.ok 0, T1) else thenV (valF y T1) fun b T2 => (.ok (if b = 0 then 0 else 1), T2)) (m' := szF y) fun a ha => ?_).le hsz
        by_cases h0 : a = 0
        · simp only [if_pos h0]; exact (GoodV.ok (by unfold I64; omega)).le (by omega)
        · simp only [if_neg h0]; exact (hy.then_ (m' := 0) fun b hb => GoodV.ok (bool_rng' _))
      by_cases h2 : op = [124, 124]
      · subst h2
        refine (hx.then_ (g := fun a T1 => if a = 0 then thenV (valF y T1) fun b T2 => (.ok (if b = 0 then 0 else 1), T2) else (.ok 1, T1)) (m' := szF y) fun a ha => ?_).le hsz
        by_cases h0 : a = 0
        · simp only [if_pos h0]; exact (hy.then_ (m' := 0) fun b hb => GoodV.ok (bool_rng' _))
        · simp only [if_neg h0]; exact (GoodV.ok (by unfold I64; omega)).le (by omega)
      have : combV op n nm (valL (.cons x (.cons y .nil))) = fun T => thenV (valF x T) fun a T1 => thenV (valF y T1) fun b T2 => (twoV op a b, T2) := by
        funext T; unfold combV
        rw [hv, if_neg (by simpa using hl), if_neg (by rw [h']; decide), if_neg e1, if_neg e2, if_neg e3, if_neg e4, if_neg e5, if_neg e6, if_neg h1, if_neg h2, if_neg e7]; rfl
      rw [this]
      exact (hx.then_ fun a ha => (hy.then_ (m' := 0) fun b hb => GoodV.two op ha hb)).le (by omega)
end Go.Proofs.YtadmmmehphhecaaGreatDoor
