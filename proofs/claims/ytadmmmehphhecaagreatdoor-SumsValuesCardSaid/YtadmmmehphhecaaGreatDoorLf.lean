/- Plain: size of an expression, whether it may be shown, its text. -/
import Derived.Test.YtadmmmehphhecaaGreatDoorLd
import Derived.Test.YtadmmmehphhecaaGreatDoorK
import Derived.Test.YtadmmmehphhecaaGreatDoorF
import Derived.Test.YtadmmmehphhecaaGreatDoorD
set_option linter.unusedVariables false
set_option linter.unusedSimpArgs false
namespace Go.Proofs.YtadmmmehphhecaaGreatDoor
open Go.RowKit
mutual
/-- how many ops -/
def szF : Ex → Nat
  | .mk _ _ _ k => szL k + 1
def szL : Exs → Nat
  | .nil => 0
  | .cons e r => szF e + szL r
end
theorem szF_pos (e : Ex) : 0 < szF e := by cases e; simp [szF]
theorem szL_len : ∀ l : Exs, l.len ≤ szL l
  | .nil => by simp [Exs.len]
  | .cons e r => by have := szL_len r; have := szF_pos e; simp only [Exs.len, szL]; omega
theorem szL_at : ∀ (l : Exs) (k : Nat) (h : k < l.toL.length), szF l.toL[k] ≤ szL l
  | .nil, k, h => by simp [Exs.toL] at h
  | .cons e r, 0, h => by simp only [Exs.toL, szL, List.getElem_cons_zero]; omega
  | .cons e r, k + 1, h => by
    have := szL_at r k (by simpa [Exs.toL] using h)
    simp only [Exs.toL, szL, List.getElem_cons_succ]; omega
theorem szF_kids (e : Ex) : szL e.kids + 1 = szF e := by cases e; rfl
theorem szF_at (e : Ex) (k : Nat) (h : k < e.kids.toL.length) : szF e.kids.toL[k] < szF e := by
  have := szL_at e.kids k h; have := szF_kids e; omega
theorem szF_len (e : Ex) : e.kids.len < szF e := by have := szL_len e.kids; have := szF_kids e; omega
/-- by the size: an induction on expressions -/
theorem Ex.ind {p : Ex → Prop} (h : ∀ e, (∀ k (hk : k < e.kids.toL.length), p e.kids.toL[k]) → p e) : ∀ e, p e := by
  intro e
  induction hn : szF e using Nat.strongRecOn generalizing e with
  | _ n ih =>
    subst hn
    exact h e fun k hk => ih _ (szF_at e k hk) _ rfl
mutual
/-- numbers of 64 bits, names of up to 4096 bytes -/
def okF : Ex → Bool
  | .mk _ n nm k => decide (-9223372036854775808 ≤ n) && decide (n ≤ 9223372036854775807) && decide (nm.length ≤ 4096) && okL k
def okL : Exs → Bool
  | .nil => true
  | .cons e r => okF e && okL r
end
theorem okL_at : ∀ (l : Exs) (k : Nat) (h : k < l.toL.length), okL l = true → okF l.toL[k] = true
  | .nil, k, h, _ => by simp [Exs.toL] at h
  | .cons e r, 0, h, ho => by simp only [okL, Bool.and_eq_true] at ho; exact ho.1
  | .cons e r, k + 1, h, ho => by
    simp only [okL, Bool.and_eq_true] at ho
    exact okL_at r k (by simpa [Exs.toL] using h) ho.2
theorem okF_parts {e : Ex} (h : okF e = true) : -9223372036854775808 ≤ e.num ∧ e.num ≤ 9223372036854775807 ∧ e.name.length ≤ 4096 ∧ okL e.kids = true := by
  cases e; simp only [okF, Bool.and_eq_true, decide_eq_true_eq] at h
  exact ⟨h.1.1.1, h.1.1.2, h.1.2, h.2⟩
/-- is a text a name -/
def nameB : List UInt8 → Bool
  | [] => false
  | b :: r => !digB b && (b :: r).all wrdB
/-- an expression's own part: may it be shown -/
def headB (op : List UInt8) (n : Int) (nm : List UInt8) (len : Nat) : Bool :=
  decide ((len : Int) = kidsF op) && !(decide (op = numO) && decide (n < 0)) && !((decide (op = nameO) || setF op) && !nameB nm)
mutual
def rightF : Ex → Bool
  | .mk op n nm k => headB op n nm k.len && rightL k
def rightL : Exs → Bool
  | .nil => true
  | .cons e r => rightF e && rightL r
end
theorem rightL_all : ∀ l : Exs, rightL l = l.toL.all rightF
  | .nil => rfl
  | .cons e r => by simp [rightL, Exs.toL, rightL_all r]
theorem rightF_eq (e : Ex) : rightF e = (headB e.op e.num e.name e.kids.len && e.kids.toL.all rightF) := by
  cases e; simp only [rightF, rightL_all]; rfl
/-- how an expression is told, from how what it has is told -/
def glueF (op : List UInt8) (n : Int) (nm : List UInt8) (ks : List (List UInt8)) : List UInt8 :=
  if op = numO then Lib.itoa n
  else if op = nameO then nm
  else if op = [110, 101, 103] then [40, 45] ++ ks.getD 0 [] ++ [41]
  else if op = [112, 111, 115] then [40, 43] ++ ks.getD 0 [] ++ [41]
  else if op = [110, 111, 116] then [40, 33] ++ ks.getD 0 [] ++ [41]
  else if op = [99, 111, 109] then [40, 126] ++ ks.getD 0 [] ++ [41]
  else if op = [63] then [40] ++ ks.getD 0 [] ++ [63] ++ ks.getD 1 [] ++ [58] ++ ks.getD 2 [] ++ [41]
  else if setF op = true then [40] ++ nm ++ op ++ ks.getD 0 [] ++ [41]
  else [40] ++ ks.getD 0 [] ++ op ++ ks.getD 1 [] ++ [41]
mutual
def showF : Ex → List UInt8
  | .mk op n nm k => glueF op n nm (showL k)
def showL : Exs → List (List UInt8)
  | .nil => []
  | .cons e r => showF e :: showL r
end
theorem showL_map : ∀ l : Exs, showL l = l.toL.map showF
  | .nil => rfl
  | .cons e r => by simp [showL, Exs.toL, showL_map r]
theorem showF_eq (e : Ex) : showF e = glueF e.op e.num e.name (e.kids.toL.map showF) := by
  cases e; simp only [showF, showL_map]; rfl
end Go.Proofs.YtadmmmehphhecaaGreatDoor
