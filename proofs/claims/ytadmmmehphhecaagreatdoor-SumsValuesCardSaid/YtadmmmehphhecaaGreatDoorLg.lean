/- Plain: tables, marks between two, values. -/
import Derived.Test.YtadmmmehphhecaaGreatDoorLf
import Derived.Test.YtadmmmehphhecaaGreatDoorI
set_option linter.unusedVariables false
set_option linter.unusedSimpArgs false
namespace Go.Proofs.YtadmmmehphhecaaGreatDoor
open Go.RowKit
abbrev Tab := List (List UInt8 × List UInt8 × Bool)
/-- a name's text -/
def getF : Tab → List UInt8 → List UInt8 × Bool
  | [], _ => ([], false)
  | (n, v, _) :: r, x => if n = x then (v, true) else getF r x
/-- a name is given a text -/
def putF : Tab → List UInt8 → List UInt8 → Int × Tab
  | [], x, y => (0, [(x, y, false)])
  | (n, v, f) :: r, x, y => if n = x then (if f then (26, (n, v, f) :: r) else (0, (n, y, f) :: r)) else ((putF r x y).1, (n, v, f) :: (putF r x y).2)
/-- a mark between two -/
def twoV (op : List UInt8) (a b : Int) : Except Int Int :=
  if op = [42] then .ok (wrap64 (a * b))
  else if op = [47] ∨ op = [37] then
    if b = 0 then .error 24
    else if b = -1 then .ok (if op = [47] then wrap64 (-a) else 0)
    else if op = [47] then .ok (wrap64 (a.tdiv b)) else .ok (a.tmod b)
  else if op = [43] then .ok (wrap64 (a + b))
  else if op = [45] then .ok (wrap64 (a - b))
  else if op = [60, 60] then .ok (wrap64 (a * 2 ^ (b % 64).toNat))
  else if op = [62, 62] then .ok (a / 2 ^ (b % 64).toNat)
  else if op = [60] then .ok (if a < b then 1 else 0)
  else if op = [60, 61] then .ok (if a ≤ b then 1 else 0)
  else if op = [62] then .ok (if b < a then 1 else 0)
  else if op = [62, 61] then .ok (if b ≤ a then 1 else 0)
  else if op = [61, 61] then .ok (if a = b then 1 else 0)
  else if op = [33, 61] then .ok (if a = b then 0 else 1)
  else if op = [38] then .ok (bits .and .i64 a b)
  else if op = [94] then .ok (bits .xor .i64 a b)
  else .ok (bits .or .i64 a b)
/-- a text's number, with its error -/
def nameV (T : Tab) (x : List UInt8) : Except Int Int :=
  let p := numberF (Lib.trimS (getF T x).1 blks)
  if p.2 = 0 then .ok p.1 else .error p.2
abbrev VR := Except Int Int × Tab
def thenV (r : VR) (f : Int → Tab → VR) : VR :=
  match r with
  | (.error e, T) => (.error e, T)
  | (.ok n, T) => f n T
/-- a number is put -/
def storeV (nm : List UInt8) (n : Int) (T : Tab) : VR :=
  if (putF T nm (Lib.itoa n)).1 = 0 then (.ok n, (putF T nm (Lib.itoa n)).2) else (.error (putF T nm (Lib.itoa n)).1, (putF T nm (Lib.itoa n)).2)
/-- an assignment -/
def setV (op nm : List UInt8) (v : Tab → VR) (T : Tab) : VR :=
  if op = [61] then thenV (v T) fun n T1 => storeV nm n T1
  else match nameV T nm with
    | .error e => (.error e, T)
    | .ok a => thenV (v T) fun b T1 => match twoV op.dropLast a b with
      | .error e => (.error e, T1)
      | .ok n => storeV nm n T1
def bit (p : Prop) [Decidable p] : Int := if p then 1 else 0
def kidV (vs : List (Tab → VR)) (i : Nat) : Tab → VR := vs.getD i fun T => (.ok 0, T)
/-- a value, from the values of what it has -/
def combV (op : List UInt8) (num : Int) (nm : List UInt8) (vs : List (Tab → VR)) (T : Tab) : VR :=
  if ((vs.length : Int) ≠ kidsF op) then (.error 1, T)
  else if setF op = true then setV op nm (kidV vs 0) T
  else if op = numO then (.ok num, T)
  else if op = nameO then (nameV T nm, T)
  else if op = [110, 101, 103] then thenV (kidV vs 0 T) fun a T1 => (.ok (wrap64 (-a)), T1)
  else if op = [112, 111, 115] then kidV vs 0 T
  else if op = [110, 111, 116] then thenV (kidV vs 0 T) fun a T1 => (.ok (if a = 0 then 1 else 0), T1)
  else if op = [99, 111, 109] then thenV (kidV vs 0 T) fun a T1 => (.ok (-1 - a), T1)
  else if op = [38, 38] then thenV (kidV vs 0 T) fun a T1 => if a = 0 then (.ok 0, T1) else thenV (kidV vs 1 T1) fun b T2 => (.ok (if b = 0 then 0 else 1), T2)
  else if op = [124, 124] then thenV (kidV vs 0 T) fun a T1 => if a = 0 then thenV (kidV vs 1 T1) fun b T2 => (.ok (if b = 0 then 0 else 1), T2) else (.ok 1, T1)
  else if op = [63] then thenV (kidV vs 0 T) fun a T1 => if a = 0 then kidV vs 2 T1 else kidV vs 1 T1
  else thenV (kidV vs 0 T) fun a T1 => thenV (kidV vs 1 T1) fun b T2 => (twoV op a b, T2)
mutual
def valF : Ex → Tab → VR
  | .mk op num nm k => combV op num nm (valL k)
def valL : Exs → List (Tab → VR)
  | .nil => []
  | .cons e r => valF e :: valL r
end
theorem valL_map : ∀ l : Exs, valL l = l.toL.map valF
  | .nil => rfl
  | .cons e r => by simp [valL, Exs.toL, valL_map r]
theorem valF_eq (e : Ex) : valF e = combV e.op e.num e.name (e.kids.toL.map valF) := by
  cases e; simp only [valF, valL_map]; rfl
end Go.Proofs.YtadmmmehphhecaaGreatDoor
