/- The plain functions of the patterns: bare bytes, classes, groups, compiling, and what an item fits. No program in sight; no condition. -/
import Derived.Test.YthnmdhcgnimdfaaDoorMem
set_option linter.unusedVariables false
set_option linter.unusedSimpArgs false
namespace Go.Proofs.YthnmdhcgnimdfaaDoor
open Go.RowKit

abbrev Ch := UInt8 × Bool
abbrev Rg := UInt8 × UInt8
/-- an item of a pattern -/
structure It where
  kind : Int
  b : UInt8
  neg : Bool
  rs : List Rg

def bareB (t : List Ch) (s : List UInt8) : Bool := (s.map fun c => (c, false)).isPrefixOf t
def low (c : Ch) : Bool := !c.2 && decide (97 ≤ c.1.toNat) && decide (c.1.toNat ≤ 122)
def lowN (t : List Ch) : Nat := (t.takeWhile low).length
def namedB (t : List Ch) : Option (List UInt8 × Nat) :=
  if bareB t [91, 58] = true then
    if lowN (t.drop 2) = 0 then none
    else if bareB (t.drop (2 + lowN (t.drop 2))) [58, 93] = true then some (((t.take (2 + lowN (t.drop 2))).drop 2).map Prod.fst, 2 + lowN (t.drop 2) + 2)
    else none
  else none
def classL (nm : List UInt8) : List Rg :=
  if nm = [97, 108, 110, 117, 109] then [(48, 57), (65, 90), (97, 122)]
  else if nm = [97, 108, 112, 104, 97] then [(65, 90), (97, 122)]
  else if nm = [98, 108, 97, 110, 107] then [(9, 9), (32, 32)]
  else if nm = [115, 112, 97, 99, 101] then [(9, 13), (32, 32)]
  else if nm = [99, 110, 116, 114, 108] then [(0, 31), (127, 127)]
  else if nm = [112, 114, 105, 110, 116] then [(32, 126)]
  else if nm = [103, 114, 97, 112, 104] then [(33, 126)]
  else if nm = [100, 105, 103, 105, 116] then [(48, 57)]
  else if nm = [120, 100, 105, 103, 105, 116] then [(48, 57), (65, 70), (97, 102)]
  else if nm = [108, 111, 119, 101, 114] then [(97, 122)]
  else if nm = [117, 112, 112, 101, 114] then [(65, 90)]
  else if nm = [112, 117, 110, 99, 116] then [(33, 47), (58, 64), (91, 96), (123, 126)]
  else []
def rangeL (a b : UInt8) : List Rg := if a.toNat ≤ b.toNat then [(a, b)] else []
/-- the ranges of a group's next thing, and how many bytes it has -/
def thingB (c : Ch) (r : List Ch) : Option (List Rg × Nat) :=
  match namedB (c :: r) with
  | some (nm, n) => if classL nm = [] then none else some (classL nm, n)
  | none => match r with
    | d :: e :: _ => if d = (45, false) ∧ e ≠ (93, false) then some (rangeL c.1 e.1, 3) else some (rangeL c.1 c.1, 1)
    | _ => some (rangeL c.1 c.1, 1)
def gl (first : Bool) (rs : List Rg) (n : Nat) (t : List Ch) : Option (List Rg × Nat) :=
  match t with
  | [] => none
  | c :: r =>
    if first = false ∧ c = (93, false) then some (rs, n + 1)
    else match thingB c r with
      | none => none
      | some (l, k) => gl false (rs ++ l) (n + k) (r.drop (k - 1))
termination_by t.length
decreasing_by simp; omega
def grp (t : List Ch) : Option (Bool × List Rg × Nat) :=
  if bareB t [33] = true then (gl true [] 1 (t.drop 1)).map fun x => (true, x.1, x.2)
  else (gl true [] 0 t).map fun x => (false, x.1, x.2)
/-- the item with which a text begins, and how many bytes it has -/
def item1 (c : Ch) (r : List Ch) : It × Nat :=
  if c.2 = true then (⟨1, c.1, false, []⟩, 1)
  else if c.1 = 63 then (⟨2, 0, false, []⟩, 1)
  else if c.1 = 42 then (⟨3, 0, false, []⟩, 1)
  else if c.1 = 92 then match r with
    | d :: _ => (⟨1, d.1, false, []⟩, 2)
    | [] => (⟨1, 92, false, []⟩, 1)
  else if c.1 = 91 then match grp r with
    | some (ng, l, k) => (⟨4, 0, ng, l⟩, k + 1)
    | none => (⟨1, 91, false, []⟩, 1)
  else (⟨1, c.1, false, []⟩, 1)
def isStar (x : It) : Bool := x.kind == 3
def push (out : List It) (x : It) : List It := if isStar x = true ∧ (out.getLast?.map isStar) = some true then out else out ++ [x]
def cgo (out : List It) (t : List Ch) : List It :=
  match t with
  | [] => out
  | c :: r => cgo (push out (item1 c r).1) (r.drop ((item1 c r).2 - 1))
termination_by t.length
decreasing_by simp; omega
def compile (t : List Ch) : List It := cgo [] t

def inR (l : List Rg) (b : UInt8) : Bool := l.any fun r => decide (r.1.toNat ≤ b.toNat) && decide (b.toNat ≤ r.2.toNat)
def fitsB (x : It) (b : UInt8) : Bool :=
  if x.kind = 1 then x.b == b else if x.kind = 2 then true else if x.kind = 4 then inR x.rs b != x.neg else false

/-- the cells of ranges -/
def rgs (l : List Rg) : List Value := l.flatMap fun r => [.int .u8 (r.1.toNat : Int), .int .u8 (r.2.toNat : Int)]
/-- the cells of items, each with the value of its ranges -/
def itc (l : List (It × Value)) : List Value := l.flatMap fun p => [.int .i64 p.1.kind, .int .u8 (p.1.b.toNat : Int), .bool p.1.neg, p.2]
def RdI (w : World) (v : Value) (l : List It) : Prop :=
  ∃ ps : List (It × Value), ps.map Prod.fst = l ∧ Rd w v ps.length (itc ps) ∧ ∀ p ∈ ps, Rd w p.2 p.1.rs.length (rgs p.1.rs)

theorem rgs_len (l : List Rg) : (rgs l).length = l.length * 2 := by
  induction l with
  | nil => rfl
  | cons a r ih => simp only [rgs, List.flatMap_cons, List.length_append, List.length_cons, List.length_nil] at ih ⊢; omega
theorem itc_len (l : List (It × Value)) : (itc l).length = l.length * 4 := by
  induction l with
  | nil => rfl
  | cons a r ih => simp only [itc, List.flatMap_cons, List.length_append, List.length_cons, List.length_nil] at ih ⊢; omega
theorem rgs_append (a b : List Rg) : rgs (a ++ b) = rgs a ++ rgs b := by simp [rgs]
theorem itc_append (a b : List (It × Value)) : itc (a ++ b) = itc a ++ itc b := by simp [itc]
theorem rgs_one (l : List Rg) : ∀ u ∈ rgs l, u.oneCell' = true := by
  intro u hu; simp only [rgs, List.mem_flatMap] at hu; obtain ⟨c, _, hc⟩ := hu
  simp at hc; rcases hc with rfl | rfl <;> rfl
theorem rgs_at (l : List Rg) (k : Nat) (h : k < l.length) : (rgs l)[k * 2]? = some (.int .u8 (l[k].1.toNat : Int)) ∧ (rgs l)[k * 2 + 1]? = some (.int .u8 (l[k].2.toNat : Int)) := by
  induction l generalizing k with
  | nil => simp at h
  | cons a r ih =>
    cases k with
    | zero => exact ⟨rfl, rfl⟩
    | succ k =>
      have := ih k (by simpa using h)
      have e1 : (rgs (a :: r))[(k + 1) * 2]? = (rgs r)[k * 2]? := by simp [rgs, Nat.add_mul]
      have e2 : (rgs (a :: r))[(k + 1) * 2 + 1]? = (rgs r)[k * 2 + 1]? := by simp [rgs, Nat.add_mul]
      rw [e1, e2]; simpa using this
theorem itc_at (l : List (It × Value)) (k : Nat) (h : k < l.length) : (itc l)[k * 4]? = some (.int .i64 l[k].1.kind) ∧ (itc l)[k * 4 + 1]? = some (.int .u8 (l[k].1.b.toNat : Int)) ∧ (itc l)[k * 4 + 2]? = some (.bool l[k].1.neg) ∧ (itc l)[k * 4 + 3]? = some l[k].2 := by
  induction l generalizing k with
  | nil => simp at h
  | cons a r ih =>
    cases k with
    | zero => exact ⟨rfl, rfl, rfl, rfl⟩
    | succ k =>
      have := ih k (by simpa using h)
      have e1 : (itc (a :: r))[(k + 1) * 4]? = (itc r)[k * 4]? := by simp [itc, Nat.add_mul]
      have e2 : (itc (a :: r))[(k + 1) * 4 + 1]? = (itc r)[k * 4 + 1]? := by simp [itc, Nat.add_mul]
      have e3 : (itc (a :: r))[(k + 1) * 4 + 2]? = (itc r)[k * 4 + 2]? := by simp [itc, Nat.add_mul]
      have e4 : (itc (a :: r))[(k + 1) * 4 + 3]? = (itc r)[k * 4 + 3]? := by simp [itc, Nat.add_mul]
      rw [e1, e2, e3, e4]; simpa using this
theorem RdI.below {w w' : World} {v : Value} {l : List It} (h : RdI w v l) (hb : Below w.heap.size w w') : RdI w' v l := by
  obtain ⟨ps, h1, h2, h3⟩ := h
  exact ⟨ps, h1, h2.below hb, fun p hp => (h3 p hp).below hb⟩

theorem bareB_one (t : List Ch) (b : UInt8) : bareB t [b] = (t[0]? == some (b, false)) := by
  cases t with
  | nil => rfl
  | cons c r =>
    obtain ⟨x, q⟩ := c
    rw [Bool.eq_iff_iff]; simp [bareB, List.isPrefixOf, Prod.ext_iff]; exact fun _ => eq_comm
theorem bareB_two (t : List Ch) (a b : UInt8) : bareB t [a, b] = (t[0]? == some (a, false) && t[1]? == some (b, false)) := by
  match t with
  | [] => rfl
  | [c] => simp [bareB, List.isPrefixOf]
  | c :: d :: r =>
    obtain ⟨x, q⟩ := c; obtain ⟨y, p⟩ := d
    rw [Bool.eq_iff_iff]; simp [bareB, List.isPrefixOf, Prod.ext_iff]
    constructor
    · rintro ⟨⟨rfl, rfl⟩, rfl, rfl⟩; exact ⟨⟨rfl, rfl⟩, rfl, rfl⟩
    · rintro ⟨⟨rfl, rfl⟩, rfl, rfl⟩; exact ⟨⟨rfl, rfl⟩, rfl, rfl⟩
end Go.Proofs.YthnmdhcgnimdfaaDoor
