/- Expressions as plain data, how they lie in memory, and what a parser's state is. No program in sight; no condition. -/
import Derived.Test.YtadmmmehphhecaaGreatDoorMem
set_option linter.unusedVariables false
set_option linter.unusedSimpArgs false
namespace Go.Proofs.YtadmmmehphhecaaGreatDoor
open Go.RowKit
mutual
/-- an expression: its op, number, name, and what it has -/
inductive Ex where
  | mk (op : List UInt8) (num : Int) (name : List UInt8) (kids : Exs)
/-- a row of expressions -/
inductive Exs where
  | nil
  | cons (e : Ex) (r : Exs)
end
def Exs.len : Exs → Nat
  | .nil => 0
  | .cons _ r => r.len + 1
def Ex.op : Ex → List UInt8 | .mk op _ _ _ => op
def Ex.num : Ex → Int | .mk _ n _ _ => n
def Ex.name : Ex → List UInt8 | .mk _ _ n _ => n
def Ex.kids : Ex → Exs | .mk _ _ _ k => k
mutual
/-- the cells of an expression read as it, and what it has lies in blocks of which P holds -/
def RdX (w : World) (P : Nat → Prop) : Ex → Value → Prop
  | .mk op num name kids, v => ∃ A cap, v = .agg #[.string ⟨op.toArray⟩, .int .i64 num, .string ⟨name.toArray⟩, .slice A kids.len cap] ∧ kids.len ≤ cap ∧ RdL w P kids A
/-- expressions lie one behind the other, from a place on -/
def RdL (w : World) (P : Nat → Prop) : Exs → Option Addr → Prop
  | .nil, _ => True
  | .cons e r, A => ∃ b off c0 c1 c2 c3, A = some ⟨b, off, none⟩ ∧ P b ∧ w.cell? ⟨b, off, none⟩ = some c0 ∧ w.cell? ⟨b, off + 1, none⟩ = some c1 ∧ w.cell? ⟨b, off + 2, none⟩ = some c2 ∧ w.cell? ⟨b, off + 3, none⟩ = some c3 ∧ RdX w P e (.agg #[c0, c1, c2, c3]) ∧ RdL w P r (some ⟨b, off + 4, none⟩)
end
mutual
theorem RdX.keep {w w' : World} {P Q : Nat → Prop} (h : ∀ b off u, P b → w.cell? ⟨b, off, none⟩ = some u → Q b ∧ w'.cell? ⟨b, off, none⟩ = some u) : ∀ (e : Ex) (v : Value), RdX w P e v → RdX w' Q e v
  | .mk op num name kids, v, hr => by
    unfold RdX at hr ⊢
    obtain ⟨A, cap, h1, h2, h3⟩ := hr
    exact ⟨A, cap, h1, h2, RdL.keep h kids A h3⟩
theorem RdL.keep {w w' : World} {P Q : Nat → Prop} (h : ∀ b off u, P b → w.cell? ⟨b, off, none⟩ = some u → Q b ∧ w'.cell? ⟨b, off, none⟩ = some u) : ∀ (l : Exs) (A : Option Addr), RdL w P l A → RdL w' Q l A
  | .nil, A, hr => by unfold RdL; trivial
  | .cons e r, A, hr => by
    unfold RdL at hr ⊢
    obtain ⟨b, off, c0, c1, c2, c3, h1, h2, h3, h4, h5, h6, h7, h8⟩ := hr
    exact ⟨b, off, c0, c1, c2, c3, h1, (h b _ _ h2 h3).1, (h b _ _ h2 h3).2, (h b _ _ h2 h4).2, (h b _ _ h2 h5).2, (h b _ _ h2 h6).2, RdX.keep h e _ h7, RdL.keep h r _ h8⟩
end
theorem RdX.below {w w' : World} {P : Nat → Prop} {e : Ex} {v : Value} (h : RdX w P e v) (hb : Below w.heap.size w w') : RdX w' P e v :=
  RdX.keep (fun b off u hp hu => ⟨hp, (hb.cell (World.block_lt_of_cell? w _ hu)).trans hu⟩) e v h
theorem RdL.below {w w' : World} {P : Nat → Prop} {l : Exs} {A : Option Addr} (h : RdL w P l A) (hb : Below w.heap.size w w') : RdL w' P l A :=
  RdL.keep (fun b off u hp hu => ⟨hp, (hb.cell (World.block_lt_of_cell? w _ hu)).trans hu⟩) l A h
/-- all blocks but one are as they were -/
theorem RdX.grown {w w' : World} {g : Nat} {e : Ex} {v : Value} (h : RdX w (· ≠ g) e v) (hb : w.grownBy w' (some g)) : RdX w' (· ≠ g) e v :=
  RdX.keep (fun b off u hp hu => ⟨hp, (World.cell?_of_block (w := w) (w' := w') (a := ⟨b, off, none⟩) (hb.block b (World.block_lt_of_cell? w _ hu) (by intro e; injection e with e; exact hp e))).trans hu⟩) e v h
theorem RdX.form {w : World} {P : Nat → Prop} {e : Ex} {v : Value} (h : RdX w P e v) : ∃ A cap, v = .agg #[.string ⟨e.op.toArray⟩, .int .i64 e.num, .string ⟨e.name.toArray⟩, .slice A e.kids.len cap] ∧ e.kids.len ≤ cap ∧ RdL w P e.kids A := by
  cases e; unfold RdX at h; exact h
/-- the panic's chain -/
def badV (at_ : Nat) (er : Int) (T : TypeId) : List PanicEntry := [{ v := .iface T (.agg #[.int .i64 (at_ : Int), .int .i64 er]), recovered := false }]
/-- a parser's state -/
structure PSt where
  at_ : Nat
  text : List UInt8
  num : Int
  kd : Nat
def kindS : Nat → List UInt8
  | 0 => []
  | 1 => [110, 117, 109]
  | _ => [110, 97, 109, 101]
/-- a parser's block -/
def PIn (T : TypeId) (w : World) (g : Nat) (s : ByteArray) (t : PSt) : Prop :=
  ∃ nm, Bk w g T #[.string s, .int .i64 (t.at_ : Int), .string ⟨t.text.toArray⟩, .int .i64 nm, .string ⟨(kindS t.kd).toArray⟩] ∧ (t.kd = 1 → nm = t.num)
theorem grownBy_trans {a b c : World} {row : Option Nat} (h : a.grownBy b row) (k : b.grownBy c row) : a.grownBy c row :=
  ⟨k.os.trans h.os, k.tape.trans h.tape, k.output.trans h.output, Nat.le_trans h.size k.size, fun j hj hr => (k.block j (Nat.lt_of_lt_of_le hj h.size) hr).trans (h.block j hj hr)⟩
theorem grown_of_below {w w' : World} {row : Option Nat} (h : Below w.heap.size w w') : w.grownBy w' row := ⟨h.os, h.tape, h.output, h.size, fun j hj _ => h.block j hj⟩
theorem grown_setCell {w : World} {p : Addr} {g : Nat} (hp : p.block = g) (u : Value) : w.grownBy (w.setCell p u) (some g) :=
  ⟨rfl, rfl, rfl, by simp [World.setCell], fun j hj hr => Below.heap_setCell _ _ _ _ (by intro e; exact hr (by rw [e, hp]))⟩
theorem below_of_grown {w w' : World} {g B : Nat} (h : w.grownBy w' (some g)) (hg : B ≤ g) (hB : B ≤ w.heap.size) : Below B w w' := ⟨h.os, h.tape, h.output, h.size, fun k hk => h.block k (by omega) (by intro e; injection e with e; omega)⟩
end Go.Proofs.YtadmmmehphhecaaGreatDoor
