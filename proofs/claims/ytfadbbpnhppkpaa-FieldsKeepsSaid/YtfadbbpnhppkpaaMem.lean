/- Words for memory (a slice that reads as a list, rows that the call owns, cells kept behind new blocks and appends) and small laws on them; no program in sight. No condition. -/
import Derived.WalkKit
import Derived.Deep.Draws
set_option linter.unusedVariables false
set_option linter.unusedSimpArgs false
namespace Go.Proofs.Ytfadbbpnhppkpaa
open Go.RowKit
theorem ret_bool {a b : Bool} (h : a = b) : Ending.returned (.bool a) = .returned (.bool b) := by rw [h]
theorem ret_int {k : IntKind} {a b : Int} (h : a = b) : Ending.returned (.int k a) = .returned (.int k b) := by rw [h]
theorem ret_val {a b : Value} (h : a = b) : Ending.returned a = .returned b := by rw [h]
theorem hid {p : Prop} (h : p) : Hid p := h

/-- the cells of marked bytes -/
def chs (l : List (UInt8 × Bool)) : List Value := l.flatMap fun c => [.int .u8 (c.1.toNat : Int), .bool c.2]
/-- the cells of bits -/
def bts (l : List (Int × UInt8)) : List Value := l.flatMap fun c => [.int .i64 c.1, .int .u8 (c.2.toNat : Int)]

theorem chs_len (l : List (UInt8 × Bool)) : (chs l).length = l.length * 2 := by
  induction l with
  | nil => rfl
  | cons a r ih => simp only [chs, List.flatMap_cons, List.length_append, List.length_cons, List.length_nil] at ih ⊢; omega
theorem bts_len (l : List (Int × UInt8)) : (bts l).length = l.length * 2 := by
  induction l with
  | nil => rfl
  | cons a r ih => simp only [bts, List.flatMap_cons, List.length_append, List.length_cons, List.length_nil] at ih ⊢; omega
theorem chs_append (a b : List (UInt8 × Bool)) : chs (a ++ b) = chs a ++ chs b := by simp [chs]
theorem bts_append (a b : List (Int × UInt8)) : bts (a ++ b) = bts a ++ bts b := by simp [bts]
theorem chs_one (l : List (UInt8 × Bool)) : ∀ u ∈ chs l, u.oneCell' = true := by
  intro u hu; simp only [chs, List.mem_flatMap] at hu; obtain ⟨c, _, hc⟩ := hu
  simp at hc; rcases hc with rfl | rfl <;> rfl
theorem bts_one (l : List (Int × UInt8)) : ∀ u ∈ bts l, u.oneCell' = true := by
  intro u hu; simp only [bts, List.mem_flatMap] at hu; obtain ⟨c, _, hc⟩ := hu
  simp at hc; rcases hc with rfl | rfl <;> rfl
theorem chs_at (l : List (UInt8 × Bool)) (k : Nat) (h : k < l.length) : (chs l)[k * 2]? = some (.int .u8 (l[k].1.toNat : Int)) ∧ (chs l)[k * 2 + 1]? = some (.bool l[k].2) := by
  induction l generalizing k with
  | nil => simp at h
  | cons a r ih =>
    cases k with
    | zero => exact ⟨rfl, rfl⟩
    | succ k =>
      have := ih k (by simpa using h)
      have e1 : (chs (a :: r))[(k + 1) * 2]? = (chs r)[k * 2]? := by simp [chs, Nat.add_mul]
      have e2 : (chs (a :: r))[(k + 1) * 2 + 1]? = (chs r)[k * 2 + 1]? := by simp [chs, Nat.add_mul]
      rw [e1, e2]; simpa using this
theorem bts_at (l : List (Int × UInt8)) (k : Nat) (h : k < l.length) : (bts l)[k * 2]? = some (.int .i64 l[k].1) ∧ (bts l)[k * 2 + 1]? = some (.int .u8 (l[k].2.toNat : Int)) := by
  induction l generalizing k with
  | nil => simp at h
  | cons a r ih =>
    cases k with
    | zero => exact ⟨rfl, rfl⟩
    | succ k =>
      have := ih k (by simpa using h)
      have e1 : (bts (a :: r))[(k + 1) * 2]? = (bts r)[k * 2]? := by simp [bts, Nat.add_mul]
      have e2 : (bts (a :: r))[(k + 1) * 2 + 1]? = (bts r)[k * 2 + 1]? := by simp [bts, Nat.add_mul]
      rw [e1, e2]; simpa using this
/-- a slice value of n elements whose cells, one behind the other, read as xs -/
def Rd (w : World) (v : Value) (n : Nat) (xs : List Value) : Prop :=
  ∃ A cap, v = .slice A n cap ∧ n ≤ cap ∧ (xs = [] ∨ ∃ b off, A = some ⟨b, off, none⟩ ∧ ∀ j u, xs[j]? = some u → w.cell? ⟨b, off + j, none⟩ = some u)

theorem Rd.nil (w : World) : Rd w (.slice none 0 0) 0 [] := ⟨none, 0, rfl, Nat.le_refl _, .inl rfl⟩
theorem Rd.keep {w w' : World} {v : Value} {n : Nat} {xs : List Value} (h : Rd w v n xs) (hk : ∀ a u, w.cell? a = some u → w'.cell? a = some u) : Rd w' v n xs := by
  obtain ⟨A, cap, rfl, hc, hx⟩ := h
  refine ⟨A, cap, rfl, hc, ?_⟩
  rcases hx with rfl | ⟨b, off, rfl, h⟩
  · exact .inl rfl
  · exact .inr ⟨b, off, rfl, fun j u hu => hk _ _ (h j u hu)⟩
theorem Rd.below {w w' : World} {v : Value} {n : Nat} {xs : List Value} (h : Rd w v n xs) (hb : Below w.heap.size w w') : Rd w' v n xs :=
  h.keep fun a u hu => (hb.cell (World.block_lt_of_cell? w a hu)).trans hu
theorem Rd.alloc {w : World} {v : Value} {n : Nat} {xs : List Value} (h : Rd w v n xs) (o : Obj) : Rd (w.alloc o) v n xs :=
  h.below ((Below.refl _ _).alloc (Nat.le_refl _) o)
theorem Rd.of_own {w : World} {base e size : Nat} {v : Value} {n : Nat} {xs : List Value} (h : w.ownsRow base e size v n xs) : Rd w v n xs := by
  rcases h.2 with ⟨rfl, rfl⟩ | ⟨g, cap, cur, rfl, hb, hg, hnc, _⟩
  · have : xs = [] := List.eq_nil_of_length_eq_zero (by simpa using h.1)
    subst this; exact Rd.nil w
  · refine ⟨_, cap, rfl, hnc, .inr ⟨g, 0, rfl, fun j u hu => ?_⟩⟩
    have := h.cells (g := g) rfl j u hu
    rwa [Addr.add_lit] at this
/-- the address and the cells of an element -/
theorem Rd.form {w : World} {v : Value} {n : Nat} {xs : List Value} (h : Rd w v n xs) (hx : xs ≠ []) : ∃ b off cap, v = .slice (some ⟨b, off, none⟩) n cap ∧ n ≤ cap ∧ ∀ j u, xs[j]? = some u → w.cell? ⟨b, off + j, none⟩ = some u := by
  obtain ⟨A, cap, rfl, hc, rfl | ⟨b, off, rfl, h⟩⟩ := h
  · exact absurd rfl hx
  · exact ⟨b, off, cap, rfl, hc, h⟩
/-- cells from a place on -/
def At (w : World) (b off : Nat) (xs : List Value) : Prop := ∀ j u, xs[j]? = some u → w.cell? ⟨b, off + j, none⟩ = some u
theorem At.below {w w' : World} {b off : Nat} {xs : List Value} (h : At w b off xs) (hb : Below w.heap.size w w') : At w' b off xs :=
  fun j u hu => (hb.cell (World.block_lt_of_cell? w _ (h j u hu))).trans (h j u hu)
theorem At.ch {w : World} {b off : Nat} {l : List (UInt8 × Bool)} (h : At w b off (chs l)) (k : Nat) (hk : k < l.length) :
    w.cell? ⟨b, off + k * 2, none⟩ = some (.int .u8 (l[k].1.toNat : Int)) ∧ w.cell? ⟨b, off + k * 2 + 1, none⟩ = some (.bool l[k].2) :=
  ⟨h _ _ (chs_at l k hk).1, h _ _ (chs_at l k hk).2⟩
theorem At.bt {w : World} {b off : Nat} {l : List (Int × UInt8)} (h : At w b off (bts l)) (k : Nat) (hk : k < l.length) :
    w.cell? ⟨b, off + k * 2, none⟩ = some (.int .i64 l[k].1) ∧ w.cell? ⟨b, off + k * 2 + 1, none⟩ = some (.int .u8 (l[k].2.toNat : Int)) :=
  ⟨h _ _ (bts_at l k hk).1, h _ _ (bts_at l k hk).2⟩
theorem At.lt {w : World} {b off : Nat} {xs : List Value} (h : At w b off xs) (hx : 0 < xs.length) : b < w.heap.size :=
  World.block_lt_of_cell? w _ (h 0 xs[0] (List.getElem?_eq_getElem hx))
theorem Rd.open_ {w : World} {v : Value} {n : Nat} {xs : List Value} (h : Rd w v n xs) : ∃ A cap, v = .slice A n cap ∧ n ≤ cap ∧ (xs = [] ∨ ∃ b off, A = some ⟨b, off, none⟩ ∧ At w b off xs) := h
theorem chs_pos {l : List (UInt8 × Bool)} (h : 0 < l.length) : 0 < (chs l).length := by rw [chs_len]; omega
theorem bts_pos {l : List (Int × UInt8)} (h : 0 < l.length) : 0 < (bts l).length := by rw [bts_len]; omega
theorem chs_ne {l : List (UInt8 × Bool)} {k : Nat} (h : k < l.length) (e : chs l = []) : False := by have := chs_len l; rw [e] at this; simp at this; omega
theorem bts_ne {l : List (Int × UInt8)} {k : Nat} (h : k < l.length) (e : bts l = []) : False := by have := bts_len l; rw [e] at this; simp at this; omega
theorem chs_snoc (l : List (UInt8 × Bool)) (k : Nat) (h : k < l.length) : chs (l.take (k + 1)) = chs (l.take k) ++ [.int .u8 (l[k].1.toNat : Int), .bool l[k].2] := by
  rw [List.take_succ_eq_append_getElem h, chs_append]; rfl
theorem bts_snoc (l : List (Int × UInt8)) (k : Nat) (h : k < l.length) : bts (l.take (k + 1)) = bts (l.take k) ++ [.int .i64 l[k].1, .int .u8 (l[k].2.toNat : Int)] := by
  rw [List.take_succ_eq_append_getElem h, bts_append]; rfl
theorem al {w : World} {a : Addr} {u : Value} {o : Obj} (h : w.cell? a = some u) : (w.alloc o).cell? a = some u :=
  (((Below.refl _ _).alloc (Nat.le_refl _) o).cell (World.block_lt_of_cell? w a h)).trans h
theorem dr {w : World} {a : Addr} {u : Value} (h : w.cell? a = some u) : w.drew.cell? a = some u := h
theorem alf {w : World} {a : Addr} {cs : Array Value} {t : TypeId} (h : w.frozen? a = false) : (w.alloc (.cells cs t)).frozen? a = false := by rw [frozen?_alloc_cells]; exact h
theorem drf {w : World} {a : Addr} (h : w.frozen? a = false) : w.drew.frozen? a = false := h
theorem grf {w w' : World} {row : Option Nat} {a : Addr} {u : Value} (hg : w.grownBy w' row) (hc : w.cell? a = some u) (h : w.frozen? a = false) (hne : some a.block ≠ row) : w'.frozen? a = false :=
  (World.frozen?_of_block (hg.block a.block (World.block_lt_of_cell? w a hc) hne)).trans h
theorem far {w : World} {a : Addr} {u v : Value} {p : Addr} (h : w.cell? a = some u) (hne : a.block ≠ p.block) : (w.setCell p v).cell? a = some u :=
  (World.cell?_of_block (Below.heap_setCell w p v a.block hne)).trans h
theorem own_ne_blk {w : World} {base e size n g t : Nat} {v : Value} {xs : List Value} {cs : Array Value} {fr : Nat × Nat} (h : w.ownsRow base e size v n xs) (hg : w.heap[g]? = some (.cells cs t fr)) (hne : e ≠ t) : v.ownBlock ≠ some g := by
  rcases h.2 with ⟨rfl, _⟩ | ⟨g', cap, cur, rfl, _, hh, _⟩
  · simp [Value.ownBlock]
  · intro he
    have : g' = g := by simpa [Value.ownBlock] using he
    subst this
    rw [hh] at hg
    injection hg with hg
    injection hg with _ ht
    exact hne ht
/-- a step of a region that draws is an append -/
theorem at_app {P : Program} {ops : Array Oper} {dst : Option Tmp} {s x : Operand} {t ty : TypeId} {pos : String} {af : Array Edge} {gd : Option (Nat × Bool)} {a : Act} {w : World} {K : Act → World → Prop} {Q : Exit → Act → World → Prop} {E : Prop}
    (h : if Region.wanted ⟨dst, .call ⟨.builtin .append, #[s, x], #[t, t]⟩, ty, pos, af, gd⟩ (yielded ops a.tmps) = true then Oper.wp P ⟨dst, .call ⟨.builtin .append, #[s, x], #[t, t]⟩, ty, pos, af, gd⟩ a w K Q else E) :
    if Region.wanted ⟨dst, .call ⟨.builtin .append, #[s, x], #[t, t]⟩, ty, pos, af, gd⟩ (yielded ops a.tmps) = true then Oper.wp P ⟨dst, .call ⟨.builtin .append, #[s, x], #[t, t]⟩, ty, pos, af, gd⟩ a w K Q else E := h
theorem set_mid {α : Type} (xs : List α) (a u : α) (zs : List α) : (xs ++ a :: zs).set xs.length u = xs ++ u :: zs := by simp
/-- two cells of an owned row are written -/
theorem own_set2 {w : World} {base e g n cap : Nat} {xs zs : List Value} {a b : Value} (h : w.ownsRow base e 2 (.slice (some ⟨g, 0, none⟩) n cap) n (xs ++ a :: b :: zs)) (k : Nat) (hk : xs.length = k * 2) (u u' : Value) :
    ((w.setCell ⟨g, k * 2, none⟩ u).setCell ⟨g, k * 2 + 1, none⟩ u').ownsRow base e 2 (.slice (some ⟨g, 0, none⟩) n cap) n (xs ++ u :: u' :: zs) := by
  have h1 := (h.stored (k * 2) u).1
  rw [← hk, set_mid] at h1
  have h2 := (h1.stored (k * 2 + 1) u').1
  have e : k * 2 + 1 = (xs ++ [u]).length := by simp [hk]
  rw [show xs ++ u :: b :: zs = (xs ++ [u]) ++ b :: zs by simp, e, set_mid] at h2
  rw [← hk] at e ⊢
  rw [e]
  simpa using h2
theorem own_set1 {w : World} {base e g n cap : Nat} {xs zs : List Value} {a : Value} (h : w.ownsRow base e 1 (.slice (some ⟨g, 0, none⟩) n cap) n (xs ++ a :: zs)) (k : Nat) (hk : xs.length = k) (u : Value) :
    (w.setCell ⟨g, k, none⟩ u).ownsRow base e 1 (.slice (some ⟨g, 0, none⟩) n cap) n (xs ++ u :: zs) := by
  have h1 := (h.stored k u).1
  rw [← hk, set_mid] at h1
  rw [← hk]; exact h1
end Go.Proofs.Ytfadbbpnhppkpaa
