/- Words for memory (a slice that reads as a list, rows that the call owns, cells kept behind new blocks and appends) and small laws on them; no program in sight. No condition. -/
import Derived.WalkKit
import Derived.Deep.Draws
import Derived.Deep.AppendLies
import Derived.Maps.AppendAt
set_option linter.unusedVariables false
set_option linter.unusedSimpArgs false
namespace Go.Proofs.YtadmmmehphhecaaGreatDoor
open Go.RowKit
theorem ret_bool {a b : Bool} (h : a = b) : Ending.returned (.bool a) = .returned (.bool b) := by rw [h]
theorem ret_int {k : IntKind} {a b : Int} (h : a = b) : Ending.returned (.int k a) = .returned (.int k b) := by rw [h]
theorem ret_val {a b : Value} (h : a = b) : Ending.returned a = .returned b := by rw [h]
theorem hid {p : Prop} (h : p) : Hid p := h

/-- the cells of marked bytes -/
def chs (l : List (UInt8 × Bool)) : List Value := l.flatMap fun c => [.int .u8 (c.1.toNat : Int), .bool c.2]
/-- the cells of bits -/
def bts (l : List (Int × UInt8)) : List Value := l.flatMap fun c => [.int .i64 c.1, .int .u8 (c.2.toNat : Int)]

theorem chs_len (l : List (UInt8 × Bool)) : (chs l).length = l.length * 2 := by
  induction l with
  | nil => rfl
  | cons a r ih => simp only [chs, List.flatMap_cons, List.length_append, List.length_cons, List.length_nil] at ih ⊢; omega
theorem bts_len (l : List (Int × UInt8)) : (bts l).length = l.length * 2 := by
  induction l with
  | nil => rfl
  | cons a r ih => simp only [bts, List.flatMap_cons, List.length_append, List.length_cons, List.length_nil] at ih ⊢; omega
theorem chs_append (a b : List (UInt8 × Bool)) : chs (a ++ b) = chs a ++ chs b := by simp [chs]
theorem bts_append (a b : List (Int × UInt8)) : bts (a ++ b) = bts a ++ bts b := by simp [bts]
theorem chs_one (l : List (UInt8 × Bool)) : ∀ u ∈ chs l, u.oneCell' = true := by
  intro u hu; simp only [chs, List.mem_flatMap] at hu; obtain ⟨c, _, hc⟩ := hu
  simp at hc; rcases hc with rfl | rfl <;> rfl
theorem bts_one (l : List (Int × UInt8)) : ∀ u ∈ bts l, u.oneCell' = true := by
  intro u hu; simp only [bts, List.mem_flatMap] at hu; obtain ⟨c, _, hc⟩ := hu
  simp at hc; rcases hc with rfl | rfl <;> rfl
theorem chs_at (l : List (UInt8 × Bool)) (k : Nat) (h : k < l.length) : (chs l)[k * 2]? = some (.int .u8 (l[k].1.toNat : Int)) ∧ (chs l)[k * 2 + 1]? = some (.bool l[k].2) := by
  induction l generalizing k with
  | nil => simp at h
  | cons a r ih =>
    cases k with
    | zero => exact ⟨rfl, rfl⟩
    | succ k =>
      have := ih k (by simpa using h)
      have e1 : (chs (a :: r))[(k + 1) * 2]? = (chs r)[k * 2]? := by simp [chs, Nat.add_mul]
      have e2 : (chs (a :: r))[(k + 1) * 2 + 1]? = (chs r)[k * 2 + 1]? := by simp [chs, Nat.add_mul]
      rw [e1, e2]; simpa using this
theorem bts_at (l : List (Int × UInt8)) (k : Nat) (h : k < l.length) : (bts l)[k * 2]? = some (.int .i64 l[k].1) ∧ (bts l)[k * 2 + 1]? = some (.int .u8 (l[k].2.toNat : Int)) := by
  induction l generalizing k with
  | nil => simp at h
  | cons a r ih =>
    cases k with
    | zero => exact ⟨rfl, rfl⟩
    | succ k =>
      have := ih k (by simpa using h)
      have e1 : (bts (a :: r))[(k + 1) * 2]? = (bts r)[k * 2]? := by simp [bts, Nat.add_mul]
      have e2 : (bts (a :: r))[(k + 1) * 2 + 1]? = (bts r)[k * 2 + 1]? := by simp [bts, Nat.add_mul]
      rw [e1, e2]; simpa using this
/-- a slice value of n elements whose cells, one behind the other, read as xs -/
def Rd (w : World) (v : Value) (n : Nat) (xs : List Value) : Prop :=
  ∃ A cap, v = .slice A n cap ∧ n ≤ cap ∧ (xs = [] ∨ ∃ b off, A = some ⟨b, off, none⟩ ∧ ∀ j u, xs[j]? = some u → w.cell? ⟨b, off + j, none⟩ = some u)

theorem Rd.nil (w : World) : Rd w (.slice none 0 0) 0 [] := ⟨none, 0, rfl, Nat.le_refl _, .inl rfl⟩
theorem Rd.keep {w w' : World} {v : Value} {n : Nat} {xs : List Value} (h : Rd w v n xs) (hk : ∀ a u, w.cell? a = some u → w'.cell? a = some u) : Rd w' v n xs := by
  obtain ⟨A, cap, rfl, hc, hx⟩ := h
  refine ⟨A, cap, rfl, hc, ?_⟩
  rcases hx with rfl | ⟨b, off, rfl, h⟩
  · exact .inl rfl
  · exact .inr ⟨b, off, rfl, fun j u hu => hk _ _ (h j u hu)⟩
theorem Rd.below {w w' : World} {v : Value} {n : Nat} {xs : List Value} (h : Rd w v n xs) (hb : Below w.heap.size w w') : Rd w' v n xs :=
  h.keep fun a u hu => (hb.cell (World.block_lt_of_cell? w a hu)).trans hu
theorem Rd.alloc {w : World} {v : Value} {n : Nat} {xs : List Value} (h : Rd w v n xs) (o : Obj) : Rd (w.alloc o) v n xs :=
  h.below ((Below.refl _ _).alloc (Nat.le_refl _) o)
theorem Rd.of_own {w : World} {base e size : Nat} {v : Value} {n : Nat} {xs : List Value} (h : w.ownsRow base e size v n xs) : Rd w v n xs := by
  rcases h.2 with ⟨rfl, rfl⟩ | ⟨g, cap, cur, rfl, hb, hg, hnc, _⟩
  · have : xs = [] := List.eq_nil_of_length_eq_zero (by simpa using h.1)
    subst this; exact Rd.nil w
  · refine ⟨_, cap, rfl, hnc, .inr ⟨g, 0, rfl, fun j u hu => ?_⟩⟩
    have := h.cells (g := g) rfl j u hu
    rwa [Addr.add_lit] at this
/-- the address and the cells of an element -/
theorem Rd.form {w : World} {v : Value} {n : Nat} {xs : List Value} (h : Rd w v n xs) (hx : xs ≠ []) : ∃ b off cap, v = .slice (some ⟨b, off, none⟩) n cap ∧ n ≤ cap ∧ ∀ j u, xs[j]? = some u → w.cell? ⟨b, off + j, none⟩ = some u := by
  obtain ⟨A, cap, rfl, hc, rfl | ⟨b, off, rfl, h⟩⟩ := h
  · exact absurd rfl hx
  · exact ⟨b, off, cap, rfl, hc, h⟩
/-- cells from a place on -/
def At (w : World) (b off : Nat) (xs : List Value) : Prop := ∀ j u, xs[j]? = some u → w.cell? ⟨b, off + j, none⟩ = some u
theorem At.below {w w' : World} {b off : Nat} {xs : List Value} (h : At w b off xs) (hb : Below w.heap.size w w') : At w' b off xs :=
  fun j u hu => (hb.cell (World.block_lt_of_cell? w _ (h j u hu))).trans (h j u hu)
theorem At.ch {w : World} {b off : Nat} {l : List (UInt8 × Bool)} (h : At w b off (chs l)) (k : Nat) (hk : k < l.length) :
    w.cell? ⟨b, off + k * 2, none⟩ = some (.int .u8 (l[k].1.toNat : Int)) ∧ w.cell? ⟨b, off + k * 2 + 1, none⟩ = some (.bool l[k].2) :=
  ⟨h _ _ (chs_at l k hk).1, h _ _ (chs_at l k hk).2⟩
theorem At.bt {w : World} {b off : Nat} {l : List (Int × UInt8)} (h : At w b off (bts l)) (k : Nat) (hk : k < l.length) :
    w.cell? ⟨b, off + k * 2, none⟩ = some (.int .i64 l[k].1) ∧ w.cell? ⟨b, off + k * 2 + 1, none⟩ = some (.int .u8 (l[k].2.toNat : Int)) :=
  ⟨h _ _ (bts_at l k hk).1, h _ _ (bts_at l k hk).2⟩
theorem At.lt {w : World} {b off : Nat} {xs : List Value} (h : At w b off xs) (hx : 0 < xs.length) : b < w.heap.size :=
  World.block_lt_of_cell? w _ (h 0 xs[0] (List.getElem?_eq_getElem hx))
theorem Rd.open_ {w : World} {v : Value} {n : Nat} {xs : List Value} (h : Rd w v n xs) : ∃ A cap, v = .slice A n cap ∧ n ≤ cap ∧ (xs = [] ∨ ∃ b off, A = some ⟨b, off, none⟩ ∧ At w b off xs) := h
theorem chs_pos {l : List (UInt8 × Bool)} (h : 0 < l.length) : 0 < (chs l).length := by rw [chs_len]; omega
theorem bts_pos {l : List (Int × UInt8)} (h : 0 < l.length) : 0 < (bts l).length := by rw [bts_len]; omega
theorem chs_ne {l : List (UInt8 × Bool)} {k : Nat} (h : k < l.length) (e : chs l = []) : False := by have := chs_len l; rw [e] at this; simp at this; omega
theorem bts_ne {l : List (Int × UInt8)} {k : Nat} (h : k < l.length) (e : bts l = []) : False := by have := bts_len l; rw [e] at this; simp at this; omega
theorem chs_snoc (l : List (UInt8 × Bool)) (k : Nat) (h : k < l.length) : chs (l.take (k + 1)) = chs (l.take k) ++ [.int .u8 (l[k].1.toNat : Int), .bool l[k].2] := by
  rw [List.take_succ_eq_append_getElem h, chs_append]; rfl
theorem bts_snoc (l : List (Int × UInt8)) (k : Nat) (h : k < l.length) : bts (l.take (k + 1)) = bts (l.take k) ++ [.int .i64 l[k].1, .int .u8 (l[k].2.toNat : Int)] := by
  rw [List.take_succ_eq_append_getElem h, bts_append]; rfl
theorem al {w : World} {a : Addr} {u : Value} {o : Obj} (h : w.cell? a = some u) : (w.alloc o).cell? a = some u :=
  (((Below.refl _ _).alloc (Nat.le_refl _) o).cell (World.block_lt_of_cell? w a h)).trans h
theorem dr {w : World} {a : Addr} {u : Value} (h : w.cell? a = some u) : w.drew.cell? a = some u := h
theorem alf {w : World} {a : Addr} {cs : Array Value} {t : TypeId} (h : w.frozen? a = false) : (w.alloc (.cells cs t)).frozen? a = false := by rw [frozen?_alloc_cells]; exact h
theorem drf {w : World} {a : Addr} (h : w.frozen? a = false) : w.drew.frozen? a = false := h
theorem grf {w w' : World} {row : Option Nat} {a : Addr} {u : Value} (hg : w.grownBy w' row) (hc : w.cell? a = some u) (h : w.frozen? a = false) (hne : some a.block ≠ row) : w'.frozen? a = false :=
  (World.frozen?_of_block (hg.block a.block (World.block_lt_of_cell? w a hc) hne)).trans h
theorem far {w : World} {a : Addr} {u v : Value} {p : Addr} (h : w.cell? a = some u) (hne : a.block ≠ p.block) : (w.setCell p v).cell? a = some u :=
  (World.cell?_of_block (Below.heap_setCell w p v a.block hne)).trans h
theorem own_ne_blk {w : World} {base e size n g t : Nat} {v : Value} {xs : List Value} {cs : Array Value} {fr : Nat × Nat} (h : w.ownsRow base e size v n xs) (hg : w.heap[g]? = some (.cells cs t fr)) (hne : e ≠ t) : v.ownBlock ≠ some g := by
  rcases h.2 with ⟨rfl, _⟩ | ⟨g', cap, cur, rfl, _, hh, _⟩
  · simp [Value.ownBlock]
  · intro he
    have : g' = g := by simpa [Value.ownBlock] using he
    subst this
    rw [hh] at hg
    injection hg with hg
    injection hg with _ ht
    exact hne ht
/-- a step of a region that draws is an append -/
theorem at_app {P : Program} {ops : Array Oper} {dst : Option Tmp} {s x : Operand} {t ty : TypeId} {pos : String} {af : Array Edge} {gd : Option (Nat × Bool)} {a : Act} {w : World} {K : Act → World → Prop} {Q : Exit → Act → World → Prop} {E : Prop}
    (h : if Region.wanted ⟨dst, .call ⟨.builtin .append, #[s, x], #[t, t]⟩, ty, pos, af, gd⟩ (yielded ops a.tmps) = true then Oper.wp P ⟨dst, .call ⟨.builtin .append, #[s, x], #[t, t]⟩, ty, pos, af, gd⟩ a w K Q else E) :
    if Region.wanted ⟨dst, .call ⟨.builtin .append, #[s, x], #[t, t]⟩, ty, pos, af, gd⟩ (yielded ops a.tmps) = true then Oper.wp P ⟨dst, .call ⟨.builtin .append, #[s, x], #[t, t]⟩, ty, pos, af, gd⟩ a w K Q else E := h
theorem set_mid {α : Type} (xs : List α) (a u : α) (zs : List α) : (xs ++ a :: zs).set xs.length u = xs ++ u :: zs := by simp
/-- two cells of an owned row are written -/
theorem own_set2 {w : World} {base e g n cap : Nat} {xs zs : List Value} {a b : Value} (h : w.ownsRow base e 2 (.slice (some ⟨g, 0, none⟩) n cap) n (xs ++ a :: b :: zs)) (k : Nat) (hk : xs.length = k * 2) (u u' : Value) :
    ((w.setCell ⟨g, k * 2, none⟩ u).setCell ⟨g, k * 2 + 1, none⟩ u').ownsRow base e 2 (.slice (some ⟨g, 0, none⟩) n cap) n (xs ++ u :: u' :: zs) := by
  have h1 := (h.stored (k * 2) u).1
  rw [← hk, set_mid] at h1
  have h2 := (h1.stored (k * 2 + 1) u').1
  have e : k * 2 + 1 = (xs ++ [u]).length := by simp [hk]
  rw [show xs ++ u :: b :: zs = (xs ++ [u]) ++ b :: zs by simp, e, set_mid] at h2
  rw [← hk] at e ⊢
  rw [e]
  simpa using h2
theorem own_set1 {w : World} {base e g n cap : Nat} {xs zs : List Value} {a : Value} (h : w.ownsRow base e 1 (.slice (some ⟨g, 0, none⟩) n cap) n (xs ++ a :: zs)) (k : Nat) (hk : xs.length = k) (u : Value) :
    (w.setCell ⟨g, k, none⟩ u).ownsRow base e 1 (.slice (some ⟨g, 0, none⟩) n cap) n (xs ++ u :: zs) := by
  have h1 := (h.stored k u).1
  rw [← hk, set_mid] at h1
  rw [← hk]; exact h1
section
variable {P : Program} (w : World)
theorem run_append_rd (base : Nat) (t ty e : TypeId) (i : TypeInfo) (z : Value) (size bytes : Nat) (ht : P.underlying t = some (.slice e)) (hi : P.info? e = some i) (hz : i.zero = some z)
    (hsize : i.size = size) (hby : i.bytes = bytes) (hzs : z.cells.size = size) (hsz : 0 < size)
    (v : Value) (n : Nat) (xs : List Value) (hown : w.ownsRow base e size v n xs)
    (u : Value) (m : Nat) (news : List Value) (hr : Rd w u m news) (hnl : news.length = m * size) (h1 : ∀ u ∈ news, u.oneCell' = true)
    (h63 : n + m ≤ maxLen) (hbytes : (n + m) * bytes ≤ 140737488355328) (hbase : base ≤ w.heap.size) :
    ∃ v' w', (Builtin.append_ #[t, t] ty #[v, u]).run P w = .ok v' w' ∧ w'.ownsRow base e size v' (n + m) (xs ++ news) ∧ w.grownBy w' v.ownBlock ∧
      (v'.ownBlock = v.ownBlock ∨ v'.ownBlock = some w.heap.size) := by
  obtain ⟨A, c, rfl, hc, hx⟩ := hr
  rcases A with _ | ad
  · have hn : news = [] := by
      rcases hx with h | ⟨b, off, h, _⟩
      · exact h
      · cases h
    subst hn
    have hm : m = 0 := by
      rcases Nat.eq_zero_or_pos m with h0 | h0
      · exact h0
      · have := Nat.mul_pos h0 hsz; simp at hnl; omega
    subst hm
    refine ⟨v, w, ?_, by simpa using hown, World.grownBy.refl w _, .inl rfl⟩
    rcases hown.2 with ⟨rfl, rfl⟩ | ⟨g, cap, cur, rfl, _, _, hnc, _⟩
    · simp [Builtin.append_, run_underlying ht, sizeOf, typeInfo, hi, Builtin.lenOf, Builtin.firstCells]
    · simp [Builtin.append_, run_underlying ht, sizeOf, typeInfo, hi, Builtin.lenOf, Builtin.firstCells, hnc, storeCells]
  · have hcells : ∀ j u, news[j]? = some u → w.cell? (ad.add j) = some u := by
      intro j u hu
      rcases hx with rfl | ⟨b, off, h, hat⟩
      · simp at hu
      · injection h with h
        subst h
        rw [Addr.add_lit]; exact hat j u hu
    obtain ⟨v', w', hrun, h2, h3, _, h5⟩ := run_append_own_at (P := P) w base t ty e i z size bytes ht hi hz hsize hby hzs hsz v n xs hown ad m c news hnl hcells h1 h63 hbytes hbase
    exact ⟨v', w', hrun, h2, h3, h5⟩
theorem wpList_append_rd {ops : Array Oper} {rest : List Oper} {o : Oper} {a : Act} {Q : Exit → Act → World → Prop} (hgd : o.guard = none) (s x : Operand) (t : TypeId)
    (ho : o.op = .call { callee := .builtin .append, args := #[s, x], argTypes := #[t, t] })
    (base : Nat) (e : TypeId) (i : TypeInfo) (z : Value) (size bytes : Nat) (ht : P.underlying t = some (.slice e)) (hi : P.info? e = some i) (hz : i.zero = some z)
    (hsize : i.size = size) (hby : i.bytes = bytes) (hzs : z.cells.size = size) (hsz : 0 < size)
    (v : Value) (n : Nat) (xs : List Value) (hs : a.eval s = v) (hown : w.ownsRow base e size v n xs)
    (u : Value) (m : Nat) (news : List Value) (hx : a.eval x = u) (hr : Rd w u m news) (hnl : news.length = m * size) (h1 : ∀ u ∈ news, u.oneCell' = true)
    (h63 : n + m ≤ maxLen) (hbytes : (n + m) * bytes ≤ 140737488355328) (hbase : base ≤ w.heap.size)
    (h : ∀ v' w', w'.ownsRow base e size v' (n + m) (xs ++ news) → w.grownBy w' v.ownBlock → (v'.ownBlock = v.ownBlock ∨ v'.ownBlock = some w.heap.size) → wpList P ops Q rest (a.put o.dst v') w') : wpList P ops Q (o :: rest) a w :=
  wpList_plain hgd fun _ hK => by
    obtain ⟨v', w', hrun, h2, h3, h4⟩ := run_append_rd (P := P) w base t o.type e i z size bytes ht hi hz hsize hby hzs hsz v n xs hown u m news hr hnl h1 h63 hbytes hbase
    unfold Oper.wp execOp
    simp only [ho, resolve, invoke, builtin, Sem.run_bind, Sem.run_pure, Result.andThen_ok, List.map_toArray, List.map_cons, List.map_nil, hs, hx, hrun]
    exact hK _ _ (h v' w' h2 h3 h4)
end


theorem own_below {w w' : World} {base e size : Nat} {v : Value} {n : Nat} {xs : List Value} (h : w.ownsRow base e size v n xs) (hb : Below w.heap.size w w') : w'.ownsRow base e size v n xs :=
  h.kept (row := none) ⟨hb.os, hb.tape, hb.output, hb.size, fun k hk _ => hb.block k hk⟩ (by cases hv : v.ownBlock <;> simp)
theorem bel_cell {w w' : World} {a : Addr} {u : Value} (hb : Below w.heap.size w w') (h : w.cell? a = some u) : w'.cell? a = some u := (hb.cell (World.block_lt_of_cell? w a h)).trans h
theorem At.of_own {w : World} {base e size g n cap : Nat} {xs : List Value} (h : w.ownsRow base e size (.slice (some ⟨g, 0, none⟩) n cap) n xs) : At w g 0 xs := fun j u hu => by
  have := h.cells (g := g) rfl j u hu
  rwa [Addr.add_lit] at this
theorem own_slice {w : World} {base e size : Nat} {v : Value} {n : Nat} {xs : List Value} (h : w.ownsRow base e size v n xs) : ∃ a c, v = .slice a n c := by
  rcases h.2 with ⟨rfl, rfl⟩ | ⟨g, cap, cur, rfl, _⟩ <;> exact ⟨_, _, rfl⟩
theorem own_ne {w : World} {b1 b2 e1 e2 s1 s2 : Nat} {v1 v2 : Value} {n1 n2 : Nat} {x1 x2 : List Value} (h1 : w.ownsRow b1 e1 s1 v1 n1 x1) (h2 : w.ownsRow b2 e2 s2 v2 n2 x2) (hne : e1 ≠ e2) : v1.ownBlock = none ∨ v1.ownBlock ≠ v2.ownBlock := by
  rcases h1.2 with ⟨rfl, _⟩ | ⟨g, cap, cur, rfl, _, hg, _⟩
  · exact .inl rfl
  · right
    rcases h2.2 with ⟨rfl, _⟩ | ⟨g', cap', cur', rfl, _, hg', _⟩
    · simp [Value.ownBlock]
    · intro e
      have : g = g' := by simpa [Value.ownBlock] using e
      subst this
      rw [hg] at hg'
      injection hg' with hg'
      injection hg' with _ ht
      exact hne ht
theorem heap2_1 (w : World) (a b : Obj) : ((w.alloc a).alloc b).heap[w.heap.size + 1]? = some b := by
  have := heap_alloc_new (w.alloc a) b; simpa using this
theorem heap3_2 (w : World) (a b c : Obj) : (((w.alloc a).alloc b).alloc c).heap[w.heap.size + 1 + 1]? = some c := by
  have := heap_alloc_new ((w.alloc a).alloc b) c; simpa using this
/-- a slice of a slice -/
theorem Rd.drop {w : World} {A : Option Addr} {n cap : Nat} {xs : List Value} {sz : Nat} (h : Rd w (.slice A n cap) n xs) (hl : xs.length = n * sz) (k : Nat) (hk : k ≤ n) :
    Rd w (.slice (if cap = k then A else A.map (·.add (k * sz))) (n - k) (cap - k)) (n - k) (xs.drop (k * sz)) := by
  obtain ⟨A', cap', e, hc, hx⟩ := h
  injection e with e1 _ e3
  subst e1; subst e3
  refine ⟨_, _, rfl, by omega, ?_⟩
  rcases hx with rfl | ⟨b, off, rfl, hat⟩
  · left; simp
  · by_cases hkn : k = n
    · left; subst hkn; rw [List.drop_eq_nil_of_le (by omega)]
    · right
      rw [if_neg (by omega)]
      refine ⟨b, off + k * sz, by simp [Addr.add_lit], fun j u hu => ?_⟩
      rw [List.getElem?_drop] at hu
      have := hat _ u hu
      rwa [← Nat.add_assoc] at this
/-- where a slice of a slice begins -/
def cutA (A : Option Addr) (cap k sz : Nat) : Option Addr := if cap = k then A else A.map (·.add (k * sz))
theorem Rd.cut {w : World} {A : Option Addr} {n cap : Nat} {xs : List Value} {sz : Nat} (h : Rd w (.slice A n cap) n xs) (hl : xs.length = n * sz) (k : Nat) (hk : k ≤ n) :
    Rd w (.slice (cutA A cap k sz) (n - k) (cap - k)) (n - k) (xs.drop (k * sz)) := h.drop hl k hk
theorem run_cut {P : Program} (t e : TypeId) (ht : P.underlying t = some (.slice e)) (sz : Nat) (hs : ∀ w, (sizeOf e).run P w = .ok sz w) (A : Option Addr) (n cap k : Nat) (hk : k ≤ n) (w : World) :
    (Instr.slice t (.slice A n cap) (some (.int .i64 (k : Int))) none none).run P w = .ok (.slice (cutA A cap k sz) (n - k) (cap - k)) w := by
  have he : P.elem t = e := by simp [Program.elem, ht]
  rw [run_slice_l w t A n cap (by rw [he]; exact ht) .i64 (k : Int) (by omega) (by omega), he, hs]
  simp [Result.andThen, sliced, cutA]
theorem chs_drop (l : List (UInt8 × Bool)) (k : Nat) : (chs l).drop (k * 2) = chs (l.drop k) := by
  induction l generalizing k with
  | nil => simp [chs]
  | cons a r ih =>
    cases k with
    | zero => simp
    | succ k =>
      have := ih k
      rw [List.drop_succ_cons, ← this]
      simp [chs, Nat.add_mul]
theorem Rd.chs_cut {w : World} {A : Option Addr} {cap : Nat} {l : List (UInt8 × Bool)} (h : Rd w (.slice A l.length cap) l.length (chs l)) (k : Nat) (hk : k ≤ l.length) :
    Rd w (.slice (cutA A cap k 2) (l.length - k) (cap - k)) (l.drop k).length (chs (l.drop k)) := by
  rw [List.length_drop, ← chs_drop]; exact h.cut (chs_len l) k hk
theorem run_cut2 {P : Program} (t e : TypeId) (ht : P.underlying t = some (.slice e)) (sz : Nat) (hs : ∀ w, (sizeOf e).run P w = .ok sz w) (A : Option Addr) (n cap k m : Nat) (hkm : k ≤ m) (hk : m ≤ cap) (w : World) :
    (Instr.slice t (.slice A n cap) (some (.int .i64 (k : Int))) (some (.int .i64 (m : Int))) none).run P w = .ok (.slice (cutA A cap k sz) (m - k) (cap - k)) w := by
  have he : P.elem t = e := by simp [Program.elem, ht]
  rw [run_slice_lh w t A n cap (by rw [he]; exact ht) .i64 .i64 (k : Int) (m : Int) (by omega) (by omega) (by omega), he, hs]
  simp [Result.andThen, sliced, cutA]
theorem run_cut0 {P : Program} (t e : TypeId) (ht : P.underlying t = some (.slice e)) (sz : Nat) (hs : ∀ w, (sizeOf e).run P w = .ok sz w) (A : Option Addr) (n cap m : Nat) (hk : m ≤ cap) (w : World) :
    (Instr.slice t (.slice A n cap) none (some (.int .i64 (m : Int))) none).run P w = .ok (.slice (cutA A cap 0 sz) m cap) w := by
  have he : P.elem t = e := by simp [Program.elem, ht]
  rw [run_slice_h w t A n cap (by rw [he]; exact ht) .i64 (m : Int) (by omega) (by omega), he, hs]
  simp [Result.andThen, sliced, cutA]
theorem Rd.take {w : World} {A : Option Addr} {n cap : Nat} {xs : List Value} (h : Rd w (.slice A n cap) n xs) (m j : Nat) (hm : m ≤ n) : Rd w (.slice A m cap) m (xs.take j) := by
  obtain ⟨A', cap', e, hc, hx⟩ := h
  injection e with e1 _ e3
  subst e1; subst e3
  refine ⟨_, _, rfl, by omega, ?_⟩
  rcases hx with rfl | ⟨b, off, rfl, hat⟩
  · left; simp
  · right
    exact ⟨b, off, rfl, fun i u hu => hat i u (by rw [List.getElem?_take] at hu; split at hu; exact hu; cases hu)⟩
theorem chs_take (l : List (UInt8 × Bool)) (k : Nat) : (chs l).take (k * 2) = chs (l.take k) := by
  induction l generalizing k with
  | nil => simp [chs]
  | cons a r ih =>
    cases k with
    | zero => simp [chs]
    | succ k =>
      have := ih k
      rw [List.take_succ_cons, show chs (a :: r.take k) = [.int .u8 (a.1.toNat : Int), .bool a.2] ++ chs (r.take k) from rfl, ← this]
      simp [chs, Nat.add_mul]
theorem Rd.chs_take {w : World} {A : Option Addr} {cap : Nat} {l : List (UInt8 × Bool)} (h : Rd w (.slice A l.length cap) l.length (chs l)) (m : Nat) (hm : m ≤ l.length) :
    Rd w (.slice A (l.take m).length cap) (l.take m).length (chs (l.take m)) := by
  rw [← YtadmmmehphhecaaGreatDoor.chs_take]; exact h.take _ _ (by rw [List.length_take]; omega)
theorem Rd.chs_mid {w : World} {A : Option Addr} {cap : Nat} {l : List (UInt8 × Bool)} (h : Rd w (.slice A l.length cap) l.length (chs l)) (k m : Nat) (hkm : k ≤ m) (hm : m ≤ l.length) :
    Rd w (.slice (cutA A cap k 2) (m - k) (cap - k)) ((l.take m).drop k).length (chs ((l.take m).drop k)) := by
  have h1 := (h.chs_take m hm).chs_cut k (by rw [List.length_take]; omega)
  rw [List.length_take, Nat.min_eq_left hm] at h1
  exact h1
/-- a block that is known whole -/
def Bk (w : World) (g : Nat) (t : TypeId) (cs : Array Value) : Prop := w.heap[g]? = some (.cells cs t (0, 0))
section
variable {w w' : World} {g : Nat} {t : TypeId} {cs : Array Value}
theorem Bk.lt (h : Bk w g t cs) : g < w.heap.size := by
  rcases Nat.lt_or_ge g w.heap.size with h1 | h1
  · exact h1
  · unfold Bk at h; rw [Array.getElem?_eq_none h1] at h; cases h
theorem Bk.cell (h : Bk w g t cs) (i : Nat) (u : Value) (hu : cs[i]? = some u) : w.cell? ⟨g, i, none⟩ = some u := (cell_of_row w g i cs t (0, 0) h).trans hu
theorem Bk.free (h : Bk w g t cs) (i : Nat) : w.frozen? ⟨g, i, none⟩ = false := by
  unfold Bk at h; simp [World.frozen?, h]
theorem Bk.new (w : World) (t : TypeId) (cs : Array Value) : Bk (w.alloc (.cells cs t)) w.heap.size t cs := heap_alloc_new w _
theorem Bk.drew (h : Bk w g t cs) : Bk w.drew g t cs := h
theorem Bk.drewN (h : Bk w g t cs) (n : Nat) : Bk (w.drewN n) g t cs := h
theorem Bk.alloc (h : Bk w g t cs) (o : Obj) : Bk (w.alloc o) g t cs := (Below.heap_alloc w o g h.lt).trans h
theorem Bk.far (h : Bk w g t cs) {p : Addr} (hp : g ≠ p.block) (u : Value) : Bk (w.setCell p u) g t cs := (Below.heap_setCell w p u g hp).trans h
theorem Bk.set_ (h : Bk w g t cs) (i : Nat) (u : Value) : Bk (w.setCell ⟨g, i, none⟩ u) g t (cs.setIfInBounds i u) := by
  unfold Bk at h ⊢; simp [World.setCell, Array.getElem?_modify, h]
theorem Bk.below {B : Nat} (h : Bk w g t cs) (hb : Below B w w') (hg : g < B) : Bk w' g t cs := (hb.block g hg).trans h
theorem Bk.grown {row : Option Nat} (h : Bk w g t cs) (hb : w.grownBy w' row) (hg : some g ≠ row) : Bk w' g t cs := (hb.block g h.lt hg).trans h
end
theorem own_bk_ne {w : World} {base e size n g t : Nat} {v : Value} {xs : List Value} {cs : Array Value} (h : w.ownsRow base e size v n xs) (hg : Bk w g t cs) (hne : e ≠ t) : some g ≠ v.ownBlock := by
  rcases h.2 with ⟨rfl, _⟩ | ⟨g', cap, cur, rfl, _, hh, _⟩
  · simp [Value.ownBlock]
  · intro he
    have : g = g' := by simpa [Value.ownBlock] using he
    subst this
    unfold Bk at hg
    rw [hh] at hg
    injection hg with hg
    injection hg with _ ht
    exact hne ht
theorem At.rd {w : World} {b off n cap : Nat} {xs : List Value} (h : At w b off xs) (hc : n ≤ cap) : Rd w (.slice (some ⟨b, off, none⟩) n cap) n xs := ⟨_, cap, rfl, hc, .inr ⟨b, off, rfl, h⟩⟩
theorem At.drop {w : World} {b off : Nat} {xs : List Value} (h : At w b off xs) (k : Nat) : At w b (off + k) (xs.drop k) := fun j u hu => by
  rw [List.getElem?_drop] at hu; rw [Nat.add_assoc]; exact h _ u hu
theorem At.chs_drop {w : World} {b off : Nat} {l : List (UInt8 × Bool)} (h : At w b off (chs l)) (k : Nat) : At w b (off + k * 2) (chs (l.drop k)) := by
  rw [← YtadmmmehphhecaaGreatDoor.chs_drop]; exact h.drop _
theorem Bk.cells4 {w : World} {g : Nat} {t : TypeId} {a b c d : Value} (h : Bk w g t #[a, b, c, d]) : w.cell? ⟨g, 0, none⟩ = some a ∧ w.cell? ⟨g, 1, none⟩ = some b ∧ w.cell? ⟨g, 2, none⟩ = some c ∧ w.cell? ⟨g, 3, none⟩ = some d :=
  ⟨h.cell 0 a rfl, h.cell 1 b rfl, h.cell 2 c rfl, h.cell 3 d rfl⟩
theorem Bk.free4 {w : World} {g : Nat} {t : TypeId} {cs : Array Value} (h : Bk w g t cs) : w.frozen? ⟨g, 0, none⟩ = false ∧ w.frozen? ⟨g, 1, none⟩ = false ∧ w.frozen? ⟨g, 2, none⟩ = false ∧ w.frozen? ⟨g, 3, none⟩ = false :=
  ⟨h.free 0, h.free 1, h.free 2, h.free 3⟩
end Go.Proofs.YtadmmmehphhecaaGreatDoor
