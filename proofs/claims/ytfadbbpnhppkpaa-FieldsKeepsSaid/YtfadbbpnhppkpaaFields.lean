/- The plain function of fields.Split (a fold over bits) with its laws, and what the rows and captured variables of its walk hold. No condition. -/
import Derived.Test.YtfadbbpnhppkpaaMem
import Derived.Lib.IndexAny
set_option linter.unusedVariables false
set_option linter.unusedSimpArgs false
namespace Go.Proofs.Ytfadbbpnhppkpaa
open Go.RowKit

/-- is a byte in a text? -/
def hasB (l : List UInt8) (c : UInt8) : Bool := l.any (· == c)
theorem hasB_snoc (l : List UInt8) (k : Nat) (h : k < l.length) (c : UInt8) : hasB (l.take (k + 1)) c = (hasB (l.take k) c || l[k] == c) := by
  unfold hasB; rw [List.take_succ_eq_append_getElem h, List.any_append]; simp
theorem hasB_of (l : List UInt8) (k : Nat) (h : k < l.length) (c : UInt8) (e : l[k] = c) : hasB l c = true := by
  simp only [hasB, List.any_eq_true]; exact ⟨l[k], List.getElem_mem h, by simp [e]⟩
theorem u8_eq (a b : UInt8) : ((a.toNat : Int) == (b.toNat : Int)) = (a == b) := by
  rw [Bool.eq_iff_iff]; simp [← UInt8.toNat_inj]; omega

def byteB (k : Int) : Bool := decide (0 ≤ k) && decide (k ≤ 2)
def softB (ifs : List UInt8) (b : Int × UInt8) : Bool := b.1 == 2 && hasB ifs b.2
def blankB (c : UInt8) : Bool := hasB [32, 9, 10] c

/-- how far fields have come: those that have ended, the one that is begun, whether a blank ended one and blanks alone stand behind it -/
structure St where
  out : List (List (UInt8 × Bool))
  now : Option (List (UInt8 × Bool))
  af : Bool

def step (ifs : List UInt8) (s : St) (b : Int × UInt8) : St :=
  if byteB b.1 && !softB ifs b then ⟨s.out, some (s.now.getD [] ++ [(b.2, b.1 == 1)]), false⟩
  else if b.1 == 3 then ⟨s.out, some (s.now.getD []), false⟩
  else if b.1 == 4 then ⟨s.out ++ s.now.toList, none, false⟩
  else if softB ifs b && blankB b.2 then ⟨s.out ++ s.now.toList, none, s.now.isSome || s.af⟩
  else if softB ifs b then ⟨s.out ++ (if s.now.isSome then s.now.toList else if s.af then [] else [[]]), none, false⟩
  else s
def run (ifs : List UInt8) (s : St) (l : List (Int × UInt8)) : St := l.foldl (step ifs) s
def fin (s : St) : List (List (UInt8 × Bool)) := s.out ++ s.now.toList
def split (ifs : List UInt8) (l : List (Int × UInt8)) : List (List (UInt8 × Bool)) := fin (run ifs ⟨[], none, false⟩ l)
theorem run_snoc (ifs : List UInt8) (s : St) (l : List (Int × UInt8)) (k : Nat) (h : k < l.length) : run ifs s (l.take (k + 1)) = step ifs (run ifs s (l.take k)) l[k] := by
  unfold run; rw [List.take_succ_eq_append_getElem h, List.foldl_append]; rfl

theorem step_len (ifs : List UInt8) (s : St) (b : Int × UInt8) : (step ifs s b).out.length + (step ifs s b).now.toList.length ≤ s.out.length + s.now.toList.length + 1 := by
  obtain ⟨out, now, af⟩ := s
  unfold step
  cases now <;> (repeat' split) <;> simp_all
theorem run_len (ifs : List UInt8) (l : List (Int × UInt8)) : ∀ s : St, (run ifs s l).out.length + (run ifs s l).now.toList.length ≤ s.out.length + s.now.toList.length + l.length := by
  induction l with
  | nil => intro s; simp [run]
  | cons b r ih =>
    intro s
    have h1 := ih (step ifs s b)
    have h2 := step_len ifs s b
    simp only [run, List.foldl_cons, List.length_cons] at h1 ⊢
    omega
theorem step_now (ifs : List UInt8) (s : St) (b : Int × UInt8) : ((step ifs s b).now.getD []).length ≤ (s.now.getD []).length + 1 := by
  obtain ⟨out, now, af⟩ := s
  unfold step
  cases now <;> (repeat' split) <;> simp_all
theorem run_now (ifs : List UInt8) (l : List (Int × UInt8)) : ∀ s : St, ((run ifs s l).now.getD []).length ≤ (s.now.getD []).length + l.length := by
  induction l with
  | nil => intro s; simp [run]
  | cons b r ih =>
    intro s
    have h1 := ih (step ifs s b)
    have h2 := step_now ifs s b
    simp only [run, List.foldl_cons, List.length_cons] at h1 ⊢
    omega
theorem hasB_index (l : List UInt8) (c : UInt8) : (hasB l c = true ∧ ∃ n : Nat, Lib.indexByte l c = n) ∨ (hasB l c = false ∧ Lib.indexByte l c = -1) := by
  have h1 := Lib.contains_iff_indexByte l c
  have h2 : hasB l c = l.contains c := by rw [List.contains_eq_any_beq]; unfold hasB; congr 1; funext x; rw [Bool.eq_iff_iff, beq_iff_eq, beq_iff_eq]; exact eq_comm
  have h3 := Lib.indexByte_ge l c
  rw [h2, h1]
  by_cases h : 0 ≤ Lib.indexByte l c
  · exact .inl ⟨by simp [h], _, (Int.toNat_of_nonneg h).symm⟩
  · exact .inr ⟨by simp; omega, by omega⟩

section
variable (ifs : List UInt8) (s : St) (kd : Int) (c : UInt8)
theorem step_byte (hb : byteB kd = true) (hs : softB ifs (kd, c) = false) : step ifs s (kd, c) = ⟨s.out, some (s.now.getD [] ++ [(c, kd == 1)]), false⟩ := by
  unfold step; rw [if_pos (by simp [hb, hs])]
theorem soft_no (h : (kd == 2) = false) : softB ifs (kd, c) = false := by simp [softB, h]
theorem step_mark : step ifs s (3, c) = ⟨s.out, some (s.now.getD []), false⟩ := by
  unfold step; rw [if_neg (by simp [byteB]), if_pos (by simp)]
theorem step_cut : step ifs s (4, c) = ⟨s.out ++ s.now.toList, none, false⟩ := by
  unfold step; rw [if_neg (by simp [byteB]), if_neg (by simp), if_pos (by simp)]
theorem step_blank (h : hasB ifs c = true) (hb : blankB c = true) : step ifs s (2, c) = ⟨s.out ++ s.now.toList, none, s.now.isSome || s.af⟩ := by
  have h1 : softB ifs (2, c) = true := by simp [softB, h]
  unfold step; rw [if_neg (by simp [h1]), if_neg (by simp), if_neg (by simp), if_pos (by simp [h1, hb])]
theorem step_edge (h : hasB ifs c = true) (hb : blankB c = false) : step ifs s (2, c) = ⟨s.out ++ (if s.now.isSome then s.now.toList else if s.af then [] else [[]]), none, false⟩ := by
  have h1 : softB ifs (2, c) = true := by simp [softB, h]
  unfold step; rw [if_neg (by simp [h1]), if_neg (by simp), if_neg (by simp), if_neg (by simp [hb]), if_pos h1]
theorem step_none (hb : byteB kd = false) (h3 : (kd == 3) = false) (h4 : (kd == 4) = false) : step ifs s (kd, c) = s := by
  have h2 : (kd == 2) = false := by simp [byteB] at hb ⊢; omega
  have h1 : softB ifs (kd, c) = false := soft_no ifs kd c h2
  unfold step; rw [if_neg (by simp [hb]), if_neg (by simp [h3]), if_neg (by simp [h4]), if_neg (by simp [h1]), if_neg (by simp [h1])]
end

/-- what the rows that fields.Split owns hold -/
structure SRows (B N : Nat) (vo : Value) (vs : List Value) (vn : Value) (out : List (List (UInt8 × Bool))) (now : Option (List (UInt8 × Bool))) (w : World) : Prop where
  lo : B + 4 ≤ N
  hi : N ≤ w.heap.size
  ro : w.ownsRow (B + 4) 40 1 vo vs.length vs
  ln : vs.length = out.length
  rs : ∀ (i : Nat) (v : Value) (l : List (UInt8 × Bool)), vs[i]? = some v → out[i]? = some l → w.ownsRow (B + 4) 49 2 v l.length (chs l) ∧ ∀ k, v.ownBlock = some k → k < N
  rn : ∀ l, now = some l → w.ownsRow N 49 2 vn l.length (chs l)

/-- the four captured variables -/
structure SCaps (B : Nat) (vo vn : Value) (bg af : Bool) (w : World) : Prop where
  c0 : w.heap[B]? = some (.cells #[vo] 28 (0, 0))
  c1 : w.heap[B + 1]? = some (.cells #[vn] 40 (0, 0))
  c2 : w.heap[B + 2]? = some (.cells #[.bool bg] 4 (0, 0))
  c3 : w.heap[B + 3]? = some (.cells #[.bool af] 4 (0, 0))

def SInv (B : Nat) (s : St) (w : World) : Prop := ∃ N vo vs vn, SCaps B vo vn s.now.isSome s.af w ∧ SRows B N vo vs vn s.out s.now w

theorem SRows.setCell {B N : Nat} {vo vn : Value} {vs : List Value} {out now} {w : World} (h : SRows B N vo vs vn out now w) {p : Addr} (hp : p.block < B + 4) (u : Value) : SRows B N vo vs vn out now (w.setCell p u) :=
  ⟨h.lo, by simpa [World.setCell] using h.hi, ownsRow_setCell_below h.ro hp u, h.ln, fun i v l a b => ⟨ownsRow_setCell_below (h.rs i v l a b).1 hp u, (h.rs i v l a b).2⟩,
   fun l e => ownsRow_setCell_below (h.rn l e) (by have := h.lo; omega) u⟩
theorem SRows.alloc {B N : Nat} {vo vn : Value} {vs : List Value} {out now} {w : World} (h : SRows B N vo vs vn out now w) (o : Obj) : SRows B N vo vs vn out now (w.alloc o) :=
  ⟨h.lo, by have := h.hi; simp; omega, h.ro.alloc o, h.ln, fun i v l a b => ⟨(h.rs i v l a b).1.alloc o, (h.rs i v l a b).2⟩, fun l e => (h.rn l e).alloc o⟩
theorem SRows.drew {B N : Nat} {vo vn : Value} {vs : List Value} {out now} {w : World} (h : SRows B N vo vs vn out now w) : SRows B N vo vs vn out now w.drew :=
  ⟨h.lo, h.hi, h.ro.drew, h.ln, fun i v l a b => ⟨(h.rs i v l a b).1.drew, (h.rs i v l a b).2⟩, fun l e => (h.rn l e).drew⟩
/-- rows of other element types lie in other blocks -/
theorem own_ne {w : World} {b1 b2 e1 e2 s1 s2 : Nat} {v1 v2 : Value} {n1 n2 : Nat} {x1 x2 : List Value} (h1 : w.ownsRow b1 e1 s1 v1 n1 x1) (h2 : w.ownsRow b2 e2 s2 v2 n2 x2) (hne : e1 ≠ e2) : v1.ownBlock = none ∨ v1.ownBlock ≠ v2.ownBlock := by
  rcases h1.2 with ⟨rfl, _⟩ | ⟨g, cap, cur, rfl, _, hg, _⟩
  · exact .inl rfl
  · right
    rcases h2.2 with ⟨rfl, _⟩ | ⟨g', cap', cur', rfl, _, hg', _⟩
    · simp [Value.ownBlock]
    · intro e
      have : g = g' := by simpa [Value.ownBlock] using e
      subst this
      rw [hg] at hg'
      injection hg' with hg'
      injection hg' with _ ht
      exact hne ht
theorem SCaps.setOther {B : Nat} {vo vn : Value} {bg af : Bool} {w : World} (h : SCaps B vo vn bg af w) {p : Addr} (hp : B + 4 ≤ p.block) (u : Value) : SCaps B vo vn bg af (w.setCell p u) :=
  ⟨(Below.heap_setCell _ _ _ _ (by omega)).trans h.c0, (Below.heap_setCell _ _ _ _ (by omega)).trans h.c1, (Below.heap_setCell _ _ _ _ (by omega)).trans h.c2, (Below.heap_setCell _ _ _ _ (by omega)).trans h.c3⟩
theorem SCaps.alloc {B : Nat} {vo vn : Value} {bg af : Bool} {w : World} (h : SCaps B vo vn bg af w) (o : Obj) : SCaps B vo vn bg af (w.alloc o) :=
  ⟨(Below.heap_alloc _ _ _ (lt_of_block h.c0)).trans h.c0, (Below.heap_alloc _ _ _ (lt_of_block h.c1)).trans h.c1, (Below.heap_alloc _ _ _ (lt_of_block h.c2)).trans h.c2, (Below.heap_alloc _ _ _ (lt_of_block h.c3)).trans h.c3⟩
theorem SCaps.drew {B : Nat} {vo vn : Value} {bg af : Bool} {w : World} (h : SCaps B vo vn bg af w) : SCaps B vo vn bg af w.drew := ⟨h.c0, h.c1, h.c2, h.c3⟩
theorem SCaps.grown {B : Nat} {vo vn : Value} {bg af : Bool} {w w' : World} {row : Option Nat} (h : SCaps B vo vn bg af w) (hg : w.grownBy w' row) (hr : ∀ k, row = some k → B + 4 ≤ k) : SCaps B vo vn bg af w' :=
  ⟨(hg.block _ (lt_of_block h.c0) (fun e => by have := hr _ e.symm; omega)).trans h.c0, (hg.block _ (lt_of_block h.c1) (fun e => by have := hr _ e.symm; omega)).trans h.c1,
   (hg.block _ (lt_of_block h.c2) (fun e => by have := hr _ e.symm; omega)).trans h.c2, (hg.block _ (lt_of_block h.c3) (fun e => by have := hr _ e.symm; omega)).trans h.c3⟩
theorem SCaps.set0 {B : Nat} {vo vn : Value} {bg af : Bool} {w : World} (h : SCaps B vo vn bg af w) (u : Value) : SCaps B u vn bg af (w.setCell ⟨B, 0, none⟩ u) :=
  ⟨one_setCell h.c0, (Below.heap_setCell _ _ _ _ (by simp)).trans h.c1, (Below.heap_setCell _ _ _ _ (by simp)).trans h.c2, (Below.heap_setCell _ _ _ _ (by simp)).trans h.c3⟩
theorem SCaps.set1 {B : Nat} {vo vn : Value} {bg af : Bool} {w : World} (h : SCaps B vo vn bg af w) (u : Value) : SCaps B vo u bg af (w.setCell ⟨B + 1, 0, none⟩ u) :=
  ⟨(Below.heap_setCell _ _ _ _ (by simp)).trans h.c0, one_setCell h.c1, (Below.heap_setCell _ _ _ _ (by simp)).trans h.c2, (Below.heap_setCell _ _ _ _ (by simp)).trans h.c3⟩
theorem SCaps.set2 {B : Nat} {vo vn : Value} {bg af : Bool} {w : World} (h : SCaps B vo vn bg af w) (u : Bool) : SCaps B vo vn u af (w.setCell ⟨B + 2, 0, none⟩ (.bool u)) :=
  ⟨(Below.heap_setCell _ _ _ _ (by simp)).trans h.c0, (Below.heap_setCell _ _ _ _ (by simp)).trans h.c1, one_setCell h.c2, (Below.heap_setCell _ _ _ _ (by simp)).trans h.c3⟩
theorem SCaps.set3 {B : Nat} {vo vn : Value} {bg af : Bool} {w : World} (h : SCaps B vo vn bg af w) (u : Bool) : SCaps B vo vn bg u (w.setCell ⟨B + 3, 0, none⟩ (.bool u)) :=
  ⟨(Below.heap_setCell _ _ _ _ (by simp)).trans h.c0, (Below.heap_setCell _ _ _ _ (by simp)).trans h.c1, (Below.heap_setCell _ _ _ _ (by simp)).trans h.c2, one_setCell h.c3⟩

/-- a field is begun -/
theorem SRows.begin_ {B N : Nat} {vo vn : Value} {vs : List Value} {out} {w : World} (h : SRows B N vo vs vn out none w) :
    SRows B w.heap.size vo vs (.slice (some ⟨w.heap.size, 0, none⟩) 0 0) out (some []) (w.alloc (.cells #[] 49)) :=
  ⟨by have := h.lo; have := h.hi; omega, by simp, h.ro.alloc _, h.ln, fun i v l a b => ⟨(h.rs i v l a b).1.alloc _, fun k e => by have := (h.rs i v l a b).2 k e; have := h.hi; omega⟩,
   fun l e => by cases e; exact World.ownsRow_made w #[] 0 (Nat.le_refl _) (by simp [maxLen]) (by simp)⟩
/-- a byte is put to the field that is begun -/
theorem SRows.put {B N : Nat} {vo vn : Value} {vs : List Value} {out} {l : List (UInt8 × Bool)} {w w' : World} (h : SRows B N vo vs vn out (some l) w) {v' : Value} {c : UInt8 × Bool}
    (hown : w'.ownsRow N 49 2 v' (l.length + 1) (chs l ++ [.int .u8 (c.1.toNat : Int), .bool c.2])) (hg : w.grownBy w' vn.ownBlock) : SRows B N vo vs v' out (some (l ++ [c])) w' := by
  have hn := h.rn l rfl
  refine ⟨h.lo, Nat.le_trans h.hi hg.size, h.ro.kept hg (own_ne h.ro hn (by decide)), h.ln, fun i v m a b => ⟨(h.rs i v m a b).1.kept hg ?_, (h.rs i v m a b).2⟩, fun m e => ?_⟩
  · cases e : v.ownBlock with
    | none => exact .inl rfl
    | some k =>
      right; intro e'
      have h1 := (h.rs i v m a b).2 k e
      have h2 := (hn.lt k e'.symm).1
      omega
  · cases e
    rw [chs_append, List.length_append]; exact hown
/-- a value is put to what has ended -/
theorem SRows.push {B N N' : Nat} {vo vn : Value} {vs : List Value} {out now} {w w' : World} {v vo' : Value} {l : List (UInt8 × Bool)} (h : SRows B N vo vs vn out now w) (hv : w.ownsRow (B + 4) 49 2 v l.length (chs l)) (hN : ∀ k, v.ownBlock = some k → k < N') (hNN : N ≤ N')
    (hlt : N' ≤ w'.heap.size) (hown : w'.ownsRow (B + 4) 40 1 vo' (vs.length + 1) (vs ++ [v])) (hg : w.grownBy w' vo.ownBlock) : SRows B N' vo' (vs ++ [v]) vn (out ++ [l]) none w' := by
  refine ⟨Nat.le_trans h.lo hNN, hlt, by rw [List.length_append]; exact hown, by simp [h.ln], fun i u m a b => ?_, fun m e => by cases e⟩
  rcases Nat.lt_or_ge i vs.length with hi | hi
  · rw [List.getElem?_append_left hi] at a
    rw [List.getElem?_append_left (by rw [← h.ln]; exact hi)] at b
    exact ⟨(h.rs i u m a b).1.kept hg (own_ne (h.rs i u m a b).1 h.ro (by decide)), fun k e => by have := (h.rs i u m a b).2 k e; omega⟩
  · rw [List.getElem?_append_right hi] at a
    rw [List.getElem?_append_right (by rw [← h.ln]; exact hi)] at b
    have h0 : i - vs.length = 0 := by
      rcases Nat.eq_zero_or_pos (i - vs.length) with e | e
      · exact e
      · rw [List.getElem?_eq_none (by simp; omega)] at a; cases a
    rw [h0] at a; rw [← h.ln, h0] at b
    cases a; cases b
    exact ⟨hv.kept hg (own_ne hv h.ro (by decide)), hN⟩
theorem SRows.drop {B N : Nat} {vo vn vn' : Value} {vs : List Value} {out now} {w : World} (h : SRows B N vo vs vn out now w) : SRows B N vo vs vn' out none w :=
  ⟨h.lo, h.hi, h.ro, h.ln, h.rs, fun l e => by cases e⟩
theorem edge_inv {B N g cap : Nat} {vo vn : Value} {vs : List Value} {out} {bg af : Bool} {w w1 : World} (hc : SCaps B vo vn bg af w) (hr : SRows B N vo vs vn out none w)
    (hown : w1.ownsRow (B + 4) 40 1 (.slice (some ⟨g, 0, none⟩) (vs.length + 1) cap) (vs.length + 1) (vs ++ [.slice (some ⟨w.heap.size, 0, none⟩) 0 0])) (hg : ((w.alloc (.cells #[] 49)).alloc (.cells #[.slice (some ⟨w.heap.size, 0, none⟩) 0 0] 40)).grownBy w1 vo.ownBlock) :
    (∃ N', SCaps B (.slice (some ⟨g, 0, none⟩) (vs.length + 1) cap) vn bg af (w1.setCell ⟨B, 0, none⟩ (.slice (some ⟨g, 0, none⟩) (vs.length + 1) cap)) ∧
      SRows B N' (.slice (some ⟨g, 0, none⟩) (vs.length + 1) cap) (vs ++ [.slice (some ⟨w.heap.size, 0, none⟩) 0 0]) vn (out ++ [[]]) none (w1.setCell ⟨B, 0, none⟩ (.slice (some ⟨g, 0, none⟩) (vs.length + 1) cap))) ∧
    Below B w (w1.setCell ⟨B, 0, none⟩ (.slice (some ⟨g, 0, none⟩) (vs.length + 1) cap)) := by
  have hlo := hr.lo
  have hhi := hr.hi
  have hrow : ∀ k, vo.ownBlock = some k → B + 4 ≤ k := fun k e => (hr.ro.lt k e).1
  have hnew : ((w.alloc (.cells #[] 49)).alloc (.cells #[.slice (some ⟨w.heap.size, 0, none⟩) 0 0] 40)).ownsRow (B + 4) 49 2 (.slice (some ⟨w.heap.size, 0, none⟩) 0 0) 0 (chs []) :=
    (World.ownsRow_made w #[] 0 (by omega) (by simp [maxLen]) (by simp)).alloc _
  have hsz := hg.size
  refine ⟨⟨w.heap.size + 1, (((hc.alloc _).alloc _).grown hg hrow).set0 _, (((hr.alloc _).alloc _).push (l := []) (N' := w.heap.size + 1) hnew (fun k e => ?_) (by omega) (by simp at hsz; omega) hown hg).setCell (by simp) _⟩, ?_⟩
  · simp [Value.ownBlock] at e; omega
  · exact ((((Below.refl B w).alloc (by omega) _).alloc (by simp; omega) _).grown hg (by simp; omega) (fun k e => by have := hrow k e; omega)).setCell (by simp) _
theorem put_inv {B N : Nat} {vo vn v' : Value} {vs : List Value} {out} {l : List (UInt8 × Bool)} {af : Bool} {wx w1 : World} {a b d : Obj} {c : UInt8 × Bool} (hc : SCaps B vo vn true af wx) (hr : SRows B N vo vs vn out (some l) wx)
    (hown : w1.ownsRow N 49 2 v' (l.length + 1) (chs l ++ [.int .u8 (c.1.toNat : Int), .bool c.2])) (hg : (((wx.alloc a).alloc b).alloc d).drew.grownBy w1 vn.ownBlock) :
    SInv B ⟨out, some (l ++ [c]), af⟩ (w1.setCell ⟨B + 1, 0, none⟩ v') ∧ Below B wx (w1.setCell ⟨B + 1, 0, none⟩ v') := by
  have hlo := hr.lo
  have hhi := hr.hi
  have hn := hr.rn l rfl
  have hrow : ∀ k, vn.ownBlock = some k → B + 4 ≤ k := fun k e => by have := (hn.lt k e).1; omega
  refine ⟨⟨N, vo, vs, v', ((((hc.alloc a).alloc b).alloc d).drew.grown hg hrow).set1 v', (((((hr.alloc a).alloc b).alloc d).drew).put hown hg).setCell (by simp) v'⟩, ?_⟩
  exact ((((((Below.refl B wx).alloc (by omega) a).alloc (by simp; omega) b).alloc (by simp; omega) d).drew).grown hg (by simp; omega) (fun k e => by have := hrow k e; omega)).setCell (by simp) v'
end Go.Proofs.Ytfadbbpnhppkpaa
