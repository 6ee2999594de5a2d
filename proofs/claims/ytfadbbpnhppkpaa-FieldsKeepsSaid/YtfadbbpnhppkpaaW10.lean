/- What the row and the rows in it hold that whelkref16.Split makes. No condition. -/
import Derived.Test.YtfadbbpnhppkpaaW9
import Derived.Test.YtfadbbpnhppkpaaW4
import Derived.Deep.RegionHeld3
import Derived.Deep.AppendLies
set_option linter.unusedVariables false
set_option linter.unusedSimpArgs false
namespace Go.Proofs.Ytfadbbpnhppkpaa
open Go.RowKit
attribute [local go_sem ↓] Go.wp_at_zero Go.wp_at_succ

/-- the row that whelkref16.Split makes and the rows in it -/
structure RRows (B N : Nat) (vo : Value) (vs : List Value) (vn : Value) (out : List (List (UInt8 × Bool))) (now : Option (List (UInt8 × Bool))) (w : World) : Prop where
  lo : B ≤ N
  hi : N ≤ w.heap.size
  ro : w.ownsRow B 38 1 vo (vs ++ (if now.isSome then [vn] else [])).length (vs ++ (if now.isSome then [vn] else []))
  ln : vs.length = out.length
  rs : ∀ (i : Nat) (v : Value) (l : List (UInt8 × Bool)), vs[i]? = some v → out[i]? = some l → w.ownsRow B 57 2 v l.length (chs l) ∧ ∀ k, v.ownBlock = some k → k < N
  rn : ∀ l, now = some l → w.ownsRow N 57 2 vn l.length (chs l)

theorem RRows.alloc {B N : Nat} {vo vn : Value} {vs : List Value} {out now} {w : World} (h : RRows B N vo vs vn out now w) (o : Obj) : RRows B N vo vs vn out now (w.alloc o) :=
  ⟨h.lo, by have := h.hi; simp; omega, h.ro.alloc o, h.ln, fun i v l a b => ⟨(h.rs i v l a b).1.alloc o, (h.rs i v l a b).2⟩, fun l e => (h.rn l e).alloc o⟩
theorem RRows.drew {B N : Nat} {vo vn : Value} {vs : List Value} {out now} {w : World} (h : RRows B N vo vs vn out now w) : RRows B N vo vs vn out now w.drew :=
  ⟨h.lo, h.hi, h.ro.drew, h.ln, fun i v l a b => ⟨(h.rs i v l a b).1.drew, (h.rs i v l a b).2⟩, fun l e => (h.rn l e).drew⟩
theorem own_base {w : World} {b b' e s n : Nat} {v : Value} {xs : List Value} (h : w.ownsRow b e s v n xs) (hb : b' ≤ b) : w.ownsRow b' e s v n xs := by
  refine ⟨h.1, ?_⟩
  rcases h.2 with h2 | ⟨g, cap, cur, h1, h2, h3, h4, h5⟩
  · exact .inl h2
  · exact .inr ⟨g, cap, cur, h1, by omega, h3, h4, h5⟩
/-- a field is begun -/
theorem RRows.begin_ {B N : Nat} {vo vo' vn : Value} {vs : List Value} {out} {w w' : World} (h : RRows B N vo vs vn out none w)
    (hown : w'.ownsRow B 38 1 vo' (vs.length + 1) (vs ++ [.slice none 0 0])) (hg : w.grownBy w' vo.ownBlock) : RRows B w'.heap.size vo' vs (.slice none 0 0) out (some []) w' := by
  have hsz := hg.size
  have hlo := h.lo
  have hhi := h.hi
  refine ⟨by omega, Nat.le_refl _, by simpa using hown, h.ln, fun i v l a b => ⟨(h.rs i v l a b).1.kept hg (own_ne (h.rs i v l a b).1 h.ro (by decide)), fun k e => ?_⟩, fun l e => by cases e; exact World.ownsRow_nil _ _ _ _⟩
  have := (h.rs i v l a b).2 k e; omega
/-- the field that is begun ends -/
theorem RRows.close {B N : Nat} {vo vn : Value} {vs : List Value} {out now} {w : World} (h : RRows B N vo vs vn out now w) : ∃ vs', RRows B w.heap.size vo vs' (.slice none 0 0) (out ++ now.toList) none w := by
  have hlo := h.lo
  have hhi := h.hi
  cases now with
  | none =>
    refine ⟨vs, by omega, Nat.le_refl _, by simpa using h.ro, by simpa using h.ln, fun i v l a b => ?_, fun l e => by cases e⟩
    have := h.rs i v l a (by simpa using b)
    exact ⟨this.1, fun k e => by have := this.2 k e; omega⟩
  | some m =>
    refine ⟨vs ++ [vn], by omega, Nat.le_refl _, by simpa using h.ro, by simp [h.ln], fun i v l a b => ?_, fun l e => by cases e⟩
    rcases Nat.lt_or_ge i vs.length with hi | hi
    · rw [List.getElem?_append_left hi] at a
      rw [List.getElem?_append_left (by rw [← h.ln]; exact hi)] at b
      have := h.rs i v l a b
      exact ⟨this.1, fun k e => by have := this.2 k e; omega⟩
    · rw [List.getElem?_append_right hi] at a
      rw [List.getElem?_append_right (by rw [← h.ln]; exact hi)] at b
      have h0 : i - vs.length = 0 := by
        rcases Nat.eq_zero_or_pos (i - vs.length) with e | e
        · exact e
        · rw [List.getElem?_eq_none (by simp; omega)] at a; cases a
      rw [h0] at a; rw [← h.ln, h0] at b
      cases a; cases b
      have := h.rn m rfl
      exact ⟨own_base this hlo, fun k e => (this.lt k e).2⟩
/-- a byte is put to the field that is begun -/
theorem RRows.put {B N g cap : Nat} {vn v' : Value} {vs : List Value} {out} {l : List (UInt8 × Bool)} {w w1 : World} {c : UInt8 × Bool} (h : RRows B N (.slice (some ⟨g, 0, none⟩) (vs.length + 1) cap) vs vn out (some l) w)
    (hown : w1.ownsRow N 57 2 v' (l.length + 1) (chs l ++ [.int .u8 (c.1.toNat : Int), .bool c.2])) (hg : w.grownBy w1 vn.ownBlock) :
    RRows B N (.slice (some ⟨g, 0, none⟩) (vs.length + 1) cap) vs v' out (some (l ++ [c])) (w1.setCell ⟨g, vs.length, none⟩ v') := by
  have hn := h.rn l rfl
  have hro : w1.ownsRow B 38 1 (.slice (some ⟨g, 0, none⟩) (vs.length + 1) cap) (vs.length + 1) (vs ++ vn :: []) := by
    have := h.ro.kept hg (own_ne h.ro hn (by decide))
    simpa using this
  have hset : ∀ {N v n xs}, w1.ownsRow N 57 2 v n xs → (w1.setCell ⟨g, vs.length, none⟩ v').ownsRow N 57 2 v n xs := fun hh =>
    ownsRow_setCell_other hh (by
      rcases own_ne hh hro (by decide) with e | e
      · rw [e]; simp
      · simpa [Value.ownBlock] using e) _
  refine ⟨h.lo, by have := h.hi; have := hg.size; simp [World.setCell]; omega, ?_, h.ln, fun i v m a b => ⟨hset ((h.rs i v m a b).1.kept hg ?_), (h.rs i v m a b).2⟩, fun m e => ?_⟩
  · have := own_set1 hro vs.length rfl v'
    simpa using this
  · cases e : v.ownBlock with
    | none => exact .inl rfl
    | some k =>
      right; intro e'
      have h1 := (h.rs i v m a b).2 k e
      have h2 := (hn.lt k e'.symm).1
      omega
  · cases e
    rw [chs_append, List.length_append]; exact hset hown
theorem RdR.of_rrows {B N : Nat} {vo vn : Value} {vs : List Value} {out now} {w : World} (h : RRows B N vo vs vn out now w) : RdR w vo (out ++ now.toList) := by
  obtain ⟨us, h'⟩ := h.close
  refine ⟨us, h'.ln, ?_, fun i u l a b => Rd.of_own (h'.rs i u l a b).1⟩
  have := Rd.of_own h'.ro
  simpa using this
end Go.Proofs.Ytfadbbpnhppkpaa
