/- The walks of the two closures of fields.Split, for up to a million fields. -/
import Derived.Test.YtfadbbpnhppkpaaW1
import Derived.Test.YtfadbbpnhppkpaaShelf
set_option linter.unusedVariables false
set_option linter.unusedSimpArgs false
namespace Go.Proofs.Ytfadbbpnhppkpaa
open Go.RowKit
attribute [local go_sem ↓] Go.wp_at_zero Go.wp_at_succ
theorem Try.info40 : (Try.prog.info? 40).map (fun i => (i.zero, i.size, i.bytes)) = some (some (.slice none 0 0), 1, 24) := by kernel_rfl
theorem Try.info49 : (Try.prog.info? 49).map (fun i => (i.zero, i.size, i.bytes)) = some (some (.agg #[.int .u8 0, .bool false]), 2, 2) := by kernel_rfl

theorem own_slice {w : World} {base e size : Nat} {v : Value} {n : Nat} {xs : List Value} (h : w.ownsRow base e size v n xs) : ∃ a m c, v = .slice a m c := by
  rcases h.2 with ⟨rfl, _⟩ | ⟨g, cap, cur, rfl, _⟩ <;> exact ⟨_, _, _, rfl⟩
theorem own_slice1 {v : Value} (a : Option Addr) (m c : Nat) (h : v = .slice a m c) : ∀ u ∈ [v], u.oneCell' = true := by
  subst h; intro u hu; simp at hu; subst hu; rfl
def BeginPost (B : Nat) (s : St) (w : World) (e : Ending) (w' : World) : Prop := e = .returned (.tuple #[]) ∧ SInv B ⟨s.out, some (s.now.getD []), false⟩ w' ∧ Below B w w' ∧ w.heap.size ≤ w'.heap.size ∧ ∀ b, B + 4 ≤ b → b < w.heap.size → w'.heap[b]? = w.heap[b]?
def EndPost (B : Nat) (s : St) (w : World) (e : Ending) (w' : World) : Prop := e = .returned (.bool s.now.isSome) ∧ SInv B ⟨s.out ++ s.now.toList, none, s.af⟩ w' ∧ Below B w w'

set_option maxHeartbeats 400000 in
theorem begin_any (B : Nat) (s : St) (w : World) (h : SInv B s w) :
   Calls Try.prog 22 #[.pointer (some ⟨B+2,0,none⟩), .pointer (some ⟨B+1,0,none⟩), .pointer (some ⟨B+3,0,none⟩)] w (BeginPost B s w) := by
  obtain ⟨out, now, af⟩ := s
  obtain ⟨N, vo, vs, vn, hc, hr⟩ := h
  have c1 := cell_of_one hc.c1
  have f1 := free_of_one hc.c1
  have c2 := cell_of_one hc.c2
  have f2 := free_of_one hc.c2
  have c3 := cell_of_one hc.c3
  have f3 := free_of_one hc.c3
  have l1 := lt_of_block hc.c1
  have l2 := lt_of_block hc.c2
  have l3 := lt_of_block hc.c3
  cases now with
  | none =>
    go_enter Try.func22, Try.ntmps22
    go_wp2
    go_end0
    refine ⟨rfl, ⟨w.heap.size, vo, vs, .slice (some ⟨w.heap.size, 0, none⟩) 0 0, (((hc.set1 _).set2 _).set3 _).alloc _, ?_⟩, (((((Below.refl _ _).setCell (by simp) _).setCell (by simp) _).setCell (by simp) _).alloc (by simp; omega) _), by simp, fun b h1 h2 => ?_⟩
    rotate_left
    · rw [Below.heap_alloc _ _ _ (by simpa using h2), Below.heap_setCell _ _ _ _ (by simp; omega), Below.heap_setCell _ _ _ _ (by simp; omega), Below.heap_setCell _ _ _ _ (by simp; omega)]
    have := ((((hr.setCell (p := ⟨B+1,0,none⟩) (by simp) (.slice (some ⟨w.heap.size, 0, none⟩) 0 0)).setCell (p := ⟨B+2,0,none⟩) (by simp) (.bool true)).setCell (p := ⟨B+3,0,none⟩) (by simp) (.bool false))).begin_
    simpa using this
  | some l =>
    go_enter Try.func22, Try.ntmps22
    go_wp2
    go_end0
    exact ⟨rfl, ⟨_, vo, vs, _, hc.set3 _, hr.setCell (by simp) _⟩, ((Below.refl _ _).setCell (by simp) _), by simp, fun b h1 h2 => Below.heap_setCell _ _ _ _ (by simp; omega)⟩

set_option maxHeartbeats 400000 in
theorem end_any (B : Nat) (s : St) (w : World) (h : SInv B s w) (hlen : s.out.length ≤ 1000000) :
   Calls Try.prog 23 #[.pointer (some ⟨B+2,0,none⟩), .pointer (some ⟨B,0,none⟩), .pointer (some ⟨B+1,0,none⟩)] w (EndPost B s w) := by
  obtain ⟨i0, hi, hz0, hz1, hz2⟩ := info_parts Try.info40
  obtain ⟨out, now, af⟩ := s
  obtain ⟨N, vo, vs, vn, hc, hr⟩ := h
  have c0 := cell_of_one hc.c0
  have f0 := free_of_one hc.c0
  have c1 := cell_of_one hc.c1
  have f1 := free_of_one hc.c1
  have c2 := cell_of_one hc.c2
  have f2 := free_of_one hc.c2
  have l1 := lt_of_block hc.c1
  have l2 := lt_of_block hc.c2
  cases now with
  | none =>
    go_enter Try.func23, Try.ntmps23
    go_wp2
    go_ret
    exact ⟨rfl, ⟨_, vo, vs, _, hc, by simpa using hr⟩, Below.refl _ _⟩
  | some l =>
    have hln : vs.length ≤ 1000000 := by rw [hr.ln]; exact hlen
    have hno := hr.rn l rfl
    obtain ⟨a1, n1, k1, rfl⟩ := own_slice hno
    have hlo := hr.lo
    have hhi := hr.hi
    go_enter Try.func23, Try.ntmps23
    go_wp2_with (at_builtin; go_loud (refine wpList_append_lies _ rfl _ _ 28 rfl (B + 4) 40 i0 _ 1 24 Try.underlying28 hi hz0 hz1 hz2 rfl (by decide) vo vs.length vs rfl (hr.ro.alloc _) ⟨w.heap.size, 0, none⟩ 1 1 [.slice a1 n1 k1] rfl rfl (World.news_of_block (cs := #[.slice a1 n1 k1]) (t := 40) (fr := (0, 0)) (heap_alloc_new w _)) (own_slice1 a1 n1 k1 rfl) (by omega) (by unfold maxLen; omega) (by omega) (by simp; omega) (w.heap.size + 1) (by simp) ?_))
    intro g cap w1 hown hgrow hat hlt
    have hf1 := hc.alloc (.cells #[.slice a1 n1 k1] 40)
    have hgr : ∀ k, vo.ownBlock = some k → B + 4 ≤ k := fun k e => (hr.ro.lt k e).1
    have hc1 := hf1.grown hgrow hgr
    have hr1 := (hr.alloc (.cells #[.slice a1 n1 k1] 40)).push ⟨(hno.alloc (.cells #[.slice a1 n1 k1] 40)).1, (hno.alloc (.cells #[.slice a1 n1 k1] 40)).2.imp id (fun ⟨g, cap, cur, e, b, r⟩ => ⟨g, cap, cur, e, by omega, r⟩)⟩ (N' := w.heap.size + 1) (fun k e => by have := (hno.lt k e).2; omega) (by omega) (by have := hgrow.size; simpa using this) hown hgrow
    have c0 := cell_of_one hc1.c0
    have f0 := free_of_one hc1.c0
    have c2 := cell_of_one hc1.c2
    have f2 := free_of_one hc1.c2
    have hbel := (((Below.refl B w).alloc (by omega) (.cells #[.slice a1 n1 k1] 40)).grown hgrow (by simp; omega) (fun k e => by have := hgr k e; omega))
    clear hown hgrow hat
    go_wp2
    go_ret
    exact ⟨rfl, ⟨_, _, _, _, (hc1.set0 _).set2 false, (hr1.setCell (by simp) _).setCell (by simp) _⟩, (hbel.setCell (by simp) _).setCell (by simp) _⟩
end Go.Proofs.Ytfadbbpnhppkpaa
