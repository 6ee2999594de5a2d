/- Words for a table in memory; the walks of Get and Set of sums.Table. -/
import Derived.Test.YtadmmmehphhecaaGreatDoorLg
import Derived.Test.YtadmmmehphhecaaGreatDoorLi
set_option linter.unusedVariables false
set_option linter.unusedSimpArgs false
namespace Go.Proofs.YtadmmmehphhecaaGreatDoor
open Go.RowKit
/-- the cells of pairs -/
def tabC (T : Tab) : List Value := T.flatMap fun p => [.string ⟨p.1.toArray⟩, .string ⟨p.2.1.toArray⟩, .bool p.2.2]
theorem tabC_len (T : Tab) : (tabC T).length = T.length * 3 := by
  induction T with
  | nil => rfl
  | cons a r ih => simp only [tabC, List.flatMap_cons, List.length_append, List.length_cons, List.length_nil] at ih ⊢; omega
theorem tabC_append (a b : Tab) : tabC (a ++ b) = tabC a ++ tabC b := by simp [tabC]
theorem tabC_one (T : Tab) : ∀ u ∈ tabC T, u.oneCell' = true := by
  intro u hu; simp only [tabC, List.mem_flatMap] at hu; obtain ⟨c, _, hc⟩ := hu
  simp at hc; rcases hc with rfl | rfl | rfl <;> rfl
theorem tabC_at (T : Tab) (k : Nat) (h : k < T.length) : (tabC T)[k * 3]? = some (.string ⟨T[k].1.toArray⟩) ∧ (tabC T)[k * 3 + 1]? = some (.string ⟨T[k].2.1.toArray⟩) ∧ (tabC T)[k * 3 + 2]? = some (.bool T[k].2.2) := by
  induction T generalizing k with
  | nil => simp at h
  | cons a r ih =>
    cases k with
    | zero => exact ⟨rfl, rfl, rfl⟩
    | succ k =>
      have := ih k (by simpa using h)
      have e1 : (tabC (a :: r))[(k + 1) * 3]? = (tabC r)[k * 3]? := by simp [tabC, Nat.add_mul]
      have e2 : (tabC (a :: r))[(k + 1) * 3 + 1]? = (tabC r)[k * 3 + 1]? := by simp [tabC, Nat.add_mul]
      have e3 : (tabC (a :: r))[(k + 1) * 3 + 2]? = (tabC r)[k * 3 + 2]? := by simp [tabC, Nat.add_mul]
      rw [e1, e2, e3]; simpa using this
/-- the cells from a place on read as pairs -/
theorem At.tab {w : World} {b off : Nat} {T : Tab} (h : At w b off (tabC T)) (k : Nat) (hk : k < T.length) :
    w.cell? ⟨b, off + k * 3, none⟩ = some (.string ⟨T[k].1.toArray⟩) ∧ w.cell? ⟨b, off + k * 3 + 1, none⟩ = some (.string ⟨T[k].2.1.toArray⟩) ∧ w.cell? ⟨b, off + k * 3 + 2, none⟩ = some (.bool T[k].2.2) :=
  ⟨h _ _ (tabC_at T k hk).1, h _ _ (tabC_at T k hk).2.1, h _ _ (tabC_at T k hk).2.2⟩
abbrev TT : TypeId := 54
abbrev TPr : TypeId := 52
/-- a table lies at a block, its pairs in a row of its own -/
def TabAt (w : World) (B g : Nat) (T : Tab) (u : Value) : Prop := Bk w g TT #[u] ∧ w.ownsRow B TPr 3 u T.length (tabC T) ∧ B ≤ w.heap.size
/-- neither the table nor its row, and there -/
def Free (w : World) (g : Nat) (u : Value) (b : Nat) : Prop := b ≠ g ∧ some b ≠ u.ownBlock ∧ b < w.heap.size
/-- what a call may do beside a table -/
structure TStep (g : Nat) (w : World) (u : Value) (w' : World) (u' : Value) : Prop where
  os : w'.os = w.os
  tape : w'.tape = w.tape
  output : w'.output = w.output
  size : w.heap.size ≤ w'.heap.size
  block : ∀ b, Free w g u b → w'.heap[b]? = w.heap[b]?
  own : ∀ b, Free w g u b → some b ≠ u'.ownBlock
theorem TStep.free {g : Nat} {w w' : World} {u u' : Value} (h : TStep g w u w' u') {b : Nat} (hb : Free w g u b) : Free w' g u' b :=
  ⟨hb.1, h.own b hb, Nat.lt_of_lt_of_le hb.2.2 h.size⟩
theorem TStep.trans {g : Nat} {w w1 w2 : World} {u u1 u2 : Value} (h : TStep g w u w1 u1) (k : TStep g w1 u1 w2 u2) : TStep g w u w2 u2 :=
  ⟨k.os.trans h.os, k.tape.trans h.tape, k.output.trans h.output, Nat.le_trans h.size k.size, fun b hb => (k.block b (h.free hb)).trans (h.block b hb), fun b hb => k.own b (h.free hb)⟩
theorem TStep.below {g : Nat} {w w' : World} {u : Value} (h : Below w.heap.size w w') : TStep g w u w' u :=
  ⟨h.os, h.tape, h.output, h.size, fun b hb => h.block b hb.2.2, fun b hb => hb.2.1⟩
theorem TStep.refl (g : Nat) (w : World) (u : Value) : TStep g w u w u := TStep.below (Below.refl _ _)
theorem RdX.step {g : Nat} {w w' : World} {u u' : Value} {e : Ex} {v : Value} (h : RdX w (Free w g u) e v) (k : TStep g w u w' u') : RdX w' (Free w' g u') e v :=
  RdX.keep (fun b off x hp hx => ⟨k.free hp, (World.cell?_of_block (w := w) (w' := w') (a := ⟨b, off, none⟩) (k.block b hp)).trans hx⟩) e v h
theorem cell_step {g : Nat} {w w' : World} {u u' : Value} {b off : Nat} {x : Value} (k : TStep g w u w' u') (hb : Free w g u b) (hx : w.cell? ⟨b, off, none⟩ = some x) : w'.cell? ⟨b, off, none⟩ = some x :=
  (World.cell?_of_block (w := w) (w' := w') (a := ⟨b, off, none⟩) (k.block b hb)).trans hx
theorem TabAt.below {w w' : World} {B g : Nat} {T : Tab} {u : Value} (h : TabAt w B g T u) (hb : Below w.heap.size w w') : TabAt w' B g T u :=
  ⟨h.1.below hb h.1.lt, own_below h.2.1 hb, Nat.le_trans h.2.2 hb.size⟩
theorem TabAt.ne {w : World} {B g : Nat} {T : Tab} {u : Value} (h : TabAt w B g T u) : some g ≠ u.ownBlock := own_bk_ne h.2.1 h.1 (by decide)
theorem getF_at : ∀ (T : Tab) (x : List UInt8) (k : Nat) (h : k < T.length), (∀ j (hj : j < T.length), j < k → T[j].1 ≠ x) → T[k].1 = x → getF T x = (T[k].2.1, true)
  | [], _, k, h, _, _ => by simp at h
  | (n, v, f) :: r, x, 0, h, _, he => by simp at he; simp [getF, he]
  | (n, v, f) :: r, x, k + 1, h, hn, he => by
    have h0 := hn 0 (by simp) (by omega)
    simp at h0
    simp only [getF, if_neg h0]
    exact getF_at r x k (by simpa using h) (fun j hj hjk => by have := hn (j + 1) (by simpa using hj) (by omega); simpa using this) (by simpa using he)
theorem getF_none : ∀ (T : Tab) (x : List UInt8), (∀ j (hj : j < T.length), T[j].1 ≠ x) → getF T x = ([], false)
  | [], _, _ => rfl
  | (n, v, f) :: r, x, hn => by
    have h0 := hn 0 (by simp)
    simp at h0
    simp only [getF, if_neg h0]
    exact getF_none r x (fun j hj => by have := hn (j + 1) (by simpa using hj); simpa using this)
set_option maxRecDepth 100000 in
set_option maxHeartbeats 2000000 in
theorem Get_any (T : Tab) (x : List UInt8) (g B : Nat) (u : Value) (w : World) (hT : TabAt w B g T u) (hl : T.length ≤ 1000000) :
    Calls Tryz.prog 19 #[.pointer (some ⟨g, 0, none⟩), .string ⟨x.toArray⟩] w fun e w' => e = .returned (.tuple #[.string ⟨(getF T x).1.toArray⟩, .bool (getF T x).2]) ∧ Below w.heap.size w w' := by
  have ct := hT.1.cell 0 u rfl
  have glt := hT.1.lt
  have HRD := hid (Rd.of_own hT.2.1)
  obtain ⟨A, cap, rfl⟩ := own_slice hT.2.1
  clear hT
  go_enter Tryz.func19, Tryz.ntmps19
  go_wp2_with fail
  go_loopw [7, 15] (fun v7 v15 wr => ∃ k : Nat, k ≤ T.length ∧ v15 = .int .i64 k ∧ Hid (∀ j (hj : j < T.length), j < k → T[j].1 ≠ x) ∧ Hid (Below w.heap.size w wr)) (fun v7 v15 _ => T.length - (intOf v15).toNat)
  case atStart => exact ⟨0, Nat.zero_le _, rfl, hid (fun j hj h => by omega), Below.refl _ _⟩
  case round =>
    obtain ⟨k, hk, rfl, HN, HB⟩ := hrel
    by_cases hlt : k < T.length
    · obtain ⟨b, off, cap', he, _, hc⟩ := HRD.out.form (by intro e; have := tabC_len T; rw [e] at this; simp at this; omega)
      injection he with he1 _ _
      subst he1
      obtain ⟨q0, q1, q2⟩ := At.tab (w := w) (b := b) (off := off) (T := T) hc k hlt
      have q0 := bel_cell HB.out q0
      have q1 := bel_cell HB.out q1
      have q2 := bel_cell HB.out q2
      have HG := hid (getF_at T x k hlt)
      generalize hp : T[k] = p at *
      obtain ⟨n, v, f⟩ := p
      dsimp only at q0 q1 q2 HG
      have HB1 := hid (HB.out.alloc HB.out.size (.cells #[.string ⟨n.toArray⟩, .string ⟨v.toArray⟩, .bool f] TPr))
      by_cases heq : n = x
      · subst heq
        have HO := hid (HG.out HN.out rfl)
        go_wp2_with fail
        go_ret2
        exact ⟨by rw [HO.out]; rfl, HB1.out⟩
      · have hne : (n == x) = false := by simpa using heq
        have HN1 : Hid (∀ j (hj : j < T.length), j < k + 1 → T[j].1 ≠ x) := hid (fun j hj h => by
          by_cases he : j = k
          · subst he; rw [hp]; exact heq
          · exact HN.out j hj (by omega))
        clear hp
        go_wp2_with fail
        go_round
        case rel => exact ⟨k + 1, by omega, rfl, HN1, HB1⟩
        case measure => simp [intOf]; omega
    · have HO := hid (getF_none T x (fun j hj => HN.out j hj (by omega)))
      go_wp2_with fail
      go_ret2
      exact ⟨by rw [HO.out]; rfl, HB.out⟩
end Go.Proofs.YtadmmmehphhecaaGreatDoor
