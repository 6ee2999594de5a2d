/- The walk of Set of sums.Table. -/
import Derived.Test.YtadmmmehphhecaaGreatDoorLl
import Derived.OwnWalk
set_option linter.unusedVariables false
set_option linter.unusedSimpArgs false
namespace Go.Proofs.YtadmmmehphhecaaGreatDoor
open Go.RowKit
theorem info_pair : (Tryz.prog.info? 52).map (fun i => (i.zero, i.size, i.bytes)) = some (some (.agg #[.string ⟨#[]⟩, .string ⟨#[]⟩, .bool false]), 3, 40) := by kernel_rfl
theorem putF_at : ∀ (T : Tab) (x y : List UInt8) (k : Nat) (h : k < T.length), (∀ j (hj : j < T.length), j < k → T[j].1 ≠ x) → T[k].1 = x → putF T x y = if T[k].2.2 = true then (26, T) else (0, T.set k (T[k].1, y, T[k].2.2))
  | [], _, _, k, h, _, _ => by simp at h
  | (n, v, f) :: r, x, y, 0, h, _, he => by simp at he; simp only [putF, if_pos he]; cases f <;> simp
  | (n, v, f) :: r, x, y, k + 1, h, hn, he => by
    have h0 := hn 0 (by simp) (by omega)
    simp at h0
    simp only [putF, if_neg h0]
    rw [putF_at r x y k (by simpa using h) (fun j hj hjk => by have := hn (j + 1) (by simpa using hj) (by omega); simpa using this) (by simpa using he)]
    simp only [List.getElem_cons_succ]
    have hk : k < r.length := by simpa using h
    cases r[k].2.2 <;> simp
theorem putF_none : ∀ (T : Tab) (x y : List UInt8), (∀ j (hj : j < T.length), T[j].1 ≠ x) → putF T x y = (0, T ++ [(x, y, false)])
  | [], _, _, _ => rfl
  | (n, v, f) :: r, x, y, hn => by
    have h0 := hn 0 (by simp)
    simp at h0
    simp only [putF, if_neg h0, putF_none r x y (fun j hj => by have := hn (j + 1) (by simpa using hj); simpa using this)]
    rfl
theorem tabC_set (T : Tab) (k : Nat) (h : k < T.length) (y : List UInt8) : (tabC T).set (k * 3 + 1) (.string ⟨y.toArray⟩) = tabC (T.set k (T[k].1, y, T[k].2.2)) := by
  induction T generalizing k with
  | nil => simp at h
  | cons a r ih =>
    cases k with
    | zero => simp [tabC]
    | succ k =>
      have := ih k (by simpa using h)
      have e : (k + 1) * 3 + 1 = (k * 3 + 1) + 1 + 1 + 1 := by omega
      rw [e]
      simp only [tabC, List.flatMap_cons, List.set_cons_succ, List.getElem_cons_succ] at this ⊢
      simp only [List.cons_append, List.nil_append, List.set_cons_succ, List.cons.injEq, true_and]
      exact this
theorem free_row {w : World} {g gb n c b : Nat} (h : Free w g (.slice (some ⟨gb, 0, none⟩) n c) b) : b ≠ gb := by
  intro e; exact h.2.1 (by rw [e]; rfl)
def SetPost (T : Tab) (x y : List UInt8) (g B : Nat) (u : Value) (w : World) (e : Ending) (w' : World) : Prop :=
  ∃ u', e = .returned (.int .i64 (putF T x y).1) ∧ TStep g w u w' u' ∧ TabAt w' B g (putF T x y).2 u'
theorem tab_put {T : Tab} {g B b cap : Nat} {w : World} (h : TabAt w B g T (.slice (some ⟨b, 0, none⟩) T.length cap)) (k : Nat) (hk : k < T.length) (y : List UInt8) :
    TStep g w (.slice (some ⟨b, 0, none⟩) T.length cap) (w.setCell ⟨b, k * 3 + 1, none⟩ (.string ⟨y.toArray⟩)) (.slice (some ⟨b, 0, none⟩) T.length cap) ∧
    TabAt (w.setCell ⟨b, k * 3 + 1, none⟩ (.string ⟨y.toArray⟩)) B g (T.set k (T[k].1, y, T[k].2.2)) (.slice (some ⟨b, 0, none⟩) T.length cap) := by
  have hne : g ≠ b := by intro e; exact h.ne (by rw [e]; rfl)
  refine ⟨⟨rfl, rfl, rfl, by simp [World.setCell], fun c hc => Below.heap_setCell _ _ _ _ (free_row hc), fun c hc => hc.2.1⟩, h.1.far hne _, ?_, by have := h.2.2; simp [World.setCell]; exact this⟩
  have h1 := (h.2.1.stored (k * 3 + 1) (.string ⟨y.toArray⟩)).1
  rw [tabC_set T k hk y] at h1
  rw [List.length_set]
  exact h1
theorem tab_app {T : Tab} {g B ga capn : Nat} {w w3 : World} {o : Obj} {u : Value} {p : List UInt8 × List UInt8 × Bool} (h : TabAt w B g T u) (hown : w3.ownsRow B TPr 3 (.slice (some ⟨ga, 0, none⟩) (T.length + 1) capn) (T.length + 1) (tabC T ++ [.string ⟨p.1.toArray⟩, .string ⟨p.2.1.toArray⟩, .bool p.2.2]))
    (hg : (w.alloc o).grownBy w3 u.ownBlock) (hat : u.ownBlock = some ga ∨ ga = w.heap.size + 1) :
    TStep g w u (w3.setCell ⟨g, 0, none⟩ (.slice (some ⟨ga, 0, none⟩) (T.length + 1) capn)) (.slice (some ⟨ga, 0, none⟩) (T.length + 1) capn) ∧
    TabAt (w3.setCell ⟨g, 0, none⟩ (.slice (some ⟨ga, 0, none⟩) (T.length + 1) capn)) B g (T ++ [p]) (.slice (some ⟨ga, 0, none⟩) (T.length + 1) capn) := by
  have hgl := h.1.lt
  have hB0 : Below w.heap.size w (w.alloc o) := (Below.refl _ _).alloc (Nat.le_refl _) _
  have hsz := hg.size
  simp at hsz
  have k1 := (h.1.alloc o).grown hg h.ne
  have hne : g ≠ ga := by
    rcases hat with he | he
    · intro e; exact h.ne (by rw [e, he])
    · omega
  refine ⟨⟨hg.os, hg.tape, hg.output, by simp [World.setCell]; omega, fun c hc => ?_, fun c hc => ?_⟩, k1.set_ 0 _, ?_, by have := h.2.2; simp [World.setCell]; omega⟩
  · rw [Below.heap_setCell _ _ _ _ (by simpa using hc.1)]
    rw [hg.block c (by have := hc.2.2; simp; omega) hc.2.1]
    exact Below.heap_alloc w o c hc.2.2
  · intro e
    have e : c = ga := by simpa [Value.ownBlock] using e
    rcases hat with he | he
    · exact hc.2.1 (by rw [e, he])
    · have := hc.2.2; omega
  · have h1 := hown.kept (row := some g) (grown_setCell (w := w3) (p := ⟨g, 0, none⟩) rfl (.slice (some ⟨ga, 0, none⟩) (T.length + 1) capn)) (by simp [Value.ownBlock]; omega)
    rw [tabC_append, List.length_append]
    exact h1
set_option maxRecDepth 100000 in
set_option maxHeartbeats 4000000 in
theorem Set_any (T : Tab) (x y : List UInt8) (g B : Nat) (u : Value) (w : World) (hT : TabAt w B g T u) (hl : T.length ≤ 1000000) :
    Calls Tryz.prog 139 #[.pointer (some ⟨g, 0, none⟩), .string ⟨x.toArray⟩, .string ⟨y.toArray⟩] w (SetPost T x y g B u w) := by
  obtain ⟨i0, hi0, hz0, hz1, hz2⟩ := info_parts info_pair
  have ct := hT.1.cell 0 u rfl
  have cf := hT.1.free 0
  have glt := hT.1.lt
  have HT := hid hT
  have hgu := hT.ne
  have HRD := hid (Rd.of_own hT.2.1)
  obtain ⟨A, cap, rfl⟩ := own_slice hT.2.1
  clear hT
  go_enter Tryz.func139, Tryz.ntmps139
  go_wp2_with fail
  go_loop [7, 8, 16] (fun v7 v8 v16 => ∃ k : Nat, k ≤ T.length ∧ v16 = .int .i64 k ∧ Hid (∀ j (hj : j < T.length), j < k → T[j].1 ≠ x)) (fun v7 v8 v16 => T.length - (intOf v16).toNat)
  case atStart => exact ⟨0, Nat.zero_le _, rfl, hid (fun j hj h => by omega)⟩
  case round =>
    obtain ⟨k, hk, rfl, HN⟩ := hrel
    by_cases hlt : k < T.length
    · obtain ⟨b, off, cap', he, _, hc⟩ := HRD.out.form (by intro e; have := tabC_len T; rw [e] at this; simp at this; omega)
      injection he with he1 _ he3
      subst he1 he3
      obtain ⟨q0, q1, q2⟩ := At.tab (w := w) (b := b) (off := off) (T := T) hc k hlt
      have HG := hid (putF_at T x y k hlt)
      have HS := hid (tabC_set T k hlt y)
      obtain ⟨rfl, hof⟩ : off = 0 ∧ w.frozen? ⟨b, k * 3 + 1, none⟩ = false := by
        have h2 := HT.out.2.1.2
        rcases h2 with ⟨h, _⟩ | ⟨g', c', cur, h, _⟩
        · cases h
        · injection h with h _ _
          injection h with h
          injection h with h h3
          subst h h3
          exact ⟨rfl, HT.out.2.1.frozenAt _⟩
      rw [Nat.zero_add] at q0 q1 q2
      generalize hp : T[k] = p at *
      obtain ⟨n, v, f⟩ := p
      dsimp only at q0 q1 q2 HG HS
      by_cases heq : n = x
      · subst heq
        have HO := hid (HG.out HN.out rfl)
        cases f
        · have HO2 : Hid (putF T n y = (0, T.set k (n, y, false))) := hid (by rw [HO.out]; rfl)
          clear HO HG
          have HP := hid (tab_put HT.out k hlt y)
          rw [hp] at HP
          clear hp
          go_wp2_with fail
          go_ret
          exact ⟨_, by rw [HO2.out]; rfl, HP.out.1, by rw [HO2.out]; exact HP.out.2⟩
        · have HO2 : Hid (putF T n y = (26, T)) := hid (by rw [HO.out]; rfl)
          clear HO HG
          go_wp2_with fail
          go_ret
          exact ⟨_, by rw [HO2.out]; rfl, TStep.refl _ _ _, by rw [HO2.out]; exact HT.out⟩
      · have hne : (n == x) = false := by simpa using heq
        have HN1 : Hid (∀ j (hj : j < T.length), j < k + 1 → T[j].1 ≠ x) := hid (fun j hj h => by
          by_cases he : j = k
          · subst he; rw [hp]; exact heq
          · exact HN.out j hj (by omega))
        clear hp
        go_wp2_with fail
        go_round
        case rel => exact ⟨k + 1, by omega, rfl, HN1⟩
        case measure => simp [intOf]; omega
    · have HO := hid (putF_none T x y (fun j hj => HN.out j hj (by omega)))
      go_wp2_with (at_builtin; refine wpList_append_lies _ rfl _ _ 39 rfl B TPr i0 _ 3 40 Tryz.underlying39 hi0 hz0 hz1 hz2 rfl (by decide) (.slice A T.length cap) T.length (tabC T) rfl (own_below HT.out.2.1 ((Below.refl _ _).alloc (Nat.le_refl _) _)) ⟨w.heap.size, 0, none⟩ 1 1 [.string ⟨x.toArray⟩, .string ⟨y.toArray⟩, .bool false] rfl rfl (World.news_of_block (cs := #[.string ⟨x.toArray⟩, .string ⟨y.toArray⟩, .bool false]) (t := TPr) (fr := (0, 0)) (heap_alloc_new w _)) (by simp [Value.oneCell']) (by omega) (by unfold maxLen; omega) (by omega) (by have := HT.out.2.2; simp; omega) (w.heap.size + 1) (by simp) ?_)
      intro ga capn w3 hown3 hgrow hat hlt3
      have HP := hid (tab_app (p := (x, y, false)) HT.out hown3 hgrow hat)
      have k1 := (HT.out.1.alloc _).grown hgrow HT.out.ne
      have cf3 := k1.free 0
      have cg3 := k1.cell 0 _ rfl
      clear hown3 hgrow hat k1
      go_wp2_with fail
      go_ret
      exact ⟨_, by rw [HO.out]; rfl, HP.out.1, by rw [HO.out]; exact HP.out.2⟩
end Go.Proofs.YtadmmmehphhecaaGreatDoor
