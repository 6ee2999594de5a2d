/- The walks of isSet, ahead, rows, and of the parser's in, deeper and takes. -/
import Derived.Test.YtadmmmehphhecaaGreatDoorN
set_option linter.unusedVariables false
set_option linter.unusedSimpArgs false
namespace Go.Proofs.YtadmmmehphhecaaGreatDoor
open Go.RowKit
def setL : List (List UInt8) := [[61], [42, 61], [47, 61], [37, 61], [43, 61], [45, 61], [60, 60, 61], [62, 62, 61], [38, 61], [94, 61], [124, 61]]
def setF (x : List UInt8) : Bool := decide (x ∈ setL)
def aheadF (x : List UInt8) : List UInt8 :=
  if x = [45] then [110, 101, 103] else if x = [43] then [112, 111, 115] else if x = [33] then [110, 111, 116] else if x = [126] then [99, 111, 109] else []
def rowsF : List (List (List UInt8)) := [[[124, 124]], [[38, 38]], [[124]], [[94]], [[38]], [[61, 61], [33, 61]], [[60], [60, 61], [62], [62, 61]], [[60, 60], [62, 62]], [[43], [45]], [[42], [47], [37]]]
def strL (l : List (List UInt8)) : List Value := l.map fun m => .string ⟨m.toArray⟩
theorem isSet_any (x : List UInt8) (w : World) : Calls Tryz.prog 58 #[.string ⟨x.toArray⟩] w fun e w' => e = .returned (.bool (setF x)) ∧ w = w' := by
  by_cases h : x ∈ setL
  · have HF : Hid (setF x = true) := hid (by simpa [setF] using h)
    have HM := hid h
    clear h
    go_enter Tryz.func58, Tryz.ntmps58
    go_wp2_with fail
    all_goals first
      | (go_ret; exact ⟨ret_bool HF.out.symm, rfl⟩)
      | (exfalso; have := HM.out; simp_all [setL]; done)
  · have HF : Hid (setF x = false) := hid (by simpa [setF] using h)
    have HM := hid h
    clear h
    go_enter Tryz.func58, Tryz.ntmps58
    go_wp2_with fail
    all_goals first
      | (go_ret; exact ⟨ret_bool HF.out.symm, rfl⟩)
      | (exfalso; apply HM.out; simp_all [setL]; done)
theorem ahead_any (x : List UInt8) (w : World) : Calls Tryz.prog 121 #[.string ⟨x.toArray⟩] w fun e w' => e = .returned (.string ⟨(aheadF x).toArray⟩) ∧ w = w' := by
  obtain ⟨y, hy⟩ : ∃ y, y = aheadF x := ⟨_, rfl⟩
  rw [← hy]
  unfold aheadF at hy
  have HY := hid hy
  clear hy
  go_enter Tryz.func121, Tryz.ntmps121
  go_wp2_with fail
  all_goals first
    | (go_ret; exact ⟨ret_strL (by rw [HY.out]; simp_all), rfl⟩)
    | (exfalso; simp_all; done)
/-- the rows of marks lie in memory -/
def RowsAt (w : World) (P : Nat → Prop) (h : Nat) : Prop := P h ∧ ∀ i (hi : i < rowsF.length), ∃ b, P b ∧ w.cell? ⟨h, i, none⟩ = some (.slice (some ⟨b, 0, none⟩) rowsF[i].length rowsF[i].length) ∧ At w b 0 (strL rowsF[i])
theorem RowsAt.keep {w w' : World} {P Q : Nat → Prop} {h : Nat} (hr : RowsAt w P h) (hk : ∀ b off u, P b → w.cell? ⟨b, off, none⟩ = some u → Q b ∧ w'.cell? ⟨b, off, none⟩ = some u) (hq : ∀ b, P b → Q b) : RowsAt w' Q h := by
  obtain ⟨h0, h1⟩ := hr
  refine ⟨hq _ h0, fun i hi => ?_⟩
  obtain ⟨b, hb, h2, h3⟩ := h1 i hi
  exact ⟨b, hq _ hb, (hk _ _ _ h0 h2).2, fun j u hu => (hk _ _ _ hb (h3 j u hu)).2⟩
theorem RowsAt.grown {w w' : World} {g h : Nat} (hr : RowsAt w (· ≠ g) h) (hb : w.grownBy w' (some g)) : RowsAt w' (· ≠ g) h :=
  hr.keep (fun b off u hp hu => ⟨hp, (World.cell?_of_block (w := w) (w' := w') (a := ⟨b, off, none⟩) (hb.block b (World.block_lt_of_cell? w _ hu) (by intro e; injection e with e; exact hp e))).trans hu⟩) (fun _ h => h)
theorem At.new (w : World) (cs : Array Value) (t : TypeId) : At (w.alloc (.cells cs t)) w.heap.size 0 cs.toList := fun j u hu => by
  rw [Nat.zero_add]; exact (cell_of_row _ _ j _ _ _ (heap_alloc_new w _)).trans (by simpa using hu)
theorem At.new_ (w : World) (cs : Array Value) (t : TypeId) (g : Nat) (hg : w.heap.size = g) : At (w.alloc (.cells cs t)) g 0 cs.toList := by subst hg; exact At.new w cs t
theorem At.alloc {w : World} {b off : Nat} {xs : List Value} (h : At w b off xs) (o : Obj) : At (w.alloc o) b off xs := h.below ((Below.refl _ _).alloc (Nat.le_refl _) o)
set_option maxHeartbeats 1000000 in
theorem rows_any (w : World) : Calls Tryz.prog 108 #[] w fun e w' => ∃ h, e = .returned (.slice (some ⟨h, 0, none⟩) 10 10) ∧ RowsAt w' (fun b => w.heap.size ≤ b) h ∧ Below w.heap.size w w' := by
  go_enter Tryz.func108, Tryz.ntmps108
  go_wp2_with fail
  go_ret
  refine ⟨_, rfl, ?_, ?_⟩
  · refine ⟨by simp only []; omega, fun i hi => ?_⟩
    have hc : i = 0 ∨ i = 1 ∨ i = 2 ∨ i = 3 ∨ i = 4 ∨ i = 5 ∨ i = 6 ∨ i = 7 ∨ i = 8 ∨ i = 9 := by simp [rowsF] at hi; omega
    rcases hc with rfl | rfl | rfl | rfl | rfl | rfl | rfl | rfl | rfl | rfl
    · refine ⟨w.heap.size + 0, Nat.le_add_right _ _, ?_, ?_⟩
      · refine At.new_ _ _ _ _ ?_ 0 _ ?_
        · simp
        · rfl
      · refine (At.alloc (At.alloc (At.alloc (At.alloc (At.alloc (At.alloc (At.alloc (At.alloc (At.alloc (At.alloc (At.new_ _ _ _ _ ?_) _) _) _) _) _) _) _) _) _) _)
        simp
    · refine ⟨w.heap.size + 1, Nat.le_add_right _ _, ?_, ?_⟩
      · refine At.new_ _ _ _ _ ?_ 1 _ ?_
        · simp
        · rfl
      · refine (At.alloc (At.alloc (At.alloc (At.alloc (At.alloc (At.alloc (At.alloc (At.alloc (At.alloc (At.new_ _ _ _ _ ?_) _) _) _) _) _) _) _) _) _)
        simp
    · refine ⟨w.heap.size + 2, Nat.le_add_right _ _, ?_, ?_⟩
      · refine At.new_ _ _ _ _ ?_ 2 _ ?_
        · simp
        · rfl
      · refine (At.alloc (At.alloc (At.alloc (At.alloc (At.alloc (At.alloc (At.alloc (At.alloc (At.new_ _ _ _ _ ?_) _) _) _) _) _) _) _) _)
        simp
    · refine ⟨w.heap.size + 3, Nat.le_add_right _ _, ?_, ?_⟩
      · refine At.new_ _ _ _ _ ?_ 3 _ ?_
        · simp
        · rfl
      · refine (At.alloc (At.alloc (At.alloc (At.alloc (At.alloc (At.alloc (At.alloc (At.new_ _ _ _ _ ?_) _) _) _) _) _) _) _)
        simp
    · refine ⟨w.heap.size + 4, Nat.le_add_right _ _, ?_, ?_⟩
      · refine At.new_ _ _ _ _ ?_ 4 _ ?_
        · simp
        · rfl
      · refine (At.alloc (At.alloc (At.alloc (At.alloc (At.alloc (At.alloc (At.new_ _ _ _ _ ?_) _) _) _) _) _) _)
        simp
    · refine ⟨w.heap.size + 5, Nat.le_add_right _ _, ?_, ?_⟩
      · refine At.new_ _ _ _ _ ?_ 5 _ ?_
        · simp
        · rfl
      · refine (At.alloc (At.alloc (At.alloc (At.alloc (At.alloc (At.new_ _ _ _ _ ?_) _) _) _) _) _)
        simp
    · refine ⟨w.heap.size + 6, Nat.le_add_right _ _, ?_, ?_⟩
      · refine At.new_ _ _ _ _ ?_ 6 _ ?_
        · simp
        · rfl
      · refine (At.alloc (At.alloc (At.alloc (At.alloc (At.new_ _ _ _ _ ?_) _) _) _) _)
        simp
    · refine ⟨w.heap.size + 7, Nat.le_add_right _ _, ?_, ?_⟩
      · refine At.new_ _ _ _ _ ?_ 7 _ ?_
        · simp
        · rfl
      · refine (At.alloc (At.alloc (At.alloc (At.new_ _ _ _ _ ?_) _) _) _)
        simp
    · refine ⟨w.heap.size + 8, Nat.le_add_right _ _, ?_, ?_⟩
      · refine At.new_ _ _ _ _ ?_ 8 _ ?_
        · simp
        · rfl
      · refine (At.alloc (At.alloc (At.new_ _ _ _ _ ?_) _) _)
        simp
    · refine ⟨w.heap.size + 9, Nat.le_add_right _ _, ?_, ?_⟩
      · refine At.new_ _ _ _ _ ?_ 9 _ ?_
        · simp
        · rfl
      · refine (At.alloc (At.new_ _ _ _ _ ?_) _)
        simp
  · refine Below.alloc (Below.alloc (Below.alloc (Below.alloc (Below.alloc (Below.alloc (Below.alloc (Below.alloc (Below.alloc (Below.alloc (Below.alloc (Below.refl _ _) ?_ _) ?_ _) ?_ _) ?_ _) ?_ _) ?_ _) ?_ _) ?_ _) ?_ _) ?_ _) ?_ _ <;> (simp <;> omega)
theorem strL_at (l : List (List UInt8)) (k : Nat) (h : k < l.length) : (strL l)[k]? = some (.string ⟨l[k].toArray⟩) := by simp [strL, h]
theorem mem_take (x : List UInt8) (l : List (List UInt8)) (k : Nat) (h : k < l.length) (hn : x ∉ l.take k) (hx : x ≠ l[k]) : x ∉ l.take (k + 1) := by
  intro hm
  rw [List.take_succ_eq_append_getElem h, List.mem_append] at hm
  rcases hm with hm | hm
  · exact hn hm
  · simp at hm; exact hx hm
set_option maxHeartbeats 800000 in
theorem in_any (g : Nat) (x : List UInt8) (b : Nat) (l : List (List UInt8)) (w : World) (hc : w.cell? ⟨g, 2, none⟩ = some (.string ⟨x.toArray⟩)) (hl : l.length ≤ 100) (hat : At w b 0 (strL l)) :
    Calls Tryz.prog 111 #[.pointer (some ⟨g, 0, none⟩), .slice (some ⟨b, 0, none⟩) l.length l.length] w fun e w' => e = .returned (.bool (decide (x ∈ l))) ∧ w = w' := by
  have HA := hid hat
  clear hat
  go_enter Tryz.func111, Tryz.ntmps111
  go_wp2_with fail
  go_loop [9] (fun vi => ∃ k : Nat, k ≤ l.length ∧ vi = .int .i64 k ∧ Hid (x ∉ l.take k)) (fun vi => l.length - (intOf vi).toNat)
  case atStart => exact ⟨0, Nat.zero_le _, rfl, hid (by simp)⟩
  case round =>
    obtain ⟨k, hk, rfl, HN⟩ := hrel
    by_cases hlt : k < l.length
    · have hcell : w.cell? ⟨b, k, none⟩ = some (.string ⟨l[k].toArray⟩) := by
        have := HA.out k _ (strL_at l k hlt); rwa [Nat.zero_add] at this
      have hm := List.getElem_mem hlt
      have hnt := mem_take x l k hlt HN.out
      generalize l[k] = y at *
      by_cases he : y = x
      · subst he
        have HF : Hid (decide (y ∈ l) = true) := hid (by simpa using hm)
        clear hm hnt HN
        go_wp2_with fail
        go_ret
        exact ⟨ret_bool HF.out.symm, rfl⟩
      · have HT := hid (hnt (fun e => he e.symm))
        have hne : (y == x) = false := by simpa using he
        clear hm hnt HN he
        go_wp2_with fail
        go_round
        case rel => exact ⟨k + 1, by omega, by go_num, HT⟩
        case measure => simp [intOf]; omega
    · have HF : Hid (decide (x ∈ l) = false) := hid (by have := HN.out; rw [List.take_of_length_le (by omega)] at this; simpa using this)
      clear HN
      go_wp2_with fail
      go_ret
      exact ⟨ret_bool HF.out.symm, rfl⟩
theorem deeper_yes (g : Nat) (d : Int) (w : World) (h0 : 0 ≤ d) (h : d < 40) :
    Calls Tryz.prog 77 #[.pointer (some ⟨g, 0, none⟩), .int .i64 d] w fun e w' => e = .returned (.int .i64 (d + 1)) ∧ w = w' := by
  have hn : (d == 40) = false := by simp; omega
  go_enter Tryz.func77, Tryz.ntmps77
  go_wp2_with fail
  go_ret
  exact ⟨rfl, rfl⟩
theorem deeper_no (g : Nat) (w : World) (a : Nat) (hc : w.cell? ⟨g, 1, none⟩ = some (.int .i64 (a : Int))) :
    Calls Tryz.prog 77 #[.pointer (some ⟨g, 0, none⟩), .int .i64 40] w fun e w' => e = .panicked (badV a 32 TW) ∧ w = w' := by
  go_enter Tryz.func77, Tryz.ntmps77
  go_wp2_with fail
  ((with_reducible refine (fail_any g 32 _ a hc).mono ?_); rintro e w6 ⟨rfl, rfl⟩)
  exact ⟨rfl, rfl, rfl⟩
/-- what takes comes to -/
def takesF (s : List UInt8) (t : PSt) (m : List UInt8) : Except (Nat × Int) PSt := if t.kd = 0 ∧ t.text = m then nextF s t else .error (t.at_, 31)
def TakesPost (s : ByteArray) (g : Nat) (t : PSt) (m : List UInt8) (w : World) (e : Ending) (w' : World) : Prop :=
  w.grownBy w' (some g) ∧ match takesF s.data.toList t m with
    | .ok t' => e = .returned (.tuple #[]) ∧ PIn TP w' g s t'
    | .error (a, er) => e = .panicked (badV a er TW)
theorem kind_ne (k : Nat) (h : k ≠ 0) : (kindS k).isEmpty = false := by
  match k, h with
  | 1, _ => rfl
  | k + 2, _ => rfl
set_option maxHeartbeats 800000 in
theorem takes_any (s : ByteArray) (g : Nat) (t : PSt) (m : List UInt8) (w : World) (hL : Laid w) (hs : s.size ≤ 100000) (hgb : GBig g) (hp : PIn TP w g s t) (hat : t.at_ + t.text.length ≤ s.size) :
    Calls Tryz.prog 93 #[.pointer (some ⟨g, 0, none⟩), .string ⟨m.toArray⟩] w (TakesPost s g t m w) := by
  have HP := hid hp
  obtain ⟨nm, hk, _⟩ := hp
  obtain ⟨c0, c1, c2, c3, c4⟩ := hk.cells5
  obtain ⟨at_, tx, nu, kd⟩ := t
  dsimp only at hk c0 c1 c2 c3 c4 hat
  by_cases h0 : kd = 0
  · subst h0
    by_cases hm : tx = m
    · subst hm
      have HT : Hid (takesF s.data.toList ⟨at_, tx, nu, 0⟩ tx = nextF s.data.toList ⟨at_, tx, nu, 0⟩) := hid (by unfold takesF; rw [if_pos ⟨rfl, rfl⟩])
      have HGB := hid hgb
      have HLL := hid hL
      have hk0 : kindS 0 = [] := rfl
      rw [hk0] at c4
      clear hk hk0 hgb hL
      go_enter Tryz.func93, Tryz.ntmps93
      go_wp2_with fail
      ((with_reducible refine (next_any s g _ _ HLL.out hs HGB.out HP.out hat).mono ?_); rintro e w6 ⟨hg6, hres⟩)
      have HG := hid hg6
      cases hn : nextF s.data.toList ⟨at_, tx, nu, 0⟩ with
      | ok t' =>
        rw [hn] at hres
        obtain ⟨rfl, hp6⟩ := hres
        have HP6 := hid hp6
        have HN := hid (HT.out.trans hn)
        clear hn hp6 hg6
        go_wp2_with fail
        go_end0
        refine ⟨HG.out, ?_⟩
        rw [HN.out]
        exact ⟨rfl, HP6.out⟩
      | error x =>
        rw [hn] at hres
        obtain ⟨a, er⟩ := x
        dsimp only at hres
        subst hres
        have HN := hid (HT.out.trans hn)
        clear hn hg6
        refine ⟨rfl, HG.out, ?_⟩
        rw [HN.out]
    · have HT : Hid (takesF s.data.toList ⟨at_, tx, nu, 0⟩ m = .error (at_, 31)) := hid (by unfold takesF; rw [if_neg (by rintro ⟨_, h⟩; exact hm h)])
      have hne : (tx == m) = false := by simpa using hm
      have hk0 : kindS 0 = [] := rfl
      rw [hk0] at c4
      clear hk hk0 hm
      go_enter Tryz.func93, Tryz.ntmps93
      go_wp2_with fail
      ((with_reducible refine (fail_any g 31 _ at_ c1).mono ?_); rintro e w6 ⟨rfl, rfl⟩)
      refine ⟨rfl, ⟨rfl, rfl, rfl, Nat.le_refl _, fun _ _ _ => rfl⟩, ?_⟩
      rw [HT.out]
  · have HT : Hid (takesF s.data.toList ⟨at_, tx, nu, kd⟩ m = .error (at_, 31)) := hid (by unfold takesF; rw [if_neg (by rintro ⟨h, _⟩; exact h0 h)])
    have hk0 := kind_ne kd h0
    generalize kindS kd = ks at *
    clear hk h0
    go_enter Tryz.func93, Tryz.ntmps93
    go_wp2_with fail
    ((with_reducible refine (fail_any g 31 _ at_ c1).mono ?_); rintro e w6 ⟨rfl, rfl⟩)
    refine ⟨rfl, ⟨rfl, rfl, rfl, Nat.le_refl _, fun _ _ _ => rfl⟩, ?_⟩
    rw [HT.out]
end Go.Proofs.YtadmmmehphhecaaGreatDoor
