/- The walks of the parser's fail and next. -/
import Derived.Test.YtadmmmehphhecaaGreatDoorM
import Derived.Test.YtadmmmehphhecaaGreatDoorX
import Derived.StillTailTactics
import Derived.Deep.RegionHeld3
import Derived.Deep.RegionWith
import Derived.Deep.DeepCutAuto
import Derived.RegionTactic
set_option linter.unusedVariables false
set_option linter.unusedSimpArgs false
namespace Go.Proofs.YtadmmmehphhecaaGreatDoor
open Go.RowKit
abbrev TP : TypeId := 84
abbrev TW : TypeId := 81
theorem Bk.cells5 {w : World} {g : Nat} {t : TypeId} {a b c d e : Value} (h : Bk w g t #[a, b, c, d, e]) : w.cell? ⟨g, 0, none⟩ = some a ∧ w.cell? ⟨g, 1, none⟩ = some b ∧ w.cell? ⟨g, 2, none⟩ = some c ∧ w.cell? ⟨g, 3, none⟩ = some d ∧ w.cell? ⟨g, 4, none⟩ = some e :=
  ⟨h.cell 0 a rfl, h.cell 1 b rfl, h.cell 2 c rfl, h.cell 3 d rfl, h.cell 4 e rfl⟩
theorem fail_any (g : Nat) (er : Int) (w : World) (a : Nat) (hc : w.cell? ⟨g, 1, none⟩ = some (.int .i64 (a : Int))) :
    Calls Tryz.prog 42 #[.pointer (some ⟨g, 0, none⟩), .int .i64 er] w fun e w' => e = .panicked (badV a er TW) ∧ w = w' := by
  go_enter Tryz.func42, Tryz.ntmps42
  go_wp2_with fail
  exact ⟨rfl, rfl, rfl⟩
/-- a block that is no variable of the program's -/
def GBig (g : Nat) : Prop := 4 < g ∧ 3 < g ∧ 0 < g
theorem var_lt {w : World} {nm : String} {x : Array Value} {g : Nat} (h : w.var? Tryz.prog nm = some x) (hg : Tryz.prog.globalNamed nm = some g) : g < w.heap.size := by
  unfold World.var? at h
  rw [hg] at h
  simp only [Option.bind_some] at h
  rcases Nat.lt_or_ge g w.heap.size with h1 | h1
  · exact h1
  · rw [Array.getElem?_eq_none h1] at h; cases h
theorem var_as {w w' : World} {nm : String} {x : Array Value} {i : Nat} (h : w.var? Tryz.prog nm = some x) (hg : Tryz.prog.globalNamed nm = some i) (hb : i < w.heap.size → w'.heap[i]? = w.heap[i]?) : w'.var? Tryz.prog nm = some x := by
  have hlt := var_lt h hg
  unfold World.var? at h ⊢
  rw [hg] at h ⊢
  simp only [Option.bind_some] at h ⊢
  rw [hb hlt]; exact h
theorem Laid.big {w : World} (h : Laid w) : GBig w.heap.size := by
  obtain ⟨⟨a, b, h1⟩, ⟨c, d, h2⟩, h3⟩ := h
  exact ⟨var_lt h1 (by kernel_rfl), var_lt h2 (by kernel_rfl), var_lt h3 (by kernel_rfl)⟩
theorem Laid.as {w w' : World} (h : Laid w) (hb : ∀ i, i = 4 ∨ i = 3 ∨ i = 0 → i < w.heap.size → w'.heap[i]? = w.heap[i]?) : Laid w' := by
  obtain ⟨⟨a, b, h1⟩, ⟨c, d, h2⟩, h3⟩ := h
  exact ⟨⟨a, b, var_as h1 (by kernel_rfl) (hb _ (.inl rfl))⟩, ⟨c, d, var_as h2 (by kernel_rfl) (hb _ (.inr (.inl rfl)))⟩, var_as h3 (by kernel_rfl) (hb _ (.inr (.inr rfl)))⟩
theorem Laid.grown {w w' : World} {g : Nat} (h : Laid w) (hb : w.grownBy w' (some g)) (hg : GBig g) : Laid w' :=
  h.as fun i hi hlt => hb.block i hlt (by intro e; injection e with e; unfold GBig at hg; omega)
theorem flipC {P : Program} {f : FuncId} {args : Array Value} {w : World} {v : Value} (h : Calls P f args w fun e w' => e = .returned v ∧ w = w') : Calls P f args w fun e w' => e = .returned v ∧ w' = w := h.mono fun _ _ h => ⟨h.1, h.2.symm⟩
/-- the thing at a place -/
def tokF (p : Nat) (l : List UInt8) : Except (Nat × Int) PSt :=
  match l with
  | [] => .ok ⟨p, [], 0, 0⟩
  | c :: r =>
    if digB c = true then
      match numF (c :: r) with
      | none => .error (p, 23)
      | some n => if (c :: r)[endF (c :: r)]?.any wrdB = true ∨ 9223372036854775807 < n then .error (p, 23) else .ok ⟨p, (c :: r).take (endF (c :: r)), n, 1⟩
    else if letB c = true then .ok ⟨p, (c :: r).takeWhile wrdB, 0, 2⟩
    else match markF (c :: r) with
      | [] => .error (p, 31)
      | m :: q => .ok ⟨p, m :: q, 0, 0⟩
def nextF (s : List UInt8) (t : PSt) : Except (Nat × Int) PSt :=
  tokF (t.at_ + t.text.length + longN blkB (s.drop (t.at_ + t.text.length))) (s.drop (t.at_ + t.text.length + longN blkB (s.drop (t.at_ + t.text.length))))
theorem endF_le (l : List UInt8) : endF l ≤ l.length := by
  unfold endF digsF
  have h1 := (List.takeWhile_prefix (isF (kindF l)) (l := l.drop (fromF (kindF l)))).length_le
  have h2 : fromF (kindF l) ≤ l.length := by
    unfold fromF
    split
    · rename_i h
      match l, h with
      | _ :: _ :: _ :: _, _ => simp
      | [_, _], h => simp
      | [a], h => simp only [kindF] at h; split at h <;> cases h
      | [], h => simp [kindF] at h
    · omega
  rw [List.length_drop] at h1
  omega
def NextPost (s : ByteArray) (g : Nat) (t : PSt) (w : World) (e : Ending) (w' : World) : Prop :=
  w.grownBy w' (some g) ∧ match nextF s.data.toList t with
    | .ok t' => e = .returned (.tuple #[]) ∧ PIn TP w' g s t'
    | .error (a, er) => e = .panicked (badV a er TW)
set_option maxRecDepth 100000 in
set_option maxHeartbeats 2000000 in
theorem next_any (s : ByteArray) (g : Nat) (t : PSt) (w : World) (hL : Laid w) (hs : s.size ≤ 100000) (hgb : GBig g) (hp : PIn TP w g s t) (hat : t.at_ + t.text.length ≤ s.size) :
    Calls Tryz.prog 40 #[.pointer (some ⟨g, 0, none⟩)] w (NextPost s g t w) := by
  obtain ⟨at_, tx, nu, kd⟩ := t
  dsimp only at hat
  obtain ⟨nm, hk, _⟩ := hp
  dsimp only at hk
  have hg := hk.lt
  have HGB := hid hgb
  clear hgb
  obtain ⟨c0, c1, c2, c3, c4⟩ := hk.cells5
  have f1 := hk.free 1
  have hsum : IntKind.i64.wrap ((at_ : Int) + (tx.length : Int)) = (at_ : Int) + (tx.length : Int) := IntWalk.i64_in _ (by omega)
  go_enter Tryz.func40, Tryz.ntmps40
  go_wp2_with fail
  go_still_tail 12, (by kernel_rfl)
  change wpList _ _ _ _ _ w.drew
  have hkw := hk.drew
  have hgw : w.grownBy w.drew (some g) := ⟨rfl, rfl, rfl, Nat.le_refl _, fun _ _ _ => rfl⟩
  clear hk c0 c1 c2 c3 c4 f1
  generalize w.drew = w2 at *
  obtain ⟨c0, c1, c2, c3, c4⟩ := hkw.cells5
  have f1 := hkw.free 1
  go_upto_region 1 with fail
  obtain ⟨p0, hp0⟩ : ∃ p0 : Nat, p0 = at_ + tx.length := ⟨_, rfl⟩
  have hp0I : (at_ : Int) + (tx.length : Int) = (p0 : Int) := by omega
  have hk3 := hkw.set_ 1 (.int .i64 (p0 : Int))
  have hg3 := grownBy_trans hgw (grown_setCell (w := w2) (p := ⟨g, 1, none⟩) (g := g) rfl (.int .i64 (p0 : Int)))
  simp only [List.setIfInBounds_toArray, List.set_cons_succ, List.set_cons_zero] at hk3
  rw [hp0I]
  clear hkw hgw c0 c1 c2 c3 c4 f1 hsum
  generalize w2.setCell ⟨g, 1, none⟩ (.int .i64 (p0 : Int)) = w3 at *
  obtain ⟨c0, c1, c2, c3, c4⟩ := hk3.cells5
  have f1 := hk3.free 1
  have hle : p0 ≤ s.size := by omega
  have HP0 := hid hp0
  clear hp0 hp0I hat
  obtain ⟨k, hkk⟩ : ∃ k, k = longN blkB (s.extract p0 s.size).data.toList := ⟨_, rfl⟩
  have hk1 : k ≤ s.size - p0 := by
    rw [hkk]; refine Nat.le_trans (longN_le _ _) ?_; simp
  have hsum : IntKind.i64.wrap ((p0 : Int) + (k : Int)) = (p0 : Int) + (k : Int) := IntWalk.i64_in _ (by omega)
  have HKK := hid hkk
  have hsz : (s.extract p0 s.size).size ≤ 9223372036854775807 := by rw [ext_size]; omega
  have HC : Hid (∀ W, Calls Tryz.prog 53 #[.string (s.extract p0 s.size), .func (.func 73) #[] #[]] W fun e w'' => e = .returned (.int .i64 (k : Int)) ∧ w'' = W) := hid (fun W => by rw [hkk]; exact flipC (long_blank _ W hsz))
  clear hkk
  go_still_tail 17, (by kernel_rfl)
  still_call (HC.out _)
  repeat still_step
  refine wpStill_nil ?_
  change wpList _ _ _ _ _ w3.drew
  have hkw := hk3.drew
  have hgw : w.grownBy w3.drew (some g) := grownBy_trans hg3 ⟨rfl, rfl, rfl, Nat.le_refl _, fun _ _ _ => rfl⟩
  clear hk3 hg3 c0 c1 c2 c3 c4 f1
  generalize w3.drew = w2 at *
  obtain ⟨c0, c1, c2, c3, c4⟩ := hkw.cells5
  have f1 := hkw.free 1
  go_upto_region 2 with fail
  obtain ⟨p1, hp1⟩ : ∃ p1 : Nat, p1 = p0 + k := ⟨_, rfl⟩
  have hp1I : (p0 : Int) + (k : Int) = (p1 : Int) := by omega
  have hk3 := hkw.set_ 1 (.int .i64 (p1 : Int))
  have hg3 := grownBy_trans hgw (grown_setCell (w := w2) (p := ⟨g, 1, none⟩) (g := g) rfl (.int .i64 (p1 : Int)))
  simp only [List.setIfInBounds_toArray, List.set_cons_succ, List.set_cons_zero] at hk3
  rw [hp1I]
  clear hkw hgw c0 c1 c2 c3 c4 f1 hsum
  generalize w2.setCell ⟨g, 1, none⟩ (.int .i64 (p1 : Int)) = w3 at *
  obtain ⟨c0, c1, c2, c3, c4⟩ := hk3.cells5
  have f1 := hk3.free 1
  have hle1 : p1 ≤ s.size := by omega
  obtain ⟨r, hr⟩ : ∃ r, r = s.data.toList.drop p1 := ⟨_, rfl⟩
  have HN : Hid (nextF s.data.toList ⟨at_, tx, nu, kd⟩ = tokF p1 r) := hid (by
    have e1 : at_ + tx.length + longN blkB (s.data.toList.drop (at_ + tx.length)) = p1 := by
      rw [← HP0.out, hp1, HKK.out, ext_list, List.take_of_length_le (by simp)]
    unfold nextF
    dsimp only
    rw [e1, hr])
  have hxl : (s.extract p1 s.size).data.toList = r := by rw [hr, ext_list]; apply List.take_of_length_le; simp
  have hxs : (s.extract p1 s.size).size = s.size - p1 := by rw [ext_size]; omega
  clear hp1 hp1I hr HKK HC hsz hk1
  go_quiet (fail)
  generalize s.extract p1 s.size = x at *
  have hk3 := hk3.drewN nq
  have hg3 := grownBy_trans hg3 (grown_of_below (row := some g) (below_drewN (Below.refl _ w3) nq))
  clear c0 c1 c2 c3 c4 f1
  generalize w3.drewN nq = w4 at *
  obtain ⟨c0, c1, c2, c3, c4⟩ := hk3.cells5
  have f2 := hk3.free 2
  have f4 := hk3.free 4
  go_upto_region 7 with fail
  have hk5 := (hk3.set_ 2 (.string ⟨#[]⟩)).set_ 4 (.string ⟨#[]⟩)
  have hg5 := grownBy_trans (grownBy_trans hg3 (grown_setCell (w := w4) (p := ⟨g, 2, none⟩) (g := g) rfl (.string ⟨#[]⟩))) (grown_setCell (p := ⟨g, 4, none⟩) (g := g) rfl (.string ⟨#[]⟩))
  simp only [List.setIfInBounds_toArray, List.set_cons_succ, List.set_cons_zero] at hk5
  have hL5 : Laid w4 → True := fun _ => trivial
  clear hk3 hg3 c0 c1 c2 c3 c4 f2 f4 hL5
  generalize (w4.setCell ⟨g, 2, none⟩ (.string ⟨#[]⟩)).setCell ⟨g, 4, none⟩ (.string ⟨#[]⟩) = w5 at *
  have HG := hid hg5
  have HK := hid hk5
  obtain ⟨c0, c1, c2, c3, c4⟩ := hk5.cells5
  have f2 := hk5.free 2
  have f3 := hk5.free 3
  have f4 := hk5.free 4
  have HXS := hid hxs
  have HXL := hid hxl
  clear hk5 hg5 hxs hxl
  cases r with
  | nil =>
    have h0 : x = ⟨#[]⟩ := ByteArray.ext (by rw [← Array.toList_inj]; exact HXL.out)
    subst h0
    go_wp2_with fail
    go_end0
    exact ⟨HG.out, by rw [HN.out]; exact ⟨rfl, nm, HK.out, fun h => by cases h⟩⟩
  | cons c r =>
    have h0 : 0 < x.size := by
      have := congrArg List.length HXL.out; simp at this; omega
    have hc : x[0] = c := by
      have h1 : x.data.toList[0]'(by simpa using h0) = c := by simp only [HXL.out]; rfl
      rw [Array.getElem_toList] at h1; exact h1
    have hemp : x.toList.isEmpty = false := by
      rw [← decide_eq_emptyBytes]
      exact decide_eq_false (fun h => by rw [h] at h0; exact absurd h0 (by decide))
    have hL5 : Hid (Laid w5) := hid (hL.grown HG.out HGB.out)
    have hxz : x.size ≤ 100000 := by rw [HXS.out]; omega
    cases hd : digB c
    · have HD := hid hd
      clear hd
      cases hl : letB c
      · have HLE := hid hl
        clear hl
        have HMK := hid (show markF x.data.toList = markF (c :: r) by rw [HXL.out])
        have HT : Hid (nextF s.data.toList ⟨at_, tx, nu, kd⟩ = match markF (c :: r) with | [] => .error (p1, 31) | m :: q => .ok ⟨p1, m :: q, 0, 0⟩) := hid (by
          rw [HN.out]; unfold tokF; dsimp only; rw [if_neg (by rw [HD.out]; decide), if_neg (by rw [HLE.out]; decide)])
        generalize markF (c :: r) = mk at *
        go_wp2_with fail
        ((with_reducible refine (digit_any c _).mono ?_); rintro e w6 ⟨rfl, rfl⟩)
        rw [HD.out]
        go_wp2_with fail
        ((with_reducible refine (letter_any c _).mono ?_); rintro e w6 ⟨rfl, rfl⟩)
        rw [HLE.out]
        go_wp2_with fail
        ((with_reducible refine (mark_any x _ (by omega)).mono ?_); rintro e w6 ⟨rfl, rfl⟩)
        rw [HMK.out]
        cases mk with
        | nil =>
          go_wp2_with fail
          ((with_reducible refine (fail_any g 31 _ p1 (by go_simp)).mono ?_); rintro e w6 ⟨rfl, rfl⟩)
          refine ⟨rfl, grownBy_trans HG.out (grown_setCell (p := ⟨g, 2, none⟩) (g := g) rfl _), ?_⟩
          rw [HT.out]
        | cons m q =>
          go_wp2_with fail
          go_end0
          have hk6 : Bk (w5.setCell ⟨g, 2, none⟩ (.string ⟨(m :: q).toArray⟩)) g TP #[.string s, .int .i64 (p1 : Int), .string ⟨(m :: q).toArray⟩, .int .i64 nm, .string ⟨(kindS 0).toArray⟩] := HK.out.set_ 2 _
          refine ⟨grownBy_trans HG.out (grown_setCell (p := ⟨g, 2, none⟩) (g := g) rfl _), ?_⟩
          rw [HT.out]
          exact ⟨rfl, nm, hk6, fun h => by cases h⟩
      · have HLE := hid hl
        clear hl
        have HT : Hid (nextF s.data.toList ⟨at_, tx, nu, kd⟩ = .ok ⟨p1, (c :: r).takeWhile wrdB, 0, 2⟩) := hid (by
          rw [HN.out]; unfold tokF; dsimp only; rw [if_neg (by rw [HD.out]; decide), if_pos HLE.out])
        obtain ⟨m, hm⟩ : ∃ m, m = longN wrdB x.data.toList := ⟨_, rfl⟩
        have hm1 : m ≤ x.size := by rw [hm]; refine Nat.le_trans (longN_le _ _) ?_; simp
        have hxe : x.extract 0 m = ⟨((c :: r).takeWhile wrdB).toArray⟩ := ByteArray.ext (by
          rw [← Array.toList_inj]; rw [ext_list, hm, HXL.out, List.drop_zero, Nat.sub_zero]; exact takeWhile_take _ _)
        have HM := hid hm
        clear hm
        generalize (c :: r).takeWhile wrdB = tw at *
        go_wp2_with fail
        ((with_reducible refine (digit_any c _).mono ?_); rintro e w6 ⟨rfl, rfl⟩)
        rw [HD.out]
        go_wp2_with fail
        ((with_reducible refine (letter_any c _).mono ?_); rintro e w6 ⟨rfl, rfl⟩)
        rw [HLE.out]
        go_wp2_with fail
        ((with_reducible refine (long_wordN x _ (by omega)).mono ?_); rintro e w6 ⟨rfl, rfl⟩)
        rw [← HM.out]
        go_wp2_with fail
        go_end0
        have hk6 : Bk ((w5.setCell ⟨g, 2, none⟩ (.string ⟨tw.toArray⟩)).setCell ⟨g, 4, none⟩ (.string ⟨#[110, 97, 109, 101]⟩)) g TP #[.string s, .int .i64 (p1 : Int), .string ⟨tw.toArray⟩, .int .i64 nm, .string ⟨(kindS 2).toArray⟩] := (HK.out.set_ 2 _).set_ 4 _
        refine ⟨grownBy_trans (grownBy_trans HG.out (grown_setCell (p := ⟨g, 2, none⟩) (g := g) rfl _)) (grown_setCell (p := ⟨g, 4, none⟩) (g := g) rfl _), ?_⟩
        rw [HT.out]
        exact ⟨rfl, nm, hk6, fun h => by cases h⟩
    · have HD := hid hd
      clear hd
      go_wp2_with fail
      ((with_reducible refine (digit_any c _).mono ?_); rintro e w6 ⟨rfl, rfl⟩)
      rw [HD.out]
      go_wp2_with fail
      ((with_reducible refine (constant_any x _ hL5.out hxz).mono ?_); rintro e w6 ⟨hb6, hres⟩)
      rw [HXL.out] at hres
      have hk6 := HK.out.below hb6 (by have := HG.out.size; omega)
      have HG6 := hid (grownBy_trans HG.out (grown_of_below (row := some g) hb6))
      have HK6 := hid hk6
      clear c0 c1 c2 c3 c4 f2 f3 f4
      obtain ⟨c0, c1, c2, c3, c4⟩ := hk6.cells5
      have f2 := hk6.free 2
      have f3 := hk6.free 3
      have f4 := hk6.free 4
      clear hk6 hb6
      rcases hres with ⟨n, hn, rfl⟩ | ⟨hn, y, hy0, hy1, rfl⟩
      · obtain ⟨K, hK⟩ : ∃ K, K = endF (c :: r) := ⟨_, rfl⟩
        have hxl0 : (c :: r).length = x.size := by rw [← HXL.out]; simp
        have hKx : K ≤ x.size := by rw [hK, ← hxl0]; exact endF_le _
        have HT : Hid (nextF s.data.toList ⟨at_, tx, nu, kd⟩ = if (c :: r)[K]?.any wrdB = true ∨ 9223372036854775807 < n then .error (p1, 23) else .ok ⟨p1, (c :: r).take K, n, 1⟩) := hid (by
          rw [HN.out, hK]; unfold tokF; dsimp only; rw [if_pos HD.out, hn])
        have HKG : Hid (∀ h : K < x.size, (c :: r)[K]? = some x[K]) := hid (fun h => by
          have h2 : K < (c :: r).length := by rw [hxl0]; exact h
          rw [List.getElem?_eq_getElem h2]
          congr 1
          have h1 : x.data.toList[K]'(by simpa using h) = (c :: r)[K] := by simp only [HXL.out]
          rw [Array.getElem_toList] at h1; exact h1.symm)
        have HNO : Hid (¬ K < x.size → (c :: r)[K]? = none) := hid (fun h => List.getElem?_eq_none (by rw [hxl0]; omega))
        have hxe : x.extract 0 K = ⟨((c :: r).take K).toArray⟩ := ByteArray.ext (by
          rw [← Array.toList_inj]; rw [ext_list, HXL.out, List.drop_zero, Nat.sub_zero])
        obtain ⟨nI, hnI⟩ : ∃ nI : Int, nI = (n : Int) := ⟨_, rfl⟩
        have HNI := hid hnI
        have hn0 : 0 ≤ nI := by omega
        rw [← hK, ← hnI]
        have HOK : Hid ((c :: r)[K]?.any wrdB = false → nI ≤ 9223372036854775807 → nextF s.data.toList ⟨at_, tx, nu, kd⟩ = .ok ⟨p1, (c :: r).take K, n, 1⟩) := hid (fun h1 h2 => by
          rw [HT.out, if_neg]; rintro (h | h); (rw [h1] at h; cases h); omega)
        have HBAD : Hid ((c :: r)[K]?.any wrdB = true ∨ 9223372036854775807 < nI → nextF s.data.toList ⟨at_, tx, nu, kd⟩ = .error (p1, 23)) := hid (fun h => by
          rw [HT.out, if_pos]; rcases h with h | h; (exact .inl h); (right; omega))
        generalize (c :: r).take K = tw at *
        clear hn hK hxl0 hnI HT
        have hway : (∃ h : K < x.size, letB x[K] = true) ∨ (∃ h : K < x.size, letB x[K] = false ∧ digB x[K] = true) ∨ (∃ h : K < x.size, letB x[K] = false ∧ digB x[K] = false) ∨ decide (K < x.size) = false := by
          by_cases h : K < x.size
          · cases h1 : letB x[K]
            · cases h2 : digB x[K]
              · exact .inr (.inr (.inl ⟨h, h1, h2⟩))
              · exact .inr (.inl ⟨h, h1, h2⟩)
            · exact .inl ⟨h, h1⟩
          · exact .inr (.inr (.inr (by simpa using h)))
        rcases hway with ⟨hKl, h1⟩ | ⟨hKl, h1, h2⟩ | ⟨hKl, h1, h2⟩ | hKl
        · have H1 := hid h1
          have HB := hid (HBAD.out (.inl (by rw [HKG.out hKl]; simp [wrdB, h1])))
          clear h1
          go_wp2_with fail
          ((with_reducible refine (letter_any x[K] _).mono ?_); rintro e w7 ⟨rfl, rfl⟩)
          rw [H1.out]
          go_wp2_with fail
          refine ⟨rfl, HG6.out, ?_⟩
          rw [HB.out]
          rfl
        · have H1 := hid h1
          have H2 := hid h2
          have HB := hid (HBAD.out (.inl (by rw [HKG.out hKl]; simp [wrdB, h2])))
          clear h1 h2
          go_wp2_with fail
          ((with_reducible refine (letter_any x[K] _).mono ?_); rintro e w7 ⟨rfl, rfl⟩)
          rw [H1.out]
          go_wp2_with fail
          ((with_reducible refine (digit_any x[K] _).mono ?_); rintro e w7 ⟨rfl, rfl⟩)
          rw [H2.out]
          go_wp2_with fail
          refine ⟨rfl, HG6.out, ?_⟩
          rw [HB.out]
          rfl
        · have H1 := hid h1
          have H2 := hid h2
          have HA : Hid ((c :: r)[K]?.any wrdB = false) := hid (by rw [HKG.out hKl]; simp [wrdB, h1, h2])
          clear h1 h2
          by_cases hbig : 9223372036854775807 < nI
          · have HB := hid (HBAD.out (.inr hbig))
            go_wp2_with fail
            ((with_reducible refine (letter_any x[K] _).mono ?_); rintro e w7 ⟨rfl, rfl⟩)
            rw [H1.out]
            go_wp2_with fail
            ((with_reducible refine (digit_any x[K] _).mono ?_); rintro e w7 ⟨rfl, rfl⟩)
            rw [H2.out]
            go_wp2_with fail
            refine ⟨rfl, HG6.out, ?_⟩
            rw [HB.out]
            rfl
          · have hle : nI ≤ 9223372036854775807 := by omega
            have HB := hid (HOK.out HA.out hle)
            clear hbig
            go_wp2_with fail
            ((with_reducible refine (letter_any x[K] _).mono ?_); rintro e w7 ⟨rfl, rfl⟩)
            rw [H1.out]
            go_wp2_with fail
            ((with_reducible refine (digit_any x[K] _).mono ?_); rintro e w7 ⟨rfl, rfl⟩)
            rw [H2.out]
            go_wp2_with fail
            go_end0
            have hk7 : Bk (((w6.setCell ⟨g, 2, none⟩ (.string ⟨tw.toArray⟩)).setCell ⟨g, 3, none⟩ (.int .i64 nI)).setCell ⟨g, 4, none⟩ (.string ⟨#[110, 117, 109]⟩)) g TP #[.string s, .int .i64 (p1 : Int), .string ⟨tw.toArray⟩, .int .i64 nI, .string ⟨(kindS 1).toArray⟩] := ((HK6.out.set_ 2 _).set_ 3 _).set_ 4 _
            refine ⟨grownBy_trans (grownBy_trans (grownBy_trans HG6.out (grown_setCell (p := ⟨g, 2, none⟩) (g := g) rfl _)) (grown_setCell (p := ⟨g, 3, none⟩) (g := g) rfl _)) (grown_setCell (p := ⟨g, 4, none⟩) (g := g) rfl _), ?_⟩
            rw [HB.out]
            exact ⟨rfl, nI, hk7, fun _ => HNI.out⟩
        · have HA : Hid ((c :: r)[K]?.any wrdB = false) := hid (by rw [HNO.out (by simpa using hKl)]; rfl)
          by_cases hbig : 9223372036854775807 < nI
          · have HB := hid (HBAD.out (.inr hbig))
            go_wp2_with fail
            refine ⟨rfl, HG6.out, ?_⟩
            rw [HB.out]
            rfl
          · have hle : nI ≤ 9223372036854775807 := by omega
            have HB := hid (HOK.out HA.out hle)
            clear hbig
            go_wp2_with fail
            go_end0
            have hk7 : Bk (((w6.setCell ⟨g, 2, none⟩ (.string ⟨tw.toArray⟩)).setCell ⟨g, 3, none⟩ (.int .i64 nI)).setCell ⟨g, 4, none⟩ (.string ⟨#[110, 117, 109]⟩)) g TP #[.string s, .int .i64 (p1 : Int), .string ⟨tw.toArray⟩, .int .i64 nI, .string ⟨(kindS 1).toArray⟩] := ((HK6.out.set_ 2 _).set_ 3 _).set_ 4 _
            refine ⟨grownBy_trans (grownBy_trans (grownBy_trans HG6.out (grown_setCell (p := ⟨g, 2, none⟩) (g := g) rfl _)) (grown_setCell (p := ⟨g, 3, none⟩) (g := g) rfl _)) (grown_setCell (p := ⟨g, 4, none⟩) (g := g) rfl _), ?_⟩
            rw [HB.out]
            exact ⟨rfl, nI, hk7, fun _ => HNI.out⟩
      · have HT : Hid (nextF s.data.toList ⟨at_, tx, nu, kd⟩ = .error (p1, 23)) := hid (by
          rw [HN.out]; unfold tokF; dsimp only; rw [if_pos HD.out, hn])
        clear hn
        go_wp2_with fail
        refine ⟨rfl, HG6.out, ?_⟩
        rw [HT.out]
        rfl
end Go.Proofs.YtadmmmehphhecaaGreatDoor
