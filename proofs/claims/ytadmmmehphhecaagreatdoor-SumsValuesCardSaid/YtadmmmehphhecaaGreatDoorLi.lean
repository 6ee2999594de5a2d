/- The walk of sums.show. -/
import Derived.Test.YtadmmmehphhecaaGreatDoorLh
import Derived.Test.YtadmmmehphhecaaGreatDoorLa
import Derived.Test.YtadmmmehphhecaaGreatDoorLe
import Derived.Deep.RegionHeld3
import Derived.Deep.RegionWith
set_option linter.unusedVariables false
set_option linter.unusedSimpArgs false
namespace Go.Proofs.YtadmmmehphhecaaGreatDoor
open Go.RowKit
def ShowC (e : Ex) : Prop := ∀ (w : World) (P : Nat → Prop) (v : Value), RdX w P e v → Laid w → Calls Tryz.prog 32 #[v] w fun x w' => x = .returned (.string ⟨(showF e).toArray⟩) ∧ Below w.heap.size w w'
theorem ShowC.call {e : Ex} (h : ShowC e) (w : World) (P : Nat → Prop) (v : Value) (hr : RdX w P e v) (hL : Laid w) : Calls Tryz.prog 32 #[v] w fun x w' => x = .returned (.string ⟨(showF e).toArray⟩) ∧ Below w.heap.size w w' := h w P v hr hL
theorem str3 (a D b : List UInt8) : ((⟨a.toArray⟩ ++ ⟨D.toArray⟩ : ByteArray) ++ ⟨b.toArray⟩) = ⟨(a ++ D ++ b).toArray⟩ := by rw [str_app]; exact str_app _ _
theorem str5 (a b c d e : List UInt8) : (((⟨a.toArray⟩ ++ ⟨b.toArray⟩ : ByteArray) ++ ⟨c.toArray⟩) ++ ⟨d.toArray⟩) ++ ⟨e.toArray⟩ = ⟨(a ++ b ++ c ++ d ++ e).toArray⟩ := by rw [str3, str_app, str_app]
theorem str7 (a b c d e f g : List UInt8) : (((((⟨a.toArray⟩ ++ ⟨b.toArray⟩ : ByteArray) ++ ⟨c.toArray⟩) ++ ⟨d.toArray⟩) ++ ⟨e.toArray⟩) ++ ⟨f.toArray⟩) ++ ⟨g.toArray⟩ = ⟨(a ++ b ++ c ++ d ++ e ++ f ++ g).toArray⟩ := by rw [str5, str_app, str_app]
theorem kids_len {op nm : List UInt8} {n : Int} {len : Nat} (h : headB op n nm len = true) : (len : Int) = kidsF op := by
  simp only [headB, Bool.and_eq_true, decide_eq_true_eq] at h
  exact h.1.1
theorem getD_map (l : Exs) (i : Nat) (h : i < l.toL.length) : (l.toL.map showF).getD i [] = showF l.toL[i] := by
  rw [List.getD_eq_getElem?_getD, List.getElem?_map, List.getElem?_eq_getElem h]; rfl
theorem sz_of (S : List UInt8) : (⟨S.toArray⟩ : ByteArray).size = S.length := by simp [ByteArray.size]
/-- the first of a row: what its four cells hold -/
theorem RdL.un {w : World} {P : Nat → Prop} {x : Ex} {r : Exs} {b off : Nat} (h : RdL w P (.cons x r) (some ⟨b, off, none⟩)) :
    ∃ A cap, P b ∧ w.cell? ⟨b, off, none⟩ = some (.string ⟨x.op.toArray⟩) ∧ w.cell? ⟨b, off + 1, none⟩ = some (.int .i64 x.num) ∧ w.cell? ⟨b, off + 2, none⟩ = some (.string ⟨x.name.toArray⟩) ∧ w.cell? ⟨b, off + 3, none⟩ = some (.slice A x.kids.len cap)
      ∧ RdX w P x (.agg #[.string ⟨x.op.toArray⟩, .int .i64 x.num, .string ⟨x.name.toArray⟩, .slice A x.kids.len cap]) ∧ RdL w P r (some ⟨b, off + 4, none⟩) := by
  unfold RdL at h
  obtain ⟨b', off', c0, c1, c2, c3, h1, h2, h3, h4, h5, h6, h7, h8⟩ := h
  injection h1 with h1; injection h1 with hb ho _
  subst hb ho
  obtain ⟨A, cap, he, hc, _⟩ := h7.form
  rw [he] at h7
  injection he with he
  injection he with he
  injection he with e0 he
  injection he with e1 he
  injection he with e2 he
  injection he with e3 he
  subst e0 e1 e2 e3
  exact ⟨A, cap, h2, h3, h4, h5, h6, h7, h8⟩
section
variable {e : Ex} {w : World} {P : Nat → Prop} {v : Value}
set_option maxRecDepth 100000 in
set_option maxHeartbeats 2000000 in
theorem show_num (n : Int) (nm : List UInt8) (k : Exs) (h0 : -9223372036854775808 ≤ n) (h1 : n ≤ 9223372036854775807) : ShowC (.mk numO n nm k) := by
  intro w P v hr hL
  obtain ⟨A, cap, rfl, hcap, hkids⟩ := hr.form
  have HKI := hid hkids
  have HL := hid hL
  clear hr hkids hL
  dsimp only [Ex.op, Ex.num, Ex.name, Ex.kids] at *
  unfold numO
  go_enter Tryz.func32, Tryz.ntmps32
  go_wp2_with fail
  ((with_reducible refine (text_any n h0 h1 _ (HL.out.below ((Below.refl _ _).alloc (Nat.le_refl _) _))).mono ?_); rintro e1 w1 ⟨rfl, hb1⟩)
  go_wp2_with fail
  go_ret
  exact ⟨rfl, bel_al (Below.refl _ _) hb1⟩
set_option maxRecDepth 100000 in
set_option maxHeartbeats 2000000 in
theorem show_name (n : Int) (nm : List UInt8) (k : Exs) : ShowC (.mk nameO n nm k) := by
  intro w P v hr hL
  obtain ⟨A, cap, rfl, hcap, hkids⟩ := hr.form
  have HKI := hid hkids
  have HL := hid hL
  clear hr hkids hL
  dsimp only [Ex.op, Ex.num, Ex.name, Ex.kids] at *
  unfold nameO
  go_enter Tryz.func32, Tryz.ntmps32
  go_wp2_with fail
  go_ret
  exact ⟨rfl, (Below.refl _ _).alloc (Nat.le_refl _) _⟩
set_option maxRecDepth 100000 in
set_option maxHeartbeats 2000000 in
theorem show_una (op : List UInt8) (n : Int) (nm : List UInt8) (x : Ex) (hop : op = [110, 101, 103] ∨ op = [112, 111, 115] ∨ op = [110, 111, 116] ∨ op = [99, 111, 109]) (hk : ShowC x) (hlen : (showF x).length ≤ 1000000000) : ShowC (.mk op n nm (.cons x .nil)) := by
  intro w P v hr hL
  obtain ⟨A, cap, rfl, hcap, hkids⟩ := hr.form
  dsimp only [Ex.op, Ex.num, Ex.name, Ex.kids, Exs.len] at *
  obtain ⟨b, off, rfl⟩ := hkids.form_ (by simp [Exs.len])
  obtain ⟨A2, cap2, _, q0, q1, q2, q3, hx, _⟩ := hkids.un
  have hblt := World.block_lt_of_cell? w _ q0
  dsimp only at hblt
  have hbne : ¬ b = w.heap.size := by omega
  have HX := hid hx
  have HL := hid hL
  have HK := hid hk
  obtain ⟨D, hD⟩ : ∃ D, D = showF x := ⟨_, rfl⟩
  have hDl : D.length ≤ 1000000000 := by rw [hD]; exact hlen
  have HD := hid hD
  clear hr hkids hL hx hk hD hlen
  rcases hop with rfl | rfl | rfl | rfl
  all_goals
    go_enter Tryz.func32, Tryz.ntmps32
    go_wp2_with fail
    ((with_reducible refine (HK.out.call _ P _ (HX.out.alloc_ _) (HL.out.below ((Below.refl _ _).alloc (Nat.le_refl _) _))).mono ?_); rintro e1 w1 ⟨rfl, hb1⟩)
    rw [← HD.out]
    go_wp2_with fail
    go_ret
    refine ⟨ret_val (congrArg Value.string ?_), bel_al (Below.refl _ _) hb1⟩
    simp only [showF, showL, glueF, ← HD.out]
    exact str3 _ _ [41]
set_option maxRecDepth 100000 in
set_option maxHeartbeats 2000000 in
theorem show_set (op : List UInt8) (n : Int) (nm : List UInt8) (x : Ex) (hop : setF op = true) (hol : op.length ≤ 4) (hnl : nm.length ≤ 4096) (hk : ShowC x) (hlen : (showF x).length ≤ 1000000000) : ShowC (.mk op n nm (.cons x .nil)) := by
  intro w P v hr hL
  obtain ⟨A, cap, rfl, hcap, hkids⟩ := hr.form
  dsimp only [Ex.op, Ex.num, Ex.name, Ex.kids, Exs.len] at *
  obtain ⟨b, off, rfl⟩ := hkids.form_ (by simp [Exs.len])
  obtain ⟨A2, cap2, _, q0, q1, q2, q3, hx, _⟩ := hkids.un
  have hblt := World.block_lt_of_cell? w _ q0
  dsimp only at hblt
  have hbne : ¬ b = w.heap.size := by omega
  have HX := hid hx
  have HL := hid hL
  have HK := hid hk
  obtain ⟨D, hD⟩ : ∃ D, D = showF x := ⟨_, rfl⟩
  have hDl : D.length ≤ 1000000000 := by rw [hD]; exact hlen
  have HD := hid hD
  have a0 : (op == [110, 117, 109]) = false := by cases h : op == [110, 117, 109] with | false => rfl | true => (simp at h; subst h; revert hop; decide)
  have a1 : (op == [110, 97, 109, 101]) = false := by cases h : op == [110, 97, 109, 101] with | false => rfl | true => (simp at h; subst h; revert hop; decide)
  have a2 : (op == [110, 101, 103]) = false := by cases h : op == [110, 101, 103] with | false => rfl | true => (simp at h; subst h; revert hop; decide)
  have a3 : (op == [112, 111, 115]) = false := by cases h : op == [112, 111, 115] with | false => rfl | true => (simp at h; subst h; revert hop; decide)
  have a4 : (op == [110, 111, 116]) = false := by cases h : op == [110, 111, 116] with | false => rfl | true => (simp at h; subst h; revert hop; decide)
  have a5 : (op == [99, 111, 109]) = false := by cases h : op == [99, 111, 109] with | false => rfl | true => (simp at h; subst h; revert hop; decide)
  have a6 : (op == [63]) = false := by cases h : op == [63] with | false => rfl | true => (simp at h; subst h; revert hop; decide)
  have HS := hid hop
  have HE : Hid (showF (.mk op n nm (.cons x .nil)) = [40] ++ nm ++ op ++ D ++ [41]) := hid (by
    simp at a0 a1 a2 a3 a4 a5 a6
    simp only [showF, showL, glueF, numO, nameO, ← HD.out]
    rw [if_neg a0, if_neg a1, if_neg a2, if_neg a3, if_neg a4, if_neg a5, if_neg a6, if_pos hop]; rfl)
  clear hr hkids hL hx hk hD hlen hop
  go_enter Tryz.func32, Tryz.ntmps32
  go_wp2_with fail
  ((with_reducible refine (isSet_any op _).mono ?_); rintro e1 w1 ⟨rfl, rfl⟩)
  rw [HS.out]
  have kB := Bk.new w 30 #[.string ⟨op.toArray⟩, .int .i64 n, .string ⟨nm.toArray⟩, .slice (some ⟨b, off, none⟩) 1 cap]
  have hB0 : Below w.heap.size w (w.alloc (.cells #[.string ⟨op.toArray⟩, .int .i64 n, .string ⟨nm.toArray⟩, .slice (some ⟨b, off, none⟩) 1 cap] 30)) := (Below.refl _ _).alloc (Nat.le_refl _) _
  have p0 := al (o := .cells #[.string ⟨op.toArray⟩, .int .i64 n, .string ⟨nm.toArray⟩, .slice (some ⟨b, off, none⟩) 1 cap] 30) q0
  have p1 := al (o := .cells #[.string ⟨op.toArray⟩, .int .i64 n, .string ⟨nm.toArray⟩, .slice (some ⟨b, off, none⟩) 1 cap] 30) q1
  have p2 := al (o := .cells #[.string ⟨op.toArray⟩, .int .i64 n, .string ⟨nm.toArray⟩, .slice (some ⟨b, off, none⟩) 1 cap] 30) q2
  have p3 := al (o := .cells #[.string ⟨op.toArray⟩, .int .i64 n, .string ⟨nm.toArray⟩, .slice (some ⟨b, off, none⟩) 1 cap] 30) q3
  clear q0 q1 q2 q3
  obtain ⟨W0, hW0⟩ : ∃ W0, W0 = w.alloc (.cells #[.string ⟨op.toArray⟩, .int .i64 n, .string ⟨nm.toArray⟩, .slice (some ⟨b, off, none⟩) 1 cap] 30) := ⟨_, rfl⟩
  rw [← hW0] at kB hB0 p0 p1 p2 p3
  rw [← hW0]
  clear hW0
  obtain ⟨c0, c1, c2, c3⟩ := kB.cells4
  have HX0 := hid (show RdX W0.drew P x _ from HX.out.below hB0.drew)
  have HL0 := hid (show Laid W0.drew from HL.out.below hB0.drew)
  have HB0 := hid hB0
  have s1 : ¬ 9223372036854775807 < 1 + nm.length := by omega
  have s2 : ¬ 9223372036854775807 < 1 + nm.length + op.length := by omega
  have s3 : ¬ 9223372036854775807 < 1 + nm.length + op.length + D.length := by omega
  have s4 : ¬ 9223372036854775807 < 1 + nm.length + op.length + D.length + 1 := by omega
  clear kB hB0 hol hnl hDl hbne
  go_wp2_with fail
  go_region_held3 (fun w' => w'.cell? ⟨w.heap.size, 0, none⟩ = some (.string ⟨op.toArray⟩) ∧ w'.cell? ⟨w.heap.size, 2, none⟩ = some (.string ⟨nm.toArray⟩) ∧ w'.cell? ⟨w.heap.size, 3, none⟩ = some (.slice (some ⟨b, off, none⟩) 1 cap)
      ∧ w'.cell? ⟨b, off, none⟩ = some (.string ⟨x.op.toArray⟩) ∧ w'.cell? ⟨b, off + 1, none⟩ = some (.int .i64 x.num) ∧ w'.cell? ⟨b, off + 2, none⟩ = some (.string ⟨x.name.toArray⟩) ∧ w'.cell? ⟨b, off + 3, none⟩ = some (.slice A2 x.kids.len cap2))
    (first | go_keep | (go_split_ands; refine ⟨?_, ?_, ?_, ?_, ?_, ?_, ?_⟩ <;> (refine bel_cell hb1 ?_; assumption)))
    (first | (go_at_call 32; (with_reducible refine (HK.out.call _ P _ HX0.out HL0.out).mono ?_); rintro e1 w1 ⟨rfl, hb1⟩; rw [← HD.out]))
  go_wp2_with fail
  go_ret
  refine ⟨ret_val (congrArg Value.string ?_), HB0.out.drew.trans (hb1.mono HB0.out.size)⟩
  rw [HE.out]
  exact str5 [40] nm op D [41]
-- printed by genLi.py
set_option maxRecDepth 100000 in
set_option maxHeartbeats 2000000 in
theorem show_two (op : List UInt8) (n : Int) (nm : List UInt8) (x y : Ex) (hop : 0 < levF op) (hns : setF op = false) (hol : op.length ≤ 4) (hx : ShowC x) (hlx : (showF x).length ≤ 1000000000) (hy : ShowC y) (hly : (showF y).length ≤ 1000000000) : ShowC (.mk op n nm (.cons x (.cons y .nil))) := by
  intro w P v hr hL
  obtain ⟨A, cap, rfl, hcap, hkids⟩ := hr.form
  dsimp only [Ex.op, Ex.num, Ex.name, Ex.kids, Exs.len, Nat.zero_add, Nat.reduceAdd] at *
  obtain ⟨b, off, rfl⟩ := hkids.form_ (by simp [Exs.len])
  obtain ⟨Ax, capx, _, qx0, qx1, qx2, qx3, hrx, hkids⟩ := hkids.un
  obtain ⟨Ay, capy, _, qy0, qy1, qy2, qy3, hry, hkids⟩ := hkids.un
  have hblt := World.block_lt_of_cell? w _ qx0
  dsimp only at hblt
  have HXx := hid hrx
  have HKx := hid hx
  obtain ⟨Dx, hDx⟩ : ∃ D, D = showF x := ⟨_, rfl⟩
  have hDlx : Dx.length ≤ 1000000000 := by rw [hDx]; exact hlx
  have HDx := hid hDx
  have HXy := hid hry
  have HKy := hid hy
  obtain ⟨Dy, hDy⟩ : ∃ D, D = showF y := ⟨_, rfl⟩
  have hDly : Dy.length ≤ 1000000000 := by rw [hDy]; exact hly
  have HDy := hid hDy
  have HL := hid hL
  have a0 : (op == [110, 117, 109]) = false := by cases h : op == [110, 117, 109] with | false => rfl | true => (simp at h; subst h; revert hop; decide)
  have a1 : (op == [110, 97, 109, 101]) = false := by cases h : op == [110, 97, 109, 101] with | false => rfl | true => (simp at h; subst h; revert hop; decide)
  have a2 : (op == [110, 101, 103]) = false := by cases h : op == [110, 101, 103] with | false => rfl | true => (simp at h; subst h; revert hop; decide)
  have a3 : (op == [112, 111, 115]) = false := by cases h : op == [112, 111, 115] with | false => rfl | true => (simp at h; subst h; revert hop; decide)
  have a4 : (op == [110, 111, 116]) = false := by cases h : op == [110, 111, 116] with | false => rfl | true => (simp at h; subst h; revert hop; decide)
  have a5 : (op == [99, 111, 109]) = false := by cases h : op == [99, 111, 109] with | false => rfl | true => (simp at h; subst h; revert hop; decide)
  have a6 : (op == [63]) = false := by cases h : op == [63] with | false => rfl | true => (simp at h; subst h; revert hop; decide)
  have HS := hid hns
  have HE : Hid (showF (.mk op n nm (.cons x (.cons y .nil))) = [40] ++ Dx ++ op ++ Dy ++ [41]) := hid (by
    simp at a0 a1 a2 a3 a4 a5 a6
    simp only [showF, showL, glueF, numO, nameO, ← HDx.out, ← HDy.out]
    rw [if_neg a0, if_neg a1, if_neg a2, if_neg a3, if_neg a4, if_neg a5, if_neg a6, if_neg (by rw [hns]; decide)]; rfl)
  clear hr hL hrx hx hDx hlx hry hy hDy hly hop hns
  go_enter Tryz.func32, Tryz.ntmps32
  go_wp2_with fail
  ((with_reducible refine (isSet_any op _).mono ?_); rintro e1 w1 ⟨rfl, rfl⟩)
  rw [HS.out]
  have kB := Bk.new w 30 #[.string ⟨op.toArray⟩, .int .i64 n, .string ⟨nm.toArray⟩, .slice (some ⟨b, off, none⟩) 2 cap]
  have hB0 : Below w.heap.size w (w.alloc (.cells #[.string ⟨op.toArray⟩, .int .i64 n, .string ⟨nm.toArray⟩, .slice (some ⟨b, off, none⟩) 2 cap] 30)) := (Below.refl _ _).alloc (Nat.le_refl _) _
  have px0 := al (o := .cells #[.string ⟨op.toArray⟩, .int .i64 n, .string ⟨nm.toArray⟩, .slice (some ⟨b, off, none⟩) 2 cap] 30) qx0
  have px1 := al (o := .cells #[.string ⟨op.toArray⟩, .int .i64 n, .string ⟨nm.toArray⟩, .slice (some ⟨b, off, none⟩) 2 cap] 30) qx1
  have px2 := al (o := .cells #[.string ⟨op.toArray⟩, .int .i64 n, .string ⟨nm.toArray⟩, .slice (some ⟨b, off, none⟩) 2 cap] 30) qx2
  have px3 := al (o := .cells #[.string ⟨op.toArray⟩, .int .i64 n, .string ⟨nm.toArray⟩, .slice (some ⟨b, off, none⟩) 2 cap] 30) qx3
  have py0 := al (o := .cells #[.string ⟨op.toArray⟩, .int .i64 n, .string ⟨nm.toArray⟩, .slice (some ⟨b, off, none⟩) 2 cap] 30) qy0
  have py1 := al (o := .cells #[.string ⟨op.toArray⟩, .int .i64 n, .string ⟨nm.toArray⟩, .slice (some ⟨b, off, none⟩) 2 cap] 30) qy1
  have py2 := al (o := .cells #[.string ⟨op.toArray⟩, .int .i64 n, .string ⟨nm.toArray⟩, .slice (some ⟨b, off, none⟩) 2 cap] 30) qy2
  have py3 := al (o := .cells #[.string ⟨op.toArray⟩, .int .i64 n, .string ⟨nm.toArray⟩, .slice (some ⟨b, off, none⟩) 2 cap] 30) qy3
  clear qx0 qx1 qx2 qx3 qy0 qy1 qy2 qy3
  obtain ⟨W0, hW0⟩ : ∃ W0, W0 = w.alloc (.cells #[.string ⟨op.toArray⟩, .int .i64 n, .string ⟨nm.toArray⟩, .slice (some ⟨b, off, none⟩) 2 cap] 30) := ⟨_, rfl⟩
  rw [← hW0] at kB hB0 px0 px1 px2 px3 py0 py1 py2 py3
  rw [← hW0]
  clear hW0
  obtain ⟨c0, c1, c2, c3⟩ := kB.cells4
  have HB0 := hid hB0
  have s0 : ¬ 9223372036854775807 < 1 + Dx.length := by omega
  have s1 : ¬ 9223372036854775807 < 1 + Dx.length + op.length := by omega
  have s2 : ¬ 9223372036854775807 < 1 + Dx.length + op.length + Dy.length := by omega
  have s3 : ¬ 9223372036854775807 < 1 + Dx.length + op.length + Dy.length + 1 := by omega
  clear kB hB0 hblt hkids hDlx hDly hol
  go_wp2_with fail
  have HX0x := hid (show RdX W0.drew P x _ from HXx.out.below HB0.out.drew)
  have HX0y := hid (show RdX W0.drew P y _ from HXy.out.below HB0.out.drew)
  have HL0 := hid (show Laid W0.drew from HL.out.below HB0.out.drew)
  go_region_held3 (fun w' => w'.cell? ⟨w.heap.size, 0, none⟩ = some (.string ⟨op.toArray⟩) ∧ w'.cell? ⟨w.heap.size, 3, none⟩ = some (.slice (some ⟨b, off, none⟩) 2 cap) ∧ w'.cell? ⟨b, off, none⟩ = some (.string ⟨x.op.toArray⟩) ∧ w'.cell? ⟨b, off + 1, none⟩ = some (.int .i64 x.num) ∧ w'.cell? ⟨b, off + 2, none⟩ = some (.string ⟨x.name.toArray⟩) ∧ w'.cell? ⟨b, off + 3, none⟩ = some (.slice Ax x.kids.len capx) ∧ w'.cell? ⟨b, off + 4, none⟩ = some (.string ⟨y.op.toArray⟩) ∧ w'.cell? ⟨b, off + 5, none⟩ = some (.int .i64 y.num) ∧ w'.cell? ⟨b, off + 6, none⟩ = some (.string ⟨y.name.toArray⟩) ∧ w'.cell? ⟨b, off + 7, none⟩ = some (.slice Ay y.kids.len capy))
    (first | go_keep | (go_split_ands; refine ⟨?_, ?_, ?_, ?_, ?_, ?_, ?_, ?_, ?_, ?_⟩ <;> (refine bel_cell hby ?_; assumption)) | (go_split_ands; refine ⟨?_, ?_, ?_, ?_, ?_, ?_, ?_, ?_, ?_, ?_⟩ <;> (refine bel_cell hbx ?_; assumption)) | fail)
    (first | (go_at_call 32; (with_reducible refine (HKx.out.call _ P _ HX0x.out HL0.out).mono ?_); rintro e1 wx ⟨rfl, hbx⟩; rw [← HDx.out]) | (go_at_call 32; (with_reducible refine (HKy.out.call _ P _ (HX0y.out.below hbx) (HL0.out.below hbx)).mono ?_); rintro e1 wy ⟨rfl, hby⟩; rw [← HDy.out]) | fail)
  go_wp2_with fail
  go_ret
  refine ⟨ret_val (congrArg Value.string ?_), HB0.out.drew.trans (Below.mono (hbx.trans (hby.mono hbx.size)) HB0.out.size)⟩
  rw [HE.out]
  exact str5 [40] Dx op Dy [41]
set_option maxRecDepth 100000 in
set_option maxHeartbeats 2000000 in
theorem show_three (n : Int) (nm : List UInt8) (x y z : Ex) (hx : ShowC x) (hlx : (showF x).length ≤ 1000000000) (hy : ShowC y) (hly : (showF y).length ≤ 1000000000) (hz : ShowC z) (hlz : (showF z).length ≤ 1000000000) : ShowC (.mk [63] n nm (.cons x (.cons y (.cons z .nil)))) := by
  intro w P v hr hL
  obtain ⟨A, cap, rfl, hcap, hkids⟩ := hr.form
  dsimp only [Ex.op, Ex.num, Ex.name, Ex.kids, Exs.len, Nat.zero_add, Nat.reduceAdd] at *
  obtain ⟨b, off, rfl⟩ := hkids.form_ (by simp [Exs.len])
  obtain ⟨Ax, capx, _, qx0, qx1, qx2, qx3, hrx, hkids⟩ := hkids.un
  obtain ⟨Ay, capy, _, qy0, qy1, qy2, qy3, hry, hkids⟩ := hkids.un
  obtain ⟨Az, capz, _, qz0, qz1, qz2, qz3, hrz, hkids⟩ := hkids.un
  have hblt := World.block_lt_of_cell? w _ qx0
  dsimp only at hblt
  have HXx := hid hrx
  have HKx := hid hx
  obtain ⟨Dx, hDx⟩ : ∃ D, D = showF x := ⟨_, rfl⟩
  have hDlx : Dx.length ≤ 1000000000 := by rw [hDx]; exact hlx
  have HDx := hid hDx
  have HXy := hid hry
  have HKy := hid hy
  obtain ⟨Dy, hDy⟩ : ∃ D, D = showF y := ⟨_, rfl⟩
  have hDly : Dy.length ≤ 1000000000 := by rw [hDy]; exact hly
  have HDy := hid hDy
  have HXz := hid hrz
  have HKz := hid hz
  obtain ⟨Dz, hDz⟩ : ∃ D, D = showF z := ⟨_, rfl⟩
  have hDlz : Dz.length ≤ 1000000000 := by rw [hDz]; exact hlz
  have HDz := hid hDz
  have HL := hid hL
  have HE : Hid (showF (.mk [63] n nm (.cons x (.cons y (.cons z .nil)))) = [40] ++ Dx ++ [63] ++ Dy ++ [58] ++ Dz ++ [41]) := hid (by simp only [showF, showL, glueF, ← HDx.out, ← HDy.out, ← HDz.out]; rfl)
  clear hr hL hrx hx hDx hlx hry hy hDy hly hrz hz hDz hlz
  go_enter Tryz.func32, Tryz.ntmps32
  go_wp2_with fail
  have kB := Bk.new w 30 #[.string ⟨#[63]⟩, .int .i64 n, .string ⟨nm.toArray⟩, .slice (some ⟨b, off, none⟩) 3 cap]
  have hB0 : Below w.heap.size w (w.alloc (.cells #[.string ⟨#[63]⟩, .int .i64 n, .string ⟨nm.toArray⟩, .slice (some ⟨b, off, none⟩) 3 cap] 30)) := (Below.refl _ _).alloc (Nat.le_refl _) _
  have px0 := al (o := .cells #[.string ⟨#[63]⟩, .int .i64 n, .string ⟨nm.toArray⟩, .slice (some ⟨b, off, none⟩) 3 cap] 30) qx0
  have px1 := al (o := .cells #[.string ⟨#[63]⟩, .int .i64 n, .string ⟨nm.toArray⟩, .slice (some ⟨b, off, none⟩) 3 cap] 30) qx1
  have px2 := al (o := .cells #[.string ⟨#[63]⟩, .int .i64 n, .string ⟨nm.toArray⟩, .slice (some ⟨b, off, none⟩) 3 cap] 30) qx2
  have px3 := al (o := .cells #[.string ⟨#[63]⟩, .int .i64 n, .string ⟨nm.toArray⟩, .slice (some ⟨b, off, none⟩) 3 cap] 30) qx3
  have py0 := al (o := .cells #[.string ⟨#[63]⟩, .int .i64 n, .string ⟨nm.toArray⟩, .slice (some ⟨b, off, none⟩) 3 cap] 30) qy0
  have py1 := al (o := .cells #[.string ⟨#[63]⟩, .int .i64 n, .string ⟨nm.toArray⟩, .slice (some ⟨b, off, none⟩) 3 cap] 30) qy1
  have py2 := al (o := .cells #[.string ⟨#[63]⟩, .int .i64 n, .string ⟨nm.toArray⟩, .slice (some ⟨b, off, none⟩) 3 cap] 30) qy2
  have py3 := al (o := .cells #[.string ⟨#[63]⟩, .int .i64 n, .string ⟨nm.toArray⟩, .slice (some ⟨b, off, none⟩) 3 cap] 30) qy3
  have pz0 := al (o := .cells #[.string ⟨#[63]⟩, .int .i64 n, .string ⟨nm.toArray⟩, .slice (some ⟨b, off, none⟩) 3 cap] 30) qz0
  have pz1 := al (o := .cells #[.string ⟨#[63]⟩, .int .i64 n, .string ⟨nm.toArray⟩, .slice (some ⟨b, off, none⟩) 3 cap] 30) qz1
  have pz2 := al (o := .cells #[.string ⟨#[63]⟩, .int .i64 n, .string ⟨nm.toArray⟩, .slice (some ⟨b, off, none⟩) 3 cap] 30) qz2
  have pz3 := al (o := .cells #[.string ⟨#[63]⟩, .int .i64 n, .string ⟨nm.toArray⟩, .slice (some ⟨b, off, none⟩) 3 cap] 30) qz3
  clear qx0 qx1 qx2 qx3 qy0 qy1 qy2 qy3 qz0 qz1 qz2 qz3
  obtain ⟨W0, hW0⟩ : ∃ W0, W0 = w.alloc (.cells #[.string ⟨#[63]⟩, .int .i64 n, .string ⟨nm.toArray⟩, .slice (some ⟨b, off, none⟩) 3 cap] 30) := ⟨_, rfl⟩
  rw [← hW0] at kB hB0 px0 px1 px2 px3 py0 py1 py2 py3 pz0 pz1 pz2 pz3
  rw [← hW0]
  clear hW0
  obtain ⟨c0, c1, c2, c3⟩ := kB.cells4
  have HB0 := hid hB0
  have s0 : ¬ 9223372036854775807 < 1 + Dx.length := by omega
  have s1 : ¬ 9223372036854775807 < 1 + Dx.length + 1 := by omega
  have s2 : ¬ 9223372036854775807 < 1 + Dx.length + 1 + Dy.length := by omega
  have s3 : ¬ 9223372036854775807 < 1 + Dx.length + 1 + Dy.length + 1 := by omega
  have s4 : ¬ 9223372036854775807 < 1 + Dx.length + 1 + Dy.length + 1 + Dz.length := by omega
  have s5 : ¬ 9223372036854775807 < 1 + Dx.length + 1 + Dy.length + 1 + Dz.length + 1 := by omega
  clear kB hB0 hblt hkids hDlx hDly hDlz
  go_wp2_with fail
  have HX0x := hid (show RdX W0.drew P x _ from HXx.out.below HB0.out.drew)
  have HX0y := hid (show RdX W0.drew P y _ from HXy.out.below HB0.out.drew)
  have HX0z := hid (show RdX W0.drew P z _ from HXz.out.below HB0.out.drew)
  have HL0 := hid (show Laid W0.drew from HL.out.below HB0.out.drew)
  go_region_held3 (fun w' => w'.cell? ⟨w.heap.size, 3, none⟩ = some (.slice (some ⟨b, off, none⟩) 3 cap) ∧ w'.cell? ⟨b, off, none⟩ = some (.string ⟨x.op.toArray⟩) ∧ w'.cell? ⟨b, off + 1, none⟩ = some (.int .i64 x.num) ∧ w'.cell? ⟨b, off + 2, none⟩ = some (.string ⟨x.name.toArray⟩) ∧ w'.cell? ⟨b, off + 3, none⟩ = some (.slice Ax x.kids.len capx) ∧ w'.cell? ⟨b, off + 4, none⟩ = some (.string ⟨y.op.toArray⟩) ∧ w'.cell? ⟨b, off + 5, none⟩ = some (.int .i64 y.num) ∧ w'.cell? ⟨b, off + 6, none⟩ = some (.string ⟨y.name.toArray⟩) ∧ w'.cell? ⟨b, off + 7, none⟩ = some (.slice Ay y.kids.len capy) ∧ w'.cell? ⟨b, off + 8, none⟩ = some (.string ⟨z.op.toArray⟩) ∧ w'.cell? ⟨b, off + 9, none⟩ = some (.int .i64 z.num) ∧ w'.cell? ⟨b, off + 10, none⟩ = some (.string ⟨z.name.toArray⟩) ∧ w'.cell? ⟨b, off + 11, none⟩ = some (.slice Az z.kids.len capz))
    (first | go_keep | (go_split_ands; refine ⟨?_, ?_, ?_, ?_, ?_, ?_, ?_, ?_, ?_, ?_, ?_, ?_, ?_⟩ <;> (refine bel_cell hbz ?_; assumption)) | (go_split_ands; refine ⟨?_, ?_, ?_, ?_, ?_, ?_, ?_, ?_, ?_, ?_, ?_, ?_, ?_⟩ <;> (refine bel_cell hby ?_; assumption)) | (go_split_ands; refine ⟨?_, ?_, ?_, ?_, ?_, ?_, ?_, ?_, ?_, ?_, ?_, ?_, ?_⟩ <;> (refine bel_cell hbx ?_; assumption)) | fail)
    (first | (go_at_call 32; (with_reducible refine (HKx.out.call _ P _ HX0x.out HL0.out).mono ?_); rintro e1 wx ⟨rfl, hbx⟩; rw [← HDx.out]) | (go_at_call 32; (with_reducible refine (HKy.out.call _ P _ (HX0y.out.below hbx) (HL0.out.below hbx)).mono ?_); rintro e1 wy ⟨rfl, hby⟩; rw [← HDy.out]) | (go_at_call 32; (with_reducible refine (HKz.out.call _ P _ ((HX0z.out.below hbx).below hby) ((HL0.out.below hbx).below hby)).mono ?_); rintro e1 wz ⟨rfl, hbz⟩; rw [← HDz.out]) | fail)
  go_wp2_with fail
  go_ret
  refine ⟨ret_val (congrArg Value.string ?_), HB0.out.drew.trans (Below.mono ((hbx.trans (hby.mono hbx.size)).trans (hbz.mono (hbx.trans (hby.mono hbx.size)).size)) HB0.out.size)⟩
  rw [HE.out]
  exact str7 [40] Dx [63] Dy [58] Dz [41]
end
theorem kidsF_una {op : List UInt8} (h : op = [110, 101, 103] ∨ op = [112, 111, 115] ∨ op = [110, 111, 116] ∨ op = [99, 111, 109]) : kidsF op = 1 := by rcases h with rfl | rfl | rfl | rfl <;> decide
theorem setF_kids {op : List UInt8} (h : setF op = true) : kidsF op = 1 := by
  simp [setF, setL] at h
  rcases h with rfl | rfl | rfl | rfl | rfl | rfl | rfl | rfl | rfl | rfl | rfl <;> decide
theorem Exs.one {k : Exs} (h : k.len = 1) : ∃ x, k = .cons x .nil := by
  match k, h with
  | .cons x .nil, _ => exact ⟨x, rfl⟩
  | .cons x (.cons y r), h => simp [Exs.len] at h
theorem Exs.two {k : Exs} (h : k.len = 2) : ∃ x y, k = .cons x (.cons y .nil) := by
  match k, h with
  | .cons x .nil, h => simp [Exs.len] at h
  | .cons x (.cons y .nil), _ => exact ⟨x, y, rfl⟩
  | .cons x (.cons y (.cons z r)), h => simp [Exs.len] at h
theorem Exs.three {k : Exs} (h : k.len = 3) : ∃ x y z, k = .cons x (.cons y (.cons z .nil)) := by
  match k, h with
  | .cons x .nil, h => simp [Exs.len] at h
  | .cons x (.cons y .nil), h => simp [Exs.len] at h
  | .cons x (.cons y (.cons z .nil)), _ => exact ⟨x, y, z, rfl⟩
  | .cons x (.cons y (.cons z (.cons u r))), h => simp [Exs.len] at h
/-- the kinds of ops that there are -/
theorem op_kinds {op : List UInt8} (h : 0 ≤ kidsF op) : op = numO ∨ op = nameO ∨ (op = [110, 101, 103] ∨ op = [112, 111, 115] ∨ op = [110, 111, 116] ∨ op = [99, 111, 109]) ∨ op = [63] ∨ setF op = true ∨ (0 < levF op ∧ setF op = false ∧ kidsF op = 2) := by
  unfold kidsF at h ⊢
  by_cases h1 : op = numO
  · exact .inl h1
  by_cases h2 : op = nameO
  · exact .inr (.inl h2)
  by_cases h3 : op = [110, 101, 103] ∨ op = [112, 111, 115] ∨ op = [110, 111, 116] ∨ op = [99, 111, 109]
  · exact .inr (.inr (.inl h3))
  by_cases h4 : op = [63]
  · exact .inr (.inr (.inr (.inl h4)))
  cases h5 : setF op with
  | true => exact .inr (.inr (.inr (.inr (.inl rfl))))
  | false =>
    unfold numO at h1
    unfold nameO at h2
    simp only [not_or] at h3
    by_cases h6 : 0 < levF op
    · exact .inr (.inr (.inr (.inr (.inr ⟨h6, rfl, by simp [h1, h2, h3.1, h3.2.1, h3.2.2.1, h3.2.2.2, h4, h6]⟩))))
    · exfalso; simp [h1, h2, h3.1, h3.2.1, h3.2.2.1, h3.2.2.2, h4, h5, h6] at h
theorem show_any : ∀ e : Ex, rightF e = true → okF e = true → szF e ≤ 100000 → ShowC e := by
  intro e
  induction hn : szF e using Nat.strongRecOn generalizing e with
  | _ n ih =>
    subst hn
    intro hr ho hs
    obtain ⟨op, n, nm, k⟩ := e
    have ho' := ho
    simp only [okF, Bool.and_eq_true, decide_eq_true_eq] at ho
    obtain ⟨⟨⟨o1, o2⟩, o3⟩, o4⟩ := ho
    simp only [rightF, Bool.and_eq_true] at hr
    obtain ⟨r1, r2⟩ := hr
    have hl := kids_len r1
    have hol := op_len (headB_op r1)
    have key : ∀ x : Ex, szF x < szF (.mk op n nm k) → rightF x = true → okF x = true → ShowC x ∧ (showF x).length ≤ 1000000000 := fun x hx hr ho =>
      ⟨ih _ hx x rfl hr ho (by omega), by have := show_len x ho hr; omega⟩
    rcases op_kinds (headB_op r1) with rfl | rfl | h | rfl | h | ⟨h, h', h''⟩
    · exact show_num n nm k o1 o2
    · exact show_name n nm k
    · rw [kidsF_una h] at hl
      obtain ⟨x, rfl⟩ := Exs.one (k := k) (by omega)
      simp only [rightL, okL, Bool.and_eq_true] at r2 o4
      obtain ⟨k1, k2⟩ := key x (by simp only [szF, szL]; omega) r2.1 o4.1
      exact show_una op n nm x h k1 k2
    · rw [show kidsF [63] = 3 by decide] at hl
      obtain ⟨x, y, z, rfl⟩ := Exs.three (k := k) (by omega)
      simp only [rightL, okL, Bool.and_eq_true] at r2 o4
      obtain ⟨k1, k2⟩ := key x (by simp only [szF, szL]; omega) r2.1 o4.1
      obtain ⟨k3, k4⟩ := key y (by simp only [szF, szL]; omega) r2.2.1 o4.2.1
      obtain ⟨k5, k6⟩ := key z (by simp only [szF, szL]; omega) r2.2.2.1 o4.2.2.1
      exact show_three n nm x y z k1 k2 k3 k4 k5 k6
    · rw [setF_kids h] at hl
      obtain ⟨x, rfl⟩ := Exs.one (k := k) (by omega)
      simp only [rightL, okL, Bool.and_eq_true] at r2 o4
      obtain ⟨k1, k2⟩ := key x (by simp only [szF, szL]; omega) r2.1 o4.1
      exact show_set op n nm x h hol o3 k1 k2
    · rw [h''] at hl
      obtain ⟨x, y, rfl⟩ := Exs.two (k := k) (by omega)
      simp only [rightL, okL, Bool.and_eq_true] at r2 o4
      obtain ⟨k1, k2⟩ := key x (by simp only [szF, szL]; omega) r2.1 o4.1
      obtain ⟨k3, k4⟩ := key y (by simp only [szF, szL]; omega) r2.2.1 o4.2.1
      exact show_two op n nm x y h h' hol k1 k2 k3 k4
end Go.Proofs.YtadmmmehphhecaaGreatDoor
