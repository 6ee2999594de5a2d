/- The walks of value of sums.valuer: two kids, three kids. -/
import Derived.Test.YtadmmmehphhecaaDoorLr
set_option linter.unusedVariables false
set_option linter.unusedSimpArgs false
namespace Go.Proofs.YtadmmmehphhecaaDoor
open Go.RowKit
set_option maxRecDepth 100000 in
set_option maxHeartbeats 4000000 in
theorem val_if (n : Int) (nm : List UInt8) (x y z : Ex) (hkx : ValC x) (hox : okF x = true) (hky : ValC y) (hoy : okF y = true) (hkz : ValC z) (hoz : okF z = true) : ValC (.mk [63] n nm (.cons x (.cons y (.cons z .nil)))) := by
  have HKx := hid hkx
  have HOx := hid hox
  clear hkx hox
  have HKy := hid hky
  have HOy := hid hoy
  clear hky hoy
  have HKz := hid hkz
  have HOz := hid hoz
  clear hkz hoz
  have HSZ : Hid (szF x + szF y + szF z ≤ szF (.mk [63] n nm (.cons x (.cons y (.cons z .nil))))) := hid (by simp only [szF, szL]; omega)
  intro w g B T u v hr hV hlen
  obtain ⟨A, cap, rfl, hcap, hkids⟩ := hr.form
  dsimp only [Ex.op, Ex.num, Ex.name, Ex.kids, Exs.len, Nat.zero_add, Nat.reduceAdd] at *
  obtain ⟨b, off, rfl⟩ := hkids.form_ (by simp [Exs.len])
  obtain ⟨Ax, capx, hPx, qx0, qx1, qx2, qx3, hrx, hkids⟩ := hkids.un
  obtain ⟨Ay, capy, hPy, qy0, qy1, qy2, qy3, hry, hkids⟩ := hkids.un
  obtain ⟨Az, capz, hPz, qz0, qz1, qz2, qz3, hrz, hkids⟩ := hkids.un
  unfold vw
  have kV : Bk ((w.alloc (.cells #[.iface TSt (.pointer (some ⟨g, 0, none⟩))] 72)).alloc (.cells #[.string ⟨#[63]⟩, .int .i64 n, .string ⟨nm.toArray⟩, .slice (some ⟨b, off, none⟩) 3 cap] 24)) w.heap.size 72 #[.iface TSt (.pointer (some ⟨g, 0, none⟩))] := (Bk.new w 72 #[.iface TSt (.pointer (some ⟨g, 0, none⟩))]).alloc _
  have kE : Bk ((w.alloc (.cells #[.iface TSt (.pointer (some ⟨g, 0, none⟩))] 72)).alloc (.cells #[.string ⟨#[63]⟩, .int .i64 n, .string ⟨nm.toArray⟩, .slice (some ⟨b, off, none⟩) 3 cap] 24)) (w.heap.size + 1) 24 #[.string ⟨#[63]⟩, .int .i64 n, .string ⟨nm.toArray⟩, .slice (some ⟨b, off, none⟩) 3 cap] := heap2_1 w _ _
  have hB0 : Below w.heap.size w ((w.alloc (.cells #[.iface TSt (.pointer (some ⟨g, 0, none⟩))] 72)).alloc (.cells #[.string ⟨#[63]⟩, .int .i64 n, .string ⟨nm.toArray⟩, .slice (some ⟨b, off, none⟩) 3 cap] 24)) := ((Below.refl _ _).alloc (Nat.le_refl _) _).alloc (by simp) _
  have hsz0 : ((w.alloc (.cells #[.iface TSt (.pointer (some ⟨g, 0, none⟩))] 72)).alloc (.cells #[.string ⟨#[63]⟩, .int .i64 n, .string ⟨nm.toArray⟩, .slice (some ⟨b, off, none⟩) 3 cap] 24)).heap.size = w.heap.size + 1 + 1 := by simp
  have px0 : ((w.alloc (.cells #[.iface TSt (.pointer (some ⟨g, 0, none⟩))] 72)).alloc (.cells #[.string ⟨#[63]⟩, .int .i64 n, .string ⟨nm.toArray⟩, .slice (some ⟨b, off, none⟩) 3 cap] 24)).cell? ⟨b, off, none⟩ = some (.string ⟨x.op.toArray⟩) := al (al qx0)
  have px1 : ((w.alloc (.cells #[.iface TSt (.pointer (some ⟨g, 0, none⟩))] 72)).alloc (.cells #[.string ⟨#[63]⟩, .int .i64 n, .string ⟨nm.toArray⟩, .slice (some ⟨b, off, none⟩) 3 cap] 24)).cell? ⟨b, off + 1, none⟩ = some (.int .i64 x.num) := al (al qx1)
  have px2 : ((w.alloc (.cells #[.iface TSt (.pointer (some ⟨g, 0, none⟩))] 72)).alloc (.cells #[.string ⟨#[63]⟩, .int .i64 n, .string ⟨nm.toArray⟩, .slice (some ⟨b, off, none⟩) 3 cap] 24)).cell? ⟨b, off + 2, none⟩ = some (.string ⟨x.name.toArray⟩) := al (al qx2)
  have px3 : ((w.alloc (.cells #[.iface TSt (.pointer (some ⟨g, 0, none⟩))] 72)).alloc (.cells #[.string ⟨#[63]⟩, .int .i64 n, .string ⟨nm.toArray⟩, .slice (some ⟨b, off, none⟩) 3 cap] 24)).cell? ⟨b, off + 3, none⟩ = some (.slice Ax x.kids.len capx) := al (al qx3)
  have py0 : ((w.alloc (.cells #[.iface TSt (.pointer (some ⟨g, 0, none⟩))] 72)).alloc (.cells #[.string ⟨#[63]⟩, .int .i64 n, .string ⟨nm.toArray⟩, .slice (some ⟨b, off, none⟩) 3 cap] 24)).cell? ⟨b, off + 4, none⟩ = some (.string ⟨y.op.toArray⟩) := al (al qy0)
  have py1 : ((w.alloc (.cells #[.iface TSt (.pointer (some ⟨g, 0, none⟩))] 72)).alloc (.cells #[.string ⟨#[63]⟩, .int .i64 n, .string ⟨nm.toArray⟩, .slice (some ⟨b, off, none⟩) 3 cap] 24)).cell? ⟨b, off + 5, none⟩ = some (.int .i64 y.num) := al (al qy1)
  have py2 : ((w.alloc (.cells #[.iface TSt (.pointer (some ⟨g, 0, none⟩))] 72)).alloc (.cells #[.string ⟨#[63]⟩, .int .i64 n, .string ⟨nm.toArray⟩, .slice (some ⟨b, off, none⟩) 3 cap] 24)).cell? ⟨b, off + 6, none⟩ = some (.string ⟨y.name.toArray⟩) := al (al qy2)
  have py3 : ((w.alloc (.cells #[.iface TSt (.pointer (some ⟨g, 0, none⟩))] 72)).alloc (.cells #[.string ⟨#[63]⟩, .int .i64 n, .string ⟨nm.toArray⟩, .slice (some ⟨b, off, none⟩) 3 cap] 24)).cell? ⟨b, off + 7, none⟩ = some (.slice Ay y.kids.len capy) := al (al qy3)
  have pz0 : ((w.alloc (.cells #[.iface TSt (.pointer (some ⟨g, 0, none⟩))] 72)).alloc (.cells #[.string ⟨#[63]⟩, .int .i64 n, .string ⟨nm.toArray⟩, .slice (some ⟨b, off, none⟩) 3 cap] 24)).cell? ⟨b, off + 8, none⟩ = some (.string ⟨z.op.toArray⟩) := al (al qz0)
  have pz1 : ((w.alloc (.cells #[.iface TSt (.pointer (some ⟨g, 0, none⟩))] 72)).alloc (.cells #[.string ⟨#[63]⟩, .int .i64 n, .string ⟨nm.toArray⟩, .slice (some ⟨b, off, none⟩) 3 cap] 24)).cell? ⟨b, off + 9, none⟩ = some (.int .i64 z.num) := al (al qz1)
  have pz2 : ((w.alloc (.cells #[.iface TSt (.pointer (some ⟨g, 0, none⟩))] 72)).alloc (.cells #[.string ⟨#[63]⟩, .int .i64 n, .string ⟨nm.toArray⟩, .slice (some ⟨b, off, none⟩) 3 cap] 24)).cell? ⟨b, off + 10, none⟩ = some (.string ⟨z.name.toArray⟩) := al (al qz2)
  have pz3 : ((w.alloc (.cells #[.iface TSt (.pointer (some ⟨g, 0, none⟩))] 72)).alloc (.cells #[.string ⟨#[63]⟩, .int .i64 n, .string ⟨nm.toArray⟩, .slice (some ⟨b, off, none⟩) 3 cap] 24)).cell? ⟨b, off + 11, none⟩ = some (.slice Az z.kids.len capz) := al (al qz3)
  go_enter Tryd.func27, Tryd.ntmps27
  go_wp2_with fail
  obtain ⟨W0, hW0⟩ : ∃ W0, W0 = ((w.alloc (.cells #[.iface TSt (.pointer (some ⟨g, 0, none⟩))] 72)).alloc (.cells #[.string ⟨#[63]⟩, .int .i64 n, .string ⟨nm.toArray⟩, .slice (some ⟨b, off, none⟩) 3 cap] 24)) := ⟨_, rfl⟩
  rw [← hW0] at kV kE hB0 hsz0 px0 px1 px2 px3 py0 py1 py2 py3 pz0 pz1 pz2 pz3
  rw [← hW0]
  clear hW0 qx0 qx1 qx2 qx3 qy0 qy1 qy2 qy3 qz0 qz1 qz2 qz3
  have v0 := kV.cell 0 _ rfl
  obtain ⟨c0, c1, c2, c3⟩ := kE.cells4
  have fV : Free W0 g u w.heap.size := hV.new hB0 (Nat.le_refl _) (by omega)
  have fE : Free W0 g u (w.heap.size + 1) := hV.new hB0 (by omega) (by omega)
  have fB : Free W0 g u b := (TStep.below (g := g) (u := u) hB0).free hPx
  have ST := hid (TStep.below (g := g) (u := u) hB0)
  have VI := hid (hV.below hB0)
  have HS0 := hid hV.short
  have HXx := hid (hrx.step (TStep.below (g := g) (u := u) hB0))
  have HXy := hid (hry.step (TStep.below (g := g) (u := u) hB0))
  have HXz := hid (hrz.step (TStep.below (g := g) (u := u) hB0))
  clear kV kE hB0 hsz0 hV hr hcap hkids hrx hPx hry hPy hrz hPz
  have hszx := HSZ.out
  have HVAL : Hid (∀ T, valF (.mk [63] n nm (.cons x (.cons y (.cons z .nil)))) T = thenV (valF x T) fun a T1 => if a = 0 then valF z T1 else valF y T1) := hid (fun T => rfl)
  have stq := TStep.below (g := g) (u := u) ((Below.refl W0.heap.size W0).drew)
  have v0 := cell_step stq fV v0
  have c0 := cell_step stq fE c0
  have c1 := cell_step stq fE c1
  have c2 := cell_step stq fE c2
  have c3 := cell_step stq fE c3
  have px0 := cell_step stq fB px0
  have px1 := cell_step stq fB px1
  have px2 := cell_step stq fB px2
  have px3 := cell_step stq fB px3
  have py0 := cell_step stq fB py0
  have py1 := cell_step stq fB py1
  have py2 := cell_step stq fB py2
  have py3 := cell_step stq fB py3
  have pz0 := cell_step stq fB pz0
  have pz1 := cell_step stq fB pz1
  have pz2 := cell_step stq fB pz2
  have pz3 := cell_step stq fB pz3
  have fV := stq.free fV
  have fE := stq.free fE
  have fB := stq.free fB
  have ST := hid (ST.out.trans stq)
  have HXx := hid (HXx.out.step stq)
  have HXy := hid (HXy.out.step stq)
  have HXz := hid (HXz.out.step stq)
  have VI := hid (VI.out.below ((Below.refl W0.heap.size W0).drew))
  clear stq
  have HKF : Hid (kidsF [63] = 3) := hid (by decide)
  refine wp_region_held_drew (S := (fun w' => w'.cell? ⟨w.heap.size, 0, none⟩ = some (.iface TSt (.pointer (some ⟨g, 0, none⟩))) ∧ w'.cell? ⟨w.heap.size + 1, 0, none⟩ = some (.string ⟨#[63]⟩) ∧ w'.cell? ⟨w.heap.size + 1, 1, none⟩ = some (.int .i64 n) ∧ w'.cell? ⟨w.heap.size + 1, 2, none⟩ = some (.string ⟨nm.toArray⟩) ∧ w'.cell? ⟨w.heap.size + 1, 3, none⟩ = some (.slice (some ⟨b, off, none⟩) 3 cap) ∧ w'.cell? ⟨b, off, none⟩ = some (.string ⟨x.op.toArray⟩) ∧ w'.cell? ⟨b, off + 1, none⟩ = some (.int .i64 x.num) ∧ w'.cell? ⟨b, off + 2, none⟩ = some (.string ⟨x.name.toArray⟩) ∧ w'.cell? ⟨b, off + 3, none⟩ = some (.slice Ax x.kids.len capx) ∧ w'.cell? ⟨b, off + 4, none⟩ = some (.string ⟨y.op.toArray⟩) ∧ w'.cell? ⟨b, off + 5, none⟩ = some (.int .i64 y.num) ∧ w'.cell? ⟨b, off + 6, none⟩ = some (.string ⟨y.name.toArray⟩) ∧ w'.cell? ⟨b, off + 7, none⟩ = some (.slice Ay y.kids.len capy) ∧ w'.cell? ⟨b, off + 8, none⟩ = some (.string ⟨z.op.toArray⟩) ∧ w'.cell? ⟨b, off + 9, none⟩ = some (.int .i64 z.num) ∧ w'.cell? ⟨b, off + 10, none⟩ = some (.string ⟨z.name.toArray⟩) ∧ w'.cell? ⟨b, off + 11, none⟩ = some (.slice Az z.kids.len capz))) (by kernel_rfl) ⟨v0, c0, c1, c2, c3, px0, px1, px2, px3, py0, py1, py2, py3, pz0, pz1, pz2, pz3⟩ (fun hHeld => ?_)
  refine takeYes (i := 0) (v := .pointer (some ⟨w.heap.size + 1, 3, none⟩)) rfl (by kernel_rfl) (by kernel_rfl) (by kernel_rfl) (fun _ _ _ h => h) (by rfl) ?_ (by assumption) ?_
  · intro w hSw; obtain ⟨sq0, sq1, sq2, sq3, sq4, sq5, sq6, sq7, sq8, sq9, sq10, sq11, sq12, sq13, sq14, sq15, sq16⟩ := hSw; go_simp
  try simp only [Act.put, List.setIfInBounds_toArray, List.set_cons_zero, List.set_cons_succ]
  refine takeYes (i := 1) (v := .slice (some ⟨b, off, none⟩) 3 cap) rfl (by kernel_rfl) (by kernel_rfl) (by kernel_rfl) (fun _ _ _ h => h) (by rfl) ?_ (by assumption) ?_
  · intro w hSw; obtain ⟨sq0, sq1, sq2, sq3, sq4, sq5, sq6, sq7, sq8, sq9, sq10, sq11, sq12, sq13, sq14, sq15, sq16⟩ := hSw; go_simp
  try simp only [Act.put, List.setIfInBounds_toArray, List.set_cons_zero, List.set_cons_succ]
  refine takeYes (i := 2) (v := .int .i64 3) rfl (by kernel_rfl) (by kernel_rfl) (by kernel_rfl) (fun _ _ _ h => h) (by rfl) ?_ (by assumption) ?_
  · intro w hSw; obtain ⟨sq0, sq1, sq2, sq3, sq4, sq5, sq6, sq7, sq8, sq9, sq10, sq11, sq12, sq13, sq14, sq15, sq16⟩ := hSw; go_simp
  try simp only [Act.put, List.setIfInBounds_toArray, List.set_cons_zero, List.set_cons_succ]
  refine takeYes (i := 3) (v := .pointer (some ⟨w.heap.size + 1, 0, none⟩)) rfl (by kernel_rfl) (by kernel_rfl) (by kernel_rfl) (fun _ _ _ h => h) (by rfl) ?_ (by assumption) ?_
  · intro w hSw; obtain ⟨sq0, sq1, sq2, sq3, sq4, sq5, sq6, sq7, sq8, sq9, sq10, sq11, sq12, sq13, sq14, sq15, sq16⟩ := hSw; go_simp
  try simp only [Act.put, List.setIfInBounds_toArray, List.set_cons_zero, List.set_cons_succ]
  refine takeYes (i := 4) (v := .string ⟨#[63]⟩) rfl (by kernel_rfl) (by kernel_rfl) (by kernel_rfl) (fun _ _ _ h => h) (by rfl) ?_ (by assumption) ?_
  · intro w hSw; obtain ⟨sq0, sq1, sq2, sq3, sq4, sq5, sq6, sq7, sq8, sq9, sq10, sq11, sq12, sq13, sq14, sq15, sq16⟩ := hSw; go_simp
  try simp only [Act.put, List.setIfInBounds_toArray, List.set_cons_zero, List.set_cons_succ]
  refine wpAnyH_ready (rs := [5]) (by kernel_rfl) (by simp) ?_
  refine AllReadyH.cons rfl (fun K hK => ?_) AllReadyH.nil
  go_simp
  ((with_reducible refine (kids_any _ _).mono ?_); rintro e1 w1 ⟨rfl, hby⟩)
  rw [HKF.out]
  have stq := TStep.below (g := g) (u := u) hby
  have v0 := cell_step stq fV v0
  have c0 := cell_step stq fE c0
  have c1 := cell_step stq fE c1
  have c2 := cell_step stq fE c2
  have c3 := cell_step stq fE c3
  have px0 := cell_step stq fB px0
  have px1 := cell_step stq fB px1
  have px2 := cell_step stq fB px2
  have px3 := cell_step stq fB px3
  have py0 := cell_step stq fB py0
  have py1 := cell_step stq fB py1
  have py2 := cell_step stq fB py2
  have py3 := cell_step stq fB py3
  have pz0 := cell_step stq fB pz0
  have pz1 := cell_step stq fB pz1
  have pz2 := cell_step stq fB pz2
  have pz3 := cell_step stq fB pz3
  have fV := stq.free fV
  have fE := stq.free fE
  have fB := stq.free fB
  have ST := hid (ST.out.trans stq)
  have HXx := hid (HXx.out.step stq)
  have HXy := hid (HXy.out.step stq)
  have HXz := hid (HXz.out.step stq)
  have VI := hid (VI.out.below hby)
  clear stq hby
  go_wp2_with fail
  refine hK.out _ _ ?_ (fun hHeld => ?_)
  · exact ⟨v0, c0, c1, c2, c3, px0, px1, px2, px3, py0, py1, py2, py3, pz0, pz1, pz2, pz3⟩
  clear hK K
  try simp only [Act.put, List.setIfInBounds_toArray, List.set_cons_zero, List.set_cons_succ]
  refine takeYes (i := 6) (v := .bool false) rfl (by kernel_rfl) (by kernel_rfl) (by kernel_rfl) (fun _ _ _ h => h) (by rfl) ?_ (by assumption) ?_
  · intro w hSw; obtain ⟨sq0, sq1, sq2, sq3, sq4, sq5, sq6, sq7, sq8, sq9, sq10, sq11, sq12, sq13, sq14, sq15, sq16⟩ := hSw; go_simp
  try simp only [Act.put, List.setIfInBounds_toArray, List.set_cons_zero, List.set_cons_succ]
  refine wpAnyH_done (by kernel_rfl) ?_ _
  go_wp2_with fail
  ((with_reducible refine (isSet_any [63] _).mono ?_); rintro e1 w2 ⟨rfl, rfl⟩)
  rw [show setF [63] = false by decide]
  go_wp2_with fail
  have stq := TStep.below (g := g) (u := u) ((Below.refl w1.heap.size w1).drew)
  have v0 := cell_step stq fV v0
  have c0 := cell_step stq fE c0
  have c1 := cell_step stq fE c1
  have c2 := cell_step stq fE c2
  have c3 := cell_step stq fE c3
  have px0 := cell_step stq fB px0
  have px1 := cell_step stq fB px1
  have px2 := cell_step stq fB px2
  have px3 := cell_step stq fB px3
  have py0 := cell_step stq fB py0
  have py1 := cell_step stq fB py1
  have py2 := cell_step stq fB py2
  have py3 := cell_step stq fB py3
  have pz0 := cell_step stq fB pz0
  have pz1 := cell_step stq fB pz1
  have pz2 := cell_step stq fB pz2
  have pz3 := cell_step stq fB pz3
  have fV := stq.free fV
  have fE := stq.free fE
  have fB := stq.free fB
  have ST := hid (ST.out.trans stq)
  have HXx := hid (HXx.out.step stq)
  have HXy := hid (HXy.out.step stq)
  have HXz := hid (HXz.out.step stq)
  have VI := hid (VI.out.below ((Below.refl w1.heap.size w1).drew))
  clear stq
  refine wp_region_held_drew (S := (fun w' => w'.cell? ⟨w.heap.size, 0, none⟩ = some (.iface TSt (.pointer (some ⟨g, 0, none⟩))) ∧ w'.cell? ⟨w.heap.size + 1, 0, none⟩ = some (.string ⟨#[63]⟩) ∧ w'.cell? ⟨w.heap.size + 1, 1, none⟩ = some (.int .i64 n) ∧ w'.cell? ⟨w.heap.size + 1, 2, none⟩ = some (.string ⟨nm.toArray⟩) ∧ w'.cell? ⟨w.heap.size + 1, 3, none⟩ = some (.slice (some ⟨b, off, none⟩) 3 cap) ∧ w'.cell? ⟨b, off, none⟩ = some (.string ⟨x.op.toArray⟩) ∧ w'.cell? ⟨b, off + 1, none⟩ = some (.int .i64 x.num) ∧ w'.cell? ⟨b, off + 2, none⟩ = some (.string ⟨x.name.toArray⟩) ∧ w'.cell? ⟨b, off + 3, none⟩ = some (.slice Ax x.kids.len capx) ∧ w'.cell? ⟨b, off + 4, none⟩ = some (.string ⟨y.op.toArray⟩) ∧ w'.cell? ⟨b, off + 5, none⟩ = some (.int .i64 y.num) ∧ w'.cell? ⟨b, off + 6, none⟩ = some (.string ⟨y.name.toArray⟩) ∧ w'.cell? ⟨b, off + 7, none⟩ = some (.slice Ay y.kids.len capy) ∧ w'.cell? ⟨b, off + 8, none⟩ = some (.string ⟨z.op.toArray⟩) ∧ w'.cell? ⟨b, off + 9, none⟩ = some (.int .i64 z.num) ∧ w'.cell? ⟨b, off + 10, none⟩ = some (.string ⟨z.name.toArray⟩) ∧ w'.cell? ⟨b, off + 11, none⟩ = some (.slice Az z.kids.len capz))) (by kernel_rfl) ⟨v0, c0, c1, c2, c3, px0, px1, px2, px3, py0, py1, py2, py3, pz0, pz1, pz2, pz3⟩ (fun hHeld => ?_)
  refine takeYes (i := 0) (v := .agg #[.iface TSt (.pointer (some ⟨g, 0, none⟩))]) rfl (by kernel_rfl) (by kernel_rfl) (by kernel_rfl) (fun _ _ _ h => h) (by rfl) ?_ (by assumption) ?_
  · intro w hSw; obtain ⟨sq0, sq1, sq2, sq3, sq4, sq5, sq6, sq7, sq8, sq9, sq10, sq11, sq12, sq13, sq14, sq15, sq16⟩ := hSw; go_simp
  try simp only [Act.put, List.setIfInBounds_toArray, List.set_cons_zero, List.set_cons_succ]
  refine takeYes (i := 1) (v := .pointer (some ⟨w.heap.size + 1, 3, none⟩)) rfl (by kernel_rfl) (by kernel_rfl) (by kernel_rfl) (fun _ _ _ h => h) (by rfl) ?_ (by assumption) ?_
  · intro w hSw; obtain ⟨sq0, sq1, sq2, sq3, sq4, sq5, sq6, sq7, sq8, sq9, sq10, sq11, sq12, sq13, sq14, sq15, sq16⟩ := hSw; go_simp
  try simp only [Act.put, List.setIfInBounds_toArray, List.set_cons_zero, List.set_cons_succ]
  refine takeYes (i := 2) (v := .slice (some ⟨b, off, none⟩) 3 cap) rfl (by kernel_rfl) (by kernel_rfl) (by kernel_rfl) (fun _ _ _ h => h) (by rfl) ?_ (by assumption) ?_
  · intro w hSw; obtain ⟨sq0, sq1, sq2, sq3, sq4, sq5, sq6, sq7, sq8, sq9, sq10, sq11, sq12, sq13, sq14, sq15, sq16⟩ := hSw; go_simp
  try simp only [Act.put, List.setIfInBounds_toArray, List.set_cons_zero, List.set_cons_succ]
  refine takeYes (i := 3) (v := .pointer (some ⟨b, off, none⟩)) rfl (by kernel_rfl) (by kernel_rfl) (by kernel_rfl) (fun _ _ _ h => h) (by rfl) ?_ (by assumption) ?_
  · intro w hSw; obtain ⟨sq0, sq1, sq2, sq3, sq4, sq5, sq6, sq7, sq8, sq9, sq10, sq11, sq12, sq13, sq14, sq15, sq16⟩ := hSw; go_simp
  try simp only [Act.put, List.setIfInBounds_toArray, List.set_cons_zero, List.set_cons_succ]
  refine takeYes (i := 4) (v := .agg #[.string ⟨x.op.toArray⟩, .int .i64 x.num, .string ⟨x.name.toArray⟩, .slice Ax x.kids.len capx]) rfl (by kernel_rfl) (by kernel_rfl) (by kernel_rfl) (fun _ _ _ h => h) (by rfl) ?_ (by assumption) ?_
  · intro w hSw; obtain ⟨sq0, sq1, sq2, sq3, sq4, sq5, sq6, sq7, sq8, sq9, sq10, sq11, sq12, sq13, sq14, sq15, sq16⟩ := hSw; go_simp
  try simp only [Act.put, List.setIfInBounds_toArray, List.set_cons_zero, List.set_cons_succ]
  refine wpAnyH_ready (rs := [5]) (by kernel_rfl) (by simp) ?_
  refine AllReadyH.cons rfl (fun K hK => ?_) AllReadyH.nil
  go_simp
  ((with_reducible refine (HKx.out.call _ g B T u _ HXx.out VI.out (by omega)).mono ?_); rintro e1 w5 ⟨u5, hst, htab, hm⟩)
  obtain ⟨r5, T5, hv5⟩ : ∃ r T1, valF x T = (r, T1) := ⟨_, _, rfl⟩
  rw [hv5] at htab hm
  obtain ⟨ha, hb, hc⟩ := val_after HOx.out VI.out.short hv5
  have v0 := cell_step hst fV v0
  have c0 := cell_step hst fE c0
  have c1 := cell_step hst fE c1
  have c2 := cell_step hst fE c2
  have c3 := cell_step hst fE c3
  have px0 := cell_step hst fB px0
  have px1 := cell_step hst fB px1
  have px2 := cell_step hst fB px2
  have px3 := cell_step hst fB px3
  have py0 := cell_step hst fB py0
  have py1 := cell_step hst fB py1
  have py2 := cell_step hst fB py2
  have py3 := cell_step hst fB py3
  have pz0 := cell_step hst fB pz0
  have pz1 := cell_step hst fB pz1
  have pz2 := cell_step hst fB pz2
  have pz3 := cell_step hst fB pz3
  have fV := hst.free fV
  have fE := hst.free fE
  have fB := hst.free fB
  have ST := hid (ST.out.trans hst)
  have HXx := hid (HXx.out.step hst)
  have HXy := hid (HXy.out.step hst)
  have HXz := hid (HXz.out.step hst)
  have VI := hid (VI.out.step hst htab ha)
  have HT5 := hid htab
  have HV5 := hid hv5
  clear hst htab ha hv5
  rcases r5 with er | n5
  · (dsimp only at hm; subst hm; exact ⟨rfl, ValPost.bad ST.out VI.out.tab (show thenV (valF x T) _ = _ by rw [HV5.out]; rfl)⟩)
  dsimp only at hm
  subst hm
  have HI5 := hid (hc _ rfl)
  clear hc
  go_wp2_with fail
  refine hK.out _ _ ?_ (fun hHeld => ?_)
  · exact ⟨v0, c0, c1, c2, c3, px0, px1, px2, px3, py0, py1, py2, py3, pz0, pz1, pz2, pz3⟩
  clear hK K
  try simp only [Act.put, List.setIfInBounds_toArray, List.set_cons_zero, List.set_cons_succ]
  by_cases h0 : n5 = 0
  · have H0 := hid h0
    subst h0
    refine takeYes (i := 6) (v := .bool false) rfl (by kernel_rfl) (by kernel_rfl) (by kernel_rfl) (fun _ _ _ h => h) (by rfl) ?_ (by assumption) ?_
    · intro w hSw; obtain ⟨sq0, sq1, sq2, sq3, sq4, sq5, sq6, sq7, sq8, sq9, sq10, sq11, sq12, sq13, sq14, sq15, sq16⟩ := hSw; go_simp
    try simp only [Act.put, List.setIfInBounds_toArray, List.set_cons_zero, List.set_cons_succ]
    refine wpAnyH_done (by kernel_rfl) ?_ _
    go_wp2_with fail
    have stq := TStep.below (g := g) (u := u5) ((Below.refl w5.heap.size w5).drew)
    have v0 := cell_step stq fV v0
    have c0 := cell_step stq fE c0
    have c1 := cell_step stq fE c1
    have c2 := cell_step stq fE c2
    have c3 := cell_step stq fE c3
    have px0 := cell_step stq fB px0
    have px1 := cell_step stq fB px1
    have px2 := cell_step stq fB px2
    have px3 := cell_step stq fB px3
    have py0 := cell_step stq fB py0
    have py1 := cell_step stq fB py1
    have py2 := cell_step stq fB py2
    have py3 := cell_step stq fB py3
    have pz0 := cell_step stq fB pz0
    have pz1 := cell_step stq fB pz1
    have pz2 := cell_step stq fB pz2
    have pz3 := cell_step stq fB pz3
    have fV := stq.free fV
    have fE := stq.free fE
    have fB := stq.free fB
    have ST := hid (ST.out.trans stq)
    have HXx := hid (HXx.out.step stq)
    have HXy := hid (HXy.out.step stq)
    have HXz := hid (HXz.out.step stq)
    have VI := hid (VI.out.below ((Below.refl w5.heap.size w5).drew))
    clear stq
    refine wp_region_held_drew (S := (fun w' => w'.cell? ⟨w.heap.size, 0, none⟩ = some (.iface TSt (.pointer (some ⟨g, 0, none⟩))) ∧ w'.cell? ⟨w.heap.size + 1, 0, none⟩ = some (.string ⟨#[63]⟩) ∧ w'.cell? ⟨w.heap.size + 1, 1, none⟩ = some (.int .i64 n) ∧ w'.cell? ⟨w.heap.size + 1, 2, none⟩ = some (.string ⟨nm.toArray⟩) ∧ w'.cell? ⟨w.heap.size + 1, 3, none⟩ = some (.slice (some ⟨b, off, none⟩) 3 cap) ∧ w'.cell? ⟨b, off, none⟩ = some (.string ⟨x.op.toArray⟩) ∧ w'.cell? ⟨b, off + 1, none⟩ = some (.int .i64 x.num) ∧ w'.cell? ⟨b, off + 2, none⟩ = some (.string ⟨x.name.toArray⟩) ∧ w'.cell? ⟨b, off + 3, none⟩ = some (.slice Ax x.kids.len capx) ∧ w'.cell? ⟨b, off + 4, none⟩ = some (.string ⟨y.op.toArray⟩) ∧ w'.cell? ⟨b, off + 5, none⟩ = some (.int .i64 y.num) ∧ w'.cell? ⟨b, off + 6, none⟩ = some (.string ⟨y.name.toArray⟩) ∧ w'.cell? ⟨b, off + 7, none⟩ = some (.slice Ay y.kids.len capy) ∧ w'.cell? ⟨b, off + 8, none⟩ = some (.string ⟨z.op.toArray⟩) ∧ w'.cell? ⟨b, off + 9, none⟩ = some (.int .i64 z.num) ∧ w'.cell? ⟨b, off + 10, none⟩ = some (.string ⟨z.name.toArray⟩) ∧ w'.cell? ⟨b, off + 11, none⟩ = some (.slice Az z.kids.len capz))) (by kernel_rfl) ⟨v0, c0, c1, c2, c3, px0, px1, px2, px3, py0, py1, py2, py3, pz0, pz1, pz2, pz3⟩ (fun hHeld => ?_)
    refine takeYes (i := 0) (v := .agg #[.iface TSt (.pointer (some ⟨g, 0, none⟩))]) rfl (by kernel_rfl) (by kernel_rfl) (by kernel_rfl) (fun _ _ _ h => h) (by rfl) ?_ (by assumption) ?_
    · intro w hSw; obtain ⟨sq0, sq1, sq2, sq3, sq4, sq5, sq6, sq7, sq8, sq9, sq10, sq11, sq12, sq13, sq14, sq15, sq16⟩ := hSw; go_simp
    try simp only [Act.put, List.setIfInBounds_toArray, List.set_cons_zero, List.set_cons_succ]
    refine takeYes (i := 1) (v := .pointer (some ⟨w.heap.size + 1, 3, none⟩)) rfl (by kernel_rfl) (by kernel_rfl) (by kernel_rfl) (fun _ _ _ h => h) (by rfl) ?_ (by assumption) ?_
    · intro w hSw; obtain ⟨sq0, sq1, sq2, sq3, sq4, sq5, sq6, sq7, sq8, sq9, sq10, sq11, sq12, sq13, sq14, sq15, sq16⟩ := hSw; go_simp
    try simp only [Act.put, List.setIfInBounds_toArray, List.set_cons_zero, List.set_cons_succ]
    refine takeYes (i := 2) (v := .slice (some ⟨b, off, none⟩) 3 cap) rfl (by kernel_rfl) (by kernel_rfl) (by kernel_rfl) (fun _ _ _ h => h) (by rfl) ?_ (by assumption) ?_
    · intro w hSw; obtain ⟨sq0, sq1, sq2, sq3, sq4, sq5, sq6, sq7, sq8, sq9, sq10, sq11, sq12, sq13, sq14, sq15, sq16⟩ := hSw; go_simp
    try simp only [Act.put, List.setIfInBounds_toArray, List.set_cons_zero, List.set_cons_succ]
    refine takeYes (i := 3) (v := .pointer (some ⟨b, off + 8, none⟩)) rfl (by kernel_rfl) (by kernel_rfl) (by kernel_rfl) (fun _ _ _ h => h) (by rfl) ?_ (by assumption) ?_
    · intro w hSw; obtain ⟨sq0, sq1, sq2, sq3, sq4, sq5, sq6, sq7, sq8, sq9, sq10, sq11, sq12, sq13, sq14, sq15, sq16⟩ := hSw; go_simp
    try simp only [Act.put, List.setIfInBounds_toArray, List.set_cons_zero, List.set_cons_succ]
    refine takeYes (i := 4) (v := .agg #[.string ⟨z.op.toArray⟩, .int .i64 z.num, .string ⟨z.name.toArray⟩, .slice Az z.kids.len capz]) rfl (by kernel_rfl) (by kernel_rfl) (by kernel_rfl) (fun _ _ _ h => h) (by rfl) ?_ (by assumption) ?_
    · intro w hSw; obtain ⟨sq0, sq1, sq2, sq3, sq4, sq5, sq6, sq7, sq8, sq9, sq10, sq11, sq12, sq13, sq14, sq15, sq16⟩ := hSw; go_simp
    try simp only [Act.put, List.setIfInBounds_toArray, List.set_cons_zero, List.set_cons_succ]
    refine wpAnyH_ready (rs := [5]) (by kernel_rfl) (by simp) ?_
    refine AllReadyH.cons rfl (fun K hK => ?_) AllReadyH.nil
    go_simp
    ((with_reducible refine (HKz.out.call _ g B T5 u5 _ HXz.out VI.out (by omega)).mono ?_); rintro e1 w6 ⟨u6, hst, htab, hm⟩)
    obtain ⟨r6, T6, hv6⟩ : ∃ r T1, valF z T5 = (r, T1) := ⟨_, _, rfl⟩
    rw [hv6] at htab hm
    obtain ⟨ha, hb, hc⟩ := val_after HOz.out VI.out.short hv6
    have v0 := cell_step hst fV v0
    have c0 := cell_step hst fE c0
    have c1 := cell_step hst fE c1
    have c2 := cell_step hst fE c2
    have c3 := cell_step hst fE c3
    have px0 := cell_step hst fB px0
    have px1 := cell_step hst fB px1
    have px2 := cell_step hst fB px2
    have px3 := cell_step hst fB px3
    have py0 := cell_step hst fB py0
    have py1 := cell_step hst fB py1
    have py2 := cell_step hst fB py2
    have py3 := cell_step hst fB py3
    have pz0 := cell_step hst fB pz0
    have pz1 := cell_step hst fB pz1
    have pz2 := cell_step hst fB pz2
    have pz3 := cell_step hst fB pz3
    have fV := hst.free fV
    have fE := hst.free fE
    have fB := hst.free fB
    have ST := hid (ST.out.trans hst)
    have HXx := hid (HXx.out.step hst)
    have HXy := hid (HXy.out.step hst)
    have HXz := hid (HXz.out.step hst)
    have VI := hid (VI.out.step hst htab ha)
    have HT6 := hid htab
    have HV6 := hid hv6
    clear hst htab ha hv6
    rcases r6 with er | n6
    · (dsimp only at hm; subst hm; exact ⟨rfl, ValPost.bad ST.out VI.out.tab (show _ = _ by rw [HVAL.out, HV5.out, thenV_ok, if_pos rfl, HV6.out])⟩)
    dsimp only at hm
    subst hm
    have HI6 := hid (hc _ rfl)
    clear hc
    go_wp2_with fail
    refine hK.out _ _ ?_ (fun hHeld => ?_)
    · exact ⟨v0, c0, c1, c2, c3, px0, px1, px2, px3, py0, py1, py2, py3, pz0, pz1, pz2, pz3⟩
    clear hK K
    try simp only [Act.put, List.setIfInBounds_toArray, List.set_cons_zero, List.set_cons_succ]
    refine takeYes (i := 6) (v := .int .i64 n6) rfl (by kernel_rfl) (by kernel_rfl) (by kernel_rfl) (fun _ _ _ h => h) (by rfl) ?_ (by assumption) ?_
    · intro w hSw; obtain ⟨sq0, sq1, sq2, sq3, sq4, sq5, sq6, sq7, sq8, sq9, sq10, sq11, sq12, sq13, sq14, sq15, sq16⟩ := hSw; go_simp
    try simp only [Act.put, List.setIfInBounds_toArray, List.set_cons_zero, List.set_cons_succ]
    refine wpAnyH_done (by kernel_rfl) ?_ _
    go_wp2_with fail
    go_ret
    exact ValPost.good ST.out HT6.out (show _ = _ by rw [HVAL.out, HV5.out, thenV_ok, if_pos rfl, HV6.out]) rfl
  · have H0 := hid h0
    have hq : (n5 == 0) = false := by simpa using h0
    refine takeYes (i := 6) (v := .bool true) rfl (by kernel_rfl) (by kernel_rfl) (by kernel_rfl) (fun _ _ _ h => h) (by rfl) ?_ (by assumption) ?_
    · intro w hSw; obtain ⟨sq0, sq1, sq2, sq3, sq4, sq5, sq6, sq7, sq8, sq9, sq10, sq11, sq12, sq13, sq14, sq15, sq16⟩ := hSw; go_simp
    try simp only [Act.put, List.setIfInBounds_toArray, List.set_cons_zero, List.set_cons_succ]
    refine wpAnyH_done (by kernel_rfl) ?_ _
    go_wp2_with fail
    have stq := TStep.below (g := g) (u := u5) ((Below.refl w5.heap.size w5).drew)
    have v0 := cell_step stq fV v0
    have c0 := cell_step stq fE c0
    have c1 := cell_step stq fE c1
    have c2 := cell_step stq fE c2
    have c3 := cell_step stq fE c3
    have px0 := cell_step stq fB px0
    have px1 := cell_step stq fB px1
    have px2 := cell_step stq fB px2
    have px3 := cell_step stq fB px3
    have py0 := cell_step stq fB py0
    have py1 := cell_step stq fB py1
    have py2 := cell_step stq fB py2
    have py3 := cell_step stq fB py3
    have pz0 := cell_step stq fB pz0
    have pz1 := cell_step stq fB pz1
    have pz2 := cell_step stq fB pz2
    have pz3 := cell_step stq fB pz3
    have fV := stq.free fV
    have fE := stq.free fE
    have fB := stq.free fB
    have ST := hid (ST.out.trans stq)
    have HXx := hid (HXx.out.step stq)
    have HXy := hid (HXy.out.step stq)
    have HXz := hid (HXz.out.step stq)
    have VI := hid (VI.out.below ((Below.refl w5.heap.size w5).drew))
    clear stq
    refine wp_region_held_drew (S := (fun w' => w'.cell? ⟨w.heap.size, 0, none⟩ = some (.iface TSt (.pointer (some ⟨g, 0, none⟩))) ∧ w'.cell? ⟨w.heap.size + 1, 0, none⟩ = some (.string ⟨#[63]⟩) ∧ w'.cell? ⟨w.heap.size + 1, 1, none⟩ = some (.int .i64 n) ∧ w'.cell? ⟨w.heap.size + 1, 2, none⟩ = some (.string ⟨nm.toArray⟩) ∧ w'.cell? ⟨w.heap.size + 1, 3, none⟩ = some (.slice (some ⟨b, off, none⟩) 3 cap) ∧ w'.cell? ⟨b, off, none⟩ = some (.string ⟨x.op.toArray⟩) ∧ w'.cell? ⟨b, off + 1, none⟩ = some (.int .i64 x.num) ∧ w'.cell? ⟨b, off + 2, none⟩ = some (.string ⟨x.name.toArray⟩) ∧ w'.cell? ⟨b, off + 3, none⟩ = some (.slice Ax x.kids.len capx) ∧ w'.cell? ⟨b, off + 4, none⟩ = some (.string ⟨y.op.toArray⟩) ∧ w'.cell? ⟨b, off + 5, none⟩ = some (.int .i64 y.num) ∧ w'.cell? ⟨b, off + 6, none⟩ = some (.string ⟨y.name.toArray⟩) ∧ w'.cell? ⟨b, off + 7, none⟩ = some (.slice Ay y.kids.len capy) ∧ w'.cell? ⟨b, off + 8, none⟩ = some (.string ⟨z.op.toArray⟩) ∧ w'.cell? ⟨b, off + 9, none⟩ = some (.int .i64 z.num) ∧ w'.cell? ⟨b, off + 10, none⟩ = some (.string ⟨z.name.toArray⟩) ∧ w'.cell? ⟨b, off + 11, none⟩ = some (.slice Az z.kids.len capz))) (by kernel_rfl) ⟨v0, c0, c1, c2, c3, px0, px1, px2, px3, py0, py1, py2, py3, pz0, pz1, pz2, pz3⟩ (fun hHeld => ?_)
    refine takeYes (i := 0) (v := .agg #[.iface TSt (.pointer (some ⟨g, 0, none⟩))]) rfl (by kernel_rfl) (by kernel_rfl) (by kernel_rfl) (fun _ _ _ h => h) (by rfl) ?_ (by assumption) ?_
    · intro w hSw; obtain ⟨sq0, sq1, sq2, sq3, sq4, sq5, sq6, sq7, sq8, sq9, sq10, sq11, sq12, sq13, sq14, sq15, sq16⟩ := hSw; go_simp
    try simp only [Act.put, List.setIfInBounds_toArray, List.set_cons_zero, List.set_cons_succ]
    refine takeYes (i := 1) (v := .pointer (some ⟨w.heap.size + 1, 3, none⟩)) rfl (by kernel_rfl) (by kernel_rfl) (by kernel_rfl) (fun _ _ _ h => h) (by rfl) ?_ (by assumption) ?_
    · intro w hSw; obtain ⟨sq0, sq1, sq2, sq3, sq4, sq5, sq6, sq7, sq8, sq9, sq10, sq11, sq12, sq13, sq14, sq15, sq16⟩ := hSw; go_simp
    try simp only [Act.put, List.setIfInBounds_toArray, List.set_cons_zero, List.set_cons_succ]
    refine takeYes (i := 2) (v := .slice (some ⟨b, off, none⟩) 3 cap) rfl (by kernel_rfl) (by kernel_rfl) (by kernel_rfl) (fun _ _ _ h => h) (by rfl) ?_ (by assumption) ?_
    · intro w hSw; obtain ⟨sq0, sq1, sq2, sq3, sq4, sq5, sq6, sq7, sq8, sq9, sq10, sq11, sq12, sq13, sq14, sq15, sq16⟩ := hSw; go_simp
    try simp only [Act.put, List.setIfInBounds_toArray, List.set_cons_zero, List.set_cons_succ]
    refine takeYes (i := 3) (v := .pointer (some ⟨b, off + 4, none⟩)) rfl (by kernel_rfl) (by kernel_rfl) (by kernel_rfl) (fun _ _ _ h => h) (by rfl) ?_ (by assumption) ?_
    · intro w hSw; obtain ⟨sq0, sq1, sq2, sq3, sq4, sq5, sq6, sq7, sq8, sq9, sq10, sq11, sq12, sq13, sq14, sq15, sq16⟩ := hSw; go_simp
    try simp only [Act.put, List.setIfInBounds_toArray, List.set_cons_zero, List.set_cons_succ]
    refine takeYes (i := 4) (v := .agg #[.string ⟨y.op.toArray⟩, .int .i64 y.num, .string ⟨y.name.toArray⟩, .slice Ay y.kids.len capy]) rfl (by kernel_rfl) (by kernel_rfl) (by kernel_rfl) (fun _ _ _ h => h) (by rfl) ?_ (by assumption) ?_
    · intro w hSw; obtain ⟨sq0, sq1, sq2, sq3, sq4, sq5, sq6, sq7, sq8, sq9, sq10, sq11, sq12, sq13, sq14, sq15, sq16⟩ := hSw; go_simp
    try simp only [Act.put, List.setIfInBounds_toArray, List.set_cons_zero, List.set_cons_succ]
    refine wpAnyH_ready (rs := [5]) (by kernel_rfl) (by simp) ?_
    refine AllReadyH.cons rfl (fun K hK => ?_) AllReadyH.nil
    go_simp
    ((with_reducible refine (HKy.out.call _ g B T5 u5 _ HXy.out VI.out (by omega)).mono ?_); rintro e1 w6 ⟨u6, hst, htab, hm⟩)
    obtain ⟨r6, T6, hv6⟩ : ∃ r T1, valF y T5 = (r, T1) := ⟨_, _, rfl⟩
    rw [hv6] at htab hm
    obtain ⟨ha, hb, hc⟩ := val_after HOy.out VI.out.short hv6
    have v0 := cell_step hst fV v0
    have c0 := cell_step hst fE c0
    have c1 := cell_step hst fE c1
    have c2 := cell_step hst fE c2
    have c3 := cell_step hst fE c3
    have px0 := cell_step hst fB px0
    have px1 := cell_step hst fB px1
    have px2 := cell_step hst fB px2
    have px3 := cell_step hst fB px3
    have py0 := cell_step hst fB py0
    have py1 := cell_step hst fB py1
    have py2 := cell_step hst fB py2
    have py3 := cell_step hst fB py3
    have pz0 := cell_step hst fB pz0
    have pz1 := cell_step hst fB pz1
    have pz2 := cell_step hst fB pz2
    have pz3 := cell_step hst fB pz3
    have fV := hst.free fV
    have fE := hst.free fE
    have fB := hst.free fB
    have ST := hid (ST.out.trans hst)
    have HXx := hid (HXx.out.step hst)
    have HXy := hid (HXy.out.step hst)
    have HXz := hid (HXz.out.step hst)
    have VI := hid (VI.out.step hst htab ha)
    have HT6 := hid htab
    have HV6 := hid hv6
    clear hst htab ha hv6
    rcases r6 with er | n6
    · (dsimp only at hm; subst hm; exact ⟨rfl, ValPost.bad ST.out VI.out.tab (show _ = _ by rw [HVAL.out, HV5.out, thenV_ok, if_neg H0.out, HV6.out])⟩)
    dsimp only at hm
    subst hm
    have HI6 := hid (hc _ rfl)
    clear hc
    go_wp2_with fail
    refine hK.out _ _ ?_ (fun hHeld => ?_)
    · exact ⟨v0, c0, c1, c2, c3, px0, px1, px2, px3, py0, py1, py2, py3, pz0, pz1, pz2, pz3⟩
    clear hK K
    try simp only [Act.put, List.setIfInBounds_toArray, List.set_cons_zero, List.set_cons_succ]
    refine takeYes (i := 6) (v := .int .i64 n6) rfl (by kernel_rfl) (by kernel_rfl) (by kernel_rfl) (fun _ _ _ h => h) (by rfl) ?_ (by assumption) ?_
    · intro w hSw; obtain ⟨sq0, sq1, sq2, sq3, sq4, sq5, sq6, sq7, sq8, sq9, sq10, sq11, sq12, sq13, sq14, sq15, sq16⟩ := hSw; go_simp
    try simp only [Act.put, List.setIfInBounds_toArray, List.set_cons_zero, List.set_cons_succ]
    refine wpAnyH_done (by kernel_rfl) ?_ _
    go_wp2_with fail
    go_ret
    exact ValPost.good ST.out HT6.out (show _ = _ by rw [HVAL.out, HV5.out, thenV_ok, if_neg H0.out, HV6.out]) rfl
end Go.Proofs.YtadmmmehphhecaaDoor
