/- The walk of Value of sums. -/
import Derived.Test.YtadmmmehphhecaaGreatDoorLr
import Derived.Test.YtadmmmehphhecaaGreatDoorSa
import Derived.Defers
import Derived.Recover
set_option linter.unusedVariables false
set_option linter.unusedSimpArgs false
/- The walks of value of sums.valuer: two kids, three kids. -/
namespace Go.Proofs.YtadmmmehphhecaaGreatDoor
open Go.RowKit
set_option maxRecDepth 100000 in
set_option maxHeartbeats 4000000 in
theorem val_and (n : Int) (nm : List UInt8) (x y : Ex) (hkx : ValC x) (hox : okF x = true) (hky : ValC y) (hoy : okF y = true) : ValC (.mk [38, 38] n nm (.cons x (.cons y .nil))) := by
  have HKx := hid hkx
  have HOx := hid hox
  clear hkx hox
  have HKy := hid hky
  have HOy := hid hoy
  clear hky hoy
  have HSZ : Hid (szF x + szF y ≤ szF (.mk [38, 38] n nm (.cons x (.cons y .nil)))) := hid (by simp only [szF, szL]; omega)
  intro w g B T u v hr hV hlen
  obtain ⟨A, cap, rfl, hcap, hkids⟩ := hr.form
  dsimp only [Ex.op, Ex.num, Ex.name, Ex.kids, Exs.len, Nat.zero_add, Nat.reduceAdd] at *
  obtain ⟨b, off, rfl⟩ := hkids.form_ (by simp [Exs.len])
  obtain ⟨Ax, capx, hPx, qx0, qx1, qx2, qx3, hrx, hkids⟩ := hkids.un
  obtain ⟨Ay, capy, hPy, qy0, qy1, qy2, qy3, hry, hkids⟩ := hkids.un
  unfold vw
  have kV : Bk ((w.alloc (.cells #[.iface TSt (.pointer (some ⟨g, 0, none⟩))] 78)).alloc (.cells #[.string ⟨#[38, 38]⟩, .int .i64 n, .string ⟨nm.toArray⟩, .slice (some ⟨b, off, none⟩) 2 cap] 30)) w.heap.size 78 #[.iface TSt (.pointer (some ⟨g, 0, none⟩))] := (Bk.new w 78 #[.iface TSt (.pointer (some ⟨g, 0, none⟩))]).alloc _
  have kE : Bk ((w.alloc (.cells #[.iface TSt (.pointer (some ⟨g, 0, none⟩))] 78)).alloc (.cells #[.string ⟨#[38, 38]⟩, .int .i64 n, .string ⟨nm.toArray⟩, .slice (some ⟨b, off, none⟩) 2 cap] 30)) (w.heap.size + 1) 30 #[.string ⟨#[38, 38]⟩, .int .i64 n, .string ⟨nm.toArray⟩, .slice (some ⟨b, off, none⟩) 2 cap] := heap2_1 w _ _
  have hB0 : Below w.heap.size w ((w.alloc (.cells #[.iface TSt (.pointer (some ⟨g, 0, none⟩))] 78)).alloc (.cells #[.string ⟨#[38, 38]⟩, .int .i64 n, .string ⟨nm.toArray⟩, .slice (some ⟨b, off, none⟩) 2 cap] 30)) := ((Below.refl _ _).alloc (Nat.le_refl _) _).alloc (by simp) _
  have hsz0 : ((w.alloc (.cells #[.iface TSt (.pointer (some ⟨g, 0, none⟩))] 78)).alloc (.cells #[.string ⟨#[38, 38]⟩, .int .i64 n, .string ⟨nm.toArray⟩, .slice (some ⟨b, off, none⟩) 2 cap] 30)).heap.size = w.heap.size + 1 + 1 := by simp
  have px0 : ((w.alloc (.cells #[.iface TSt (.pointer (some ⟨g, 0, none⟩))] 78)).alloc (.cells #[.string ⟨#[38, 38]⟩, .int .i64 n, .string ⟨nm.toArray⟩, .slice (some ⟨b, off, none⟩) 2 cap] 30)).cell? ⟨b, off, none⟩ = some (.string ⟨x.op.toArray⟩) := al (al qx0)
  have px1 : ((w.alloc (.cells #[.iface TSt (.pointer (some ⟨g, 0, none⟩))] 78)).alloc (.cells #[.string ⟨#[38, 38]⟩, .int .i64 n, .string ⟨nm.toArray⟩, .slice (some ⟨b, off, none⟩) 2 cap] 30)).cell? ⟨b, off + 1, none⟩ = some (.int .i64 x.num) := al (al qx1)
  have px2 : ((w.alloc (.cells #[.iface TSt (.pointer (some ⟨g, 0, none⟩))] 78)).alloc (.cells #[.string ⟨#[38, 38]⟩, .int .i64 n, .string ⟨nm.toArray⟩, .slice (some ⟨b, off, none⟩) 2 cap] 30)).cell? ⟨b, off + 2, none⟩ = some (.string ⟨x.name.toArray⟩) := al (al qx2)
  have px3 : ((w.alloc (.cells #[.iface TSt (.pointer (some ⟨g, 0, none⟩))] 78)).alloc (.cells #[.string ⟨#[38, 38]⟩, .int .i64 n, .string ⟨nm.toArray⟩, .slice (some ⟨b, off, none⟩) 2 cap] 30)).cell? ⟨b, off + 3, none⟩ = some (.slice Ax x.kids.len capx) := al (al qx3)
  have py0 : ((w.alloc (.cells #[.iface TSt (.pointer (some ⟨g, 0, none⟩))] 78)).alloc (.cells #[.string ⟨#[38, 38]⟩, .int .i64 n, .string ⟨nm.toArray⟩, .slice (some ⟨b, off, none⟩) 2 cap] 30)).cell? ⟨b, off + 4, none⟩ = some (.string ⟨y.op.toArray⟩) := al (al qy0)
  have py1 : ((w.alloc (.cells #[.iface TSt (.pointer (some ⟨g, 0, none⟩))] 78)).alloc (.cells #[.string ⟨#[38, 38]⟩, .int .i64 n, .string ⟨nm.toArray⟩, .slice (some ⟨b, off, none⟩) 2 cap] 30)).cell? ⟨b, off + 5, none⟩ = some (.int .i64 y.num) := al (al qy1)
  have py2 : ((w.alloc (.cells #[.iface TSt (.pointer (some ⟨g, 0, none⟩))] 78)).alloc (.cells #[.string ⟨#[38, 38]⟩, .int .i64 n, .string ⟨nm.toArray⟩, .slice (some ⟨b, off, none⟩) 2 cap] 30)).cell? ⟨b, off + 6, none⟩ = some (.string ⟨y.name.toArray⟩) := al (al qy2)
  have py3 : ((w.alloc (.cells #[.iface TSt (.pointer (some ⟨g, 0, none⟩))] 78)).alloc (.cells #[.string ⟨#[38, 38]⟩, .int .i64 n, .string ⟨nm.toArray⟩, .slice (some ⟨b, off, none⟩) 2 cap] 30)).cell? ⟨b, off + 7, none⟩ = some (.slice Ay y.kids.len capy) := al (al qy3)
  go_enter Tryz.func37, Tryz.ntmps37
  go_wp2_with fail
  obtain ⟨W0, hW0⟩ : ∃ W0, W0 = ((w.alloc (.cells #[.iface TSt (.pointer (some ⟨g, 0, none⟩))] 78)).alloc (.cells #[.string ⟨#[38, 38]⟩, .int .i64 n, .string ⟨nm.toArray⟩, .slice (some ⟨b, off, none⟩) 2 cap] 30)) := ⟨_, rfl⟩
  rw [← hW0] at kV kE hB0 hsz0 px0 px1 px2 px3 py0 py1 py2 py3
  rw [← hW0]
  clear hW0 qx0 qx1 qx2 qx3 qy0 qy1 qy2 qy3
  have v0 := kV.cell 0 _ rfl
  obtain ⟨c0, c1, c2, c3⟩ := kE.cells4
  have fV : Free W0 g u w.heap.size := hV.new hB0 (Nat.le_refl _) (by omega)
  have fE : Free W0 g u (w.heap.size + 1) := hV.new hB0 (by omega) (by omega)
  have fB : Free W0 g u b := (TStep.below (g := g) (u := u) hB0).free hPx
  have ST := hid (TStep.below (g := g) (u := u) hB0)
  have VI := hid (hV.below hB0)
  have HS0 := hid hV.short
  have HXx := hid (hrx.step (TStep.below (g := g) (u := u) hB0))
  have HXy := hid (hry.step (TStep.below (g := g) (u := u) hB0))
  clear kV kE hB0 hsz0 hV hr hcap hkids hrx hPx hry hPy
  have hszx := HSZ.out
  have HVAL : Hid (∀ T, valF (.mk [38, 38] n nm (.cons x (.cons y .nil))) T = thenV (valF x T) fun a T1 => if a = 0 then (.ok 0, T1) else thenV (valF y T1) fun b T2 => (.ok (if b = 0 then 0 else 1), T2)) := hid (fun T => rfl)
  have stq := TStep.below (g := g) (u := u) ((Below.refl W0.heap.size W0).drew)
  have v0 := cell_step stq fV v0
  have c0 := cell_step stq fE c0
  have c1 := cell_step stq fE c1
  have c2 := cell_step stq fE c2
  have c3 := cell_step stq fE c3
  have px0 := cell_step stq fB px0
  have px1 := cell_step stq fB px1
  have px2 := cell_step stq fB px2
  have px3 := cell_step stq fB px3
  have py0 := cell_step stq fB py0
  have py1 := cell_step stq fB py1
  have py2 := cell_step stq fB py2
  have py3 := cell_step stq fB py3
  have fV := stq.free fV
  have fE := stq.free fE
  have fB := stq.free fB
  have ST := hid (ST.out.trans stq)
  have HXx := hid (HXx.out.step stq)
  have HXy := hid (HXy.out.step stq)
  have VI := hid (VI.out.below ((Below.refl W0.heap.size W0).drew))
  clear stq
  have HKF : Hid (kidsF [38, 38] = 2) := hid (by decide)
  refine wp_region_held_drew (S := (fun w' => w'.cell? ⟨w.heap.size, 0, none⟩ = some (.iface TSt (.pointer (some ⟨g, 0, none⟩))) ∧ w'.cell? ⟨w.heap.size + 1, 0, none⟩ = some (.string ⟨#[38, 38]⟩) ∧ w'.cell? ⟨w.heap.size + 1, 1, none⟩ = some (.int .i64 n) ∧ w'.cell? ⟨w.heap.size + 1, 2, none⟩ = some (.string ⟨nm.toArray⟩) ∧ w'.cell? ⟨w.heap.size + 1, 3, none⟩ = some (.slice (some ⟨b, off, none⟩) 2 cap) ∧ w'.cell? ⟨b, off, none⟩ = some (.string ⟨x.op.toArray⟩) ∧ w'.cell? ⟨b, off + 1, none⟩ = some (.int .i64 x.num) ∧ w'.cell? ⟨b, off + 2, none⟩ = some (.string ⟨x.name.toArray⟩) ∧ w'.cell? ⟨b, off + 3, none⟩ = some (.slice Ax x.kids.len capx) ∧ w'.cell? ⟨b, off + 4, none⟩ = some (.string ⟨y.op.toArray⟩) ∧ w'.cell? ⟨b, off + 5, none⟩ = some (.int .i64 y.num) ∧ w'.cell? ⟨b, off + 6, none⟩ = some (.string ⟨y.name.toArray⟩) ∧ w'.cell? ⟨b, off + 7, none⟩ = some (.slice Ay y.kids.len capy))) (by kernel_rfl) ⟨v0, c0, c1, c2, c3, px0, px1, px2, px3, py0, py1, py2, py3⟩ (fun hHeld => ?_)
  refine takeYes (i := 0) (v := .pointer (some ⟨w.heap.size + 1, 3, none⟩)) rfl (by kernel_rfl) (by kernel_rfl) (by kernel_rfl) (fun _ _ _ h => h) (by rfl) ?_ (by assumption) ?_
  · intro w hSw; obtain ⟨sq0, sq1, sq2, sq3, sq4, sq5, sq6, sq7, sq8, sq9, sq10, sq11, sq12⟩ := hSw; go_simp
  try simp only [Act.put, List.setIfInBounds_toArray, List.set_cons_zero, List.set_cons_succ]
  refine takeYes (i := 1) (v := .slice (some ⟨b, off, none⟩) 2 cap) rfl (by kernel_rfl) (by kernel_rfl) (by kernel_rfl) (fun _ _ _ h => h) (by rfl) ?_ (by assumption) ?_
  · intro w hSw; obtain ⟨sq0, sq1, sq2, sq3, sq4, sq5, sq6, sq7, sq8, sq9, sq10, sq11, sq12⟩ := hSw; go_simp
  try simp only [Act.put, List.setIfInBounds_toArray, List.set_cons_zero, List.set_cons_succ]
  refine takeYes (i := 2) (v := .int .i64 2) rfl (by kernel_rfl) (by kernel_rfl) (by kernel_rfl) (fun _ _ _ h => h) (by rfl) ?_ (by assumption) ?_
  · intro w hSw; obtain ⟨sq0, sq1, sq2, sq3, sq4, sq5, sq6, sq7, sq8, sq9, sq10, sq11, sq12⟩ := hSw; go_simp
  try simp only [Act.put, List.setIfInBounds_toArray, List.set_cons_zero, List.set_cons_succ]
  refine takeYes (i := 3) (v := .pointer (some ⟨w.heap.size + 1, 0, none⟩)) rfl (by kernel_rfl) (by kernel_rfl) (by kernel_rfl) (fun _ _ _ h => h) (by rfl) ?_ (by assumption) ?_
  · intro w hSw; obtain ⟨sq0, sq1, sq2, sq3, sq4, sq5, sq6, sq7, sq8, sq9, sq10, sq11, sq12⟩ := hSw; go_simp
  try simp only [Act.put, List.setIfInBounds_toArray, List.set_cons_zero, List.set_cons_succ]
  refine takeYes (i := 4) (v := .string ⟨#[38, 38]⟩) rfl (by kernel_rfl) (by kernel_rfl) (by kernel_rfl) (fun _ _ _ h => h) (by rfl) ?_ (by assumption) ?_
  · intro w hSw; obtain ⟨sq0, sq1, sq2, sq3, sq4, sq5, sq6, sq7, sq8, sq9, sq10, sq11, sq12⟩ := hSw; go_simp
  try simp only [Act.put, List.setIfInBounds_toArray, List.set_cons_zero, List.set_cons_succ]
  refine wpAnyH_ready (rs := [5]) (by kernel_rfl) (by simp) ?_
  refine AllReadyH.cons rfl (fun K hK => ?_) AllReadyH.nil
  go_simp
  ((with_reducible refine (kids_any _ _).mono ?_); rintro e1 w1 ⟨rfl, hby⟩)
  rw [HKF.out]
  have stq := TStep.below (g := g) (u := u) hby
  have v0 := cell_step stq fV v0
  have c0 := cell_step stq fE c0
  have c1 := cell_step stq fE c1
  have c2 := cell_step stq fE c2
  have c3 := cell_step stq fE c3
  have px0 := cell_step stq fB px0
  have px1 := cell_step stq fB px1
  have px2 := cell_step stq fB px2
  have px3 := cell_step stq fB px3
  have py0 := cell_step stq fB py0
  have py1 := cell_step stq fB py1
  have py2 := cell_step stq fB py2
  have py3 := cell_step stq fB py3
  have fV := stq.free fV
  have fE := stq.free fE
  have fB := stq.free fB
  have ST := hid (ST.out.trans stq)
  have HXx := hid (HXx.out.step stq)
  have HXy := hid (HXy.out.step stq)
  have VI := hid (VI.out.below hby)
  clear stq hby
  go_wp2_with fail
  refine hK.out _ _ ?_ (fun hHeld => ?_)
  · exact ⟨v0, c0, c1, c2, c3, px0, px1, px2, px3, py0, py1, py2, py3⟩
  clear hK K
  try simp only [Act.put, List.setIfInBounds_toArray, List.set_cons_zero, List.set_cons_succ]
  refine takeYes (i := 6) (v := .bool false) rfl (by kernel_rfl) (by kernel_rfl) (by kernel_rfl) (fun _ _ _ h => h) (by rfl) ?_ (by assumption) ?_
  · intro w hSw; obtain ⟨sq0, sq1, sq2, sq3, sq4, sq5, sq6, sq7, sq8, sq9, sq10, sq11, sq12⟩ := hSw; go_simp
  try simp only [Act.put, List.setIfInBounds_toArray, List.set_cons_zero, List.set_cons_succ]
  refine wpAnyH_done (by kernel_rfl) ?_ _
  go_wp2_with fail
  ((with_reducible refine (isSet_any [38, 38] _).mono ?_); rintro e1 w2 ⟨rfl, rfl⟩)
  rw [show setF [38, 38] = false by decide]
  go_wp2_with fail
  have stq := TStep.below (g := g) (u := u) ((Below.refl w1.heap.size w1).drew)
  have v0 := cell_step stq fV v0
  have c0 := cell_step stq fE c0
  have c1 := cell_step stq fE c1
  have c2 := cell_step stq fE c2
  have c3 := cell_step stq fE c3
  have px0 := cell_step stq fB px0
  have px1 := cell_step stq fB px1
  have px2 := cell_step stq fB px2
  have px3 := cell_step stq fB px3
  have py0 := cell_step stq fB py0
  have py1 := cell_step stq fB py1
  have py2 := cell_step stq fB py2
  have py3 := cell_step stq fB py3
  have fV := stq.free fV
  have fE := stq.free fE
  have fB := stq.free fB
  have ST := hid (ST.out.trans stq)
  have HXx := hid (HXx.out.step stq)
  have HXy := hid (HXy.out.step stq)
  have VI := hid (VI.out.below ((Below.refl w1.heap.size w1).drew))
  clear stq
  refine wp_region_held_drew (S := (fun w' => w'.cell? ⟨w.heap.size, 0, none⟩ = some (.iface TSt (.pointer (some ⟨g, 0, none⟩))) ∧ w'.cell? ⟨w.heap.size + 1, 0, none⟩ = some (.string ⟨#[38, 38]⟩) ∧ w'.cell? ⟨w.heap.size + 1, 1, none⟩ = some (.int .i64 n) ∧ w'.cell? ⟨w.heap.size + 1, 2, none⟩ = some (.string ⟨nm.toArray⟩) ∧ w'.cell? ⟨w.heap.size + 1, 3, none⟩ = some (.slice (some ⟨b, off, none⟩) 2 cap) ∧ w'.cell? ⟨b, off, none⟩ = some (.string ⟨x.op.toArray⟩) ∧ w'.cell? ⟨b, off + 1, none⟩ = some (.int .i64 x.num) ∧ w'.cell? ⟨b, off + 2, none⟩ = some (.string ⟨x.name.toArray⟩) ∧ w'.cell? ⟨b, off + 3, none⟩ = some (.slice Ax x.kids.len capx) ∧ w'.cell? ⟨b, off + 4, none⟩ = some (.string ⟨y.op.toArray⟩) ∧ w'.cell? ⟨b, off + 5, none⟩ = some (.int .i64 y.num) ∧ w'.cell? ⟨b, off + 6, none⟩ = some (.string ⟨y.name.toArray⟩) ∧ w'.cell? ⟨b, off + 7, none⟩ = some (.slice Ay y.kids.len capy))) (by kernel_rfl) ⟨v0, c0, c1, c2, c3, px0, px1, px2, px3, py0, py1, py2, py3⟩ (fun hHeld => ?_)
  refine takeYes (i := 0) (v := .agg #[.iface TSt (.pointer (some ⟨g, 0, none⟩))]) rfl (by kernel_rfl) (by kernel_rfl) (by kernel_rfl) (fun _ _ _ h => h) (by rfl) ?_ (by assumption) ?_
  · intro w hSw; obtain ⟨sq0, sq1, sq2, sq3, sq4, sq5, sq6, sq7, sq8, sq9, sq10, sq11, sq12⟩ := hSw; go_simp
  try simp only [Act.put, List.setIfInBounds_toArray, List.set_cons_zero, List.set_cons_succ]
  refine takeYes (i := 1) (v := .pointer (some ⟨w.heap.size + 1, 3, none⟩)) rfl (by kernel_rfl) (by kernel_rfl) (by kernel_rfl) (fun _ _ _ h => h) (by rfl) ?_ (by assumption) ?_
  · intro w hSw; obtain ⟨sq0, sq1, sq2, sq3, sq4, sq5, sq6, sq7, sq8, sq9, sq10, sq11, sq12⟩ := hSw; go_simp
  try simp only [Act.put, List.setIfInBounds_toArray, List.set_cons_zero, List.set_cons_succ]
  refine takeYes (i := 2) (v := .slice (some ⟨b, off, none⟩) 2 cap) rfl (by kernel_rfl) (by kernel_rfl) (by kernel_rfl) (fun _ _ _ h => h) (by rfl) ?_ (by assumption) ?_
  · intro w hSw; obtain ⟨sq0, sq1, sq2, sq3, sq4, sq5, sq6, sq7, sq8, sq9, sq10, sq11, sq12⟩ := hSw; go_simp
  try simp only [Act.put, List.setIfInBounds_toArray, List.set_cons_zero, List.set_cons_succ]
  refine takeYes (i := 3) (v := .pointer (some ⟨b, off, none⟩)) rfl (by kernel_rfl) (by kernel_rfl) (by kernel_rfl) (fun _ _ _ h => h) (by rfl) ?_ (by assumption) ?_
  · intro w hSw; obtain ⟨sq0, sq1, sq2, sq3, sq4, sq5, sq6, sq7, sq8, sq9, sq10, sq11, sq12⟩ := hSw; go_simp
  try simp only [Act.put, List.setIfInBounds_toArray, List.set_cons_zero, List.set_cons_succ]
  refine takeYes (i := 4) (v := .agg #[.string ⟨x.op.toArray⟩, .int .i64 x.num, .string ⟨x.name.toArray⟩, .slice Ax x.kids.len capx]) rfl (by kernel_rfl) (by kernel_rfl) (by kernel_rfl) (fun _ _ _ h => h) (by rfl) ?_ (by assumption) ?_
  · intro w hSw; obtain ⟨sq0, sq1, sq2, sq3, sq4, sq5, sq6, sq7, sq8, sq9, sq10, sq11, sq12⟩ := hSw; go_simp
  try simp only [Act.put, List.setIfInBounds_toArray, List.set_cons_zero, List.set_cons_succ]
  refine wpAnyH_ready (rs := [5]) (by kernel_rfl) (by simp) ?_
  refine AllReadyH.cons rfl (fun K hK => ?_) AllReadyH.nil
  go_simp
  ((with_reducible refine (HKx.out.call _ g B T u _ HXx.out VI.out (by omega)).mono ?_); rintro e1 w5 ⟨u5, hst, htab, hm⟩)
  obtain ⟨r5, T5, hv5⟩ : ∃ r T1, valF x T = (r, T1) := ⟨_, _, rfl⟩
  rw [hv5] at htab hm
  obtain ⟨ha, hb, hc⟩ := val_after HOx.out VI.out.short hv5
  have v0 := cell_step hst fV v0
  have c0 := cell_step hst fE c0
  have c1 := cell_step hst fE c1
  have c2 := cell_step hst fE c2
  have c3 := cell_step hst fE c3
  have px0 := cell_step hst fB px0
  have px1 := cell_step hst fB px1
  have px2 := cell_step hst fB px2
  have px3 := cell_step hst fB px3
  have py0 := cell_step hst fB py0
  have py1 := cell_step hst fB py1
  have py2 := cell_step hst fB py2
  have py3 := cell_step hst fB py3
  have fV := hst.free fV
  have fE := hst.free fE
  have fB := hst.free fB
  have ST := hid (ST.out.trans hst)
  have HXx := hid (HXx.out.step hst)
  have HXy := hid (HXy.out.step hst)
  have VI := hid (VI.out.step hst htab ha)
  have HT5 := hid htab
  have HV5 := hid hv5
  clear hst htab ha hv5
  rcases r5 with er | n5
  · (dsimp only at hm; subst hm; exact ⟨rfl, ValPost.bad ST.out VI.out.tab (show thenV (valF x T) _ = _ by rw [HV5.out]; rfl)⟩)
  dsimp only at hm
  subst hm
  have HI5 := hid (hc _ rfl)
  clear hc
  go_wp2_with fail
  refine hK.out _ _ ?_ (fun hHeld => ?_)
  · exact ⟨v0, c0, c1, c2, c3, px0, px1, px2, px3, py0, py1, py2, py3⟩
  clear hK K
  try simp only [Act.put, List.setIfInBounds_toArray, List.set_cons_zero, List.set_cons_succ]
  by_cases h0 : n5 = 0
  · have H0 := hid h0
    subst h0
    refine takeYes (i := 6) (v := .bool false) rfl (by kernel_rfl) (by kernel_rfl) (by kernel_rfl) (fun _ _ _ h => h) (by rfl) ?_ (by assumption) ?_
    · intro w hSw; obtain ⟨sq0, sq1, sq2, sq3, sq4, sq5, sq6, sq7, sq8, sq9, sq10, sq11, sq12⟩ := hSw; go_simp
    try simp only [Act.put, List.setIfInBounds_toArray, List.set_cons_zero, List.set_cons_succ]
    refine takeYes (i := 7) (v := .bool false) rfl (by kernel_rfl) (by kernel_rfl) (by kernel_rfl) (fun _ _ _ h => h) (by rfl) ?_ (by assumption) ?_
    · intro w hSw; obtain ⟨sq0, sq1, sq2, sq3, sq4, sq5, sq6, sq7, sq8, sq9, sq10, sq11, sq12⟩ := hSw; go_simp
    try simp only [Act.put, List.setIfInBounds_toArray, List.set_cons_zero, List.set_cons_succ]
    refine takeNo (i := 8) rfl (by kernel_rfl) (by kernel_rfl) (by kernel_rfl) (fun _ _ _ h => h) (by rfl) (by assumption) ?_
    try simp only [Act.put, List.setIfInBounds_toArray, List.set_cons_zero, List.set_cons_succ]
    refine takeNo (i := 9) rfl (by kernel_rfl) (by kernel_rfl) (by kernel_rfl) (fun _ _ _ h => h) (by rfl) (by assumption) ?_
    try simp only [Act.put, List.setIfInBounds_toArray, List.set_cons_zero, List.set_cons_succ]
    refine takeNo (i := 10) rfl (by kernel_rfl) (by kernel_rfl) (by kernel_rfl) (fun _ _ _ h => h) (by rfl) (by assumption) ?_
    try simp only [Act.put, List.setIfInBounds_toArray, List.set_cons_zero, List.set_cons_succ]
    refine takeNo (i := 11) rfl (by kernel_rfl) (by kernel_rfl) (by kernel_rfl) (fun _ _ _ h => h) (by rfl) (by assumption) ?_
    try simp only [Act.put, List.setIfInBounds_toArray, List.set_cons_zero, List.set_cons_succ]
    refine takeNo (i := 12) rfl (by kernel_rfl) (by kernel_rfl) (by kernel_rfl) (fun _ _ _ h => h) (by rfl) (by assumption) ?_
    try simp only [Act.put, List.setIfInBounds_toArray, List.set_cons_zero, List.set_cons_succ]
    refine takeNo (i := 13) rfl (by kernel_rfl) (by kernel_rfl) (by kernel_rfl) (fun _ _ _ h => h) (by rfl) (by assumption) ?_
    try simp only [Act.put, List.setIfInBounds_toArray, List.set_cons_zero, List.set_cons_succ]
    refine takeNo (i := 14) rfl (by kernel_rfl) (by kernel_rfl) (by kernel_rfl) (fun _ _ _ h => h) (by rfl) (by assumption) ?_
    try simp only [Act.put, List.setIfInBounds_toArray, List.set_cons_zero, List.set_cons_succ]
    refine takeYes (i := 15) (v := .bool false) rfl (by kernel_rfl) (by kernel_rfl) (by kernel_rfl) (fun _ _ _ h => h) (by rfl) ?_ (by assumption) ?_
    · intro w hSw; obtain ⟨sq0, sq1, sq2, sq3, sq4, sq5, sq6, sq7, sq8, sq9, sq10, sq11, sq12⟩ := hSw; go_simp
    try simp only [Act.put, List.setIfInBounds_toArray, List.set_cons_zero, List.set_cons_succ]
    refine wpAnyH_ready (rs := [16]) (by kernel_rfl) (by simp) ?_
    refine AllReadyH.cons rfl (fun K hK => ?_) AllReadyH.nil
    go_simp
    ((with_reducible refine (one_any _ _).mono ?_); rintro e1 w3 ⟨rfl, rfl⟩)
    go_wp2_with fail
    refine hK.out _ _ ?_ (fun hHeld => ?_)
    · assumption
    clear hK K
    try simp only [Act.put, List.setIfInBounds_toArray, List.set_cons_zero, List.set_cons_succ]
    refine takeYes (i := 17) (v := .int .i64 0) rfl (by kernel_rfl) (by kernel_rfl) (by kernel_rfl) (fun _ _ _ h => h) (by rfl) ?_ (by assumption) ?_
    · intro w hSw; obtain ⟨sq0, sq1, sq2, sq3, sq4, sq5, sq6, sq7, sq8, sq9, sq10, sq11, sq12⟩ := hSw; go_simp
    try simp only [Act.put, List.setIfInBounds_toArray, List.set_cons_zero, List.set_cons_succ]
    refine wpAnyH_done (by kernel_rfl) ?_ _
    go_wp2_with fail
    go_ret
    exact ValPost.good ST.out HT5.out (show _ = _ by rw [HVAL.out, HV5.out, thenV_ok, if_pos rfl]) rfl
  · have H0 := hid h0
    have hq : (n5 == 0) = false := by simpa using h0
    refine takeYes (i := 6) (v := .bool true) rfl (by kernel_rfl) (by kernel_rfl) (by kernel_rfl) (fun _ _ _ h => h) (by rfl) ?_ (by assumption) ?_
    · intro w hSw; obtain ⟨sq0, sq1, sq2, sq3, sq4, sq5, sq6, sq7, sq8, sq9, sq10, sq11, sq12⟩ := hSw; go_simp
    try simp only [Act.put, List.setIfInBounds_toArray, List.set_cons_zero, List.set_cons_succ]
    refine takeYes (i := 7) (v := .bool true) rfl (by kernel_rfl) (by kernel_rfl) (by kernel_rfl) (fun _ _ _ h => h) (by rfl) ?_ (by assumption) ?_
    · intro w hSw; obtain ⟨sq0, sq1, sq2, sq3, sq4, sq5, sq6, sq7, sq8, sq9, sq10, sq11, sq12⟩ := hSw; go_simp
    try simp only [Act.put, List.setIfInBounds_toArray, List.set_cons_zero, List.set_cons_succ]
    refine takeYes (i := 8) (v := .agg #[.iface TSt (.pointer (some ⟨g, 0, none⟩))]) rfl (by kernel_rfl) (by kernel_rfl) (by kernel_rfl) (fun _ _ _ h => h) (by rfl) ?_ (by assumption) ?_
    · intro w hSw; obtain ⟨sq0, sq1, sq2, sq3, sq4, sq5, sq6, sq7, sq8, sq9, sq10, sq11, sq12⟩ := hSw; go_simp
    try simp only [Act.put, List.setIfInBounds_toArray, List.set_cons_zero, List.set_cons_succ]
    refine takeYes (i := 9) (v := .pointer (some ⟨w.heap.size + 1, 3, none⟩)) rfl (by kernel_rfl) (by kernel_rfl) (by kernel_rfl) (fun _ _ _ h => h) (by rfl) ?_ (by assumption) ?_
    · intro w hSw; obtain ⟨sq0, sq1, sq2, sq3, sq4, sq5, sq6, sq7, sq8, sq9, sq10, sq11, sq12⟩ := hSw; go_simp
    try simp only [Act.put, List.setIfInBounds_toArray, List.set_cons_zero, List.set_cons_succ]
    refine takeYes (i := 10) (v := .slice (some ⟨b, off, none⟩) 2 cap) rfl (by kernel_rfl) (by kernel_rfl) (by kernel_rfl) (fun _ _ _ h => h) (by rfl) ?_ (by assumption) ?_
    · intro w hSw; obtain ⟨sq0, sq1, sq2, sq3, sq4, sq5, sq6, sq7, sq8, sq9, sq10, sq11, sq12⟩ := hSw; go_simp
    try simp only [Act.put, List.setIfInBounds_toArray, List.set_cons_zero, List.set_cons_succ]
    refine takeYes (i := 11) (v := .pointer (some ⟨b, off + 4, none⟩)) rfl (by kernel_rfl) (by kernel_rfl) (by kernel_rfl) (fun _ _ _ h => h) (by rfl) ?_ (by assumption) ?_
    · intro w hSw; obtain ⟨sq0, sq1, sq2, sq3, sq4, sq5, sq6, sq7, sq8, sq9, sq10, sq11, sq12⟩ := hSw; go_simp
    try simp only [Act.put, List.setIfInBounds_toArray, List.set_cons_zero, List.set_cons_succ]
    refine takeYes (i := 12) (v := .agg #[.string ⟨y.op.toArray⟩, .int .i64 y.num, .string ⟨y.name.toArray⟩, .slice Ay y.kids.len capy]) rfl (by kernel_rfl) (by kernel_rfl) (by kernel_rfl) (fun _ _ _ h => h) (by rfl) ?_ (by assumption) ?_
    · intro w hSw; obtain ⟨sq0, sq1, sq2, sq3, sq4, sq5, sq6, sq7, sq8, sq9, sq10, sq11, sq12⟩ := hSw; go_simp
    try simp only [Act.put, List.setIfInBounds_toArray, List.set_cons_zero, List.set_cons_succ]
    refine wpAnyH_ready (rs := [13]) (by kernel_rfl) (by simp) ?_
    refine AllReadyH.cons rfl (fun K hK => ?_) AllReadyH.nil
    go_simp
    ((with_reducible refine (HKy.out.call _ g B T5 u5 _ HXy.out VI.out (by omega)).mono ?_); rintro e1 w6 ⟨u6, hst, htab, hm⟩)
    obtain ⟨r6, T6, hv6⟩ : ∃ r T1, valF y T5 = (r, T1) := ⟨_, _, rfl⟩
    rw [hv6] at htab hm
    obtain ⟨ha, hb, hc⟩ := val_after HOy.out VI.out.short hv6
    have v0 := cell_step hst fV v0
    have c0 := cell_step hst fE c0
    have c1 := cell_step hst fE c1
    have c2 := cell_step hst fE c2
    have c3 := cell_step hst fE c3
    have px0 := cell_step hst fB px0
    have px1 := cell_step hst fB px1
    have px2 := cell_step hst fB px2
    have px3 := cell_step hst fB px3
    have py0 := cell_step hst fB py0
    have py1 := cell_step hst fB py1
    have py2 := cell_step hst fB py2
    have py3 := cell_step hst fB py3
    have fV := hst.free fV
    have fE := hst.free fE
    have fB := hst.free fB
    have ST := hid (ST.out.trans hst)
    have HXx := hid (HXx.out.step hst)
    have HXy := hid (HXy.out.step hst)
    have VI := hid (VI.out.step hst htab ha)
    have HT6 := hid htab
    have HV6 := hid hv6
    clear hst htab ha hv6
    rcases r6 with er | n6
    · (dsimp only at hm; subst hm; exact ⟨rfl, ValPost.bad ST.out VI.out.tab (show _ = _ by rw [HVAL.out, HV5.out, thenV_ok, if_neg H0.out, HV6.out]; rfl)⟩)
    dsimp only at hm
    subst hm
    have HI6 := hid (hc _ rfl)
    clear hc
    go_wp2_with fail
    refine hK.out _ _ ?_ (fun hHeld => ?_)
    · exact ⟨v0, c0, c1, c2, c3, px0, px1, px2, px3, py0, py1, py2, py3⟩
    clear hK K
    try simp only [Act.put, List.setIfInBounds_toArray, List.set_cons_zero, List.set_cons_succ]
    obtain ⟨o, ho⟩ : ∃ o, o = (n6 != 0) := ⟨_, rfl⟩
    have HO_ := hid ho
    clear ho
    refine takeYes (i := 14) (v := .bool o) rfl (by kernel_rfl) (by kernel_rfl) (by kernel_rfl) (fun _ _ _ h => h) (by rfl) ?_ (by assumption) ?_
    · intro w hSw; obtain ⟨sq0, sq1, sq2, sq3, sq4, sq5, sq6, sq7, sq8, sq9, sq10, sq11, sq12⟩ := hSw; go_simp; rw [HO_.out]
    try simp only [Act.put, List.setIfInBounds_toArray, List.set_cons_zero, List.set_cons_succ]
    refine takeYes (i := 15) (v := .bool o) rfl (by kernel_rfl) (by kernel_rfl) (by kernel_rfl) (fun _ _ _ h => h) (by rfl) ?_ (by assumption) ?_
    · intro w hSw; obtain ⟨sq0, sq1, sq2, sq3, sq4, sq5, sq6, sq7, sq8, sq9, sq10, sq11, sq12⟩ := hSw; go_simp
    try simp only [Act.put, List.setIfInBounds_toArray, List.set_cons_zero, List.set_cons_succ]
    refine wpAnyH_ready (rs := [16]) (by kernel_rfl) (by simp) ?_
    refine AllReadyH.cons rfl (fun K hK => ?_) AllReadyH.nil
    go_simp
    ((with_reducible refine (one_any _ _).mono ?_); rintro e1 w3 ⟨rfl, rfl⟩)
    obtain ⟨o2, ho2⟩ : ∃ o2, o2 = (if o = true then (1 : Int) else 0) := ⟨_, rfl⟩
    rw [← ho2]
    have HOV := hid ho2
    clear ho2
    go_wp2_with fail
    refine hK.out _ _ ?_ (fun hHeld => ?_)
    · assumption
    clear hK K
    try simp only [Act.put, List.setIfInBounds_toArray, List.set_cons_zero, List.set_cons_succ]
    refine takeYes (i := 17) (v := .int .i64 o2) rfl (by kernel_rfl) (by kernel_rfl) (by kernel_rfl) (fun _ _ _ h => h) (by rfl) ?_ (by assumption) ?_
    · intro w hSw; obtain ⟨sq0, sq1, sq2, sq3, sq4, sq5, sq6, sq7, sq8, sq9, sq10, sq11, sq12⟩ := hSw; go_simp
    try simp only [Act.put, List.setIfInBounds_toArray, List.set_cons_zero, List.set_cons_succ]
    refine wpAnyH_done (by kernel_rfl) ?_ _
    go_wp2_with fail
    go_ret
    refine ValPost.good (n := if n6 = 0 then 0 else 1) ST.out HT6.out (show _ = _ by rw [HVAL.out, HV5.out, thenV_ok, if_neg H0.out, HV6.out]; rfl) ?_
    rw [HOV.out, HO_.out]
    by_cases h : n6 = 0 <;> simp [h]
end Go.Proofs.YtadmmmehphhecaaGreatDoor
/- The walks of value of sums.valuer: two kids, three kids. -/
namespace Go.Proofs.YtadmmmehphhecaaGreatDoor
open Go.RowKit
set_option maxRecDepth 100000 in
set_option maxHeartbeats 4000000 in
theorem val_or (n : Int) (nm : List UInt8) (x y : Ex) (hkx : ValC x) (hox : okF x = true) (hky : ValC y) (hoy : okF y = true) : ValC (.mk [124, 124] n nm (.cons x (.cons y .nil))) := by
  have HKx := hid hkx
  have HOx := hid hox
  clear hkx hox
  have HKy := hid hky
  have HOy := hid hoy
  clear hky hoy
  have HSZ : Hid (szF x + szF y ≤ szF (.mk [124, 124] n nm (.cons x (.cons y .nil)))) := hid (by simp only [szF, szL]; omega)
  intro w g B T u v hr hV hlen
  obtain ⟨A, cap, rfl, hcap, hkids⟩ := hr.form
  dsimp only [Ex.op, Ex.num, Ex.name, Ex.kids, Exs.len, Nat.zero_add, Nat.reduceAdd] at *
  obtain ⟨b, off, rfl⟩ := hkids.form_ (by simp [Exs.len])
  obtain ⟨Ax, capx, hPx, qx0, qx1, qx2, qx3, hrx, hkids⟩ := hkids.un
  obtain ⟨Ay, capy, hPy, qy0, qy1, qy2, qy3, hry, hkids⟩ := hkids.un
  unfold vw
  have kV : Bk ((w.alloc (.cells #[.iface TSt (.pointer (some ⟨g, 0, none⟩))] 78)).alloc (.cells #[.string ⟨#[124, 124]⟩, .int .i64 n, .string ⟨nm.toArray⟩, .slice (some ⟨b, off, none⟩) 2 cap] 30)) w.heap.size 78 #[.iface TSt (.pointer (some ⟨g, 0, none⟩))] := (Bk.new w 78 #[.iface TSt (.pointer (some ⟨g, 0, none⟩))]).alloc _
  have kE : Bk ((w.alloc (.cells #[.iface TSt (.pointer (some ⟨g, 0, none⟩))] 78)).alloc (.cells #[.string ⟨#[124, 124]⟩, .int .i64 n, .string ⟨nm.toArray⟩, .slice (some ⟨b, off, none⟩) 2 cap] 30)) (w.heap.size + 1) 30 #[.string ⟨#[124, 124]⟩, .int .i64 n, .string ⟨nm.toArray⟩, .slice (some ⟨b, off, none⟩) 2 cap] := heap2_1 w _ _
  have hB0 : Below w.heap.size w ((w.alloc (.cells #[.iface TSt (.pointer (some ⟨g, 0, none⟩))] 78)).alloc (.cells #[.string ⟨#[124, 124]⟩, .int .i64 n, .string ⟨nm.toArray⟩, .slice (some ⟨b, off, none⟩) 2 cap] 30)) := ((Below.refl _ _).alloc (Nat.le_refl _) _).alloc (by simp) _
  have hsz0 : ((w.alloc (.cells #[.iface TSt (.pointer (some ⟨g, 0, none⟩))] 78)).alloc (.cells #[.string ⟨#[124, 124]⟩, .int .i64 n, .string ⟨nm.toArray⟩, .slice (some ⟨b, off, none⟩) 2 cap] 30)).heap.size = w.heap.size + 1 + 1 := by simp
  have px0 : ((w.alloc (.cells #[.iface TSt (.pointer (some ⟨g, 0, none⟩))] 78)).alloc (.cells #[.string ⟨#[124, 124]⟩, .int .i64 n, .string ⟨nm.toArray⟩, .slice (some ⟨b, off, none⟩) 2 cap] 30)).cell? ⟨b, off, none⟩ = some (.string ⟨x.op.toArray⟩) := al (al qx0)
  have px1 : ((w.alloc (.cells #[.iface TSt (.pointer (some ⟨g, 0, none⟩))] 78)).alloc (.cells #[.string ⟨#[124, 124]⟩, .int .i64 n, .string ⟨nm.toArray⟩, .slice (some ⟨b, off, none⟩) 2 cap] 30)).cell? ⟨b, off + 1, none⟩ = some (.int .i64 x.num) := al (al qx1)
  have px2 : ((w.alloc (.cells #[.iface TSt (.pointer (some ⟨g, 0, none⟩))] 78)).alloc (.cells #[.string ⟨#[124, 124]⟩, .int .i64 n, .string ⟨nm.toArray⟩, .slice (some ⟨b, off, none⟩) 2 cap] 30)).cell? ⟨b, off + 2, none⟩ = some (.string ⟨x.name.toArray⟩) := al (al qx2)
  have px3 : ((w.alloc (.cells #[.iface TSt (.pointer (some ⟨g, 0, none⟩))] 78)).alloc (.cells #[.string ⟨#[124, 124]⟩, .int .i64 n, .string ⟨nm.toArray⟩, .slice (some ⟨b, off, none⟩) 2 cap] 30)).cell? ⟨b, off + 3, none⟩ = some (.slice Ax x.kids.len capx) := al (al qx3)
  have py0 : ((w.alloc (.cells #[.iface TSt (.pointer (some ⟨g, 0, none⟩))] 78)).alloc (.cells #[.string ⟨#[124, 124]⟩, .int .i64 n, .string ⟨nm.toArray⟩, .slice (some ⟨b, off, none⟩) 2 cap] 30)).cell? ⟨b, off + 4, none⟩ = some (.string ⟨y.op.toArray⟩) := al (al qy0)
  have py1 : ((w.alloc (.cells #[.iface TSt (.pointer (some ⟨g, 0, none⟩))] 78)).alloc (.cells #[.string ⟨#[124, 124]⟩, .int .i64 n, .string ⟨nm.toArray⟩, .slice (some ⟨b, off, none⟩) 2 cap] 30)).cell? ⟨b, off + 5, none⟩ = some (.int .i64 y.num) := al (al qy1)
  have py2 : ((w.alloc (.cells #[.iface TSt (.pointer (some ⟨g, 0, none⟩))] 78)).alloc (.cells #[.string ⟨#[124, 124]⟩, .int .i64 n, .string ⟨nm.toArray⟩, .slice (some ⟨b, off, none⟩) 2 cap] 30)).cell? ⟨b, off + 6, none⟩ = some (.string ⟨y.name.toArray⟩) := al (al qy2)
  have py3 : ((w.alloc (.cells #[.iface TSt (.pointer (some ⟨g, 0, none⟩))] 78)).alloc (.cells #[.string ⟨#[124, 124]⟩, .int .i64 n, .string ⟨nm.toArray⟩, .slice (some ⟨b, off, none⟩) 2 cap] 30)).cell? ⟨b, off + 7, none⟩ = some (.slice Ay y.kids.len capy) := al (al qy3)
  go_enter Tryz.func37, Tryz.ntmps37
  go_wp2_with fail
  obtain ⟨W0, hW0⟩ : ∃ W0, W0 = ((w.alloc (.cells #[.iface TSt (.pointer (some ⟨g, 0, none⟩))] 78)).alloc (.cells #[.string ⟨#[124, 124]⟩, .int .i64 n, .string ⟨nm.toArray⟩, .slice (some ⟨b, off, none⟩) 2 cap] 30)) := ⟨_, rfl⟩
  rw [← hW0] at kV kE hB0 hsz0 px0 px1 px2 px3 py0 py1 py2 py3
  rw [← hW0]
  clear hW0 qx0 qx1 qx2 qx3 qy0 qy1 qy2 qy3
  have v0 := kV.cell 0 _ rfl
  obtain ⟨c0, c1, c2, c3⟩ := kE.cells4
  have fV : Free W0 g u w.heap.size := hV.new hB0 (Nat.le_refl _) (by omega)
  have fE : Free W0 g u (w.heap.size + 1) := hV.new hB0 (by omega) (by omega)
  have fB : Free W0 g u b := (TStep.below (g := g) (u := u) hB0).free hPx
  have ST := hid (TStep.below (g := g) (u := u) hB0)
  have VI := hid (hV.below hB0)
  have HS0 := hid hV.short
  have HXx := hid (hrx.step (TStep.below (g := g) (u := u) hB0))
  have HXy := hid (hry.step (TStep.below (g := g) (u := u) hB0))
  clear kV kE hB0 hsz0 hV hr hcap hkids hrx hPx hry hPy
  have hszx := HSZ.out
  have HVAL : Hid (∀ T, valF (.mk [124, 124] n nm (.cons x (.cons y .nil))) T = thenV (valF x T) fun a T1 => if a = 0 then thenV (valF y T1) fun b T2 => (.ok (if b = 0 then 0 else 1), T2) else (.ok 1, T1)) := hid (fun T => rfl)
  have stq := TStep.below (g := g) (u := u) ((Below.refl W0.heap.size W0).drew)
  have v0 := cell_step stq fV v0
  have c0 := cell_step stq fE c0
  have c1 := cell_step stq fE c1
  have c2 := cell_step stq fE c2
  have c3 := cell_step stq fE c3
  have px0 := cell_step stq fB px0
  have px1 := cell_step stq fB px1
  have px2 := cell_step stq fB px2
  have px3 := cell_step stq fB px3
  have py0 := cell_step stq fB py0
  have py1 := cell_step stq fB py1
  have py2 := cell_step stq fB py2
  have py3 := cell_step stq fB py3
  have fV := stq.free fV
  have fE := stq.free fE
  have fB := stq.free fB
  have ST := hid (ST.out.trans stq)
  have HXx := hid (HXx.out.step stq)
  have HXy := hid (HXy.out.step stq)
  have VI := hid (VI.out.below ((Below.refl W0.heap.size W0).drew))
  clear stq
  have HKF : Hid (kidsF [124, 124] = 2) := hid (by decide)
  refine wp_region_held_drew (S := (fun w' => w'.cell? ⟨w.heap.size, 0, none⟩ = some (.iface TSt (.pointer (some ⟨g, 0, none⟩))) ∧ w'.cell? ⟨w.heap.size + 1, 0, none⟩ = some (.string ⟨#[124, 124]⟩) ∧ w'.cell? ⟨w.heap.size + 1, 1, none⟩ = some (.int .i64 n) ∧ w'.cell? ⟨w.heap.size + 1, 2, none⟩ = some (.string ⟨nm.toArray⟩) ∧ w'.cell? ⟨w.heap.size + 1, 3, none⟩ = some (.slice (some ⟨b, off, none⟩) 2 cap) ∧ w'.cell? ⟨b, off, none⟩ = some (.string ⟨x.op.toArray⟩) ∧ w'.cell? ⟨b, off + 1, none⟩ = some (.int .i64 x.num) ∧ w'.cell? ⟨b, off + 2, none⟩ = some (.string ⟨x.name.toArray⟩) ∧ w'.cell? ⟨b, off + 3, none⟩ = some (.slice Ax x.kids.len capx) ∧ w'.cell? ⟨b, off + 4, none⟩ = some (.string ⟨y.op.toArray⟩) ∧ w'.cell? ⟨b, off + 5, none⟩ = some (.int .i64 y.num) ∧ w'.cell? ⟨b, off + 6, none⟩ = some (.string ⟨y.name.toArray⟩) ∧ w'.cell? ⟨b, off + 7, none⟩ = some (.slice Ay y.kids.len capy))) (by kernel_rfl) ⟨v0, c0, c1, c2, c3, px0, px1, px2, px3, py0, py1, py2, py3⟩ (fun hHeld => ?_)
  refine takeYes (i := 0) (v := .pointer (some ⟨w.heap.size + 1, 3, none⟩)) rfl (by kernel_rfl) (by kernel_rfl) (by kernel_rfl) (fun _ _ _ h => h) (by rfl) ?_ (by assumption) ?_
  · intro w hSw; obtain ⟨sq0, sq1, sq2, sq3, sq4, sq5, sq6, sq7, sq8, sq9, sq10, sq11, sq12⟩ := hSw; go_simp
  try simp only [Act.put, List.setIfInBounds_toArray, List.set_cons_zero, List.set_cons_succ]
  refine takeYes (i := 1) (v := .slice (some ⟨b, off, none⟩) 2 cap) rfl (by kernel_rfl) (by kernel_rfl) (by kernel_rfl) (fun _ _ _ h => h) (by rfl) ?_ (by assumption) ?_
  · intro w hSw; obtain ⟨sq0, sq1, sq2, sq3, sq4, sq5, sq6, sq7, sq8, sq9, sq10, sq11, sq12⟩ := hSw; go_simp
  try simp only [Act.put, List.setIfInBounds_toArray, List.set_cons_zero, List.set_cons_succ]
  refine takeYes (i := 2) (v := .int .i64 2) rfl (by kernel_rfl) (by kernel_rfl) (by kernel_rfl) (fun _ _ _ h => h) (by rfl) ?_ (by assumption) ?_
  · intro w hSw; obtain ⟨sq0, sq1, sq2, sq3, sq4, sq5, sq6, sq7, sq8, sq9, sq10, sq11, sq12⟩ := hSw; go_simp
  try simp only [Act.put, List.setIfInBounds_toArray, List.set_cons_zero, List.set_cons_succ]
  refine takeYes (i := 3) (v := .pointer (some ⟨w.heap.size + 1, 0, none⟩)) rfl (by kernel_rfl) (by kernel_rfl) (by kernel_rfl) (fun _ _ _ h => h) (by rfl) ?_ (by assumption) ?_
  · intro w hSw; obtain ⟨sq0, sq1, sq2, sq3, sq4, sq5, sq6, sq7, sq8, sq9, sq10, sq11, sq12⟩ := hSw; go_simp
  try simp only [Act.put, List.setIfInBounds_toArray, List.set_cons_zero, List.set_cons_succ]
  refine takeYes (i := 4) (v := .string ⟨#[124, 124]⟩) rfl (by kernel_rfl) (by kernel_rfl) (by kernel_rfl) (fun _ _ _ h => h) (by rfl) ?_ (by assumption) ?_
  · intro w hSw; obtain ⟨sq0, sq1, sq2, sq3, sq4, sq5, sq6, sq7, sq8, sq9, sq10, sq11, sq12⟩ := hSw; go_simp
  try simp only [Act.put, List.setIfInBounds_toArray, List.set_cons_zero, List.set_cons_succ]
  refine wpAnyH_ready (rs := [5]) (by kernel_rfl) (by simp) ?_
  refine AllReadyH.cons rfl (fun K hK => ?_) AllReadyH.nil
  go_simp
  ((with_reducible refine (kids_any _ _).mono ?_); rintro e1 w1 ⟨rfl, hby⟩)
  rw [HKF.out]
  have stq := TStep.below (g := g) (u := u) hby
  have v0 := cell_step stq fV v0
  have c0 := cell_step stq fE c0
  have c1 := cell_step stq fE c1
  have c2 := cell_step stq fE c2
  have c3 := cell_step stq fE c3
  have px0 := cell_step stq fB px0
  have px1 := cell_step stq fB px1
  have px2 := cell_step stq fB px2
  have px3 := cell_step stq fB px3
  have py0 := cell_step stq fB py0
  have py1 := cell_step stq fB py1
  have py2 := cell_step stq fB py2
  have py3 := cell_step stq fB py3
  have fV := stq.free fV
  have fE := stq.free fE
  have fB := stq.free fB
  have ST := hid (ST.out.trans stq)
  have HXx := hid (HXx.out.step stq)
  have HXy := hid (HXy.out.step stq)
  have VI := hid (VI.out.below hby)
  clear stq hby
  go_wp2_with fail
  refine hK.out _ _ ?_ (fun hHeld => ?_)
  · exact ⟨v0, c0, c1, c2, c3, px0, px1, px2, px3, py0, py1, py2, py3⟩
  clear hK K
  try simp only [Act.put, List.setIfInBounds_toArray, List.set_cons_zero, List.set_cons_succ]
  refine takeYes (i := 6) (v := .bool false) rfl (by kernel_rfl) (by kernel_rfl) (by kernel_rfl) (fun _ _ _ h => h) (by rfl) ?_ (by assumption) ?_
  · intro w hSw; obtain ⟨sq0, sq1, sq2, sq3, sq4, sq5, sq6, sq7, sq8, sq9, sq10, sq11, sq12⟩ := hSw; go_simp
  try simp only [Act.put, List.setIfInBounds_toArray, List.set_cons_zero, List.set_cons_succ]
  refine wpAnyH_done (by kernel_rfl) ?_ _
  go_wp2_with fail
  ((with_reducible refine (isSet_any [124, 124] _).mono ?_); rintro e1 w2 ⟨rfl, rfl⟩)
  rw [show setF [124, 124] = false by decide]
  go_wp2_with fail
  have stq := TStep.below (g := g) (u := u) ((Below.refl w1.heap.size w1).drew)
  have v0 := cell_step stq fV v0
  have c0 := cell_step stq fE c0
  have c1 := cell_step stq fE c1
  have c2 := cell_step stq fE c2
  have c3 := cell_step stq fE c3
  have px0 := cell_step stq fB px0
  have px1 := cell_step stq fB px1
  have px2 := cell_step stq fB px2
  have px3 := cell_step stq fB px3
  have py0 := cell_step stq fB py0
  have py1 := cell_step stq fB py1
  have py2 := cell_step stq fB py2
  have py3 := cell_step stq fB py3
  have fV := stq.free fV
  have fE := stq.free fE
  have fB := stq.free fB
  have ST := hid (ST.out.trans stq)
  have HXx := hid (HXx.out.step stq)
  have HXy := hid (HXy.out.step stq)
  have VI := hid (VI.out.below ((Below.refl w1.heap.size w1).drew))
  clear stq
  refine wp_region_held_drew (S := (fun w' => w'.cell? ⟨w.heap.size, 0, none⟩ = some (.iface TSt (.pointer (some ⟨g, 0, none⟩))) ∧ w'.cell? ⟨w.heap.size + 1, 0, none⟩ = some (.string ⟨#[124, 124]⟩) ∧ w'.cell? ⟨w.heap.size + 1, 1, none⟩ = some (.int .i64 n) ∧ w'.cell? ⟨w.heap.size + 1, 2, none⟩ = some (.string ⟨nm.toArray⟩) ∧ w'.cell? ⟨w.heap.size + 1, 3, none⟩ = some (.slice (some ⟨b, off, none⟩) 2 cap) ∧ w'.cell? ⟨b, off, none⟩ = some (.string ⟨x.op.toArray⟩) ∧ w'.cell? ⟨b, off + 1, none⟩ = some (.int .i64 x.num) ∧ w'.cell? ⟨b, off + 2, none⟩ = some (.string ⟨x.name.toArray⟩) ∧ w'.cell? ⟨b, off + 3, none⟩ = some (.slice Ax x.kids.len capx) ∧ w'.cell? ⟨b, off + 4, none⟩ = some (.string ⟨y.op.toArray⟩) ∧ w'.cell? ⟨b, off + 5, none⟩ = some (.int .i64 y.num) ∧ w'.cell? ⟨b, off + 6, none⟩ = some (.string ⟨y.name.toArray⟩) ∧ w'.cell? ⟨b, off + 7, none⟩ = some (.slice Ay y.kids.len capy))) (by kernel_rfl) ⟨v0, c0, c1, c2, c3, px0, px1, px2, px3, py0, py1, py2, py3⟩ (fun hHeld => ?_)
  refine takeYes (i := 0) (v := .agg #[.iface TSt (.pointer (some ⟨g, 0, none⟩))]) rfl (by kernel_rfl) (by kernel_rfl) (by kernel_rfl) (fun _ _ _ h => h) (by rfl) ?_ (by assumption) ?_
  · intro w hSw; obtain ⟨sq0, sq1, sq2, sq3, sq4, sq5, sq6, sq7, sq8, sq9, sq10, sq11, sq12⟩ := hSw; go_simp
  try simp only [Act.put, List.setIfInBounds_toArray, List.set_cons_zero, List.set_cons_succ]
  refine takeYes (i := 1) (v := .pointer (some ⟨w.heap.size + 1, 3, none⟩)) rfl (by kernel_rfl) (by kernel_rfl) (by kernel_rfl) (fun _ _ _ h => h) (by rfl) ?_ (by assumption) ?_
  · intro w hSw; obtain ⟨sq0, sq1, sq2, sq3, sq4, sq5, sq6, sq7, sq8, sq9, sq10, sq11, sq12⟩ := hSw; go_simp
  try simp only [Act.put, List.setIfInBounds_toArray, List.set_cons_zero, List.set_cons_succ]
  refine takeYes (i := 2) (v := .slice (some ⟨b, off, none⟩) 2 cap) rfl (by kernel_rfl) (by kernel_rfl) (by kernel_rfl) (fun _ _ _ h => h) (by rfl) ?_ (by assumption) ?_
  · intro w hSw; obtain ⟨sq0, sq1, sq2, sq3, sq4, sq5, sq6, sq7, sq8, sq9, sq10, sq11, sq12⟩ := hSw; go_simp
  try simp only [Act.put, List.setIfInBounds_toArray, List.set_cons_zero, List.set_cons_succ]
  refine takeYes (i := 3) (v := .pointer (some ⟨b, off, none⟩)) rfl (by kernel_rfl) (by kernel_rfl) (by kernel_rfl) (fun _ _ _ h => h) (by rfl) ?_ (by assumption) ?_
  · intro w hSw; obtain ⟨sq0, sq1, sq2, sq3, sq4, sq5, sq6, sq7, sq8, sq9, sq10, sq11, sq12⟩ := hSw; go_simp
  try simp only [Act.put, List.setIfInBounds_toArray, List.set_cons_zero, List.set_cons_succ]
  refine takeYes (i := 4) (v := .agg #[.string ⟨x.op.toArray⟩, .int .i64 x.num, .string ⟨x.name.toArray⟩, .slice Ax x.kids.len capx]) rfl (by kernel_rfl) (by kernel_rfl) (by kernel_rfl) (fun _ _ _ h => h) (by rfl) ?_ (by assumption) ?_
  · intro w hSw; obtain ⟨sq0, sq1, sq2, sq3, sq4, sq5, sq6, sq7, sq8, sq9, sq10, sq11, sq12⟩ := hSw; go_simp
  try simp only [Act.put, List.setIfInBounds_toArray, List.set_cons_zero, List.set_cons_succ]
  refine wpAnyH_ready (rs := [5]) (by kernel_rfl) (by simp) ?_
  refine AllReadyH.cons rfl (fun K hK => ?_) AllReadyH.nil
  go_simp
  ((with_reducible refine (HKx.out.call _ g B T u _ HXx.out VI.out (by omega)).mono ?_); rintro e1 w5 ⟨u5, hst, htab, hm⟩)
  obtain ⟨r5, T5, hv5⟩ : ∃ r T1, valF x T = (r, T1) := ⟨_, _, rfl⟩
  rw [hv5] at htab hm
  obtain ⟨ha, hb, hc⟩ := val_after HOx.out VI.out.short hv5
  have v0 := cell_step hst fV v0
  have c0 := cell_step hst fE c0
  have c1 := cell_step hst fE c1
  have c2 := cell_step hst fE c2
  have c3 := cell_step hst fE c3
  have px0 := cell_step hst fB px0
  have px1 := cell_step hst fB px1
  have px2 := cell_step hst fB px2
  have px3 := cell_step hst fB px3
  have py0 := cell_step hst fB py0
  have py1 := cell_step hst fB py1
  have py2 := cell_step hst fB py2
  have py3 := cell_step hst fB py3
  have fV := hst.free fV
  have fE := hst.free fE
  have fB := hst.free fB
  have ST := hid (ST.out.trans hst)
  have HXx := hid (HXx.out.step hst)
  have HXy := hid (HXy.out.step hst)
  have VI := hid (VI.out.step hst htab ha)
  have HT5 := hid htab
  have HV5 := hid hv5
  clear hst htab ha hv5
  rcases r5 with er | n5
  · (dsimp only at hm; subst hm; exact ⟨rfl, ValPost.bad ST.out VI.out.tab (show thenV (valF x T) _ = _ by rw [HV5.out]; rfl)⟩)
  dsimp only at hm
  subst hm
  have HI5 := hid (hc _ rfl)
  clear hc
  go_wp2_with fail
  refine hK.out _ _ ?_ (fun hHeld => ?_)
  · exact ⟨v0, c0, c1, c2, c3, px0, px1, px2, px3, py0, py1, py2, py3⟩
  clear hK K
  try simp only [Act.put, List.setIfInBounds_toArray, List.set_cons_zero, List.set_cons_succ]
  by_cases h0 : n5 = 0
  · have H0 := hid h0
    subst h0
    refine takeYes (i := 6) (v := .bool false) rfl (by kernel_rfl) (by kernel_rfl) (by kernel_rfl) (fun _ _ _ h => h) (by rfl) ?_ (by assumption) ?_
    · intro w hSw; obtain ⟨sq0, sq1, sq2, sq3, sq4, sq5, sq6, sq7, sq8, sq9, sq10, sq11, sq12⟩ := hSw; go_simp
    try simp only [Act.put, List.setIfInBounds_toArray, List.set_cons_zero, List.set_cons_succ]
    refine takeYes (i := 7) (v := .bool false) rfl (by kernel_rfl) (by kernel_rfl) (by kernel_rfl) (fun _ _ _ h => h) (by rfl) ?_ (by assumption) ?_
    · intro w hSw; obtain ⟨sq0, sq1, sq2, sq3, sq4, sq5, sq6, sq7, sq8, sq9, sq10, sq11, sq12⟩ := hSw; go_simp
    try simp only [Act.put, List.setIfInBounds_toArray, List.set_cons_zero, List.set_cons_succ]
    refine takeYes (i := 8) (v := .agg #[.iface TSt (.pointer (some ⟨g, 0, none⟩))]) rfl (by kernel_rfl) (by kernel_rfl) (by kernel_rfl) (fun _ _ _ h => h) (by rfl) ?_ (by assumption) ?_
    · intro w hSw; obtain ⟨sq0, sq1, sq2, sq3, sq4, sq5, sq6, sq7, sq8, sq9, sq10, sq11, sq12⟩ := hSw; go_simp
    try simp only [Act.put, List.setIfInBounds_toArray, List.set_cons_zero, List.set_cons_succ]
    refine takeYes (i := 9) (v := .pointer (some ⟨w.heap.size + 1, 3, none⟩)) rfl (by kernel_rfl) (by kernel_rfl) (by kernel_rfl) (fun _ _ _ h => h) (by rfl) ?_ (by assumption) ?_
    · intro w hSw; obtain ⟨sq0, sq1, sq2, sq3, sq4, sq5, sq6, sq7, sq8, sq9, sq10, sq11, sq12⟩ := hSw; go_simp
    try simp only [Act.put, List.setIfInBounds_toArray, List.set_cons_zero, List.set_cons_succ]
    refine takeYes (i := 10) (v := .slice (some ⟨b, off, none⟩) 2 cap) rfl (by kernel_rfl) (by kernel_rfl) (by kernel_rfl) (fun _ _ _ h => h) (by rfl) ?_ (by assumption) ?_
    · intro w hSw; obtain ⟨sq0, sq1, sq2, sq3, sq4, sq5, sq6, sq7, sq8, sq9, sq10, sq11, sq12⟩ := hSw; go_simp
    try simp only [Act.put, List.setIfInBounds_toArray, List.set_cons_zero, List.set_cons_succ]
    refine takeYes (i := 11) (v := .pointer (some ⟨b, off + 4, none⟩)) rfl (by kernel_rfl) (by kernel_rfl) (by kernel_rfl) (fun _ _ _ h => h) (by rfl) ?_ (by assumption) ?_
    · intro w hSw; obtain ⟨sq0, sq1, sq2, sq3, sq4, sq5, sq6, sq7, sq8, sq9, sq10, sq11, sq12⟩ := hSw; go_simp
    try simp only [Act.put, List.setIfInBounds_toArray, List.set_cons_zero, List.set_cons_succ]
    refine takeYes (i := 12) (v := .agg #[.string ⟨y.op.toArray⟩, .int .i64 y.num, .string ⟨y.name.toArray⟩, .slice Ay y.kids.len capy]) rfl (by kernel_rfl) (by kernel_rfl) (by kernel_rfl) (fun _ _ _ h => h) (by rfl) ?_ (by assumption) ?_
    · intro w hSw; obtain ⟨sq0, sq1, sq2, sq3, sq4, sq5, sq6, sq7, sq8, sq9, sq10, sq11, sq12⟩ := hSw; go_simp
    try simp only [Act.put, List.setIfInBounds_toArray, List.set_cons_zero, List.set_cons_succ]
    refine wpAnyH_ready (rs := [13]) (by kernel_rfl) (by simp) ?_
    refine AllReadyH.cons rfl (fun K hK => ?_) AllReadyH.nil
    go_simp
    ((with_reducible refine (HKy.out.call _ g B T5 u5 _ HXy.out VI.out (by omega)).mono ?_); rintro e1 w6 ⟨u6, hst, htab, hm⟩)
    obtain ⟨r6, T6, hv6⟩ : ∃ r T1, valF y T5 = (r, T1) := ⟨_, _, rfl⟩
    rw [hv6] at htab hm
    obtain ⟨ha, hb, hc⟩ := val_after HOy.out VI.out.short hv6
    have v0 := cell_step hst fV v0
    have c0 := cell_step hst fE c0
    have c1 := cell_step hst fE c1
    have c2 := cell_step hst fE c2
    have c3 := cell_step hst fE c3
    have px0 := cell_step hst fB px0
    have px1 := cell_step hst fB px1
    have px2 := cell_step hst fB px2
    have px3 := cell_step hst fB px3
    have py0 := cell_step hst fB py0
    have py1 := cell_step hst fB py1
    have py2 := cell_step hst fB py2
    have py3 := cell_step hst fB py3
    have fV := hst.free fV
    have fE := hst.free fE
    have fB := hst.free fB
    have ST := hid (ST.out.trans hst)
    have HXx := hid (HXx.out.step hst)
    have HXy := hid (HXy.out.step hst)
    have VI := hid (VI.out.step hst htab ha)
    have HT6 := hid htab
    have HV6 := hid hv6
    clear hst htab ha hv6
    rcases r6 with er | n6
    · (dsimp only at hm; subst hm; exact ⟨rfl, ValPost.bad ST.out VI.out.tab (show _ = _ by rw [HVAL.out, HV5.out, thenV_ok, if_pos rfl, HV6.out]; rfl)⟩)
    dsimp only at hm
    subst hm
    have HI6 := hid (hc _ rfl)
    clear hc
    go_wp2_with fail
    refine hK.out _ _ ?_ (fun hHeld => ?_)
    · exact ⟨v0, c0, c1, c2, c3, px0, px1, px2, px3, py0, py1, py2, py3⟩
    clear hK K
    try simp only [Act.put, List.setIfInBounds_toArray, List.set_cons_zero, List.set_cons_succ]
    obtain ⟨o, ho⟩ : ∃ o, o = (n6 != 0) := ⟨_, rfl⟩
    have HO_ := hid ho
    clear ho
    refine takeYes (i := 14) (v := .bool o) rfl (by kernel_rfl) (by kernel_rfl) (by kernel_rfl) (fun _ _ _ h => h) (by rfl) ?_ (by assumption) ?_
    · intro w hSw; obtain ⟨sq0, sq1, sq2, sq3, sq4, sq5, sq6, sq7, sq8, sq9, sq10, sq11, sq12⟩ := hSw; go_simp; rw [HO_.out]
    try simp only [Act.put, List.setIfInBounds_toArray, List.set_cons_zero, List.set_cons_succ]
    refine takeYes (i := 15) (v := .bool o) rfl (by kernel_rfl) (by kernel_rfl) (by kernel_rfl) (fun _ _ _ h => h) (by rfl) ?_ (by assumption) ?_
    · intro w hSw; obtain ⟨sq0, sq1, sq2, sq3, sq4, sq5, sq6, sq7, sq8, sq9, sq10, sq11, sq12⟩ := hSw; go_simp
    try simp only [Act.put, List.setIfInBounds_toArray, List.set_cons_zero, List.set_cons_succ]
    refine wpAnyH_ready (rs := [16]) (by kernel_rfl) (by simp) ?_
    refine AllReadyH.cons rfl (fun K hK => ?_) AllReadyH.nil
    go_simp
    ((with_reducible refine (one_any _ _).mono ?_); rintro e1 w3 ⟨rfl, rfl⟩)
    obtain ⟨o2, ho2⟩ : ∃ o2, o2 = (if o = true then (1 : Int) else 0) := ⟨_, rfl⟩
    rw [← ho2]
    have HOV := hid ho2
    clear ho2
    go_wp2_with fail
    refine hK.out _ _ ?_ (fun hHeld => ?_)
    · assumption
    clear hK K
    try simp only [Act.put, List.setIfInBounds_toArray, List.set_cons_zero, List.set_cons_succ]
    refine takeYes (i := 17) (v := .int .i64 o2) rfl (by kernel_rfl) (by kernel_rfl) (by kernel_rfl) (fun _ _ _ h => h) (by rfl) ?_ (by assumption) ?_
    · intro w hSw; obtain ⟨sq0, sq1, sq2, sq3, sq4, sq5, sq6, sq7, sq8, sq9, sq10, sq11, sq12⟩ := hSw; go_simp
    try simp only [Act.put, List.setIfInBounds_toArray, List.set_cons_zero, List.set_cons_succ]
    refine wpAnyH_done (by kernel_rfl) ?_ _
    go_wp2_with fail
    go_ret
    refine ValPost.good (n := if n6 = 0 then 0 else 1) ST.out HT6.out (show _ = _ by rw [HVAL.out, HV5.out, thenV_ok, if_pos rfl, HV6.out]; rfl) ?_
    rw [HOV.out, HO_.out]
    by_cases h : n6 = 0 <;> simp [h]
  · have H0 := hid h0
    have hq : (n5 == 0) = false := by simpa using h0
    refine takeYes (i := 6) (v := .bool true) rfl (by kernel_rfl) (by kernel_rfl) (by kernel_rfl) (fun _ _ _ h => h) (by rfl) ?_ (by assumption) ?_
    · intro w hSw; obtain ⟨sq0, sq1, sq2, sq3, sq4, sq5, sq6, sq7, sq8, sq9, sq10, sq11, sq12⟩ := hSw; go_simp
    try simp only [Act.put, List.setIfInBounds_toArray, List.set_cons_zero, List.set_cons_succ]
    refine takeYes (i := 7) (v := .bool true) rfl (by kernel_rfl) (by kernel_rfl) (by kernel_rfl) (fun _ _ _ h => h) (by rfl) ?_ (by assumption) ?_
    · intro w hSw; obtain ⟨sq0, sq1, sq2, sq3, sq4, sq5, sq6, sq7, sq8, sq9, sq10, sq11, sq12⟩ := hSw; go_simp
    try simp only [Act.put, List.setIfInBounds_toArray, List.set_cons_zero, List.set_cons_succ]
    refine takeNo (i := 8) rfl (by kernel_rfl) (by kernel_rfl) (by kernel_rfl) (fun _ _ _ h => h) (by rfl) (by assumption) ?_
    try simp only [Act.put, List.setIfInBounds_toArray, List.set_cons_zero, List.set_cons_succ]
    refine takeNo (i := 9) rfl (by kernel_rfl) (by kernel_rfl) (by kernel_rfl) (fun _ _ _ h => h) (by rfl) (by assumption) ?_
    try simp only [Act.put, List.setIfInBounds_toArray, List.set_cons_zero, List.set_cons_succ]
    refine takeNo (i := 10) rfl (by kernel_rfl) (by kernel_rfl) (by kernel_rfl) (fun _ _ _ h => h) (by rfl) (by assumption) ?_
    try simp only [Act.put, List.setIfInBounds_toArray, List.set_cons_zero, List.set_cons_succ]
    refine takeNo (i := 11) rfl (by kernel_rfl) (by kernel_rfl) (by kernel_rfl) (fun _ _ _ h => h) (by rfl) (by assumption) ?_
    try simp only [Act.put, List.setIfInBounds_toArray, List.set_cons_zero, List.set_cons_succ]
    refine takeNo (i := 12) rfl (by kernel_rfl) (by kernel_rfl) (by kernel_rfl) (fun _ _ _ h => h) (by rfl) (by assumption) ?_
    try simp only [Act.put, List.setIfInBounds_toArray, List.set_cons_zero, List.set_cons_succ]
    refine takeNo (i := 13) rfl (by kernel_rfl) (by kernel_rfl) (by kernel_rfl) (fun _ _ _ h => h) (by rfl) (by assumption) ?_
    try simp only [Act.put, List.setIfInBounds_toArray, List.set_cons_zero, List.set_cons_succ]
    refine takeNo (i := 14) rfl (by kernel_rfl) (by kernel_rfl) (by kernel_rfl) (fun _ _ _ h => h) (by rfl) (by assumption) ?_
    try simp only [Act.put, List.setIfInBounds_toArray, List.set_cons_zero, List.set_cons_succ]
    refine takeYes (i := 15) (v := .bool true) rfl (by kernel_rfl) (by kernel_rfl) (by kernel_rfl) (fun _ _ _ h => h) (by rfl) ?_ (by assumption) ?_
    · intro w hSw; obtain ⟨sq0, sq1, sq2, sq3, sq4, sq5, sq6, sq7, sq8, sq9, sq10, sq11, sq12⟩ := hSw; go_simp
    try simp only [Act.put, List.setIfInBounds_toArray, List.set_cons_zero, List.set_cons_succ]
    refine wpAnyH_ready (rs := [16]) (by kernel_rfl) (by simp) ?_
    refine AllReadyH.cons rfl (fun K hK => ?_) AllReadyH.nil
    go_simp
    ((with_reducible refine (one_any _ _).mono ?_); rintro e1 w3 ⟨rfl, rfl⟩)
    go_wp2_with fail
    refine hK.out _ _ ?_ (fun hHeld => ?_)
    · assumption
    clear hK K
    try simp only [Act.put, List.setIfInBounds_toArray, List.set_cons_zero, List.set_cons_succ]
    refine takeYes (i := 17) (v := .int .i64 1) rfl (by kernel_rfl) (by kernel_rfl) (by kernel_rfl) (fun _ _ _ h => h) (by rfl) ?_ (by assumption) ?_
    · intro w hSw; obtain ⟨sq0, sq1, sq2, sq3, sq4, sq5, sq6, sq7, sq8, sq9, sq10, sq11, sq12⟩ := hSw; go_simp
    try simp only [Act.put, List.setIfInBounds_toArray, List.set_cons_zero, List.set_cons_succ]
    refine wpAnyH_done (by kernel_rfl) ?_ _
    go_wp2_with fail
    go_ret
    exact ValPost.good ST.out HT5.out (show _ = _ by rw [HVAL.out, HV5.out, thenV_ok, if_neg H0.out]) rfl
end Go.Proofs.YtadmmmehphhecaaGreatDoor
/- The walks of value of sums.valuer: two kids, three kids. -/
namespace Go.Proofs.YtadmmmehphhecaaGreatDoor
open Go.RowKit
set_option maxRecDepth 100000 in
set_option maxHeartbeats 4000000 in
theorem val_if (n : Int) (nm : List UInt8) (x y z : Ex) (hkx : ValC x) (hox : okF x = true) (hky : ValC y) (hoy : okF y = true) (hkz : ValC z) (hoz : okF z = true) : ValC (.mk [63] n nm (.cons x (.cons y (.cons z .nil)))) := by
  have HKx := hid hkx
  have HOx := hid hox
  clear hkx hox
  have HKy := hid hky
  have HOy := hid hoy
  clear hky hoy
  have HKz := hid hkz
  have HOz := hid hoz
  clear hkz hoz
  have HSZ : Hid (szF x + szF y + szF z ≤ szF (.mk [63] n nm (.cons x (.cons y (.cons z .nil))))) := hid (by simp only [szF, szL]; omega)
  intro w g B T u v hr hV hlen
  obtain ⟨A, cap, rfl, hcap, hkids⟩ := hr.form
  dsimp only [Ex.op, Ex.num, Ex.name, Ex.kids, Exs.len, Nat.zero_add, Nat.reduceAdd] at *
  obtain ⟨b, off, rfl⟩ := hkids.form_ (by simp [Exs.len])
  obtain ⟨Ax, capx, hPx, qx0, qx1, qx2, qx3, hrx, hkids⟩ := hkids.un
  obtain ⟨Ay, capy, hPy, qy0, qy1, qy2, qy3, hry, hkids⟩ := hkids.un
  obtain ⟨Az, capz, hPz, qz0, qz1, qz2, qz3, hrz, hkids⟩ := hkids.un
  unfold vw
  have kV : Bk ((w.alloc (.cells #[.iface TSt (.pointer (some ⟨g, 0, none⟩))] 78)).alloc (.cells #[.string ⟨#[63]⟩, .int .i64 n, .string ⟨nm.toArray⟩, .slice (some ⟨b, off, none⟩) 3 cap] 30)) w.heap.size 78 #[.iface TSt (.pointer (some ⟨g, 0, none⟩))] := (Bk.new w 78 #[.iface TSt (.pointer (some ⟨g, 0, none⟩))]).alloc _
  have kE : Bk ((w.alloc (.cells #[.iface TSt (.pointer (some ⟨g, 0, none⟩))] 78)).alloc (.cells #[.string ⟨#[63]⟩, .int .i64 n, .string ⟨nm.toArray⟩, .slice (some ⟨b, off, none⟩) 3 cap] 30)) (w.heap.size + 1) 30 #[.string ⟨#[63]⟩, .int .i64 n, .string ⟨nm.toArray⟩, .slice (some ⟨b, off, none⟩) 3 cap] := heap2_1 w _ _
  have hB0 : Below w.heap.size w ((w.alloc (.cells #[.iface TSt (.pointer (some ⟨g, 0, none⟩))] 78)).alloc (.cells #[.string ⟨#[63]⟩, .int .i64 n, .string ⟨nm.toArray⟩, .slice (some ⟨b, off, none⟩) 3 cap] 30)) := ((Below.refl _ _).alloc (Nat.le_refl _) _).alloc (by simp) _
  have hsz0 : ((w.alloc (.cells #[.iface TSt (.pointer (some ⟨g, 0, none⟩))] 78)).alloc (.cells #[.string ⟨#[63]⟩, .int .i64 n, .string ⟨nm.toArray⟩, .slice (some ⟨b, off, none⟩) 3 cap] 30)).heap.size = w.heap.size + 1 + 1 := by simp
  have px0 : ((w.alloc (.cells #[.iface TSt (.pointer (some ⟨g, 0, none⟩))] 78)).alloc (.cells #[.string ⟨#[63]⟩, .int .i64 n, .string ⟨nm.toArray⟩, .slice (some ⟨b, off, none⟩) 3 cap] 30)).cell? ⟨b, off, none⟩ = some (.string ⟨x.op.toArray⟩) := al (al qx0)
  have px1 : ((w.alloc (.cells #[.iface TSt (.pointer (some ⟨g, 0, none⟩))] 78)).alloc (.cells #[.string ⟨#[63]⟩, .int .i64 n, .string ⟨nm.toArray⟩, .slice (some ⟨b, off, none⟩) 3 cap] 30)).cell? ⟨b, off + 1, none⟩ = some (.int .i64 x.num) := al (al qx1)
  have px2 : ((w.alloc (.cells #[.iface TSt (.pointer (some ⟨g, 0, none⟩))] 78)).alloc (.cells #[.string ⟨#[63]⟩, .int .i64 n, .string ⟨nm.toArray⟩, .slice (some ⟨b, off, none⟩) 3 cap] 30)).cell? ⟨b, off + 2, none⟩ = some (.string ⟨x.name.toArray⟩) := al (al qx2)
  have px3 : ((w.alloc (.cells #[.iface TSt (.pointer (some ⟨g, 0, none⟩))] 78)).alloc (.cells #[.string ⟨#[63]⟩, .int .i64 n, .string ⟨nm.toArray⟩, .slice (some ⟨b, off, none⟩) 3 cap] 30)).cell? ⟨b, off + 3, none⟩ = some (.slice Ax x.kids.len capx) := al (al qx3)
  have py0 : ((w.alloc (.cells #[.iface TSt (.pointer (some ⟨g, 0, none⟩))] 78)).alloc (.cells #[.string ⟨#[63]⟩, .int .i64 n, .string ⟨nm.toArray⟩, .slice (some ⟨b, off, none⟩) 3 cap] 30)).cell? ⟨b, off + 4, none⟩ = some (.string ⟨y.op.toArray⟩) := al (al qy0)
  have py1 : ((w.alloc (.cells #[.iface TSt (.pointer (some ⟨g, 0, none⟩))] 78)).alloc (.cells #[.string ⟨#[63]⟩, .int .i64 n, .string ⟨nm.toArray⟩, .slice (some ⟨b, off, none⟩) 3 cap] 30)).cell? ⟨b, off + 5, none⟩ = some (.int .i64 y.num) := al (al qy1)
  have py2 : ((w.alloc (.cells #[.iface TSt (.pointer (some ⟨g, 0, none⟩))] 78)).alloc (.cells #[.string ⟨#[63]⟩, .int .i64 n, .string ⟨nm.toArray⟩, .slice (some ⟨b, off, none⟩) 3 cap] 30)).cell? ⟨b, off + 6, none⟩ = some (.string ⟨y.name.toArray⟩) := al (al qy2)
  have py3 : ((w.alloc (.cells #[.iface TSt (.pointer (some ⟨g, 0, none⟩))] 78)).alloc (.cells #[.string ⟨#[63]⟩, .int .i64 n, .string ⟨nm.toArray⟩, .slice (some ⟨b, off, none⟩) 3 cap] 30)).cell? ⟨b, off + 7, none⟩ = some (.slice Ay y.kids.len capy) := al (al qy3)
  have pz0 : ((w.alloc (.cells #[.iface TSt (.pointer (some ⟨g, 0, none⟩))] 78)).alloc (.cells #[.string ⟨#[63]⟩, .int .i64 n, .string ⟨nm.toArray⟩, .slice (some ⟨b, off, none⟩) 3 cap] 30)).cell? ⟨b, off + 8, none⟩ = some (.string ⟨z.op.toArray⟩) := al (al qz0)
  have pz1 : ((w.alloc (.cells #[.iface TSt (.pointer (some ⟨g, 0, none⟩))] 78)).alloc (.cells #[.string ⟨#[63]⟩, .int .i64 n, .string ⟨nm.toArray⟩, .slice (some ⟨b, off, none⟩) 3 cap] 30)).cell? ⟨b, off + 9, none⟩ = some (.int .i64 z.num) := al (al qz1)
  have pz2 : ((w.alloc (.cells #[.iface TSt (.pointer (some ⟨g, 0, none⟩))] 78)).alloc (.cells #[.string ⟨#[63]⟩, .int .i64 n, .string ⟨nm.toArray⟩, .slice (some ⟨b, off, none⟩) 3 cap] 30)).cell? ⟨b, off + 10, none⟩ = some (.string ⟨z.name.toArray⟩) := al (al qz2)
  have pz3 : ((w.alloc (.cells #[.iface TSt (.pointer (some ⟨g, 0, none⟩))] 78)).alloc (.cells #[.string ⟨#[63]⟩, .int .i64 n, .string ⟨nm.toArray⟩, .slice (some ⟨b, off, none⟩) 3 cap] 30)).cell? ⟨b, off + 11, none⟩ = some (.slice Az z.kids.len capz) := al (al qz3)
  go_enter Tryz.func37, Tryz.ntmps37
  go_wp2_with fail
  obtain ⟨W0, hW0⟩ : ∃ W0, W0 = ((w.alloc (.cells #[.iface TSt (.pointer (some ⟨g, 0, none⟩))] 78)).alloc (.cells #[.string ⟨#[63]⟩, .int .i64 n, .string ⟨nm.toArray⟩, .slice (some ⟨b, off, none⟩) 3 cap] 30)) := ⟨_, rfl⟩
  rw [← hW0] at kV kE hB0 hsz0 px0 px1 px2 px3 py0 py1 py2 py3 pz0 pz1 pz2 pz3
  rw [← hW0]
  clear hW0 qx0 qx1 qx2 qx3 qy0 qy1 qy2 qy3 qz0 qz1 qz2 qz3
  have v0 := kV.cell 0 _ rfl
  obtain ⟨c0, c1, c2, c3⟩ := kE.cells4
  have fV : Free W0 g u w.heap.size := hV.new hB0 (Nat.le_refl _) (by omega)
  have fE : Free W0 g u (w.heap.size + 1) := hV.new hB0 (by omega) (by omega)
  have fB : Free W0 g u b := (TStep.below (g := g) (u := u) hB0).free hPx
  have ST := hid (TStep.below (g := g) (u := u) hB0)
  have VI := hid (hV.below hB0)
  have HS0 := hid hV.short
  have HXx := hid (hrx.step (TStep.below (g := g) (u := u) hB0))
  have HXy := hid (hry.step (TStep.below (g := g) (u := u) hB0))
  have HXz := hid (hrz.step (TStep.below (g := g) (u := u) hB0))
  clear kV kE hB0 hsz0 hV hr hcap hkids hrx hPx hry hPy hrz hPz
  have hszx := HSZ.out
  have HVAL : Hid (∀ T, valF (.mk [63] n nm (.cons x (.cons y (.cons z .nil)))) T = thenV (valF x T) fun a T1 => if a = 0 then valF z T1 else valF y T1) := hid (fun T => rfl)
  have stq := TStep.below (g := g) (u := u) ((Below.refl W0.heap.size W0).drew)
  have v0 := cell_step stq fV v0
  have c0 := cell_step stq fE c0
  have c1 := cell_step stq fE c1
  have c2 := cell_step stq fE c2
  have c3 := cell_step stq fE c3
  have px0 := cell_step stq fB px0
  have px1 := cell_step stq fB px1
  have px2 := cell_step stq fB px2
  have px3 := cell_step stq fB px3
  have py0 := cell_step stq fB py0
  have py1 := cell_step stq fB py1
  have py2 := cell_step stq fB py2
  have py3 := cell_step stq fB py3
  have pz0 := cell_step stq fB pz0
  have pz1 := cell_step stq fB pz1
  have pz2 := cell_step stq fB pz2
  have pz3 := cell_step stq fB pz3
  have fV := stq.free fV
  have fE := stq.free fE
  have fB := stq.free fB
  have ST := hid (ST.out.trans stq)
  have HXx := hid (HXx.out.step stq)
  have HXy := hid (HXy.out.step stq)
  have HXz := hid (HXz.out.step stq)
  have VI := hid (VI.out.below ((Below.refl W0.heap.size W0).drew))
  clear stq
  have HKF : Hid (kidsF [63] = 3) := hid (by decide)
  refine wp_region_held_drew (S := (fun w' => w'.cell? ⟨w.heap.size, 0, none⟩ = some (.iface TSt (.pointer (some ⟨g, 0, none⟩))) ∧ w'.cell? ⟨w.heap.size + 1, 0, none⟩ = some (.string ⟨#[63]⟩) ∧ w'.cell? ⟨w.heap.size + 1, 1, none⟩ = some (.int .i64 n) ∧ w'.cell? ⟨w.heap.size + 1, 2, none⟩ = some (.string ⟨nm.toArray⟩) ∧ w'.cell? ⟨w.heap.size + 1, 3, none⟩ = some (.slice (some ⟨b, off, none⟩) 3 cap) ∧ w'.cell? ⟨b, off, none⟩ = some (.string ⟨x.op.toArray⟩) ∧ w'.cell? ⟨b, off + 1, none⟩ = some (.int .i64 x.num) ∧ w'.cell? ⟨b, off + 2, none⟩ = some (.string ⟨x.name.toArray⟩) ∧ w'.cell? ⟨b, off + 3, none⟩ = some (.slice Ax x.kids.len capx) ∧ w'.cell? ⟨b, off + 4, none⟩ = some (.string ⟨y.op.toArray⟩) ∧ w'.cell? ⟨b, off + 5, none⟩ = some (.int .i64 y.num) ∧ w'.cell? ⟨b, off + 6, none⟩ = some (.string ⟨y.name.toArray⟩) ∧ w'.cell? ⟨b, off + 7, none⟩ = some (.slice Ay y.kids.len capy) ∧ w'.cell? ⟨b, off + 8, none⟩ = some (.string ⟨z.op.toArray⟩) ∧ w'.cell? ⟨b, off + 9, none⟩ = some (.int .i64 z.num) ∧ w'.cell? ⟨b, off + 10, none⟩ = some (.string ⟨z.name.toArray⟩) ∧ w'.cell? ⟨b, off + 11, none⟩ = some (.slice Az z.kids.len capz))) (by kernel_rfl) ⟨v0, c0, c1, c2, c3, px0, px1, px2, px3, py0, py1, py2, py3, pz0, pz1, pz2, pz3⟩ (fun hHeld => ?_)
  refine takeYes (i := 0) (v := .pointer (some ⟨w.heap.size + 1, 3, none⟩)) rfl (by kernel_rfl) (by kernel_rfl) (by kernel_rfl) (fun _ _ _ h => h) (by rfl) ?_ (by assumption) ?_
  · intro w hSw; obtain ⟨sq0, sq1, sq2, sq3, sq4, sq5, sq6, sq7, sq8, sq9, sq10, sq11, sq12, sq13, sq14, sq15, sq16⟩ := hSw; go_simp
  try simp only [Act.put, List.setIfInBounds_toArray, List.set_cons_zero, List.set_cons_succ]
  refine takeYes (i := 1) (v := .slice (some ⟨b, off, none⟩) 3 cap) rfl (by kernel_rfl) (by kernel_rfl) (by kernel_rfl) (fun _ _ _ h => h) (by rfl) ?_ (by assumption) ?_
  · intro w hSw; obtain ⟨sq0, sq1, sq2, sq3, sq4, sq5, sq6, sq7, sq8, sq9, sq10, sq11, sq12, sq13, sq14, sq15, sq16⟩ := hSw; go_simp
  try simp only [Act.put, List.setIfInBounds_toArray, List.set_cons_zero, List.set_cons_succ]
  refine takeYes (i := 2) (v := .int .i64 3) rfl (by kernel_rfl) (by kernel_rfl) (by kernel_rfl) (fun _ _ _ h => h) (by rfl) ?_ (by assumption) ?_
  · intro w hSw; obtain ⟨sq0, sq1, sq2, sq3, sq4, sq5, sq6, sq7, sq8, sq9, sq10, sq11, sq12, sq13, sq14, sq15, sq16⟩ := hSw; go_simp
  try simp only [Act.put, List.setIfInBounds_toArray, List.set_cons_zero, List.set_cons_succ]
  refine takeYes (i := 3) (v := .pointer (some ⟨w.heap.size + 1, 0, none⟩)) rfl (by kernel_rfl) (by kernel_rfl) (by kernel_rfl) (fun _ _ _ h => h) (by rfl) ?_ (by assumption) ?_
  · intro w hSw; obtain ⟨sq0, sq1, sq2, sq3, sq4, sq5, sq6, sq7, sq8, sq9, sq10, sq11, sq12, sq13, sq14, sq15, sq16⟩ := hSw; go_simp
  try simp only [Act.put, List.setIfInBounds_toArray, List.set_cons_zero, List.set_cons_succ]
  refine takeYes (i := 4) (v := .string ⟨#[63]⟩) rfl (by kernel_rfl) (by kernel_rfl) (by kernel_rfl) (fun _ _ _ h => h) (by rfl) ?_ (by assumption) ?_
  · intro w hSw; obtain ⟨sq0, sq1, sq2, sq3, sq4, sq5, sq6, sq7, sq8, sq9, sq10, sq11, sq12, sq13, sq14, sq15, sq16⟩ := hSw; go_simp
  try simp only [Act.put, List.setIfInBounds_toArray, List.set_cons_zero, List.set_cons_succ]
  refine wpAnyH_ready (rs := [5]) (by kernel_rfl) (by simp) ?_
  refine AllReadyH.cons rfl (fun K hK => ?_) AllReadyH.nil
  go_simp
  ((with_reducible refine (kids_any _ _).mono ?_); rintro e1 w1 ⟨rfl, hby⟩)
  rw [HKF.out]
  have stq := TStep.below (g := g) (u := u) hby
  have v0 := cell_step stq fV v0
  have c0 := cell_step stq fE c0
  have c1 := cell_step stq fE c1
  have c2 := cell_step stq fE c2
  have c3 := cell_step stq fE c3
  have px0 := cell_step stq fB px0
  have px1 := cell_step stq fB px1
  have px2 := cell_step stq fB px2
  have px3 := cell_step stq fB px3
  have py0 := cell_step stq fB py0
  have py1 := cell_step stq fB py1
  have py2 := cell_step stq fB py2
  have py3 := cell_step stq fB py3
  have pz0 := cell_step stq fB pz0
  have pz1 := cell_step stq fB pz1
  have pz2 := cell_step stq fB pz2
  have pz3 := cell_step stq fB pz3
  have fV := stq.free fV
  have fE := stq.free fE
  have fB := stq.free fB
  have ST := hid (ST.out.trans stq)
  have HXx := hid (HXx.out.step stq)
  have HXy := hid (HXy.out.step stq)
  have HXz := hid (HXz.out.step stq)
  have VI := hid (VI.out.below hby)
  clear stq hby
  go_wp2_with fail
  refine hK.out _ _ ?_ (fun hHeld => ?_)
  · exact ⟨v0, c0, c1, c2, c3, px0, px1, px2, px3, py0, py1, py2, py3, pz0, pz1, pz2, pz3⟩
  clear hK K
  try simp only [Act.put, List.setIfInBounds_toArray, List.set_cons_zero, List.set_cons_succ]
  refine takeYes (i := 6) (v := .bool false) rfl (by kernel_rfl) (by kernel_rfl) (by kernel_rfl) (fun _ _ _ h => h) (by rfl) ?_ (by assumption) ?_
  · intro w hSw; obtain ⟨sq0, sq1, sq2, sq3, sq4, sq5, sq6, sq7, sq8, sq9, sq10, sq11, sq12, sq13, sq14, sq15, sq16⟩ := hSw; go_simp
  try simp only [Act.put, List.setIfInBounds_toArray, List.set_cons_zero, List.set_cons_succ]
  refine wpAnyH_done (by kernel_rfl) ?_ _
  go_wp2_with fail
  ((with_reducible refine (isSet_any [63] _).mono ?_); rintro e1 w2 ⟨rfl, rfl⟩)
  rw [show setF [63] = false by decide]
  go_wp2_with fail
  have stq := TStep.below (g := g) (u := u) ((Below.refl w1.heap.size w1).drew)
  have v0 := cell_step stq fV v0
  have c0 := cell_step stq fE c0
  have c1 := cell_step stq fE c1
  have c2 := cell_step stq fE c2
  have c3 := cell_step stq fE c3
  have px0 := cell_step stq fB px0
  have px1 := cell_step stq fB px1
  have px2 := cell_step stq fB px2
  have px3 := cell_step stq fB px3
  have py0 := cell_step stq fB py0
  have py1 := cell_step stq fB py1
  have py2 := cell_step stq fB py2
  have py3 := cell_step stq fB py3
  have pz0 := cell_step stq fB pz0
  have pz1 := cell_step stq fB pz1
  have pz2 := cell_step stq fB pz2
  have pz3 := cell_step stq fB pz3
  have fV := stq.free fV
  have fE := stq.free fE
  have fB := stq.free fB
  have ST := hid (ST.out.trans stq)
  have HXx := hid (HXx.out.step stq)
  have HXy := hid (HXy.out.step stq)
  have HXz := hid (HXz.out.step stq)
  have VI := hid (VI.out.below ((Below.refl w1.heap.size w1).drew))
  clear stq
  refine wp_region_held_drew (S := (fun w' => w'.cell? ⟨w.heap.size, 0, none⟩ = some (.iface TSt (.pointer (some ⟨g, 0, none⟩))) ∧ w'.cell? ⟨w.heap.size + 1, 0, none⟩ = some (.string ⟨#[63]⟩) ∧ w'.cell? ⟨w.heap.size + 1, 1, none⟩ = some (.int .i64 n) ∧ w'.cell? ⟨w.heap.size + 1, 2, none⟩ = some (.string ⟨nm.toArray⟩) ∧ w'.cell? ⟨w.heap.size + 1, 3, none⟩ = some (.slice (some ⟨b, off, none⟩) 3 cap) ∧ w'.cell? ⟨b, off, none⟩ = some (.string ⟨x.op.toArray⟩) ∧ w'.cell? ⟨b, off + 1, none⟩ = some (.int .i64 x.num) ∧ w'.cell? ⟨b, off + 2, none⟩ = some (.string ⟨x.name.toArray⟩) ∧ w'.cell? ⟨b, off + 3, none⟩ = some (.slice Ax x.kids.len capx) ∧ w'.cell? ⟨b, off + 4, none⟩ = some (.string ⟨y.op.toArray⟩) ∧ w'.cell? ⟨b, off + 5, none⟩ = some (.int .i64 y.num) ∧ w'.cell? ⟨b, off + 6, none⟩ = some (.string ⟨y.name.toArray⟩) ∧ w'.cell? ⟨b, off + 7, none⟩ = some (.slice Ay y.kids.len capy) ∧ w'.cell? ⟨b, off + 8, none⟩ = some (.string ⟨z.op.toArray⟩) ∧ w'.cell? ⟨b, off + 9, none⟩ = some (.int .i64 z.num) ∧ w'.cell? ⟨b, off + 10, none⟩ = some (.string ⟨z.name.toArray⟩) ∧ w'.cell? ⟨b, off + 11, none⟩ = some (.slice Az z.kids.len capz))) (by kernel_rfl) ⟨v0, c0, c1, c2, c3, px0, px1, px2, px3, py0, py1, py2, py3, pz0, pz1, pz2, pz3⟩ (fun hHeld => ?_)
  refine takeYes (i := 0) (v := .agg #[.iface TSt (.pointer (some ⟨g, 0, none⟩))]) rfl (by kernel_rfl) (by kernel_rfl) (by kernel_rfl) (fun _ _ _ h => h) (by rfl) ?_ (by assumption) ?_
  · intro w hSw; obtain ⟨sq0, sq1, sq2, sq3, sq4, sq5, sq6, sq7, sq8, sq9, sq10, sq11, sq12, sq13, sq14, sq15, sq16⟩ := hSw; go_simp
  try simp only [Act.put, List.setIfInBounds_toArray, List.set_cons_zero, List.set_cons_succ]
  refine takeYes (i := 1) (v := .pointer (some ⟨w.heap.size + 1, 3, none⟩)) rfl (by kernel_rfl) (by kernel_rfl) (by kernel_rfl) (fun _ _ _ h => h) (by rfl) ?_ (by assumption) ?_
  · intro w hSw; obtain ⟨sq0, sq1, sq2, sq3, sq4, sq5, sq6, sq7, sq8, sq9, sq10, sq11, sq12, sq13, sq14, sq15, sq16⟩ := hSw; go_simp
  try simp only [Act.put, List.setIfInBounds_toArray, List.set_cons_zero, List.set_cons_succ]
  refine takeYes (i := 2) (v := .slice (some ⟨b, off, none⟩) 3 cap) rfl (by kernel_rfl) (by kernel_rfl) (by kernel_rfl) (fun _ _ _ h => h) (by rfl) ?_ (by assumption) ?_
  · intro w hSw; obtain ⟨sq0, sq1, sq2, sq3, sq4, sq5, sq6, sq7, sq8, sq9, sq10, sq11, sq12, sq13, sq14, sq15, sq16⟩ := hSw; go_simp
  try simp only [Act.put, List.setIfInBounds_toArray, List.set_cons_zero, List.set_cons_succ]
  refine takeYes (i := 3) (v := .pointer (some ⟨b, off, none⟩)) rfl (by kernel_rfl) (by kernel_rfl) (by kernel_rfl) (fun _ _ _ h => h) (by rfl) ?_ (by assumption) ?_
  · intro w hSw; obtain ⟨sq0, sq1, sq2, sq3, sq4, sq5, sq6, sq7, sq8, sq9, sq10, sq11, sq12, sq13, sq14, sq15, sq16⟩ := hSw; go_simp
  try simp only [Act.put, List.setIfInBounds_toArray, List.set_cons_zero, List.set_cons_succ]
  refine takeYes (i := 4) (v := .agg #[.string ⟨x.op.toArray⟩, .int .i64 x.num, .string ⟨x.name.toArray⟩, .slice Ax x.kids.len capx]) rfl (by kernel_rfl) (by kernel_rfl) (by kernel_rfl) (fun _ _ _ h => h) (by rfl) ?_ (by assumption) ?_
  · intro w hSw; obtain ⟨sq0, sq1, sq2, sq3, sq4, sq5, sq6, sq7, sq8, sq9, sq10, sq11, sq12, sq13, sq14, sq15, sq16⟩ := hSw; go_simp
  try simp only [Act.put, List.setIfInBounds_toArray, List.set_cons_zero, List.set_cons_succ]
  refine wpAnyH_ready (rs := [5]) (by kernel_rfl) (by simp) ?_
  refine AllReadyH.cons rfl (fun K hK => ?_) AllReadyH.nil
  go_simp
  ((with_reducible refine (HKx.out.call _ g B T u _ HXx.out VI.out (by omega)).mono ?_); rintro e1 w5 ⟨u5, hst, htab, hm⟩)
  obtain ⟨r5, T5, hv5⟩ : ∃ r T1, valF x T = (r, T1) := ⟨_, _, rfl⟩
  rw [hv5] at htab hm
  obtain ⟨ha, hb, hc⟩ := val_after HOx.out VI.out.short hv5
  have v0 := cell_step hst fV v0
  have c0 := cell_step hst fE c0
  have c1 := cell_step hst fE c1
  have c2 := cell_step hst fE c2
  have c3 := cell_step hst fE c3
  have px0 := cell_step hst fB px0
  have px1 := cell_step hst fB px1
  have px2 := cell_step hst fB px2
  have px3 := cell_step hst fB px3
  have py0 := cell_step hst fB py0
  have py1 := cell_step hst fB py1
  have py2 := cell_step hst fB py2
  have py3 := cell_step hst fB py3
  have pz0 := cell_step hst fB pz0
  have pz1 := cell_step hst fB pz1
  have pz2 := cell_step hst fB pz2
  have pz3 := cell_step hst fB pz3
  have fV := hst.free fV
  have fE := hst.free fE
  have fB := hst.free fB
  have ST := hid (ST.out.trans hst)
  have HXx := hid (HXx.out.step hst)
  have HXy := hid (HXy.out.step hst)
  have HXz := hid (HXz.out.step hst)
  have VI := hid (VI.out.step hst htab ha)
  have HT5 := hid htab
  have HV5 := hid hv5
  clear hst htab ha hv5
  rcases r5 with er | n5
  · (dsimp only at hm; subst hm; exact ⟨rfl, ValPost.bad ST.out VI.out.tab (show thenV (valF x T) _ = _ by rw [HV5.out]; rfl)⟩)
  dsimp only at hm
  subst hm
  have HI5 := hid (hc _ rfl)
  clear hc
  go_wp2_with fail
  refine hK.out _ _ ?_ (fun hHeld => ?_)
  · exact ⟨v0, c0, c1, c2, c3, px0, px1, px2, px3, py0, py1, py2, py3, pz0, pz1, pz2, pz3⟩
  clear hK K
  try simp only [Act.put, List.setIfInBounds_toArray, List.set_cons_zero, List.set_cons_succ]
  by_cases h0 : n5 = 0
  · have H0 := hid h0
    subst h0
    refine takeYes (i := 6) (v := .bool false) rfl (by kernel_rfl) (by kernel_rfl) (by kernel_rfl) (fun _ _ _ h => h) (by rfl) ?_ (by assumption) ?_
    · intro w hSw; obtain ⟨sq0, sq1, sq2, sq3, sq4, sq5, sq6, sq7, sq8, sq9, sq10, sq11, sq12, sq13, sq14, sq15, sq16⟩ := hSw; go_simp
    try simp only [Act.put, List.setIfInBounds_toArray, List.set_cons_zero, List.set_cons_succ]
    refine wpAnyH_done (by kernel_rfl) ?_ _
    go_wp2_with fail
    have stq := TStep.below (g := g) (u := u5) ((Below.refl w5.heap.size w5).drew)
    have v0 := cell_step stq fV v0
    have c0 := cell_step stq fE c0
    have c1 := cell_step stq fE c1
    have c2 := cell_step stq fE c2
    have c3 := cell_step stq fE c3
    have px0 := cell_step stq fB px0
    have px1 := cell_step stq fB px1
    have px2 := cell_step stq fB px2
    have px3 := cell_step stq fB px3
    have py0 := cell_step stq fB py0
    have py1 := cell_step stq fB py1
    have py2 := cell_step stq fB py2
    have py3 := cell_step stq fB py3
    have pz0 := cell_step stq fB pz0
    have pz1 := cell_step stq fB pz1
    have pz2 := cell_step stq fB pz2
    have pz3 := cell_step stq fB pz3
    have fV := stq.free fV
    have fE := stq.free fE
    have fB := stq.free fB
    have ST := hid (ST.out.trans stq)
    have HXx := hid (HXx.out.step stq)
    have HXy := hid (HXy.out.step stq)
    have HXz := hid (HXz.out.step stq)
    have VI := hid (VI.out.below ((Below.refl w5.heap.size w5).drew))
    clear stq
    refine wp_region_held_drew (S := (fun w' => w'.cell? ⟨w.heap.size, 0, none⟩ = some (.iface TSt (.pointer (some ⟨g, 0, none⟩))) ∧ w'.cell? ⟨w.heap.size + 1, 0, none⟩ = some (.string ⟨#[63]⟩) ∧ w'.cell? ⟨w.heap.size + 1, 1, none⟩ = some (.int .i64 n) ∧ w'.cell? ⟨w.heap.size + 1, 2, none⟩ = some (.string ⟨nm.toArray⟩) ∧ w'.cell? ⟨w.heap.size + 1, 3, none⟩ = some (.slice (some ⟨b, off, none⟩) 3 cap) ∧ w'.cell? ⟨b, off, none⟩ = some (.string ⟨x.op.toArray⟩) ∧ w'.cell? ⟨b, off + 1, none⟩ = some (.int .i64 x.num) ∧ w'.cell? ⟨b, off + 2, none⟩ = some (.string ⟨x.name.toArray⟩) ∧ w'.cell? ⟨b, off + 3, none⟩ = some (.slice Ax x.kids.len capx) ∧ w'.cell? ⟨b, off + 4, none⟩ = some (.string ⟨y.op.toArray⟩) ∧ w'.cell? ⟨b, off + 5, none⟩ = some (.int .i64 y.num) ∧ w'.cell? ⟨b, off + 6, none⟩ = some (.string ⟨y.name.toArray⟩) ∧ w'.cell? ⟨b, off + 7, none⟩ = some (.slice Ay y.kids.len capy) ∧ w'.cell? ⟨b, off + 8, none⟩ = some (.string ⟨z.op.toArray⟩) ∧ w'.cell? ⟨b, off + 9, none⟩ = some (.int .i64 z.num) ∧ w'.cell? ⟨b, off + 10, none⟩ = some (.string ⟨z.name.toArray⟩) ∧ w'.cell? ⟨b, off + 11, none⟩ = some (.slice Az z.kids.len capz))) (by kernel_rfl) ⟨v0, c0, c1, c2, c3, px0, px1, px2, px3, py0, py1, py2, py3, pz0, pz1, pz2, pz3⟩ (fun hHeld => ?_)
    refine takeYes (i := 0) (v := .agg #[.iface TSt (.pointer (some ⟨g, 0, none⟩))]) rfl (by kernel_rfl) (by kernel_rfl) (by kernel_rfl) (fun _ _ _ h => h) (by rfl) ?_ (by assumption) ?_
    · intro w hSw; obtain ⟨sq0, sq1, sq2, sq3, sq4, sq5, sq6, sq7, sq8, sq9, sq10, sq11, sq12, sq13, sq14, sq15, sq16⟩ := hSw; go_simp
    try simp only [Act.put, List.setIfInBounds_toArray, List.set_cons_zero, List.set_cons_succ]
    refine takeYes (i := 1) (v := .pointer (some ⟨w.heap.size + 1, 3, none⟩)) rfl (by kernel_rfl) (by kernel_rfl) (by kernel_rfl) (fun _ _ _ h => h) (by rfl) ?_ (by assumption) ?_
    · intro w hSw; obtain ⟨sq0, sq1, sq2, sq3, sq4, sq5, sq6, sq7, sq8, sq9, sq10, sq11, sq12, sq13, sq14, sq15, sq16⟩ := hSw; go_simp
    try simp only [Act.put, List.setIfInBounds_toArray, List.set_cons_zero, List.set_cons_succ]
    refine takeYes (i := 2) (v := .slice (some ⟨b, off, none⟩) 3 cap) rfl (by kernel_rfl) (by kernel_rfl) (by kernel_rfl) (fun _ _ _ h => h) (by rfl) ?_ (by assumption) ?_
    · intro w hSw; obtain ⟨sq0, sq1, sq2, sq3, sq4, sq5, sq6, sq7, sq8, sq9, sq10, sq11, sq12, sq13, sq14, sq15, sq16⟩ := hSw; go_simp
    try simp only [Act.put, List.setIfInBounds_toArray, List.set_cons_zero, List.set_cons_succ]
    refine takeYes (i := 3) (v := .pointer (some ⟨b, off + 8, none⟩)) rfl (by kernel_rfl) (by kernel_rfl) (by kernel_rfl) (fun _ _ _ h => h) (by rfl) ?_ (by assumption) ?_
    · intro w hSw; obtain ⟨sq0, sq1, sq2, sq3, sq4, sq5, sq6, sq7, sq8, sq9, sq10, sq11, sq12, sq13, sq14, sq15, sq16⟩ := hSw; go_simp
    try simp only [Act.put, List.setIfInBounds_toArray, List.set_cons_zero, List.set_cons_succ]
    refine takeYes (i := 4) (v := .agg #[.string ⟨z.op.toArray⟩, .int .i64 z.num, .string ⟨z.name.toArray⟩, .slice Az z.kids.len capz]) rfl (by kernel_rfl) (by kernel_rfl) (by kernel_rfl) (fun _ _ _ h => h) (by rfl) ?_ (by assumption) ?_
    · intro w hSw; obtain ⟨sq0, sq1, sq2, sq3, sq4, sq5, sq6, sq7, sq8, sq9, sq10, sq11, sq12, sq13, sq14, sq15, sq16⟩ := hSw; go_simp
    try simp only [Act.put, List.setIfInBounds_toArray, List.set_cons_zero, List.set_cons_succ]
    refine wpAnyH_ready (rs := [5]) (by kernel_rfl) (by simp) ?_
    refine AllReadyH.cons rfl (fun K hK => ?_) AllReadyH.nil
    go_simp
    ((with_reducible refine (HKz.out.call _ g B T5 u5 _ HXz.out VI.out (by omega)).mono ?_); rintro e1 w6 ⟨u6, hst, htab, hm⟩)
    obtain ⟨r6, T6, hv6⟩ : ∃ r T1, valF z T5 = (r, T1) := ⟨_, _, rfl⟩
    rw [hv6] at htab hm
    obtain ⟨ha, hb, hc⟩ := val_after HOz.out VI.out.short hv6
    have v0 := cell_step hst fV v0
    have c0 := cell_step hst fE c0
    have c1 := cell_step hst fE c1
    have c2 := cell_step hst fE c2
    have c3 := cell_step hst fE c3
    have px0 := cell_step hst fB px0
    have px1 := cell_step hst fB px1
    have px2 := cell_step hst fB px2
    have px3 := cell_step hst fB px3
    have py0 := cell_step hst fB py0
    have py1 := cell_step hst fB py1
    have py2 := cell_step hst fB py2
    have py3 := cell_step hst fB py3
    have pz0 := cell_step hst fB pz0
    have pz1 := cell_step hst fB pz1
    have pz2 := cell_step hst fB pz2
    have pz3 := cell_step hst fB pz3
    have fV := hst.free fV
    have fE := hst.free fE
    have fB := hst.free fB
    have ST := hid (ST.out.trans hst)
    have HXx := hid (HXx.out.step hst)
    have HXy := hid (HXy.out.step hst)
    have HXz := hid (HXz.out.step hst)
    have VI := hid (VI.out.step hst htab ha)
    have HT6 := hid htab
    have HV6 := hid hv6
    clear hst htab ha hv6
    rcases r6 with er | n6
    · (dsimp only at hm; subst hm; exact ⟨rfl, ValPost.bad ST.out VI.out.tab (show _ = _ by rw [HVAL.out, HV5.out, thenV_ok, if_pos rfl, HV6.out])⟩)
    dsimp only at hm
    subst hm
    have HI6 := hid (hc _ rfl)
    clear hc
    go_wp2_with fail
    refine hK.out _ _ ?_ (fun hHeld => ?_)
    · exact ⟨v0, c0, c1, c2, c3, px0, px1, px2, px3, py0, py1, py2, py3, pz0, pz1, pz2, pz3⟩
    clear hK K
    try simp only [Act.put, List.setIfInBounds_toArray, List.set_cons_zero, List.set_cons_succ]
    refine takeYes (i := 6) (v := .int .i64 n6) rfl (by kernel_rfl) (by kernel_rfl) (by kernel_rfl) (fun _ _ _ h => h) (by rfl) ?_ (by assumption) ?_
    · intro w hSw; obtain ⟨sq0, sq1, sq2, sq3, sq4, sq5, sq6, sq7, sq8, sq9, sq10, sq11, sq12, sq13, sq14, sq15, sq16⟩ := hSw; go_simp
    try simp only [Act.put, List.setIfInBounds_toArray, List.set_cons_zero, List.set_cons_succ]
    refine wpAnyH_done (by kernel_rfl) ?_ _
    go_wp2_with fail
    go_ret
    exact ValPost.good ST.out HT6.out (show _ = _ by rw [HVAL.out, HV5.out, thenV_ok, if_pos rfl, HV6.out]) rfl
  · have H0 := hid h0
    have hq : (n5 == 0) = false := by simpa using h0
    refine takeYes (i := 6) (v := .bool true) rfl (by kernel_rfl) (by kernel_rfl) (by kernel_rfl) (fun _ _ _ h => h) (by rfl) ?_ (by assumption) ?_
    · intro w hSw; obtain ⟨sq0, sq1, sq2, sq3, sq4, sq5, sq6, sq7, sq8, sq9, sq10, sq11, sq12, sq13, sq14, sq15, sq16⟩ := hSw; go_simp
    try simp only [Act.put, List.setIfInBounds_toArray, List.set_cons_zero, List.set_cons_succ]
    refine wpAnyH_done (by kernel_rfl) ?_ _
    go_wp2_with fail
    have stq := TStep.below (g := g) (u := u5) ((Below.refl w5.heap.size w5).drew)
    have v0 := cell_step stq fV v0
    have c0 := cell_step stq fE c0
    have c1 := cell_step stq fE c1
    have c2 := cell_step stq fE c2
    have c3 := cell_step stq fE c3
    have px0 := cell_step stq fB px0
    have px1 := cell_step stq fB px1
    have px2 := cell_step stq fB px2
    have px3 := cell_step stq fB px3
    have py0 := cell_step stq fB py0
    have py1 := cell_step stq fB py1
    have py2 := cell_step stq fB py2
    have py3 := cell_step stq fB py3
    have pz0 := cell_step stq fB pz0
    have pz1 := cell_step stq fB pz1
    have pz2 := cell_step stq fB pz2
    have pz3 := cell_step stq fB pz3
    have fV := stq.free fV
    have fE := stq.free fE
    have fB := stq.free fB
    have ST := hid (ST.out.trans stq)
    have HXx := hid (HXx.out.step stq)
    have HXy := hid (HXy.out.step stq)
    have HXz := hid (HXz.out.step stq)
    have VI := hid (VI.out.below ((Below.refl w5.heap.size w5).drew))
    clear stq
    refine wp_region_held_drew (S := (fun w' => w'.cell? ⟨w.heap.size, 0, none⟩ = some (.iface TSt (.pointer (some ⟨g, 0, none⟩))) ∧ w'.cell? ⟨w.heap.size + 1, 0, none⟩ = some (.string ⟨#[63]⟩) ∧ w'.cell? ⟨w.heap.size + 1, 1, none⟩ = some (.int .i64 n) ∧ w'.cell? ⟨w.heap.size + 1, 2, none⟩ = some (.string ⟨nm.toArray⟩) ∧ w'.cell? ⟨w.heap.size + 1, 3, none⟩ = some (.slice (some ⟨b, off, none⟩) 3 cap) ∧ w'.cell? ⟨b, off, none⟩ = some (.string ⟨x.op.toArray⟩) ∧ w'.cell? ⟨b, off + 1, none⟩ = some (.int .i64 x.num) ∧ w'.cell? ⟨b, off + 2, none⟩ = some (.string ⟨x.name.toArray⟩) ∧ w'.cell? ⟨b, off + 3, none⟩ = some (.slice Ax x.kids.len capx) ∧ w'.cell? ⟨b, off + 4, none⟩ = some (.string ⟨y.op.toArray⟩) ∧ w'.cell? ⟨b, off + 5, none⟩ = some (.int .i64 y.num) ∧ w'.cell? ⟨b, off + 6, none⟩ = some (.string ⟨y.name.toArray⟩) ∧ w'.cell? ⟨b, off + 7, none⟩ = some (.slice Ay y.kids.len capy) ∧ w'.cell? ⟨b, off + 8, none⟩ = some (.string ⟨z.op.toArray⟩) ∧ w'.cell? ⟨b, off + 9, none⟩ = some (.int .i64 z.num) ∧ w'.cell? ⟨b, off + 10, none⟩ = some (.string ⟨z.name.toArray⟩) ∧ w'.cell? ⟨b, off + 11, none⟩ = some (.slice Az z.kids.len capz))) (by kernel_rfl) ⟨v0, c0, c1, c2, c3, px0, px1, px2, px3, py0, py1, py2, py3, pz0, pz1, pz2, pz3⟩ (fun hHeld => ?_)
    refine takeYes (i := 0) (v := .agg #[.iface TSt (.pointer (some ⟨g, 0, none⟩))]) rfl (by kernel_rfl) (by kernel_rfl) (by kernel_rfl) (fun _ _ _ h => h) (by rfl) ?_ (by assumption) ?_
    · intro w hSw; obtain ⟨sq0, sq1, sq2, sq3, sq4, sq5, sq6, sq7, sq8, sq9, sq10, sq11, sq12, sq13, sq14, sq15, sq16⟩ := hSw; go_simp
    try simp only [Act.put, List.setIfInBounds_toArray, List.set_cons_zero, List.set_cons_succ]
    refine takeYes (i := 1) (v := .pointer (some ⟨w.heap.size + 1, 3, none⟩)) rfl (by kernel_rfl) (by kernel_rfl) (by kernel_rfl) (fun _ _ _ h => h) (by rfl) ?_ (by assumption) ?_
    · intro w hSw; obtain ⟨sq0, sq1, sq2, sq3, sq4, sq5, sq6, sq7, sq8, sq9, sq10, sq11, sq12, sq13, sq14, sq15, sq16⟩ := hSw; go_simp
    try simp only [Act.put, List.setIfInBounds_toArray, List.set_cons_zero, List.set_cons_succ]
    refine takeYes (i := 2) (v := .slice (some ⟨b, off, none⟩) 3 cap) rfl (by kernel_rfl) (by kernel_rfl) (by kernel_rfl) (fun _ _ _ h => h) (by rfl) ?_ (by assumption) ?_
    · intro w hSw; obtain ⟨sq0, sq1, sq2, sq3, sq4, sq5, sq6, sq7, sq8, sq9, sq10, sq11, sq12, sq13, sq14, sq15, sq16⟩ := hSw; go_simp
    try simp only [Act.put, List.setIfInBounds_toArray, List.set_cons_zero, List.set_cons_succ]
    refine takeYes (i := 3) (v := .pointer (some ⟨b, off + 4, none⟩)) rfl (by kernel_rfl) (by kernel_rfl) (by kernel_rfl) (fun _ _ _ h => h) (by rfl) ?_ (by assumption) ?_
    · intro w hSw; obtain ⟨sq0, sq1, sq2, sq3, sq4, sq5, sq6, sq7, sq8, sq9, sq10, sq11, sq12, sq13, sq14, sq15, sq16⟩ := hSw; go_simp
    try simp only [Act.put, List.setIfInBounds_toArray, List.set_cons_zero, List.set_cons_succ]
    refine takeYes (i := 4) (v := .agg #[.string ⟨y.op.toArray⟩, .int .i64 y.num, .string ⟨y.name.toArray⟩, .slice Ay y.kids.len capy]) rfl (by kernel_rfl) (by kernel_rfl) (by kernel_rfl) (fun _ _ _ h => h) (by rfl) ?_ (by assumption) ?_
    · intro w hSw; obtain ⟨sq0, sq1, sq2, sq3, sq4, sq5, sq6, sq7, sq8, sq9, sq10, sq11, sq12, sq13, sq14, sq15, sq16⟩ := hSw; go_simp
    try simp only [Act.put, List.setIfInBounds_toArray, List.set_cons_zero, List.set_cons_succ]
    refine wpAnyH_ready (rs := [5]) (by kernel_rfl) (by simp) ?_
    refine AllReadyH.cons rfl (fun K hK => ?_) AllReadyH.nil
    go_simp
    ((with_reducible refine (HKy.out.call _ g B T5 u5 _ HXy.out VI.out (by omega)).mono ?_); rintro e1 w6 ⟨u6, hst, htab, hm⟩)
    obtain ⟨r6, T6, hv6⟩ : ∃ r T1, valF y T5 = (r, T1) := ⟨_, _, rfl⟩
    rw [hv6] at htab hm
    obtain ⟨ha, hb, hc⟩ := val_after HOy.out VI.out.short hv6
    have v0 := cell_step hst fV v0
    have c0 := cell_step hst fE c0
    have c1 := cell_step hst fE c1
    have c2 := cell_step hst fE c2
    have c3 := cell_step hst fE c3
    have px0 := cell_step hst fB px0
    have px1 := cell_step hst fB px1
    have px2 := cell_step hst fB px2
    have px3 := cell_step hst fB px3
    have py0 := cell_step hst fB py0
    have py1 := cell_step hst fB py1
    have py2 := cell_step hst fB py2
    have py3 := cell_step hst fB py3
    have pz0 := cell_step hst fB pz0
    have pz1 := cell_step hst fB pz1
    have pz2 := cell_step hst fB pz2
    have pz3 := cell_step hst fB pz3
    have fV := hst.free fV
    have fE := hst.free fE
    have fB := hst.free fB
    have ST := hid (ST.out.trans hst)
    have HXx := hid (HXx.out.step hst)
    have HXy := hid (HXy.out.step hst)
    have HXz := hid (HXz.out.step hst)
    have VI := hid (VI.out.step hst htab ha)
    have HT6 := hid htab
    have HV6 := hid hv6
    clear hst htab ha hv6
    rcases r6 with er | n6
    · (dsimp only at hm; subst hm; exact ⟨rfl, ValPost.bad ST.out VI.out.tab (show _ = _ by rw [HVAL.out, HV5.out, thenV_ok, if_neg H0.out, HV6.out])⟩)
    dsimp only at hm
    subst hm
    have HI6 := hid (hc _ rfl)
    clear hc
    go_wp2_with fail
    refine hK.out _ _ ?_ (fun hHeld => ?_)
    · exact ⟨v0, c0, c1, c2, c3, px0, px1, px2, px3, py0, py1, py2, py3, pz0, pz1, pz2, pz3⟩
    clear hK K
    try simp only [Act.put, List.setIfInBounds_toArray, List.set_cons_zero, List.set_cons_succ]
    refine takeYes (i := 6) (v := .int .i64 n6) rfl (by kernel_rfl) (by kernel_rfl) (by kernel_rfl) (fun _ _ _ h => h) (by rfl) ?_ (by assumption) ?_
    · intro w hSw; obtain ⟨sq0, sq1, sq2, sq3, sq4, sq5, sq6, sq7, sq8, sq9, sq10, sq11, sq12, sq13, sq14, sq15, sq16⟩ := hSw; go_simp
    try simp only [Act.put, List.setIfInBounds_toArray, List.set_cons_zero, List.set_cons_succ]
    refine wpAnyH_done (by kernel_rfl) ?_ _
    go_wp2_with fail
    go_ret
    exact ValPost.good ST.out HT6.out (show _ = _ by rw [HVAL.out, HV5.out, thenV_ok, if_neg H0.out, HV6.out]) rfl
end Go.Proofs.YtadmmmehphhecaaGreatDoor
/- The walks of value of sums.valuer: two kids, three kids. -/
namespace Go.Proofs.YtadmmmehphhecaaGreatDoor
open Go.RowKit
set_option maxRecDepth 100000 in
set_option maxHeartbeats 4000000 in
theorem val_two (op : List UInt8) (n : Int) (nm : List UInt8) (x y : Ex) (hop : 0 < levF op) (hns : setF op = false) (hkf : kidsF op = 2) (hna : op ≠ [38, 38]) (hno : op ≠ [124, 124]) (hkx : ValC x) (hox : okF x = true) (hky : ValC y) (hoy : okF y = true) : ValC (.mk op n nm (.cons x (.cons y .nil))) := by
  have e0 : op ≠ [110, 117, 109] := by rintro rfl; revert hop; decide
  have e1 : op ≠ [110, 97, 109, 101] := by rintro rfl; revert hop; decide
  have e2 : op ≠ [110, 101, 103] := by rintro rfl; revert hop; decide
  have e3 : op ≠ [112, 111, 115] := by rintro rfl; revert hop; decide
  have e4 : op ≠ [110, 111, 116] := by rintro rfl; revert hop; decide
  have e5 : op ≠ [99, 111, 109] := by rintro rfl; revert hop; decide
  have e6 : op ≠ [63] := by rintro rfl; revert hop; decide
  have hval : ∀ T, valF (.mk op n nm (.cons x (.cons y .nil))) T = thenV (valF x T) fun a T1 => thenV (valF y T1) fun b T2 => (twoV op a b, T2) := by
    intro T; show combV op n nm _ T = _; unfold combV numO nameO
    rw [if_neg (by rw [hkf]; simp [valL]), if_neg (by rw [hns]; decide), if_neg e0, if_neg e1, if_neg e2, if_neg e3, if_neg e4, if_neg e5, if_neg hna, if_neg hno, if_neg e6]; rfl
  have HVAL := hid hval
  have HKF := hid hkf
  have HNS := hid hns
  have b0 : (op == [110, 117, 109]) = false := by simpa using e0
  have b1 : (op == [110, 97, 109, 101]) = false := by simpa using e1
  have b2 : (op == [110, 101, 103]) = false := by simpa using e2
  have b3 : (op == [112, 111, 115]) = false := by simpa using e3
  have b4 : (op == [110, 111, 116]) = false := by simpa using e4
  have b5 : (op == [99, 111, 109]) = false := by simpa using e5
  have b6 : (op == [63]) = false := by simpa using e6
  have b7 : (op == [38, 38]) = false := by simpa using hna
  have b8 : (op == [124, 124]) = false := by simpa using hno
  clear hval hkf hns hop hna hno e0 e1 e2 e3 e4 e5 e6
  have HKx := hid hkx
  have HOx := hid hox
  clear hkx hox
  have HKy := hid hky
  have HOy := hid hoy
  clear hky hoy
  have HSZ : Hid (szF x + szF y ≤ szF (.mk op n nm (.cons x (.cons y .nil)))) := hid (by simp only [szF, szL]; omega)
  intro w g B T u v hr hV hlen
  obtain ⟨A, cap, rfl, hcap, hkids⟩ := hr.form
  dsimp only [Ex.op, Ex.num, Ex.name, Ex.kids, Exs.len, Nat.zero_add, Nat.reduceAdd] at *
  obtain ⟨b, off, rfl⟩ := hkids.form_ (by simp [Exs.len])
  obtain ⟨Ax, capx, hPx, qx0, qx1, qx2, qx3, hrx, hkids⟩ := hkids.un
  obtain ⟨Ay, capy, hPy, qy0, qy1, qy2, qy3, hry, hkids⟩ := hkids.un
  unfold vw
  have kV : Bk ((w.alloc (.cells #[.iface TSt (.pointer (some ⟨g, 0, none⟩))] 78)).alloc (.cells #[.string ⟨op.toArray⟩, .int .i64 n, .string ⟨nm.toArray⟩, .slice (some ⟨b, off, none⟩) 2 cap] 30)) w.heap.size 78 #[.iface TSt (.pointer (some ⟨g, 0, none⟩))] := (Bk.new w 78 #[.iface TSt (.pointer (some ⟨g, 0, none⟩))]).alloc _
  have kE : Bk ((w.alloc (.cells #[.iface TSt (.pointer (some ⟨g, 0, none⟩))] 78)).alloc (.cells #[.string ⟨op.toArray⟩, .int .i64 n, .string ⟨nm.toArray⟩, .slice (some ⟨b, off, none⟩) 2 cap] 30)) (w.heap.size + 1) 30 #[.string ⟨op.toArray⟩, .int .i64 n, .string ⟨nm.toArray⟩, .slice (some ⟨b, off, none⟩) 2 cap] := heap2_1 w _ _
  have hB0 : Below w.heap.size w ((w.alloc (.cells #[.iface TSt (.pointer (some ⟨g, 0, none⟩))] 78)).alloc (.cells #[.string ⟨op.toArray⟩, .int .i64 n, .string ⟨nm.toArray⟩, .slice (some ⟨b, off, none⟩) 2 cap] 30)) := ((Below.refl _ _).alloc (Nat.le_refl _) _).alloc (by simp) _
  have hsz0 : ((w.alloc (.cells #[.iface TSt (.pointer (some ⟨g, 0, none⟩))] 78)).alloc (.cells #[.string ⟨op.toArray⟩, .int .i64 n, .string ⟨nm.toArray⟩, .slice (some ⟨b, off, none⟩) 2 cap] 30)).heap.size = w.heap.size + 1 + 1 := by simp
  have px0 : ((w.alloc (.cells #[.iface TSt (.pointer (some ⟨g, 0, none⟩))] 78)).alloc (.cells #[.string ⟨op.toArray⟩, .int .i64 n, .string ⟨nm.toArray⟩, .slice (some ⟨b, off, none⟩) 2 cap] 30)).cell? ⟨b, off, none⟩ = some (.string ⟨x.op.toArray⟩) := al (al qx0)
  have px1 : ((w.alloc (.cells #[.iface TSt (.pointer (some ⟨g, 0, none⟩))] 78)).alloc (.cells #[.string ⟨op.toArray⟩, .int .i64 n, .string ⟨nm.toArray⟩, .slice (some ⟨b, off, none⟩) 2 cap] 30)).cell? ⟨b, off + 1, none⟩ = some (.int .i64 x.num) := al (al qx1)
  have px2 : ((w.alloc (.cells #[.iface TSt (.pointer (some ⟨g, 0, none⟩))] 78)).alloc (.cells #[.string ⟨op.toArray⟩, .int .i64 n, .string ⟨nm.toArray⟩, .slice (some ⟨b, off, none⟩) 2 cap] 30)).cell? ⟨b, off + 2, none⟩ = some (.string ⟨x.name.toArray⟩) := al (al qx2)
  have px3 : ((w.alloc (.cells #[.iface TSt (.pointer (some ⟨g, 0, none⟩))] 78)).alloc (.cells #[.string ⟨op.toArray⟩, .int .i64 n, .string ⟨nm.toArray⟩, .slice (some ⟨b, off, none⟩) 2 cap] 30)).cell? ⟨b, off + 3, none⟩ = some (.slice Ax x.kids.len capx) := al (al qx3)
  have py0 : ((w.alloc (.cells #[.iface TSt (.pointer (some ⟨g, 0, none⟩))] 78)).alloc (.cells #[.string ⟨op.toArray⟩, .int .i64 n, .string ⟨nm.toArray⟩, .slice (some ⟨b, off, none⟩) 2 cap] 30)).cell? ⟨b, off + 4, none⟩ = some (.string ⟨y.op.toArray⟩) := al (al qy0)
  have py1 : ((w.alloc (.cells #[.iface TSt (.pointer (some ⟨g, 0, none⟩))] 78)).alloc (.cells #[.string ⟨op.toArray⟩, .int .i64 n, .string ⟨nm.toArray⟩, .slice (some ⟨b, off, none⟩) 2 cap] 30)).cell? ⟨b, off + 5, none⟩ = some (.int .i64 y.num) := al (al qy1)
  have py2 : ((w.alloc (.cells #[.iface TSt (.pointer (some ⟨g, 0, none⟩))] 78)).alloc (.cells #[.string ⟨op.toArray⟩, .int .i64 n, .string ⟨nm.toArray⟩, .slice (some ⟨b, off, none⟩) 2 cap] 30)).cell? ⟨b, off + 6, none⟩ = some (.string ⟨y.name.toArray⟩) := al (al qy2)
  have py3 : ((w.alloc (.cells #[.iface TSt (.pointer (some ⟨g, 0, none⟩))] 78)).alloc (.cells #[.string ⟨op.toArray⟩, .int .i64 n, .string ⟨nm.toArray⟩, .slice (some ⟨b, off, none⟩) 2 cap] 30)).cell? ⟨b, off + 7, none⟩ = some (.slice Ay y.kids.len capy) := al (al qy3)
  go_enter Tryz.func37, Tryz.ntmps37
  go_wp2_with fail
  obtain ⟨W0, hW0⟩ : ∃ W0, W0 = ((w.alloc (.cells #[.iface TSt (.pointer (some ⟨g, 0, none⟩))] 78)).alloc (.cells #[.string ⟨op.toArray⟩, .int .i64 n, .string ⟨nm.toArray⟩, .slice (some ⟨b, off, none⟩) 2 cap] 30)) := ⟨_, rfl⟩
  rw [← hW0] at kV kE hB0 hsz0 px0 px1 px2 px3 py0 py1 py2 py3
  rw [← hW0]
  clear hW0 qx0 qx1 qx2 qx3 qy0 qy1 qy2 qy3
  have v0 := kV.cell 0 _ rfl
  obtain ⟨c0, c1, c2, c3⟩ := kE.cells4
  have fV : Free W0 g u w.heap.size := hV.new hB0 (Nat.le_refl _) (by omega)
  have fE : Free W0 g u (w.heap.size + 1) := hV.new hB0 (by omega) (by omega)
  have fB : Free W0 g u b := (TStep.below (g := g) (u := u) hB0).free hPx
  have ST := hid (TStep.below (g := g) (u := u) hB0)
  have VI := hid (hV.below hB0)
  have HS0 := hid hV.short
  have HXx := hid (hrx.step (TStep.below (g := g) (u := u) hB0))
  have HXy := hid (hry.step (TStep.below (g := g) (u := u) hB0))
  clear kV kE hB0 hsz0 hV hr hcap hkids hrx hPx hry hPy
  have hszx := HSZ.out
  have stq := TStep.below (g := g) (u := u) ((Below.refl W0.heap.size W0).drew)
  have v0 := cell_step stq fV v0
  have c0 := cell_step stq fE c0
  have c1 := cell_step stq fE c1
  have c2 := cell_step stq fE c2
  have c3 := cell_step stq fE c3
  have px0 := cell_step stq fB px0
  have px1 := cell_step stq fB px1
  have px2 := cell_step stq fB px2
  have px3 := cell_step stq fB px3
  have py0 := cell_step stq fB py0
  have py1 := cell_step stq fB py1
  have py2 := cell_step stq fB py2
  have py3 := cell_step stq fB py3
  have fV := stq.free fV
  have fE := stq.free fE
  have fB := stq.free fB
  have ST := hid (ST.out.trans stq)
  have HXx := hid (HXx.out.step stq)
  have HXy := hid (HXy.out.step stq)
  have VI := hid (VI.out.below ((Below.refl W0.heap.size W0).drew))
  clear stq
  refine wp_region_held_drew (S := (fun w' => w'.cell? ⟨w.heap.size, 0, none⟩ = some (.iface TSt (.pointer (some ⟨g, 0, none⟩))) ∧ w'.cell? ⟨w.heap.size + 1, 0, none⟩ = some (.string ⟨op.toArray⟩) ∧ w'.cell? ⟨w.heap.size + 1, 1, none⟩ = some (.int .i64 n) ∧ w'.cell? ⟨w.heap.size + 1, 2, none⟩ = some (.string ⟨nm.toArray⟩) ∧ w'.cell? ⟨w.heap.size + 1, 3, none⟩ = some (.slice (some ⟨b, off, none⟩) 2 cap) ∧ w'.cell? ⟨b, off, none⟩ = some (.string ⟨x.op.toArray⟩) ∧ w'.cell? ⟨b, off + 1, none⟩ = some (.int .i64 x.num) ∧ w'.cell? ⟨b, off + 2, none⟩ = some (.string ⟨x.name.toArray⟩) ∧ w'.cell? ⟨b, off + 3, none⟩ = some (.slice Ax x.kids.len capx) ∧ w'.cell? ⟨b, off + 4, none⟩ = some (.string ⟨y.op.toArray⟩) ∧ w'.cell? ⟨b, off + 5, none⟩ = some (.int .i64 y.num) ∧ w'.cell? ⟨b, off + 6, none⟩ = some (.string ⟨y.name.toArray⟩) ∧ w'.cell? ⟨b, off + 7, none⟩ = some (.slice Ay y.kids.len capy))) (by kernel_rfl) ⟨v0, c0, c1, c2, c3, px0, px1, px2, px3, py0, py1, py2, py3⟩ (fun hHeld => ?_)
  refine takeYes (i := 0) (v := .pointer (some ⟨w.heap.size + 1, 3, none⟩)) rfl (by kernel_rfl) (by kernel_rfl) (by kernel_rfl) (fun _ _ _ h => h) (by rfl) ?_ (by assumption) ?_
  · intro w hSw; obtain ⟨sq0, sq1, sq2, sq3, sq4, sq5, sq6, sq7, sq8, sq9, sq10, sq11, sq12⟩ := hSw; go_simp
  try simp only [Act.put, List.setIfInBounds_toArray, List.set_cons_zero, List.set_cons_succ]
  refine takeYes (i := 1) (v := .slice (some ⟨b, off, none⟩) 2 cap) rfl (by kernel_rfl) (by kernel_rfl) (by kernel_rfl) (fun _ _ _ h => h) (by rfl) ?_ (by assumption) ?_
  · intro w hSw; obtain ⟨sq0, sq1, sq2, sq3, sq4, sq5, sq6, sq7, sq8, sq9, sq10, sq11, sq12⟩ := hSw; go_simp
  try simp only [Act.put, List.setIfInBounds_toArray, List.set_cons_zero, List.set_cons_succ]
  refine takeYes (i := 2) (v := .int .i64 2) rfl (by kernel_rfl) (by kernel_rfl) (by kernel_rfl) (fun _ _ _ h => h) (by rfl) ?_ (by assumption) ?_
  · intro w hSw; obtain ⟨sq0, sq1, sq2, sq3, sq4, sq5, sq6, sq7, sq8, sq9, sq10, sq11, sq12⟩ := hSw; go_simp
  try simp only [Act.put, List.setIfInBounds_toArray, List.set_cons_zero, List.set_cons_succ]
  refine takeYes (i := 3) (v := .pointer (some ⟨w.heap.size + 1, 0, none⟩)) rfl (by kernel_rfl) (by kernel_rfl) (by kernel_rfl) (fun _ _ _ h => h) (by rfl) ?_ (by assumption) ?_
  · intro w hSw; obtain ⟨sq0, sq1, sq2, sq3, sq4, sq5, sq6, sq7, sq8, sq9, sq10, sq11, sq12⟩ := hSw; go_simp
  try simp only [Act.put, List.setIfInBounds_toArray, List.set_cons_zero, List.set_cons_succ]
  refine takeYes (i := 4) (v := .string ⟨op.toArray⟩) rfl (by kernel_rfl) (by kernel_rfl) (by kernel_rfl) (fun _ _ _ h => h) (by rfl) ?_ (by assumption) ?_
  · intro w hSw; obtain ⟨sq0, sq1, sq2, sq3, sq4, sq5, sq6, sq7, sq8, sq9, sq10, sq11, sq12⟩ := hSw; go_simp
  try simp only [Act.put, List.setIfInBounds_toArray, List.set_cons_zero, List.set_cons_succ]
  refine wpAnyH_ready (rs := [5]) (by kernel_rfl) (by simp) ?_
  refine AllReadyH.cons rfl (fun K hK => ?_) AllReadyH.nil
  go_simp
  ((with_reducible refine (kids_any _ _).mono ?_); rintro e1 w1 ⟨rfl, hby⟩)
  rw [HKF.out]
  have stq := TStep.below (g := g) (u := u) hby
  have v0 := cell_step stq fV v0
  have c0 := cell_step stq fE c0
  have c1 := cell_step stq fE c1
  have c2 := cell_step stq fE c2
  have c3 := cell_step stq fE c3
  have px0 := cell_step stq fB px0
  have px1 := cell_step stq fB px1
  have px2 := cell_step stq fB px2
  have px3 := cell_step stq fB px3
  have py0 := cell_step stq fB py0
  have py1 := cell_step stq fB py1
  have py2 := cell_step stq fB py2
  have py3 := cell_step stq fB py3
  have fV := stq.free fV
  have fE := stq.free fE
  have fB := stq.free fB
  have ST := hid (ST.out.trans stq)
  have HXx := hid (HXx.out.step stq)
  have HXy := hid (HXy.out.step stq)
  have VI := hid (VI.out.below hby)
  clear stq hby
  go_wp2_with fail
  refine hK.out _ _ ?_ (fun hHeld => ?_)
  · exact ⟨v0, c0, c1, c2, c3, px0, px1, px2, px3, py0, py1, py2, py3⟩
  clear hK K
  try simp only [Act.put, List.setIfInBounds_toArray, List.set_cons_zero, List.set_cons_succ]
  refine takeYes (i := 6) (v := .bool false) rfl (by kernel_rfl) (by kernel_rfl) (by kernel_rfl) (fun _ _ _ h => h) (by rfl) ?_ (by assumption) ?_
  · intro w hSw; obtain ⟨sq0, sq1, sq2, sq3, sq4, sq5, sq6, sq7, sq8, sq9, sq10, sq11, sq12⟩ := hSw; go_simp
  try simp only [Act.put, List.setIfInBounds_toArray, List.set_cons_zero, List.set_cons_succ]
  refine wpAnyH_done (by kernel_rfl) ?_ _
  go_wp2_with fail
  ((with_reducible refine (isSet_any op _).mono ?_); rintro e1 w2 ⟨rfl, rfl⟩)
  rw [HNS.out]
  go_wp2_with fail
  have stq := TStep.below (g := g) (u := u) ((Below.refl w1.heap.size w1).drew)
  have v0 := cell_step stq fV v0
  have c0 := cell_step stq fE c0
  have c1 := cell_step stq fE c1
  have c2 := cell_step stq fE c2
  have c3 := cell_step stq fE c3
  have px0 := cell_step stq fB px0
  have px1 := cell_step stq fB px1
  have px2 := cell_step stq fB px2
  have px3 := cell_step stq fB px3
  have py0 := cell_step stq fB py0
  have py1 := cell_step stq fB py1
  have py2 := cell_step stq fB py2
  have py3 := cell_step stq fB py3
  have fV := stq.free fV
  have fE := stq.free fE
  have fB := stq.free fB
  have ST := hid (ST.out.trans stq)
  have HXx := hid (HXx.out.step stq)
  have HXy := hid (HXy.out.step stq)
  have VI := hid (VI.out.below ((Below.refl w1.heap.size w1).drew))
  clear stq
  refine wp_region_held_drew (S := (fun w' => w'.cell? ⟨w.heap.size, 0, none⟩ = some (.iface TSt (.pointer (some ⟨g, 0, none⟩))) ∧ w'.cell? ⟨w.heap.size + 1, 0, none⟩ = some (.string ⟨op.toArray⟩) ∧ w'.cell? ⟨w.heap.size + 1, 1, none⟩ = some (.int .i64 n) ∧ w'.cell? ⟨w.heap.size + 1, 2, none⟩ = some (.string ⟨nm.toArray⟩) ∧ w'.cell? ⟨w.heap.size + 1, 3, none⟩ = some (.slice (some ⟨b, off, none⟩) 2 cap) ∧ w'.cell? ⟨b, off, none⟩ = some (.string ⟨x.op.toArray⟩) ∧ w'.cell? ⟨b, off + 1, none⟩ = some (.int .i64 x.num) ∧ w'.cell? ⟨b, off + 2, none⟩ = some (.string ⟨x.name.toArray⟩) ∧ w'.cell? ⟨b, off + 3, none⟩ = some (.slice Ax x.kids.len capx) ∧ w'.cell? ⟨b, off + 4, none⟩ = some (.string ⟨y.op.toArray⟩) ∧ w'.cell? ⟨b, off + 5, none⟩ = some (.int .i64 y.num) ∧ w'.cell? ⟨b, off + 6, none⟩ = some (.string ⟨y.name.toArray⟩) ∧ w'.cell? ⟨b, off + 7, none⟩ = some (.slice Ay y.kids.len capy))) (by kernel_rfl) ⟨v0, c0, c1, c2, c3, px0, px1, px2, px3, py0, py1, py2, py3⟩ (fun hHeld => ?_)
  refine takeYes (i := 0) (v := .agg #[.iface TSt (.pointer (some ⟨g, 0, none⟩))]) rfl (by kernel_rfl) (by kernel_rfl) (by kernel_rfl) (fun _ _ _ h => h) (by rfl) ?_ (by assumption) ?_
  · intro w hSw; obtain ⟨sq0, sq1, sq2, sq3, sq4, sq5, sq6, sq7, sq8, sq9, sq10, sq11, sq12⟩ := hSw; go_simp
  try simp only [Act.put, List.setIfInBounds_toArray, List.set_cons_zero, List.set_cons_succ]
  refine takeYes (i := 1) (v := .pointer (some ⟨w.heap.size + 1, 3, none⟩)) rfl (by kernel_rfl) (by kernel_rfl) (by kernel_rfl) (fun _ _ _ h => h) (by rfl) ?_ (by assumption) ?_
  · intro w hSw; obtain ⟨sq0, sq1, sq2, sq3, sq4, sq5, sq6, sq7, sq8, sq9, sq10, sq11, sq12⟩ := hSw; go_simp
  try simp only [Act.put, List.setIfInBounds_toArray, List.set_cons_zero, List.set_cons_succ]
  refine takeYes (i := 2) (v := .slice (some ⟨b, off, none⟩) 2 cap) rfl (by kernel_rfl) (by kernel_rfl) (by kernel_rfl) (fun _ _ _ h => h) (by rfl) ?_ (by assumption) ?_
  · intro w hSw; obtain ⟨sq0, sq1, sq2, sq3, sq4, sq5, sq6, sq7, sq8, sq9, sq10, sq11, sq12⟩ := hSw; go_simp
  try simp only [Act.put, List.setIfInBounds_toArray, List.set_cons_zero, List.set_cons_succ]
  refine takeYes (i := 3) (v := .pointer (some ⟨b, off, none⟩)) rfl (by kernel_rfl) (by kernel_rfl) (by kernel_rfl) (fun _ _ _ h => h) (by rfl) ?_ (by assumption) ?_
  · intro w hSw; obtain ⟨sq0, sq1, sq2, sq3, sq4, sq5, sq6, sq7, sq8, sq9, sq10, sq11, sq12⟩ := hSw; go_simp
  try simp only [Act.put, List.setIfInBounds_toArray, List.set_cons_zero, List.set_cons_succ]
  refine takeYes (i := 4) (v := .agg #[.string ⟨x.op.toArray⟩, .int .i64 x.num, .string ⟨x.name.toArray⟩, .slice Ax x.kids.len capx]) rfl (by kernel_rfl) (by kernel_rfl) (by kernel_rfl) (fun _ _ _ h => h) (by rfl) ?_ (by assumption) ?_
  · intro w hSw; obtain ⟨sq0, sq1, sq2, sq3, sq4, sq5, sq6, sq7, sq8, sq9, sq10, sq11, sq12⟩ := hSw; go_simp
  try simp only [Act.put, List.setIfInBounds_toArray, List.set_cons_zero, List.set_cons_succ]
  refine wpAnyH_ready (rs := [5]) (by kernel_rfl) (by simp) ?_
  refine AllReadyH.cons rfl (fun K hK => ?_) AllReadyH.nil
  go_simp
  ((with_reducible refine (HKx.out.call _ g B T u _ HXx.out VI.out (by omega)).mono ?_); rintro e1 w5 ⟨u5, hst, htab, hm⟩)
  obtain ⟨r5, T5, hv5⟩ : ∃ r T1, valF x T = (r, T1) := ⟨_, _, rfl⟩
  rw [hv5] at htab hm
  obtain ⟨ha, hb, hc⟩ := val_after HOx.out VI.out.short hv5
  have v0 := cell_step hst fV v0
  have c0 := cell_step hst fE c0
  have c1 := cell_step hst fE c1
  have c2 := cell_step hst fE c2
  have c3 := cell_step hst fE c3
  have px0 := cell_step hst fB px0
  have px1 := cell_step hst fB px1
  have px2 := cell_step hst fB px2
  have px3 := cell_step hst fB px3
  have py0 := cell_step hst fB py0
  have py1 := cell_step hst fB py1
  have py2 := cell_step hst fB py2
  have py3 := cell_step hst fB py3
  have fV := hst.free fV
  have fE := hst.free fE
  have fB := hst.free fB
  have ST := hid (ST.out.trans hst)
  have HXx := hid (HXx.out.step hst)
  have HXy := hid (HXy.out.step hst)
  have VI := hid (VI.out.step hst htab ha)
  have HT5 := hid htab
  have HV5 := hid hv5
  clear hst htab ha hv5
  rcases r5 with er | n5
  · (dsimp only at hm; subst hm; exact ⟨rfl, ValPost.bad ST.out VI.out.tab (show _ = _ by rw [HVAL.out, HV5.out]; rfl)⟩)
  dsimp only at hm
  subst hm
  have HI5 := hid (hc _ rfl)
  clear hc
  go_wp2_with fail
  refine hK.out _ _ ?_ (fun hHeld => ?_)
  · exact ⟨v0, c0, c1, c2, c3, px0, px1, px2, px3, py0, py1, py2, py3⟩
  clear hK K
  try simp only [Act.put, List.setIfInBounds_toArray, List.set_cons_zero, List.set_cons_succ]
  refine takeYes (i := 6) (v := .int .i64 n5) rfl (by kernel_rfl) (by kernel_rfl) (by kernel_rfl) (fun _ _ _ h => h) (by rfl) ?_ (by assumption) ?_
  · intro w hSw; obtain ⟨sq0, sq1, sq2, sq3, sq4, sq5, sq6, sq7, sq8, sq9, sq10, sq11, sq12⟩ := hSw; go_simp
  try simp only [Act.put, List.setIfInBounds_toArray, List.set_cons_zero, List.set_cons_succ]
  refine wpAnyH_done (by kernel_rfl) ?_ _
  go_wp2_with fail
  have stq := TStep.below (g := g) (u := u5) ((Below.refl w5.heap.size w5).drew)
  have v0 := cell_step stq fV v0
  have c0 := cell_step stq fE c0
  have c1 := cell_step stq fE c1
  have c2 := cell_step stq fE c2
  have c3 := cell_step stq fE c3
  have px0 := cell_step stq fB px0
  have px1 := cell_step stq fB px1
  have px2 := cell_step stq fB px2
  have px3 := cell_step stq fB px3
  have py0 := cell_step stq fB py0
  have py1 := cell_step stq fB py1
  have py2 := cell_step stq fB py2
  have py3 := cell_step stq fB py3
  have fV := stq.free fV
  have fE := stq.free fE
  have fB := stq.free fB
  have ST := hid (ST.out.trans stq)
  have HXx := hid (HXx.out.step stq)
  have HXy := hid (HXy.out.step stq)
  have VI := hid (VI.out.below ((Below.refl w5.heap.size w5).drew))
  clear stq
  refine wp_region_held_drew (S := (fun w' => w'.cell? ⟨w.heap.size, 0, none⟩ = some (.iface TSt (.pointer (some ⟨g, 0, none⟩))) ∧ w'.cell? ⟨w.heap.size + 1, 0, none⟩ = some (.string ⟨op.toArray⟩) ∧ w'.cell? ⟨w.heap.size + 1, 1, none⟩ = some (.int .i64 n) ∧ w'.cell? ⟨w.heap.size + 1, 2, none⟩ = some (.string ⟨nm.toArray⟩) ∧ w'.cell? ⟨w.heap.size + 1, 3, none⟩ = some (.slice (some ⟨b, off, none⟩) 2 cap) ∧ w'.cell? ⟨b, off, none⟩ = some (.string ⟨x.op.toArray⟩) ∧ w'.cell? ⟨b, off + 1, none⟩ = some (.int .i64 x.num) ∧ w'.cell? ⟨b, off + 2, none⟩ = some (.string ⟨x.name.toArray⟩) ∧ w'.cell? ⟨b, off + 3, none⟩ = some (.slice Ax x.kids.len capx) ∧ w'.cell? ⟨b, off + 4, none⟩ = some (.string ⟨y.op.toArray⟩) ∧ w'.cell? ⟨b, off + 5, none⟩ = some (.int .i64 y.num) ∧ w'.cell? ⟨b, off + 6, none⟩ = some (.string ⟨y.name.toArray⟩) ∧ w'.cell? ⟨b, off + 7, none⟩ = some (.slice Ay y.kids.len capy))) (by kernel_rfl) ⟨v0, c0, c1, c2, c3, px0, px1, px2, px3, py0, py1, py2, py3⟩ (fun hHeld => ?_)
  refine takeYes (i := 0) (v := .pointer (some ⟨w.heap.size + 1, 0, none⟩)) rfl (by kernel_rfl) (by kernel_rfl) (by kernel_rfl) (fun _ _ _ h => h) (by rfl) ?_ (by assumption) ?_
  · intro w hSw; obtain ⟨sq0, sq1, sq2, sq3, sq4, sq5, sq6, sq7, sq8, sq9, sq10, sq11, sq12⟩ := hSw; go_simp
  try simp only [Act.put, List.setIfInBounds_toArray, List.set_cons_zero, List.set_cons_succ]
  refine takeYes (i := 1) (v := .string ⟨op.toArray⟩) rfl (by kernel_rfl) (by kernel_rfl) (by kernel_rfl) (fun _ _ _ h => h) (by rfl) ?_ (by assumption) ?_
  · intro w hSw; obtain ⟨sq0, sq1, sq2, sq3, sq4, sq5, sq6, sq7, sq8, sq9, sq10, sq11, sq12⟩ := hSw; go_simp
  try simp only [Act.put, List.setIfInBounds_toArray, List.set_cons_zero, List.set_cons_succ]
  refine takeYes (i := 2) (v := .int .i64 n5) rfl (by kernel_rfl) (by kernel_rfl) (by kernel_rfl) (fun _ _ _ h => h) (by rfl) ?_ (by assumption) ?_
  · intro w hSw; obtain ⟨sq0, sq1, sq2, sq3, sq4, sq5, sq6, sq7, sq8, sq9, sq10, sq11, sq12⟩ := hSw; go_simp
  try simp only [Act.put, List.setIfInBounds_toArray, List.set_cons_zero, List.set_cons_succ]
  refine takeYes (i := 3) (v := .agg #[.iface TSt (.pointer (some ⟨g, 0, none⟩))]) rfl (by kernel_rfl) (by kernel_rfl) (by kernel_rfl) (fun _ _ _ h => h) (by rfl) ?_ (by assumption) ?_
  · intro w hSw; obtain ⟨sq0, sq1, sq2, sq3, sq4, sq5, sq6, sq7, sq8, sq9, sq10, sq11, sq12⟩ := hSw; go_simp
  try simp only [Act.put, List.setIfInBounds_toArray, List.set_cons_zero, List.set_cons_succ]
  refine takeYes (i := 4) (v := .pointer (some ⟨w.heap.size + 1, 3, none⟩)) rfl (by kernel_rfl) (by kernel_rfl) (by kernel_rfl) (fun _ _ _ h => h) (by rfl) ?_ (by assumption) ?_
  · intro w hSw; obtain ⟨sq0, sq1, sq2, sq3, sq4, sq5, sq6, sq7, sq8, sq9, sq10, sq11, sq12⟩ := hSw; go_simp
  try simp only [Act.put, List.setIfInBounds_toArray, List.set_cons_zero, List.set_cons_succ]
  refine takeYes (i := 5) (v := .slice (some ⟨b, off, none⟩) 2 cap) rfl (by kernel_rfl) (by kernel_rfl) (by kernel_rfl) (fun _ _ _ h => h) (by rfl) ?_ (by assumption) ?_
  · intro w hSw; obtain ⟨sq0, sq1, sq2, sq3, sq4, sq5, sq6, sq7, sq8, sq9, sq10, sq11, sq12⟩ := hSw; go_simp
  try simp only [Act.put, List.setIfInBounds_toArray, List.set_cons_zero, List.set_cons_succ]
  refine takeYes (i := 6) (v := .pointer (some ⟨b, off + 4, none⟩)) rfl (by kernel_rfl) (by kernel_rfl) (by kernel_rfl) (fun _ _ _ h => h) (by rfl) ?_ (by assumption) ?_
  · intro w hSw; obtain ⟨sq0, sq1, sq2, sq3, sq4, sq5, sq6, sq7, sq8, sq9, sq10, sq11, sq12⟩ := hSw; go_simp
  try simp only [Act.put, List.setIfInBounds_toArray, List.set_cons_zero, List.set_cons_succ]
  refine takeYes (i := 7) (v := .agg #[.string ⟨y.op.toArray⟩, .int .i64 y.num, .string ⟨y.name.toArray⟩, .slice Ay y.kids.len capy]) rfl (by kernel_rfl) (by kernel_rfl) (by kernel_rfl) (fun _ _ _ h => h) (by rfl) ?_ (by assumption) ?_
  · intro w hSw; obtain ⟨sq0, sq1, sq2, sq3, sq4, sq5, sq6, sq7, sq8, sq9, sq10, sq11, sq12⟩ := hSw; go_simp
  try simp only [Act.put, List.setIfInBounds_toArray, List.set_cons_zero, List.set_cons_succ]
  refine wpAnyH_ready (rs := [8]) (by kernel_rfl) (by simp) ?_
  refine AllReadyH.cons rfl (fun K hK => ?_) AllReadyH.nil
  go_simp
  ((with_reducible refine (HKy.out.call _ g B T5 u5 _ HXy.out VI.out (by omega)).mono ?_); rintro e1 w6 ⟨u6, hst, htab, hm⟩)
  obtain ⟨r6, T6, hv6⟩ : ∃ r T1, valF y T5 = (r, T1) := ⟨_, _, rfl⟩
  rw [hv6] at htab hm
  obtain ⟨ha, hb, hc⟩ := val_after HOy.out VI.out.short hv6
  have v0 := cell_step hst fV v0
  have c0 := cell_step hst fE c0
  have c1 := cell_step hst fE c1
  have c2 := cell_step hst fE c2
  have c3 := cell_step hst fE c3
  have px0 := cell_step hst fB px0
  have px1 := cell_step hst fB px1
  have px2 := cell_step hst fB px2
  have px3 := cell_step hst fB px3
  have py0 := cell_step hst fB py0
  have py1 := cell_step hst fB py1
  have py2 := cell_step hst fB py2
  have py3 := cell_step hst fB py3
  have fV := hst.free fV
  have fE := hst.free fE
  have fB := hst.free fB
  have ST := hid (ST.out.trans hst)
  have HXx := hid (HXx.out.step hst)
  have HXy := hid (HXy.out.step hst)
  have VI := hid (VI.out.step hst htab ha)
  have HT6 := hid htab
  have HV6 := hid hv6
  clear hst htab ha hv6
  rcases r6 with er | n6
  · (dsimp only at hm; subst hm; exact ⟨rfl, ValPost.bad ST.out VI.out.tab (show _ = _ by rw [HVAL.out, HV5.out]; show thenV (valF y T5) _ = _; rw [HV6.out]; rfl)⟩)
  dsimp only at hm
  subst hm
  have HI6 := hid (hc _ rfl)
  clear hc
  go_wp2_with fail
  refine hK.out _ _ ?_ (fun hHeld => ?_)
  · exact ⟨v0, c0, c1, c2, c3, px0, px1, px2, px3, py0, py1, py2, py3⟩
  clear hK K
  try simp only [Act.put, List.setIfInBounds_toArray, List.set_cons_zero, List.set_cons_succ]
  refine wpAnyH_ready (rs := [9]) (by kernel_rfl) (by simp) ?_
  refine AllReadyH.cons rfl (fun K hK => ?_) AllReadyH.nil
  go_simp
  ((with_reducible refine (two_any op n5 n6 _).mono ?_); rintro e1 w7 ⟨rfl, hm⟩)
  have HVV : Hid (valF (.mk op n nm (.cons x (.cons y .nil))) T = (twoV op n5 n6, T6)) := hid (by rw [HVAL.out, HV5.out]; show thenV (valF y T5) _ = _; rw [HV6.out]; rfl)
  generalize twoV op n5 n6 = r7 at hm HVV
  rcases r7 with er | n7
  · (dsimp only at hm; subst hm; exact ⟨rfl, ValPost.bad ST.out VI.out.tab HVV.out⟩)
  dsimp only at hm
  subst hm
  go_wp2_with fail
  refine hK.out _ _ ?_ (fun hHeld => ?_)
  · assumption
  clear hK K
  try simp only [Act.put, List.setIfInBounds_toArray, List.set_cons_zero, List.set_cons_succ]
  refine takeYes (i := 10) (v := .int .i64 n7) rfl (by kernel_rfl) (by kernel_rfl) (by kernel_rfl) (fun _ _ _ h => h) (by rfl) ?_ (by assumption) ?_
  · intro w hSw; obtain ⟨sq0, sq1, sq2, sq3, sq4, sq5, sq6, sq7, sq8, sq9, sq10, sq11, sq12⟩ := hSw; go_simp
  try simp only [Act.put, List.setIfInBounds_toArray, List.set_cons_zero, List.set_cons_succ]
  refine wpAnyH_done (by kernel_rfl) ?_ _
  go_wp2_with fail
  go_ret
  exact ValPost.good ST.out HT6.out HVV.out rfl
end Go.Proofs.YtadmmmehphhecaaGreatDoor
/- The walk of set of sums.valuer. -/
namespace Go.Proofs.YtadmmmehphhecaaGreatDoor
open Go.RowKit
def SetC (e : Ex) : Prop := ∀ (w : World) (g B : Nat) (T : Tab) (u v : Value), RdX w (Free w g u) e v → VIn w g B T u → T.length + szF e ≤ 100000 → Calls Tryz.prog 65 #[vw g, v] w (ValPost e g B T u w)
theorem SetC.call {e : Ex} (h : SetC e) (w : World) (g B : Nat) (T : Tab) (u v : Value) (hr : RdX w (Free w g u) e v) (hV : VIn w g B T u) (hl : T.length + szF e ≤ 100000) : Calls Tryz.prog 65 #[.agg #[.iface TSt (.pointer (some ⟨g, 0, none⟩))], v] w (ValPost e g B T u w) := h w g B T u v hr hV hl
theorem nameC2 (w : World) (g B : Nat) (T : Tab) (u : Value) (x : List UInt8) (h : VIn w g B T u) (hl : T.length ≤ 1000000) : Calls Tryz.prog 66 #[.agg #[.iface TSt (.pointer (some ⟨g, 0, none⟩))], .string ⟨x.toArray⟩] w (NamePost T x w) := name_any T x g B u w h.tab hl h.short h.laid
set_option maxRecDepth 100000 in
set_option maxHeartbeats 4000000 in
theorem set_eq (n : Int) (nm : List UInt8) (x : Ex) (hkx : ValC x) (hox : okF x = true) : SetC (.mk [61] n nm (.cons x .nil)) := by
  have HKx := hid hkx
  have HOx := hid hox
  clear hkx hox
  have HSZ : Hid (szF x ≤ szF (.mk [61] n nm (.cons x .nil))) := hid (by simp only [szF, szL]; omega)
  intro w g B T u v hr hV hlen
  obtain ⟨A, cap, rfl, hcap, hkids⟩ := hr.form
  dsimp only [Ex.op, Ex.num, Ex.name, Ex.kids, Exs.len, Nat.zero_add, Nat.reduceAdd] at *
  obtain ⟨b, off, rfl⟩ := hkids.form_ (by simp [Exs.len])
  obtain ⟨Ax, capx, hPx, qx0, qx1, qx2, qx3, hrx, hkids⟩ := hkids.un
  unfold vw
  have kV : Bk ((w.alloc (.cells #[.iface TSt (.pointer (some ⟨g, 0, none⟩))] 78)).alloc (.cells #[.string ⟨#[61]⟩, .int .i64 n, .string ⟨nm.toArray⟩, .slice (some ⟨b, off, none⟩) 1 cap] 30)) w.heap.size 78 #[.iface TSt (.pointer (some ⟨g, 0, none⟩))] := (Bk.new w 78 #[.iface TSt (.pointer (some ⟨g, 0, none⟩))]).alloc _
  have kE : Bk ((w.alloc (.cells #[.iface TSt (.pointer (some ⟨g, 0, none⟩))] 78)).alloc (.cells #[.string ⟨#[61]⟩, .int .i64 n, .string ⟨nm.toArray⟩, .slice (some ⟨b, off, none⟩) 1 cap] 30)) (w.heap.size + 1) 30 #[.string ⟨#[61]⟩, .int .i64 n, .string ⟨nm.toArray⟩, .slice (some ⟨b, off, none⟩) 1 cap] := heap2_1 w _ _
  have hB0 : Below w.heap.size w ((w.alloc (.cells #[.iface TSt (.pointer (some ⟨g, 0, none⟩))] 78)).alloc (.cells #[.string ⟨#[61]⟩, .int .i64 n, .string ⟨nm.toArray⟩, .slice (some ⟨b, off, none⟩) 1 cap] 30)) := ((Below.refl _ _).alloc (Nat.le_refl _) _).alloc (by simp) _
  have hsz0 : ((w.alloc (.cells #[.iface TSt (.pointer (some ⟨g, 0, none⟩))] 78)).alloc (.cells #[.string ⟨#[61]⟩, .int .i64 n, .string ⟨nm.toArray⟩, .slice (some ⟨b, off, none⟩) 1 cap] 30)).heap.size = w.heap.size + 1 + 1 := by simp
  have px0 : ((w.alloc (.cells #[.iface TSt (.pointer (some ⟨g, 0, none⟩))] 78)).alloc (.cells #[.string ⟨#[61]⟩, .int .i64 n, .string ⟨nm.toArray⟩, .slice (some ⟨b, off, none⟩) 1 cap] 30)).cell? ⟨b, off, none⟩ = some (.string ⟨x.op.toArray⟩) := al (al qx0)
  have px1 : ((w.alloc (.cells #[.iface TSt (.pointer (some ⟨g, 0, none⟩))] 78)).alloc (.cells #[.string ⟨#[61]⟩, .int .i64 n, .string ⟨nm.toArray⟩, .slice (some ⟨b, off, none⟩) 1 cap] 30)).cell? ⟨b, off + 1, none⟩ = some (.int .i64 x.num) := al (al qx1)
  have px2 : ((w.alloc (.cells #[.iface TSt (.pointer (some ⟨g, 0, none⟩))] 78)).alloc (.cells #[.string ⟨#[61]⟩, .int .i64 n, .string ⟨nm.toArray⟩, .slice (some ⟨b, off, none⟩) 1 cap] 30)).cell? ⟨b, off + 2, none⟩ = some (.string ⟨x.name.toArray⟩) := al (al qx2)
  have px3 : ((w.alloc (.cells #[.iface TSt (.pointer (some ⟨g, 0, none⟩))] 78)).alloc (.cells #[.string ⟨#[61]⟩, .int .i64 n, .string ⟨nm.toArray⟩, .slice (some ⟨b, off, none⟩) 1 cap] 30)).cell? ⟨b, off + 3, none⟩ = some (.slice Ax x.kids.len capx) := al (al qx3)
  go_enter Tryz.func65, Tryz.ntmps65
  go_wp2_with fail
  obtain ⟨W0, hW0⟩ : ∃ W0, W0 = ((w.alloc (.cells #[.iface TSt (.pointer (some ⟨g, 0, none⟩))] 78)).alloc (.cells #[.string ⟨#[61]⟩, .int .i64 n, .string ⟨nm.toArray⟩, .slice (some ⟨b, off, none⟩) 1 cap] 30)) := ⟨_, rfl⟩
  rw [← hW0] at kV kE hB0 hsz0 px0 px1 px2 px3
  rw [← hW0]
  clear hW0 qx0 qx1 qx2 qx3
  have v0 := kV.cell 0 _ rfl
  obtain ⟨c0, c1, c2, c3⟩ := kE.cells4
  have fV : Free W0 g u w.heap.size := hV.new hB0 (Nat.le_refl _) (by omega)
  have fE : Free W0 g u (w.heap.size + 1) := hV.new hB0 (by omega) (by omega)
  have fB : Free W0 g u b := (TStep.below (g := g) (u := u) hB0).free hPx
  have ST := hid (TStep.below (g := g) (u := u) hB0)
  have VI := hid (hV.below hB0)
  have HS0 := hid hV.short
  have HXx := hid (hrx.step (TStep.below (g := g) (u := u) hB0))
  clear kV kE hB0 hsz0 hV hr hcap hkids hrx hPx
  have hszx := HSZ.out
  have hns := nil_set
  have hms := method_set
  have stq := TStep.below (g := g) (u := u) ((Below.refl W0.heap.size W0).drew)
  have v0 := cell_step stq fV v0
  have c0 := cell_step stq fE c0
  have c1 := cell_step stq fE c1
  have c2 := cell_step stq fE c2
  have c3 := cell_step stq fE c3
  have px0 := cell_step stq fB px0
  have px1 := cell_step stq fB px1
  have px2 := cell_step stq fB px2
  have px3 := cell_step stq fB px3
  have fV := stq.free fV
  have fE := stq.free fE
  have fB := stq.free fB
  have ST := hid (ST.out.trans stq)
  have HXx := hid (HXx.out.step stq)
  have VI := hid (VI.out.below ((Below.refl W0.heap.size W0).drew))
  clear stq
  refine wp_region_held_drew (S := (fun w' => w'.cell? ⟨w.heap.size, 0, none⟩ = some (.iface TSt (.pointer (some ⟨g, 0, none⟩))) ∧ w'.cell? ⟨w.heap.size + 1, 0, none⟩ = some (.string ⟨#[61]⟩) ∧ w'.cell? ⟨w.heap.size + 1, 1, none⟩ = some (.int .i64 n) ∧ w'.cell? ⟨w.heap.size + 1, 2, none⟩ = some (.string ⟨nm.toArray⟩) ∧ w'.cell? ⟨w.heap.size + 1, 3, none⟩ = some (.slice (some ⟨b, off, none⟩) 1 cap) ∧ w'.cell? ⟨b, off, none⟩ = some (.string ⟨x.op.toArray⟩) ∧ w'.cell? ⟨b, off + 1, none⟩ = some (.int .i64 x.num) ∧ w'.cell? ⟨b, off + 2, none⟩ = some (.string ⟨x.name.toArray⟩) ∧ w'.cell? ⟨b, off + 3, none⟩ = some (.slice Ax x.kids.len capx))) (by kernel_rfl) ⟨v0, c0, c1, c2, c3, px0, px1, px2, px3⟩ (fun hHeld => ?_)
  refine takeYes (i := 0) (v := .agg #[.iface TSt (.pointer (some ⟨g, 0, none⟩))]) rfl (by kernel_rfl) (by kernel_rfl) (by kernel_rfl) (fun _ _ _ h => h) (by rfl) ?_ (by assumption) ?_
  · intro w hSw; obtain ⟨sq0, sq1, sq2, sq3, sq4, sq5, sq6, sq7, sq8⟩ := hSw; go_simp
  try simp only [Act.put, List.setIfInBounds_toArray, List.set_cons_zero, List.set_cons_succ]
  refine takeYes (i := 1) (v := .pointer (some ⟨w.heap.size + 1, 3, none⟩)) rfl (by kernel_rfl) (by kernel_rfl) (by kernel_rfl) (fun _ _ _ h => h) (by rfl) ?_ (by assumption) ?_
  · intro w hSw; obtain ⟨sq0, sq1, sq2, sq3, sq4, sq5, sq6, sq7, sq8⟩ := hSw; go_simp
  try simp only [Act.put, List.setIfInBounds_toArray, List.set_cons_zero, List.set_cons_succ]
  refine takeYes (i := 2) (v := .slice (some ⟨b, off, none⟩) 1 cap) rfl (by kernel_rfl) (by kernel_rfl) (by kernel_rfl) (fun _ _ _ h => h) (by rfl) ?_ (by assumption) ?_
  · intro w hSw; obtain ⟨sq0, sq1, sq2, sq3, sq4, sq5, sq6, sq7, sq8⟩ := hSw; go_simp
  try simp only [Act.put, List.setIfInBounds_toArray, List.set_cons_zero, List.set_cons_succ]
  refine takeYes (i := 3) (v := .pointer (some ⟨b, off, none⟩)) rfl (by kernel_rfl) (by kernel_rfl) (by kernel_rfl) (fun _ _ _ h => h) (by rfl) ?_ (by assumption) ?_
  · intro w hSw; obtain ⟨sq0, sq1, sq2, sq3, sq4, sq5, sq6, sq7, sq8⟩ := hSw; go_simp
  try simp only [Act.put, List.setIfInBounds_toArray, List.set_cons_zero, List.set_cons_succ]
  refine takeYes (i := 4) (v := .agg #[.string ⟨x.op.toArray⟩, .int .i64 x.num, .string ⟨x.name.toArray⟩, .slice Ax x.kids.len capx]) rfl (by kernel_rfl) (by kernel_rfl) (by kernel_rfl) (fun _ _ _ h => h) (by rfl) ?_ (by assumption) ?_
  · intro w hSw; obtain ⟨sq0, sq1, sq2, sq3, sq4, sq5, sq6, sq7, sq8⟩ := hSw; go_simp
  try simp only [Act.put, List.setIfInBounds_toArray, List.set_cons_zero, List.set_cons_succ]
  refine wpAnyH_ready (rs := [5]) (by kernel_rfl) (by simp) ?_
  refine AllReadyH.cons rfl (fun K hK => ?_) AllReadyH.nil
  go_simp
  ((with_reducible refine (HKx.out.call _ g B T u _ HXx.out VI.out (by omega)).mono ?_); rintro e1 w5 ⟨u5, hst, htab, hm⟩)
  obtain ⟨r5, T5, hv5⟩ : ∃ r T1, valF x T = (r, T1) := ⟨_, _, rfl⟩
  rw [hv5] at htab hm
  obtain ⟨ha, hb, hc⟩ := val_after HOx.out VI.out.short hv5
  have v0 := cell_step hst fV v0
  have c0 := cell_step hst fE c0
  have c1 := cell_step hst fE c1
  have c2 := cell_step hst fE c2
  have c3 := cell_step hst fE c3
  have px0 := cell_step hst fB px0
  have px1 := cell_step hst fB px1
  have px2 := cell_step hst fB px2
  have px3 := cell_step hst fB px3
  have fV := hst.free fV
  have fE := hst.free fE
  have fB := hst.free fB
  have ST := hid (ST.out.trans hst)
  have HXx := hid (HXx.out.step hst)
  have VI := hid (VI.out.step hst htab ha)
  have HT5 := hid htab
  have HV5 := hid hv5
  clear hst htab ha hv5
  rcases r5 with er | n5
  · (dsimp only at hm; subst hm; exact ⟨rfl, ValPost.bad ST.out VI.out.tab (show thenV (valF x T) _ = _ by rw [HV5.out]; rfl)⟩)
  dsimp only at hm
  subst hm
  have HI5 := hid (hc _ rfl)
  clear hc
  go_wp2_with fail
  refine hK.out _ _ ?_ (fun hHeld => ?_)
  · exact ⟨v0, c0, c1, c2, c3, px0, px1, px2, px3⟩
  clear hK K
  try simp only [Act.put, List.setIfInBounds_toArray, List.set_cons_zero, List.set_cons_succ]
  refine takeYes (i := 6) (v := .int .i64 n5) rfl (by kernel_rfl) (by kernel_rfl) (by kernel_rfl) (fun _ _ _ h => h) (by rfl) ?_ (by assumption) ?_
  · intro w hSw; obtain ⟨sq0, sq1, sq2, sq3, sq4, sq5, sq6, sq7, sq8⟩ := hSw; go_simp
  try simp only [Act.put, List.setIfInBounds_toArray, List.set_cons_zero, List.set_cons_succ]
  refine wpAnyH_done (by kernel_rfl) ?_ _
  go_wp2_with fail
  have stq := TStep.below (g := g) (u := u5) ((Below.refl w5.heap.size w5).drew)
  have v0 := cell_step stq fV v0
  have c0 := cell_step stq fE c0
  have c1 := cell_step stq fE c1
  have c2 := cell_step stq fE c2
  have c3 := cell_step stq fE c3
  have px0 := cell_step stq fB px0
  have px1 := cell_step stq fB px1
  have px2 := cell_step stq fB px2
  have px3 := cell_step stq fB px3
  have fV := stq.free fV
  have fE := stq.free fE
  have fB := stq.free fB
  have ST := hid (ST.out.trans stq)
  have HXx := hid (HXx.out.step stq)
  have VI := hid (VI.out.below ((Below.refl w5.heap.size w5).drew))
  clear stq
  refine wp_region_held_drew (S := (fun w' => w'.cell? ⟨w.heap.size, 0, none⟩ = some (.iface TSt (.pointer (some ⟨g, 0, none⟩))) ∧ w'.cell? ⟨w.heap.size + 1, 0, none⟩ = some (.string ⟨#[61]⟩) ∧ w'.cell? ⟨w.heap.size + 1, 1, none⟩ = some (.int .i64 n) ∧ w'.cell? ⟨w.heap.size + 1, 2, none⟩ = some (.string ⟨nm.toArray⟩) ∧ w'.cell? ⟨w.heap.size + 1, 3, none⟩ = some (.slice (some ⟨b, off, none⟩) 1 cap) ∧ w'.cell? ⟨b, off, none⟩ = some (.string ⟨x.op.toArray⟩) ∧ w'.cell? ⟨b, off + 1, none⟩ = some (.int .i64 x.num) ∧ w'.cell? ⟨b, off + 2, none⟩ = some (.string ⟨x.name.toArray⟩) ∧ w'.cell? ⟨b, off + 3, none⟩ = some (.slice Ax x.kids.len capx))) (by kernel_rfl) ⟨v0, c0, c1, c2, c3, px0, px1, px2, px3⟩ (fun hHeld => ?_)
  refine takeYes (i := 0) (v := .pointer (some ⟨w.heap.size, 0, none⟩)) rfl (by kernel_rfl) (by kernel_rfl) (by kernel_rfl) (fun _ _ _ h => h) (by rfl) ?_ (by assumption) ?_
  · intro w hSw; obtain ⟨sq0, sq1, sq2, sq3, sq4, sq5, sq6, sq7, sq8⟩ := hSw; go_simp
  try simp only [Act.put, List.setIfInBounds_toArray, List.set_cons_zero, List.set_cons_succ]
  refine takeYes (i := 1) (v := .iface TSt (.pointer (some ⟨g, 0, none⟩))) rfl (by kernel_rfl) (by kernel_rfl) (by kernel_rfl) (fun _ _ _ h => h) (by rfl) ?_ (by assumption) ?_
  · intro w hSw; obtain ⟨sq0, sq1, sq2, sq3, sq4, sq5, sq6, sq7, sq8⟩ := hSw; go_simp
  try simp only [Act.put, List.setIfInBounds_toArray, List.set_cons_zero, List.set_cons_succ]
  refine takeYes (i := 2) (v := .pointer (some ⟨w.heap.size + 1, 2, none⟩)) rfl (by kernel_rfl) (by kernel_rfl) (by kernel_rfl) (fun _ _ _ h => h) (by rfl) ?_ (by assumption) ?_
  · intro w hSw; obtain ⟨sq0, sq1, sq2, sq3, sq4, sq5, sq6, sq7, sq8⟩ := hSw; go_simp
  try simp only [Act.put, List.setIfInBounds_toArray, List.set_cons_zero, List.set_cons_succ]
  refine takeYes (i := 3) (v := .string ⟨nm.toArray⟩) rfl (by kernel_rfl) (by kernel_rfl) (by kernel_rfl) (fun _ _ _ h => h) (by rfl) ?_ (by assumption) ?_
  · intro w hSw; obtain ⟨sq0, sq1, sq2, sq3, sq4, sq5, sq6, sq7, sq8⟩ := hSw; go_simp
  try simp only [Act.put, List.setIfInBounds_toArray, List.set_cons_zero, List.set_cons_succ]
  refine takeYes (i := 4) (v := .int .i64 n5) rfl (by kernel_rfl) (by kernel_rfl) (by kernel_rfl) (fun _ _ _ h => h) (by rfl) ?_ (by assumption) ?_
  · intro w hSw; obtain ⟨sq0, sq1, sq2, sq3, sq4, sq5, sq6, sq7, sq8⟩ := hSw; go_simp
  try simp only [Act.put, List.setIfInBounds_toArray, List.set_cons_zero, List.set_cons_succ]
  refine takeYes (i := 6) (v := .iface TSt (.pointer (some ⟨g, 0, none⟩))) rfl (by kernel_rfl) (by kernel_rfl) (by kernel_rfl) (fun _ _ _ h => h) (by rfl) ?_ (by assumption) ?_
  · intro w hSw; obtain ⟨sq0, sq1, sq2, sq3, sq4, sq5, sq6, sq7, sq8⟩ := hSw; go_simp
  try simp only [Act.put, List.setIfInBounds_toArray, List.set_cons_zero, List.set_cons_succ]
  refine takeYes (i := 7) (v := .iface TSt (.pointer (some ⟨g, 0, none⟩))) rfl (by kernel_rfl) (by kernel_rfl) (by kernel_rfl) (fun _ _ _ h => h) (by rfl) ?_ (by assumption) ?_
  · intro w hSw; obtain ⟨sq0, sq1, sq2, sq3, sq4, sq5, sq6, sq7, sq8⟩ := hSw; go_simp
  try simp only [Act.put, List.setIfInBounds_toArray, List.set_cons_zero, List.set_cons_succ]
  refine wpAnyH_ready (rs := [5]) (by kernel_rfl) (by simp) ?_
  refine AllReadyH.cons rfl (fun K hK => ?_) AllReadyH.nil
  go_simp
  ((with_reducible refine (text_any n5 (I64.lo HI5.out) (I64.hi HI5.out) _ VI.out.laid).mono ?_); rintro e1 w8 ⟨rfl, hby⟩)
  have stq := TStep.below (g := g) (u := u5) hby
  have v0 := cell_step stq fV v0
  have c0 := cell_step stq fE c0
  have c1 := cell_step stq fE c1
  have c2 := cell_step stq fE c2
  have c3 := cell_step stq fE c3
  have px0 := cell_step stq fB px0
  have px1 := cell_step stq fB px1
  have px2 := cell_step stq fB px2
  have px3 := cell_step stq fB px3
  have fV := stq.free fV
  have fE := stq.free fE
  have fB := stq.free fB
  have ST := hid (ST.out.trans stq)
  have HXx := hid (HXx.out.step stq)
  have VI := hid (VI.out.below hby)
  clear stq hby
  go_wp2_with fail
  refine hK.out _ _ ?_ (fun hHeld => ?_)
  · exact ⟨v0, c0, c1, c2, c3, px0, px1, px2, px3⟩
  clear hK K
  try simp only [Act.put, List.setIfInBounds_toArray, List.set_cons_zero, List.set_cons_succ]
  refine wpAnyH_ready (rs := [8]) (by kernel_rfl) (by simp) ?_
  refine AllReadyH.cons rfl (fun K hK => ?_) AllReadyH.nil
  go_simp
  ((with_reducible refine (Set_any T5 nm (Lib.itoa n5) g B u5 _ VI.out.tab (by omega)).mono ?_); rintro e1 w9 ⟨u9, rfl, hst, htab⟩)
  obtain ⟨pc, PT, hput⟩ : ∃ pc PT, putF T5 nm (Lib.itoa n5) = (pc, PT) := ⟨_, _, rfl⟩
  rw [hput] at htab
  rw [hput]
  dsimp only
  dsimp only at htab
  have v0 := cell_step hst fV v0
  have c0 := cell_step hst fE c0
  have c1 := cell_step hst fE c1
  have c2 := cell_step hst fE c2
  have c3 := cell_step hst fE c3
  have px0 := cell_step hst fB px0
  have px1 := cell_step hst fB px1
  have px2 := cell_step hst fB px2
  have px3 := cell_step hst fB px3
  have fV := hst.free fV
  have fE := hst.free fE
  have fB := hst.free fB
  have ST := hid (ST.out.trans hst)
  have HXx := hid (HXx.out.step hst)
  have HTF := hid htab
  have HPV : Hid (storeV nm n5 T5 = if pc = 0 then (.ok n5, PT) else (.error pc, PT)) := hid (by unfold storeV; rw [hput])
  clear hst htab hput
  go_wp2_with fail
  refine hK.out _ _ ?_ (fun hHeld => ?_)
  · exact ⟨v0, c0, c1, c2, c3, px0, px1, px2, px3⟩
  clear hK K
  try simp only [Act.put, List.setIfInBounds_toArray, List.set_cons_zero, List.set_cons_succ]
  refine wpAnyH_ready (rs := [9]) (by kernel_rfl) (by simp) ?_
  refine AllReadyH.cons rfl (fun K hK => ?_) AllReadyH.nil
  go_simp
  by_cases hpc : pc = 0
  · subst hpc
    have HEQ : Hid (valF (.mk [61] n nm (.cons x .nil)) T = (.ok n5, PT)) := hid (by show thenV (valF x T) (fun n T1 => storeV nm n T1) = _; rw [HV5.out, thenV_ok]; rw [HPV.out]; rfl)
    ((with_reducible refine (may_ok _).mono ?_); rintro e1 w10 ⟨rfl, rfl⟩)
    go_wp2_with fail
    refine hK.out _ _ ?_ (fun hHeld => ?_)
    · assumption
    clear hK K
    try simp only [Act.put, List.setIfInBounds_toArray, List.set_cons_zero, List.set_cons_succ]
    refine wpAnyH_done (by kernel_rfl) ?_ _
    go_wp2_with fail
    go_ret
    exact ValPost.good ST.out HTF.out HEQ.out rfl
  · have HEQ : Hid (valF (.mk [61] n nm (.cons x .nil)) T = (.error pc, PT)) := hid (by show thenV (valF x T) (fun n T1 => storeV nm n T1) = _; rw [HV5.out, thenV_ok]; rw [HPV.out, if_neg hpc])
    ((with_reducible refine (may_bad pc hpc _).mono ?_); rintro e1 w10 ⟨rfl, rfl⟩)
    exact ⟨rfl, ValPost.bad ST.out HTF.out HEQ.out⟩
set_option maxRecDepth 100000 in
set_option maxHeartbeats 4000000 in
theorem set_op (op : List UInt8) (n : Int) (nm : List UInt8) (x : Ex) (hop : setF op = true) (hne : op ≠ [61]) (hol : op.length ≤ 4) (hkx : ValC x) (hox : okF x = true) : SetC (.mk op n nm (.cons x .nil)) := by
  have hval : ∀ T, valF (.mk op n nm (.cons x .nil)) T = setV op nm (valF x) T := by
    intro T; show combV op n nm _ T = _; unfold combV
    rw [if_neg (by rw [setF_kids hop]; simp [valL]), if_pos hop]; rfl
  have hset : ∀ T, valF (.mk op n nm (.cons x .nil)) T = match nameV T nm with
      | .error e => (.error e, T)
      | .ok a => thenV (valF x T) fun b T1 => match twoV op.dropLast a b with
        | .error e => (.error e, T1)
        | .ok n => storeV nm n T1 := by
    intro T; rw [hval]; unfold setV; rw [if_neg hne]; rfl
  have HVAL := hid hset
  have b0 : (op == [61]) = false := by simpa using hne
  have h0l : 0 < op.length := by cases op with | nil => revert hop; decide | cons => simp
  have hdl : (⟨op.toArray⟩ : ByteArray).extract 0 (op.length - 1) = ⟨op.dropLast.toArray⟩ := by apply ByteArray.ext; simp [List.dropLast_eq_take]
  have hw1 : IntKind.i64.wrap ((op.length : Int) - 1) = (op.length : Int) - 1 := IntWalk.i64_in _ (by omega)
  clear hval hset hne hop
  have HKx := hid hkx
  have HOx := hid hox
  clear hkx hox
  have HSZ : Hid (szF x ≤ szF (.mk op n nm (.cons x .nil))) := hid (by simp only [szF, szL]; omega)
  intro w g B T u v hr hV hlen
  obtain ⟨A, cap, rfl, hcap, hkids⟩ := hr.form
  dsimp only [Ex.op, Ex.num, Ex.name, Ex.kids, Exs.len, Nat.zero_add, Nat.reduceAdd] at *
  obtain ⟨b, off, rfl⟩ := hkids.form_ (by simp [Exs.len])
  obtain ⟨Ax, capx, hPx, qx0, qx1, qx2, qx3, hrx, hkids⟩ := hkids.un
  unfold vw
  have kV : Bk ((w.alloc (.cells #[.iface TSt (.pointer (some ⟨g, 0, none⟩))] 78)).alloc (.cells #[.string ⟨op.toArray⟩, .int .i64 n, .string ⟨nm.toArray⟩, .slice (some ⟨b, off, none⟩) 1 cap] 30)) w.heap.size 78 #[.iface TSt (.pointer (some ⟨g, 0, none⟩))] := (Bk.new w 78 #[.iface TSt (.pointer (some ⟨g, 0, none⟩))]).alloc _
  have kE : Bk ((w.alloc (.cells #[.iface TSt (.pointer (some ⟨g, 0, none⟩))] 78)).alloc (.cells #[.string ⟨op.toArray⟩, .int .i64 n, .string ⟨nm.toArray⟩, .slice (some ⟨b, off, none⟩) 1 cap] 30)) (w.heap.size + 1) 30 #[.string ⟨op.toArray⟩, .int .i64 n, .string ⟨nm.toArray⟩, .slice (some ⟨b, off, none⟩) 1 cap] := heap2_1 w _ _
  have hB0 : Below w.heap.size w ((w.alloc (.cells #[.iface TSt (.pointer (some ⟨g, 0, none⟩))] 78)).alloc (.cells #[.string ⟨op.toArray⟩, .int .i64 n, .string ⟨nm.toArray⟩, .slice (some ⟨b, off, none⟩) 1 cap] 30)) := ((Below.refl _ _).alloc (Nat.le_refl _) _).alloc (by simp) _
  have hsz0 : ((w.alloc (.cells #[.iface TSt (.pointer (some ⟨g, 0, none⟩))] 78)).alloc (.cells #[.string ⟨op.toArray⟩, .int .i64 n, .string ⟨nm.toArray⟩, .slice (some ⟨b, off, none⟩) 1 cap] 30)).heap.size = w.heap.size + 1 + 1 := by simp
  have px0 : ((w.alloc (.cells #[.iface TSt (.pointer (some ⟨g, 0, none⟩))] 78)).alloc (.cells #[.string ⟨op.toArray⟩, .int .i64 n, .string ⟨nm.toArray⟩, .slice (some ⟨b, off, none⟩) 1 cap] 30)).cell? ⟨b, off, none⟩ = some (.string ⟨x.op.toArray⟩) := al (al qx0)
  have px1 : ((w.alloc (.cells #[.iface TSt (.pointer (some ⟨g, 0, none⟩))] 78)).alloc (.cells #[.string ⟨op.toArray⟩, .int .i64 n, .string ⟨nm.toArray⟩, .slice (some ⟨b, off, none⟩) 1 cap] 30)).cell? ⟨b, off + 1, none⟩ = some (.int .i64 x.num) := al (al qx1)
  have px2 : ((w.alloc (.cells #[.iface TSt (.pointer (some ⟨g, 0, none⟩))] 78)).alloc (.cells #[.string ⟨op.toArray⟩, .int .i64 n, .string ⟨nm.toArray⟩, .slice (some ⟨b, off, none⟩) 1 cap] 30)).cell? ⟨b, off + 2, none⟩ = some (.string ⟨x.name.toArray⟩) := al (al qx2)
  have px3 : ((w.alloc (.cells #[.iface TSt (.pointer (some ⟨g, 0, none⟩))] 78)).alloc (.cells #[.string ⟨op.toArray⟩, .int .i64 n, .string ⟨nm.toArray⟩, .slice (some ⟨b, off, none⟩) 1 cap] 30)).cell? ⟨b, off + 3, none⟩ = some (.slice Ax x.kids.len capx) := al (al qx3)
  go_enter Tryz.func65, Tryz.ntmps65
  go_wp2_with fail
  obtain ⟨W0, hW0⟩ : ∃ W0, W0 = ((w.alloc (.cells #[.iface TSt (.pointer (some ⟨g, 0, none⟩))] 78)).alloc (.cells #[.string ⟨op.toArray⟩, .int .i64 n, .string ⟨nm.toArray⟩, .slice (some ⟨b, off, none⟩) 1 cap] 30)) := ⟨_, rfl⟩
  rw [← hW0] at kV kE hB0 hsz0 px0 px1 px2 px3
  rw [← hW0]
  clear hW0 qx0 qx1 qx2 qx3
  have v0 := kV.cell 0 _ rfl
  obtain ⟨c0, c1, c2, c3⟩ := kE.cells4
  have fV : Free W0 g u w.heap.size := hV.new hB0 (Nat.le_refl _) (by omega)
  have fE : Free W0 g u (w.heap.size + 1) := hV.new hB0 (by omega) (by omega)
  have fB : Free W0 g u b := (TStep.below (g := g) (u := u) hB0).free hPx
  have ST := hid (TStep.below (g := g) (u := u) hB0)
  have VI := hid (hV.below hB0)
  have HS0 := hid hV.short
  have HXx := hid (hrx.step (TStep.below (g := g) (u := u) hB0))
  clear kV kE hB0 hsz0 hV hr hcap hkids hrx hPx
  have hszx := HSZ.out
  have hns := nil_set
  have hms := method_set
  ((with_reducible refine (nameC2 _ g B T u nm VI.out (by omega)).mono ?_); rintro e1 w1 ⟨hby, hm⟩)
  have stq := TStep.below (g := g) (u := u) hby
  have v0 := cell_step stq fV v0
  have c0 := cell_step stq fE c0
  have c1 := cell_step stq fE c1
  have c2 := cell_step stq fE c2
  have c3 := cell_step stq fE c3
  have px0 := cell_step stq fB px0
  have px1 := cell_step stq fB px1
  have px2 := cell_step stq fB px2
  have px3 := cell_step stq fB px3
  have fV := stq.free fV
  have fE := stq.free fE
  have fB := stq.free fB
  have ST := hid (ST.out.trans stq)
  have HXx := hid (HXx.out.step stq)
  have VI := hid (VI.out.below hby)
  clear stq hby
  cases hn : nameV T nm with
  | error er =>
    rw [hn] at hm; dsimp only at hm; subst hm
    exact ⟨rfl, ValPost.bad ST.out VI.out.tab (show _ = _ by rw [HVAL.out, hn])⟩
  | ok na =>
    rw [hn] at hm; dsimp only at hm; subst hm
    have HN := hid hn
    have HIA : Hid (I64 na) := hid (name_rng hn)
    clear hn
    go_wp2_with fail
    have stq := TStep.below (g := g) (u := u) ((Below.refl w1.heap.size w1).drew)
    have v0 := cell_step stq fV v0
    have c0 := cell_step stq fE c0
    have c1 := cell_step stq fE c1
    have c2 := cell_step stq fE c2
    have c3 := cell_step stq fE c3
    have px0 := cell_step stq fB px0
    have px1 := cell_step stq fB px1
    have px2 := cell_step stq fB px2
    have px3 := cell_step stq fB px3
    have fV := stq.free fV
    have fE := stq.free fE
    have fB := stq.free fB
    have ST := hid (ST.out.trans stq)
    have HXx := hid (HXx.out.step stq)
    have VI := hid (VI.out.below ((Below.refl w1.heap.size w1).drew))
    clear stq
    refine wp_region_held_drew (S := (fun w' => w'.cell? ⟨w.heap.size, 0, none⟩ = some (.iface TSt (.pointer (some ⟨g, 0, none⟩))) ∧ w'.cell? ⟨w.heap.size + 1, 0, none⟩ = some (.string ⟨op.toArray⟩) ∧ w'.cell? ⟨w.heap.size + 1, 1, none⟩ = some (.int .i64 n) ∧ w'.cell? ⟨w.heap.size + 1, 2, none⟩ = some (.string ⟨nm.toArray⟩) ∧ w'.cell? ⟨w.heap.size + 1, 3, none⟩ = some (.slice (some ⟨b, off, none⟩) 1 cap) ∧ w'.cell? ⟨b, off, none⟩ = some (.string ⟨x.op.toArray⟩) ∧ w'.cell? ⟨b, off + 1, none⟩ = some (.int .i64 x.num) ∧ w'.cell? ⟨b, off + 2, none⟩ = some (.string ⟨x.name.toArray⟩) ∧ w'.cell? ⟨b, off + 3, none⟩ = some (.slice Ax x.kids.len capx))) (by kernel_rfl) ⟨v0, c0, c1, c2, c3, px0, px1, px2, px3⟩ (fun hHeld => ?_)
    refine takeYes (i := 0) (v := .pointer (some ⟨w.heap.size + 1, 0, none⟩)) rfl (by kernel_rfl) (by kernel_rfl) (by kernel_rfl) (fun _ _ _ h => h) (by rfl) ?_ (by assumption) ?_
    · intro w hSw; obtain ⟨sq0, sq1, sq2, sq3, sq4, sq5, sq6, sq7, sq8⟩ := hSw; go_simp
    try simp only [Act.put, List.setIfInBounds_toArray, List.set_cons_zero, List.set_cons_succ]
    refine takeYes (i := 1) (v := .string ⟨op.toArray⟩) rfl (by kernel_rfl) (by kernel_rfl) (by kernel_rfl) (fun _ _ _ h => h) (by rfl) ?_ (by assumption) ?_
    · intro w hSw; obtain ⟨sq0, sq1, sq2, sq3, sq4, sq5, sq6, sq7, sq8⟩ := hSw; go_simp
    try simp only [Act.put, List.setIfInBounds_toArray, List.set_cons_zero, List.set_cons_succ]
    refine takeYes (i := 2) (v := .pointer (some ⟨w.heap.size + 1, 0, none⟩)) rfl (by kernel_rfl) (by kernel_rfl) (by kernel_rfl) (fun _ _ _ h => h) (by rfl) ?_ (by assumption) ?_
    · intro w hSw; obtain ⟨sq0, sq1, sq2, sq3, sq4, sq5, sq6, sq7, sq8⟩ := hSw; go_simp
    try simp only [Act.put, List.setIfInBounds_toArray, List.set_cons_zero, List.set_cons_succ]
    refine takeYes (i := 3) (v := .string ⟨op.toArray⟩) rfl (by kernel_rfl) (by kernel_rfl) (by kernel_rfl) (fun _ _ _ h => h) (by rfl) ?_ (by assumption) ?_
    · intro w hSw; obtain ⟨sq0, sq1, sq2, sq3, sq4, sq5, sq6, sq7, sq8⟩ := hSw; go_simp
    try simp only [Act.put, List.setIfInBounds_toArray, List.set_cons_zero, List.set_cons_succ]
    refine takeYes (i := 4) (v := .int .i64 (op.length : Int)) rfl (by kernel_rfl) (by kernel_rfl) (by kernel_rfl) (fun _ _ _ h => h) (by rfl) ?_ (by assumption) ?_
    · intro w hSw; obtain ⟨sq0, sq1, sq2, sq3, sq4, sq5, sq6, sq7, sq8⟩ := hSw; go_simp
    try simp only [Act.put, List.setIfInBounds_toArray, List.set_cons_zero, List.set_cons_succ]
    refine takeYes (i := 5) (v := .int .i64 ((op.length : Int) - 1)) rfl (by kernel_rfl) (by kernel_rfl) (by kernel_rfl) (fun _ _ _ h => h) (by rfl) ?_ (by assumption) ?_
    · intro w hSw; obtain ⟨sq0, sq1, sq2, sq3, sq4, sq5, sq6, sq7, sq8⟩ := hSw; go_simp
    try simp only [Act.put, List.setIfInBounds_toArray, List.set_cons_zero, List.set_cons_succ]
    refine takeYes (i := 6) (v := .string ⟨op.dropLast.toArray⟩) rfl (by kernel_rfl) (by kernel_rfl) (by kernel_rfl) (fun _ _ _ h => h) (by rfl) ?_ (by assumption) ?_
    · intro w hSw; obtain ⟨sq0, sq1, sq2, sq3, sq4, sq5, sq6, sq7, sq8⟩ := hSw; go_simp; intro hx; exfalso; omega
    try simp only [Act.put, List.setIfInBounds_toArray, List.set_cons_zero, List.set_cons_succ]
    refine takeYes (i := 7) (v := .int .i64 na) rfl (by kernel_rfl) (by kernel_rfl) (by kernel_rfl) (fun _ _ _ h => h) (by rfl) ?_ (by assumption) ?_
    · intro w hSw; obtain ⟨sq0, sq1, sq2, sq3, sq4, sq5, sq6, sq7, sq8⟩ := hSw; go_simp
    try simp only [Act.put, List.setIfInBounds_toArray, List.set_cons_zero, List.set_cons_succ]
    refine takeYes (i := 8) (v := .agg #[.iface TSt (.pointer (some ⟨g, 0, none⟩))]) rfl (by kernel_rfl) (by kernel_rfl) (by kernel_rfl) (fun _ _ _ h => h) (by rfl) ?_ (by assumption) ?_
    · intro w hSw; obtain ⟨sq0, sq1, sq2, sq3, sq4, sq5, sq6, sq7, sq8⟩ := hSw; go_simp
    try simp only [Act.put, List.setIfInBounds_toArray, List.set_cons_zero, List.set_cons_succ]
    refine takeYes (i := 9) (v := .pointer (some ⟨w.heap.size + 1, 3, none⟩)) rfl (by kernel_rfl) (by kernel_rfl) (by kernel_rfl) (fun _ _ _ h => h) (by rfl) ?_ (by assumption) ?_
    · intro w hSw; obtain ⟨sq0, sq1, sq2, sq3, sq4, sq5, sq6, sq7, sq8⟩ := hSw; go_simp
    try simp only [Act.put, List.setIfInBounds_toArray, List.set_cons_zero, List.set_cons_succ]
    refine takeYes (i := 10) (v := .slice (some ⟨b, off, none⟩) 1 cap) rfl (by kernel_rfl) (by kernel_rfl) (by kernel_rfl) (fun _ _ _ h => h) (by rfl) ?_ (by assumption) ?_
    · intro w hSw; obtain ⟨sq0, sq1, sq2, sq3, sq4, sq5, sq6, sq7, sq8⟩ := hSw; go_simp
    try simp only [Act.put, List.setIfInBounds_toArray, List.set_cons_zero, List.set_cons_succ]
    refine takeYes (i := 11) (v := .pointer (some ⟨b, off, none⟩)) rfl (by kernel_rfl) (by kernel_rfl) (by kernel_rfl) (fun _ _ _ h => h) (by rfl) ?_ (by assumption) ?_
    · intro w hSw; obtain ⟨sq0, sq1, sq2, sq3, sq4, sq5, sq6, sq7, sq8⟩ := hSw; go_simp
    try simp only [Act.put, List.setIfInBounds_toArray, List.set_cons_zero, List.set_cons_succ]
    refine takeYes (i := 12) (v := .agg #[.string ⟨x.op.toArray⟩, .int .i64 x.num, .string ⟨x.name.toArray⟩, .slice Ax x.kids.len capx]) rfl (by kernel_rfl) (by kernel_rfl) (by kernel_rfl) (fun _ _ _ h => h) (by rfl) ?_ (by assumption) ?_
    · intro w hSw; obtain ⟨sq0, sq1, sq2, sq3, sq4, sq5, sq6, sq7, sq8⟩ := hSw; go_simp
    try simp only [Act.put, List.setIfInBounds_toArray, List.set_cons_zero, List.set_cons_succ]
    refine wpAnyH_ready (rs := [13]) (by kernel_rfl) (by simp) ?_
    refine AllReadyH.cons rfl (fun K hK => ?_) AllReadyH.nil
    go_simp
    ((with_reducible refine (HKx.out.call _ g B T u _ HXx.out VI.out (by omega)).mono ?_); rintro e1 w5 ⟨u5, hst, htab, hm⟩)
    obtain ⟨r5, T5, hv5⟩ : ∃ r T1, valF x T = (r, T1) := ⟨_, _, rfl⟩
    rw [hv5] at htab hm
    obtain ⟨ha, hb, hc⟩ := val_after HOx.out VI.out.short hv5
    have v0 := cell_step hst fV v0
    have c0 := cell_step hst fE c0
    have c1 := cell_step hst fE c1
    have c2 := cell_step hst fE c2
    have c3 := cell_step hst fE c3
    have px0 := cell_step hst fB px0
    have px1 := cell_step hst fB px1
    have px2 := cell_step hst fB px2
    have px3 := cell_step hst fB px3
    have fV := hst.free fV
    have fE := hst.free fE
    have fB := hst.free fB
    have ST := hid (ST.out.trans hst)
    have HXx := hid (HXx.out.step hst)
    have VI := hid (VI.out.step hst htab ha)
    have HT5 := hid htab
    have HV5 := hid hv5
    clear hst htab ha hv5
    rcases r5 with er | n5
    · (dsimp only at hm; subst hm; exact ⟨rfl, ValPost.bad ST.out VI.out.tab (show _ = _ by rw [HVAL.out, HN.out]; show thenV (valF x T) _ = _; rw [HV5.out]; rfl)⟩)
    dsimp only at hm
    subst hm
    have HI5 := hid (hc _ rfl)
    clear hc
    go_wp2_with fail
    refine hK.out _ _ ?_ (fun hHeld => ?_)
    · exact ⟨v0, c0, c1, c2, c3, px0, px1, px2, px3⟩
    clear hK K
    try simp only [Act.put, List.setIfInBounds_toArray, List.set_cons_zero, List.set_cons_succ]
    refine wpAnyH_ready (rs := [14]) (by kernel_rfl) (by simp) ?_
    refine AllReadyH.cons rfl (fun K hK => ?_) AllReadyH.nil
    go_simp
    ((with_reducible refine (two_any op.dropLast na n5 _).mono ?_); rintro e1 w7 ⟨rfl, hm⟩)
    have HVV : Hid (valF (.mk op n nm (.cons x .nil)) T = match twoV op.dropLast na n5 with | .error e => (.error e, T5) | .ok n => storeV nm n T5) := hid (by rw [HVAL.out, HN.out]; show thenV (valF x T) _ = _; rw [HV5.out]; rfl)
    have HR7 : Hid (∀ n, twoV op.dropLast na n5 = .ok n → I64 n) := hid (fun n h => two_rng HIA.out HI5.out h)
    generalize twoV op.dropLast na n5 = r7 at hm HVV HR7
    rcases r7 with er | n7
    · (dsimp only at hm; subst hm; exact ⟨rfl, ValPost.bad ST.out VI.out.tab HVV.out⟩)
    dsimp only at hm
    subst hm
    have HI7 := hid (HR7.out n7 rfl)
    go_wp2_with fail
    refine hK.out _ _ ?_ (fun hHeld => ?_)
    · assumption
    clear hK K
    try simp only [Act.put, List.setIfInBounds_toArray, List.set_cons_zero, List.set_cons_succ]
    refine takeYes (i := 15) (v := .int .i64 n7) rfl (by kernel_rfl) (by kernel_rfl) (by kernel_rfl) (fun _ _ _ h => h) (by rfl) ?_ (by assumption) ?_
    · intro w hSw; obtain ⟨sq0, sq1, sq2, sq3, sq4, sq5, sq6, sq7, sq8⟩ := hSw; go_simp
    try simp only [Act.put, List.setIfInBounds_toArray, List.set_cons_zero, List.set_cons_succ]
    refine wpAnyH_done (by kernel_rfl) ?_ _
    go_wp2_with fail
    have stq := TStep.below (g := g) (u := u5) ((Below.refl w5.heap.size w5).drew)
    have v0 := cell_step stq fV v0
    have c0 := cell_step stq fE c0
    have c1 := cell_step stq fE c1
    have c2 := cell_step stq fE c2
    have c3 := cell_step stq fE c3
    have px0 := cell_step stq fB px0
    have px1 := cell_step stq fB px1
    have px2 := cell_step stq fB px2
    have px3 := cell_step stq fB px3
    have fV := stq.free fV
    have fE := stq.free fE
    have fB := stq.free fB
    have ST := hid (ST.out.trans stq)
    have HXx := hid (HXx.out.step stq)
    have VI := hid (VI.out.below ((Below.refl w5.heap.size w5).drew))
    clear stq
    refine wp_region_held_drew (S := (fun w' => w'.cell? ⟨w.heap.size, 0, none⟩ = some (.iface TSt (.pointer (some ⟨g, 0, none⟩))) ∧ w'.cell? ⟨w.heap.size + 1, 0, none⟩ = some (.string ⟨op.toArray⟩) ∧ w'.cell? ⟨w.heap.size + 1, 1, none⟩ = some (.int .i64 n) ∧ w'.cell? ⟨w.heap.size + 1, 2, none⟩ = some (.string ⟨nm.toArray⟩) ∧ w'.cell? ⟨w.heap.size + 1, 3, none⟩ = some (.slice (some ⟨b, off, none⟩) 1 cap) ∧ w'.cell? ⟨b, off, none⟩ = some (.string ⟨x.op.toArray⟩) ∧ w'.cell? ⟨b, off + 1, none⟩ = some (.int .i64 x.num) ∧ w'.cell? ⟨b, off + 2, none⟩ = some (.string ⟨x.name.toArray⟩) ∧ w'.cell? ⟨b, off + 3, none⟩ = some (.slice Ax x.kids.len capx))) (by kernel_rfl) ⟨v0, c0, c1, c2, c3, px0, px1, px2, px3⟩ (fun hHeld => ?_)
    refine takeYes (i := 0) (v := .pointer (some ⟨w.heap.size, 0, none⟩)) rfl (by kernel_rfl) (by kernel_rfl) (by kernel_rfl) (fun _ _ _ h => h) (by rfl) ?_ (by assumption) ?_
    · intro w hSw; obtain ⟨sq0, sq1, sq2, sq3, sq4, sq5, sq6, sq7, sq8⟩ := hSw; go_simp
    try simp only [Act.put, List.setIfInBounds_toArray, List.set_cons_zero, List.set_cons_succ]
    refine takeYes (i := 1) (v := .iface TSt (.pointer (some ⟨g, 0, none⟩))) rfl (by kernel_rfl) (by kernel_rfl) (by kernel_rfl) (fun _ _ _ h => h) (by rfl) ?_ (by assumption) ?_
    · intro w hSw; obtain ⟨sq0, sq1, sq2, sq3, sq4, sq5, sq6, sq7, sq8⟩ := hSw; go_simp
    try simp only [Act.put, List.setIfInBounds_toArray, List.set_cons_zero, List.set_cons_succ]
    refine takeYes (i := 2) (v := .pointer (some ⟨w.heap.size + 1, 2, none⟩)) rfl (by kernel_rfl) (by kernel_rfl) (by kernel_rfl) (fun _ _ _ h => h) (by rfl) ?_ (by assumption) ?_
    · intro w hSw; obtain ⟨sq0, sq1, sq2, sq3, sq4, sq5, sq6, sq7, sq8⟩ := hSw; go_simp
    try simp only [Act.put, List.setIfInBounds_toArray, List.set_cons_zero, List.set_cons_succ]
    refine takeYes (i := 3) (v := .string ⟨nm.toArray⟩) rfl (by kernel_rfl) (by kernel_rfl) (by kernel_rfl) (fun _ _ _ h => h) (by rfl) ?_ (by assumption) ?_
    · intro w hSw; obtain ⟨sq0, sq1, sq2, sq3, sq4, sq5, sq6, sq7, sq8⟩ := hSw; go_simp
    try simp only [Act.put, List.setIfInBounds_toArray, List.set_cons_zero, List.set_cons_succ]
    refine takeYes (i := 4) (v := .int .i64 n7) rfl (by kernel_rfl) (by kernel_rfl) (by kernel_rfl) (fun _ _ _ h => h) (by rfl) ?_ (by assumption) ?_
    · intro w hSw; obtain ⟨sq0, sq1, sq2, sq3, sq4, sq5, sq6, sq7, sq8⟩ := hSw; go_simp
    try simp only [Act.put, List.setIfInBounds_toArray, List.set_cons_zero, List.set_cons_succ]
    refine takeYes (i := 6) (v := .iface TSt (.pointer (some ⟨g, 0, none⟩))) rfl (by kernel_rfl) (by kernel_rfl) (by kernel_rfl) (fun _ _ _ h => h) (by rfl) ?_ (by assumption) ?_
    · intro w hSw; obtain ⟨sq0, sq1, sq2, sq3, sq4, sq5, sq6, sq7, sq8⟩ := hSw; go_simp
    try simp only [Act.put, List.setIfInBounds_toArray, List.set_cons_zero, List.set_cons_succ]
    refine takeYes (i := 7) (v := .iface TSt (.pointer (some ⟨g, 0, none⟩))) rfl (by kernel_rfl) (by kernel_rfl) (by kernel_rfl) (fun _ _ _ h => h) (by rfl) ?_ (by assumption) ?_
    · intro w hSw; obtain ⟨sq0, sq1, sq2, sq3, sq4, sq5, sq6, sq7, sq8⟩ := hSw; go_simp
    try simp only [Act.put, List.setIfInBounds_toArray, List.set_cons_zero, List.set_cons_succ]
    refine wpAnyH_ready (rs := [5]) (by kernel_rfl) (by simp) ?_
    refine AllReadyH.cons rfl (fun K hK => ?_) AllReadyH.nil
    go_simp
    ((with_reducible refine (text_any n7 (I64.lo HI7.out) (I64.hi HI7.out) _ VI.out.laid).mono ?_); rintro e1 w8 ⟨rfl, hby⟩)
    have stq := TStep.below (g := g) (u := u5) hby
    have v0 := cell_step stq fV v0
    have c0 := cell_step stq fE c0
    have c1 := cell_step stq fE c1
    have c2 := cell_step stq fE c2
    have c3 := cell_step stq fE c3
    have px0 := cell_step stq fB px0
    have px1 := cell_step stq fB px1
    have px2 := cell_step stq fB px2
    have px3 := cell_step stq fB px3
    have fV := stq.free fV
    have fE := stq.free fE
    have fB := stq.free fB
    have ST := hid (ST.out.trans stq)
    have HXx := hid (HXx.out.step stq)
    have VI := hid (VI.out.below hby)
    clear stq hby
    go_wp2_with fail
    refine hK.out _ _ ?_ (fun hHeld => ?_)
    · exact ⟨v0, c0, c1, c2, c3, px0, px1, px2, px3⟩
    clear hK K
    try simp only [Act.put, List.setIfInBounds_toArray, List.set_cons_zero, List.set_cons_succ]
    refine wpAnyH_ready (rs := [8]) (by kernel_rfl) (by simp) ?_
    refine AllReadyH.cons rfl (fun K hK => ?_) AllReadyH.nil
    go_simp
    ((with_reducible refine (Set_any T5 nm (Lib.itoa n7) g B u5 _ VI.out.tab (by omega)).mono ?_); rintro e1 w9 ⟨u9, rfl, hst, htab⟩)
    obtain ⟨pc, PT, hput⟩ : ∃ pc PT, putF T5 nm (Lib.itoa n7) = (pc, PT) := ⟨_, _, rfl⟩
    rw [hput] at htab
    rw [hput]
    dsimp only
    dsimp only at htab
    have v0 := cell_step hst fV v0
    have c0 := cell_step hst fE c0
    have c1 := cell_step hst fE c1
    have c2 := cell_step hst fE c2
    have c3 := cell_step hst fE c3
    have px0 := cell_step hst fB px0
    have px1 := cell_step hst fB px1
    have px2 := cell_step hst fB px2
    have px3 := cell_step hst fB px3
    have fV := hst.free fV
    have fE := hst.free fE
    have fB := hst.free fB
    have ST := hid (ST.out.trans hst)
    have HXx := hid (HXx.out.step hst)
    have HTF := hid htab
    have HPV : Hid (storeV nm n7 T5 = if pc = 0 then (.ok n7, PT) else (.error pc, PT)) := hid (by unfold storeV; rw [hput])
    clear hst htab hput
    go_wp2_with fail
    refine hK.out _ _ ?_ (fun hHeld => ?_)
    · exact ⟨v0, c0, c1, c2, c3, px0, px1, px2, px3⟩
    clear hK K
    try simp only [Act.put, List.setIfInBounds_toArray, List.set_cons_zero, List.set_cons_succ]
    refine wpAnyH_ready (rs := [9]) (by kernel_rfl) (by simp) ?_
    refine AllReadyH.cons rfl (fun K hK => ?_) AllReadyH.nil
    go_simp
    by_cases hpc : pc = 0
    · subst hpc
      have HEQ : Hid (valF (.mk op n nm (.cons x .nil)) T = (.ok n7, PT)) := hid (by rw [HVV.out]; rw [HPV.out]; rfl)
      ((with_reducible refine (may_ok _).mono ?_); rintro e1 w10 ⟨rfl, rfl⟩)
      go_wp2_with fail
      refine hK.out _ _ ?_ (fun hHeld => ?_)
      · assumption
      clear hK K
      try simp only [Act.put, List.setIfInBounds_toArray, List.set_cons_zero, List.set_cons_succ]
      refine wpAnyH_done (by kernel_rfl) ?_ _
      go_wp2_with fail
      go_ret
      exact ValPost.good ST.out HTF.out HEQ.out rfl
    · have HEQ : Hid (valF (.mk op n nm (.cons x .nil)) T = (.error pc, PT)) := hid (by rw [HVV.out]; rw [HPV.out, if_neg hpc])
      ((with_reducible refine (may_bad pc hpc _).mono ?_); rintro e1 w10 ⟨rfl, rfl⟩)
      exact ⟨rfl, ValPost.bad ST.out HTF.out HEQ.out⟩
end Go.Proofs.YtadmmmehphhecaaGreatDoor
/- The contract of value of sums.valuer, by induction; the walk of Value. -/
namespace Go.Proofs.YtadmmmehphhecaaGreatDoor
open Go.RowKit
theorem set_any (op : List UInt8) (n : Int) (nm : List UInt8) (x : Ex) (hop : setF op = true) (hkx : ValC x) (hox : okF x = true) : SetC (.mk op n nm (.cons x .nil)) := by
  by_cases h : op = [61]
  · subst h; exact set_eq n nm x hkx hox
  · exact set_op op n nm x hop h (op_len (by rw [setF_kids hop]; decide)) hkx hox
set_option maxRecDepth 100000 in
set_option maxHeartbeats 4000000 in
theorem val_set (op : List UInt8) (n : Int) (nm : List UInt8) (x : Ex) (hop : setF op = true) (hset : SetC (.mk op n nm (.cons x .nil))) : ValC (.mk op n nm (.cons x .nil)) := by
  have HKF := hid (setF_kids hop)
  have HNS := hid hop
  have HSET := hid hset
  clear hop hset
  intro w g B T u v hr hV hlen
  obtain ⟨A, cap, rfl, hcap, hkids⟩ := hr.form
  dsimp only [Ex.op, Ex.num, Ex.name, Ex.kids, Exs.len, Nat.zero_add, Nat.reduceAdd] at *
  obtain ⟨b, off, rfl⟩ := hkids.form_ (by simp [Exs.len])
  obtain ⟨Ax, capx, hPx, qx0, qx1, qx2, qx3, hrx, hkids⟩ := hkids.un
  unfold vw
  have kV : Bk ((w.alloc (.cells #[.iface TSt (.pointer (some ⟨g, 0, none⟩))] 78)).alloc (.cells #[.string ⟨op.toArray⟩, .int .i64 n, .string ⟨nm.toArray⟩, .slice (some ⟨b, off, none⟩) 1 cap] 30)) w.heap.size 78 #[.iface TSt (.pointer (some ⟨g, 0, none⟩))] := (Bk.new w 78 #[.iface TSt (.pointer (some ⟨g, 0, none⟩))]).alloc _
  have kE : Bk ((w.alloc (.cells #[.iface TSt (.pointer (some ⟨g, 0, none⟩))] 78)).alloc (.cells #[.string ⟨op.toArray⟩, .int .i64 n, .string ⟨nm.toArray⟩, .slice (some ⟨b, off, none⟩) 1 cap] 30)) (w.heap.size + 1) 30 #[.string ⟨op.toArray⟩, .int .i64 n, .string ⟨nm.toArray⟩, .slice (some ⟨b, off, none⟩) 1 cap] := heap2_1 w _ _
  have hB0 : Below w.heap.size w ((w.alloc (.cells #[.iface TSt (.pointer (some ⟨g, 0, none⟩))] 78)).alloc (.cells #[.string ⟨op.toArray⟩, .int .i64 n, .string ⟨nm.toArray⟩, .slice (some ⟨b, off, none⟩) 1 cap] 30)) := ((Below.refl _ _).alloc (Nat.le_refl _) _).alloc (by simp) _
  have hsz0 : ((w.alloc (.cells #[.iface TSt (.pointer (some ⟨g, 0, none⟩))] 78)).alloc (.cells #[.string ⟨op.toArray⟩, .int .i64 n, .string ⟨nm.toArray⟩, .slice (some ⟨b, off, none⟩) 1 cap] 30)).heap.size = w.heap.size + 1 + 1 := by simp
  have px0 : ((w.alloc (.cells #[.iface TSt (.pointer (some ⟨g, 0, none⟩))] 78)).alloc (.cells #[.string ⟨op.toArray⟩, .int .i64 n, .string ⟨nm.toArray⟩, .slice (some ⟨b, off, none⟩) 1 cap] 30)).cell? ⟨b, off, none⟩ = some (.string ⟨x.op.toArray⟩) := al (al qx0)
  have px1 : ((w.alloc (.cells #[.iface TSt (.pointer (some ⟨g, 0, none⟩))] 78)).alloc (.cells #[.string ⟨op.toArray⟩, .int .i64 n, .string ⟨nm.toArray⟩, .slice (some ⟨b, off, none⟩) 1 cap] 30)).cell? ⟨b, off + 1, none⟩ = some (.int .i64 x.num) := al (al qx1)
  have px2 : ((w.alloc (.cells #[.iface TSt (.pointer (some ⟨g, 0, none⟩))] 78)).alloc (.cells #[.string ⟨op.toArray⟩, .int .i64 n, .string ⟨nm.toArray⟩, .slice (some ⟨b, off, none⟩) 1 cap] 30)).cell? ⟨b, off + 2, none⟩ = some (.string ⟨x.name.toArray⟩) := al (al qx2)
  have px3 : ((w.alloc (.cells #[.iface TSt (.pointer (some ⟨g, 0, none⟩))] 78)).alloc (.cells #[.string ⟨op.toArray⟩, .int .i64 n, .string ⟨nm.toArray⟩, .slice (some ⟨b, off, none⟩) 1 cap] 30)).cell? ⟨b, off + 3, none⟩ = some (.slice Ax x.kids.len capx) := al (al qx3)
  go_enter Tryz.func37, Tryz.ntmps37
  go_wp2_with fail
  obtain ⟨W0, hW0⟩ : ∃ W0, W0 = ((w.alloc (.cells #[.iface TSt (.pointer (some ⟨g, 0, none⟩))] 78)).alloc (.cells #[.string ⟨op.toArray⟩, .int .i64 n, .string ⟨nm.toArray⟩, .slice (some ⟨b, off, none⟩) 1 cap] 30)) := ⟨_, rfl⟩
  rw [← hW0] at kV kE hB0 hsz0 px0 px1 px2 px3
  rw [← hW0]
  clear hW0 qx0 qx1 qx2 qx3
  have v0 := kV.cell 0 _ rfl
  obtain ⟨c0, c1, c2, c3⟩ := kE.cells4
  have fV : Free W0 g u w.heap.size := hV.new hB0 (Nat.le_refl _) (by omega)
  have fE : Free W0 g u (w.heap.size + 1) := hV.new hB0 (by omega) (by omega)
  have fB : Free W0 g u b := (TStep.below (g := g) (u := u) hB0).free hPx
  have ST := hid (TStep.below (g := g) (u := u) hB0)
  have VI := hid (hV.below hB0)
  have HE0 := hid (hr.step (TStep.below (g := g) (u := u) hB0))
  have HS0 := hid hV.short
  have HXx := hid (hrx.step (TStep.below (g := g) (u := u) hB0))
  clear kV kE hB0 hsz0 hV hr hcap hkids hrx hPx
  have stq := TStep.below (g := g) (u := u) ((Below.refl W0.heap.size W0).drew)
  have v0 := cell_step stq fV v0
  have c0 := cell_step stq fE c0
  have c1 := cell_step stq fE c1
  have c2 := cell_step stq fE c2
  have c3 := cell_step stq fE c3
  have px0 := cell_step stq fB px0
  have px1 := cell_step stq fB px1
  have px2 := cell_step stq fB px2
  have px3 := cell_step stq fB px3
  have fV := stq.free fV
  have fE := stq.free fE
  have fB := stq.free fB
  have ST := hid (ST.out.trans stq)
  have HXx := hid (HXx.out.step stq)
  have HE0 := hid (HE0.out.step stq)
  have VI := hid (VI.out.below ((Below.refl W0.heap.size W0).drew))
  clear stq
  refine wp_region_held_drew (S := (fun w' => w'.cell? ⟨w.heap.size, 0, none⟩ = some (.iface TSt (.pointer (some ⟨g, 0, none⟩))) ∧ w'.cell? ⟨w.heap.size + 1, 0, none⟩ = some (.string ⟨op.toArray⟩) ∧ w'.cell? ⟨w.heap.size + 1, 1, none⟩ = some (.int .i64 n) ∧ w'.cell? ⟨w.heap.size + 1, 2, none⟩ = some (.string ⟨nm.toArray⟩) ∧ w'.cell? ⟨w.heap.size + 1, 3, none⟩ = some (.slice (some ⟨b, off, none⟩) 1 cap) ∧ w'.cell? ⟨b, off, none⟩ = some (.string ⟨x.op.toArray⟩) ∧ w'.cell? ⟨b, off + 1, none⟩ = some (.int .i64 x.num) ∧ w'.cell? ⟨b, off + 2, none⟩ = some (.string ⟨x.name.toArray⟩) ∧ w'.cell? ⟨b, off + 3, none⟩ = some (.slice Ax x.kids.len capx))) (by kernel_rfl) ⟨v0, c0, c1, c2, c3, px0, px1, px2, px3⟩ (fun hHeld => ?_)
  refine takeYes (i := 0) (v := .pointer (some ⟨w.heap.size + 1, 3, none⟩)) rfl (by kernel_rfl) (by kernel_rfl) (by kernel_rfl) (fun _ _ _ h => h) (by rfl) ?_ (by assumption) ?_
  · intro w hSw; obtain ⟨sq0, sq1, sq2, sq3, sq4, sq5, sq6, sq7, sq8⟩ := hSw; go_simp
  try simp only [Act.put, List.setIfInBounds_toArray, List.set_cons_zero, List.set_cons_succ]
  refine takeYes (i := 1) (v := .slice (some ⟨b, off, none⟩) 1 cap) rfl (by kernel_rfl) (by kernel_rfl) (by kernel_rfl) (fun _ _ _ h => h) (by rfl) ?_ (by assumption) ?_
  · intro w hSw; obtain ⟨sq0, sq1, sq2, sq3, sq4, sq5, sq6, sq7, sq8⟩ := hSw; go_simp
  try simp only [Act.put, List.setIfInBounds_toArray, List.set_cons_zero, List.set_cons_succ]
  refine takeYes (i := 2) (v := .int .i64 1) rfl (by kernel_rfl) (by kernel_rfl) (by kernel_rfl) (fun _ _ _ h => h) (by rfl) ?_ (by assumption) ?_
  · intro w hSw; obtain ⟨sq0, sq1, sq2, sq3, sq4, sq5, sq6, sq7, sq8⟩ := hSw; go_simp
  try simp only [Act.put, List.setIfInBounds_toArray, List.set_cons_zero, List.set_cons_succ]
  refine takeYes (i := 3) (v := .pointer (some ⟨w.heap.size + 1, 0, none⟩)) rfl (by kernel_rfl) (by kernel_rfl) (by kernel_rfl) (fun _ _ _ h => h) (by rfl) ?_ (by assumption) ?_
  · intro w hSw; obtain ⟨sq0, sq1, sq2, sq3, sq4, sq5, sq6, sq7, sq8⟩ := hSw; go_simp
  try simp only [Act.put, List.setIfInBounds_toArray, List.set_cons_zero, List.set_cons_succ]
  refine takeYes (i := 4) (v := .string ⟨op.toArray⟩) rfl (by kernel_rfl) (by kernel_rfl) (by kernel_rfl) (fun _ _ _ h => h) (by rfl) ?_ (by assumption) ?_
  · intro w hSw; obtain ⟨sq0, sq1, sq2, sq3, sq4, sq5, sq6, sq7, sq8⟩ := hSw; go_simp
  try simp only [Act.put, List.setIfInBounds_toArray, List.set_cons_zero, List.set_cons_succ]
  refine wpAnyH_ready (rs := [5]) (by kernel_rfl) (by simp) ?_
  refine AllReadyH.cons rfl (fun K hK => ?_) AllReadyH.nil
  go_simp
  ((with_reducible refine (kids_any _ _).mono ?_); rintro e1 w1 ⟨rfl, hby⟩)
  rw [HKF.out]
  have stq := TStep.below (g := g) (u := u) hby
  have v0 := cell_step stq fV v0
  have c0 := cell_step stq fE c0
  have c1 := cell_step stq fE c1
  have c2 := cell_step stq fE c2
  have c3 := cell_step stq fE c3
  have px0 := cell_step stq fB px0
  have px1 := cell_step stq fB px1
  have px2 := cell_step stq fB px2
  have px3 := cell_step stq fB px3
  have fV := stq.free fV
  have fE := stq.free fE
  have fB := stq.free fB
  have ST := hid (ST.out.trans stq)
  have HXx := hid (HXx.out.step stq)
  have HE0 := hid (HE0.out.step stq)
  have VI := hid (VI.out.below hby)
  clear stq hby
  go_wp2_with fail
  refine hK.out _ _ ?_ (fun hHeld => ?_)
  · exact ⟨v0, c0, c1, c2, c3, px0, px1, px2, px3⟩
  clear hK K
  try simp only [Act.put, List.setIfInBounds_toArray, List.set_cons_zero, List.set_cons_succ]
  refine takeYes (i := 6) (v := .bool false) rfl (by kernel_rfl) (by kernel_rfl) (by kernel_rfl) (fun _ _ _ h => h) (by rfl) ?_ (by assumption) ?_
  · intro w hSw; obtain ⟨sq0, sq1, sq2, sq3, sq4, sq5, sq6, sq7, sq8⟩ := hSw; go_simp
  try simp only [Act.put, List.setIfInBounds_toArray, List.set_cons_zero, List.set_cons_succ]
  refine wpAnyH_done (by kernel_rfl) ?_ _
  go_wp2_with fail
  ((with_reducible refine (isSet_any op _).mono ?_); rintro e1 w2 ⟨rfl, rfl⟩)
  rw [HNS.out]
  go_wp2_with fail
  ((with_reducible refine (HSET.out.call _ g B T u _ HE0.out VI.out hlen).mono ?_); rintro e1 w4 ⟨u4, hst, htab, hm⟩)
  have HST := hid (ST.out.trans hst)
  have HTB := hid htab
  obtain ⟨r4, T4, hv4⟩ : ∃ r T1, valF (.mk op n nm (.cons x .nil)) T = (r, T1) := ⟨_, _, rfl⟩
  rw [hv4] at hm HTB
  have HV4 := hid hv4
  clear hst htab hv4
  rcases r4 with er | n4
  · (dsimp only at hm; subst hm; exact ⟨rfl, ValPost.bad HST.out HTB.out HV4.out⟩)
  dsimp only at hm
  subst hm
  go_wp2_with fail
  go_ret
  exact ValPost.good HST.out HTB.out HV4.out rfl
theorem val_any : ∀ e : Ex, okF e = true → ValC e := by
  intro e
  induction hs : szF e using Nat.strongRecOn generalizing e with
  | _ m ih =>
    subst hs
    intro ho
    obtain ⟨op, n, nm, k⟩ := e
    simp only [okF, Bool.and_eq_true, decide_eq_true_eq] at ho
    obtain ⟨⟨⟨o1, o2⟩, o3⟩, o4⟩ := ho
    have key : ∀ x : Ex, szF x < szF (.mk op n nm k) → okF x = true → ValC x := fun x hx ho => ih _ hx x rfl ho
    by_cases hl : (k.len : Int) = kidsF op
    case neg => exact val_kids op n nm k hl
    rcases op_kinds (op := op) (by omega) with rfl | rfl | h | rfl | h | ⟨h, h', h''⟩
    · have : k = .nil := by
        match k, hl with
        | .nil, _ => rfl
        | .cons x r, hl => rw [show kidsF numO = 0 by decide] at hl; simp [Exs.len] at hl; omega
      subst this
      exact val_num n nm
    · have : k = .nil := by
        match k, hl with
        | .nil, _ => rfl
        | .cons x r, hl => rw [show kidsF nameO = 0 by decide] at hl; simp [Exs.len] at hl; omega
      subst this
      exact val_name n nm
    · have hl' := hl
      rw [kidsF_una h] at hl'
      obtain ⟨x, rfl⟩ := Exs.one (k := k) (by omega)
      simp only [okL, Bool.and_eq_true] at o4
      have hx := key x (by simp only [szF, szL]; omega) o4.1
      rcases h with rfl | rfl | rfl | rfl
      · exact val_neg n nm x hx o4.1
      · exact val_pos n nm x hx o4.1
      · exact val_not n nm x hx o4.1
      · exact val_com n nm x hx o4.1
    · rw [show kidsF [63] = 3 by decide] at hl
      obtain ⟨x, y, z, rfl⟩ := Exs.three (k := k) (by omega)
      simp only [okL, Bool.and_eq_true] at o4
      exact val_if n nm x y z (key x (by simp only [szF, szL]; omega) o4.1) o4.1 (key y (by simp only [szF, szL]; omega) o4.2.1) o4.2.1 (key z (by simp only [szF, szL]; omega) o4.2.2.1) o4.2.2.1
    · have hl' := hl
      rw [setF_kids h] at hl'
      obtain ⟨x, rfl⟩ := Exs.one (k := k) (by omega)
      simp only [okL, Bool.and_eq_true] at o4
      exact val_set op n nm x h (set_any op n nm x h (key x (by simp only [szF, szL]; omega) o4.1) o4.1)
    · have hl' := hl
      rw [h''] at hl'
      obtain ⟨x, y, rfl⟩ := Exs.two (k := k) (by omega)
      simp only [okL, Bool.and_eq_true] at o4
      have hx := key x (by simp only [szF, szL]; omega) o4.1
      have hy := key y (by simp only [szF, szL]; omega) o4.2.1
      by_cases h1 : op = [38, 38]
      · subst h1; exact val_and n nm x y hx o4.1 hy o4.2.1
      by_cases h2 : op = [124, 124]
      · subst h2; exact val_or n nm x y hx o4.1 hy o4.2.1
      exact val_two op n nm x y h h' h'' h1 h2 hx o4.1 hy o4.2.1
end Go.Proofs.YtadmmmehphhecaaGreatDoor
/- The walk of Value of sums. -/
namespace Go.Proofs.YtadmmmehphhecaaGreatDoor
open Go.RowKit
abbrev T64 : TypeId := 2
theorem as_errno (v : Value) (w : World) : (Instr.typeAssert (.iface TEr v) 20 TEr false).run Tryz.prog w = .ok v w := by kernel_rfl
theorem vcatch_idle (r0 r1 : Addr) (w : World) :
    CallsD Tryz.prog 36 #[.pointer (some r0), .pointer (some r1)] .returning w fun e u' w' => e = .returned (.tuple #[]) ∧ u' = .returning ∧ w' = w := by
  refine callsD_of_wpS Tryz.func36 rfl fun c₀ cs hu => ?_
  simp only [Tryz.ntmps36, List.size_toArray, List.length_cons, List.length_nil, Nat.reduceAdd, Nat.reduceSub, Array.replicate_succ,
     Array.replicate_zero, List.push_toArray, List.append_toArray, List.nil_append, List.cons_append]
  apply wpS_seq
  apply wpS_region
  simp [wpOpsS, go_sem, recoverD, hu, Exit.thenS]
  refine wpS_of_wp ?_
  go_wp2_with fail
  cases c₀
  simp_all [bodyPostS, results, Tryz.results36]
set_option maxRecDepth 100000 in
set_option maxHeartbeats 2000000 in
theorem vcatch_bad (R1 R2 : Nat) (er : Int) (w : World) (x y : Value) (h1 : Bk w R1 T64 #[x]) (h2 : Bk w R2 TEr #[y]) (h12 : R1 ≠ R2) :
    CallsD Tryz.prog 36 #[.pointer (some ⟨R1, 0, none⟩), .pointer (some ⟨R2, 0, none⟩)] (.panicking (errV er)) w fun e u' w' =>
      e = .returned (.tuple #[]) ∧ settle u' = .returning ∧ w' = ((w.setCell ⟨R1, 0, none⟩ (.int .i64 0)).setCell ⟨R2, 0, none⟩ (.int .i64 er)).drew := by
  refine callsD_of_wpS Tryz.func36 rfl fun c₀ cs hu => ?_
  unfold errV at hu
  have d0 := h1.cell 0 x rfl
  have g0 := h1.free 0
  have e0 := h2.cell 0 y rfl
  have k0 := h2.free 0
  have hta := as_errno
  have l1 := h1.lt
  have l2 := h2.lt
  clear h1 h2
  simp only [Tryz.ntmps36, List.size_toArray, List.length_cons, List.length_nil, Nat.reduceAdd, Nat.reduceSub, Array.replicate_succ,
     Array.replicate_zero, List.push_toArray, List.append_toArray, List.nil_append, List.cons_append]
  apply wpS_seq
  apply wpS_region
  simp [wpOpsS, go_sem, recoverD, hu, Exit.thenS]
  refine wpS_of_wp ?_
  go_wp2_with fail
  go_region_with fail
  all_goals exact ⟨rfl, _, rfl, _, results_none rfl _ _ _, rfl, rfl, rfl⟩
/-- what Value answers: number, error, table -/
def valueF (e : Ex) (T : Tab) : Int × Int × Tab :=
  if 200 < deepF 200 e then (0, 32, T) else match valF e T with
    | (.ok n, T1) => (n, 0, T1)
    | (.error er, T1) => (0, er, T1)
def ValuePost (e : Ex) (g B : Nat) (T : Tab) (u : Value) (w : World) (x : Ending) (w' : World) : Prop :=
  ∃ u', TStep g w u w' u' ∧ TabAt w' B g (valueF e T).2.2 u' ∧ x = .returned (.tuple #[.int .i64 (valueF e T).1, .int .i64 (valueF e T).2.1])
theorem ValuePost.mk {e : Ex} {g B : Nat} {T T' : Tab} {u u' : Value} {w w' : World} {n f : Int} (hst : TStep g w u w' u') (ht : TabAt w' B g T' u') (hv : valueF e T = (n, f, T')) : ValuePost e g B T u w (.returned (.tuple #[.int .i64 n, .int .i64 f])) w' :=
  ⟨u', hst, by rw [hv]; exact ht, by rw [hv]⟩
def VRes (w : World) (R : Nat) (a b : Value) : Prop := Bk w (R + 1) T64 #[a] ∧ Bk w (R + 1 + 1) TEr #[b]
def VResRd (R : Nat) (tmps : Array Value) : Prop := ∀ (w : World) (a b : Value), VRes w R a b → (results Tryz.f17 tmps).run Tryz.prog w = .ok (.tuple #[a, b]) w
abbrev vcatchD (R : Nat) : Deferred := { target := .fn (.func 36) #[.pointer (some ⟨R + 1, 0, none⟩), .pointer (some ⟨R + 1 + 1, 0, none⟩)], args := #[] }
/-- a cell elsewhere is set -/
theorem TabAt.far {w : World} {B g : Nat} {T : Tab} {u : Value} (h : TabAt w B g T u) {r : Nat} (hr : r ≠ g) (hu : some r ≠ u.ownBlock) (v : Value) : TabAt (w.setCell ⟨r, 0, none⟩ v) B g T u := by
  refine ⟨h.1.far (p := ⟨r, 0, none⟩) (fun e => hr e.symm) v, ?_, by have := h.2.2; simp [World.setCell]; exact this⟩
  exact h.2.1.kept (row := some r) (grown_setCell (w := w) (p := ⟨r, 0, none⟩) rfl v) (by
    cases hb : u.ownBlock with
    | none => simp
    | some b => rw [hb] at hu; simp; intro e; exact hu (by rw [e]))
theorem TStep.far {w0 w : World} {g : Nat} {u0 u : Value} (h : TStep g w0 u0 w u) {r : Nat} (hr : w0.heap.size ≤ r) (v : Value) : TStep g w0 u0 (w.setCell ⟨r, 0, none⟩ v) u :=
  ⟨h.os, h.tape, h.output, by have := h.size; simp [World.setCell]; exact this, fun b hb => (Below.heap_setCell w ⟨r, 0, none⟩ v b (by have := hb.2.2; simp only; omega)).trans (h.block b hb), h.own⟩
/-- what holds when the deferred call is run -/
structure VMid (w : World) (g B : Nat) (u0 : Value) (wN : World) (T : Tab) (u : Value) : Prop where
  st : TStep g w u0 wN u
  tab : TabAt wN B g T u
  res : ∃ a b, VRes wN w.heap.size a b
  f1 : some (w.heap.size + 1) ≠ u.ownBlock
  f2 : some (w.heap.size + 1 + 1) ≠ u.ownBlock
  gl : g < w.heap.size
theorem VMid.put {w wN : World} {g B : Nat} {u0 u : Value} {T : Tab} (h : VMid w g B u0 wN T u) (a b : Value) :
    TStep g w u0 ((wN.setCell ⟨w.heap.size + 1, 0, none⟩ a).setCell ⟨w.heap.size + 1 + 1, 0, none⟩ b) u ∧
    TabAt ((wN.setCell ⟨w.heap.size + 1, 0, none⟩ a).setCell ⟨w.heap.size + 1 + 1, 0, none⟩ b) B g T u ∧
    VRes ((wN.setCell ⟨w.heap.size + 1, 0, none⟩ a).setCell ⟨w.heap.size + 1 + 1, 0, none⟩ b) w.heap.size a b := by
  obtain ⟨x, y, h1, h2⟩ := h.res
  have hg := h.gl
  refine ⟨(h.st.far (by omega) a).far (by omega) b, (h.tab.far (by omega) h.f1 a).far (by omega) h.f2 b, ?_, ?_⟩
  · exact (h1.set_ 0 a).far (p := ⟨w.heap.size + 1 + 1, 0, none⟩) (by simp) b
  · exact (h2.far (p := ⟨w.heap.size + 1, 0, none⟩) (by simp) a).set_ 0 b
theorem vleave_bad (e : Ex) (w wN : World) (g B : Nat) (T T' : Tab) (u u' : Value) (tmps : Array Value) (er : Int) (hr : VResRd w.heap.size tmps) (hm : VMid w g B u wN T' u') (hv : valueF e T = (0, er, T')) :
    Leaves Tryz.prog Tryz.f17 tmps (ValuePost e g B T u w) [vcatchD w.heap.size] (.panicking (errV er)) wN := by
  obtain ⟨x, y, h1, h2⟩ := hm.res
  refine leaves_cons (f := 36) (args := #[.pointer (some ⟨w.heap.size + 1, 0, none⟩), .pointer (some ⟨w.heap.size + 1 + 1, 0, none⟩)]) (by simp) (by simp [go_sem]) ?_
  refine (vcatch_bad (w.heap.size + 1) (w.heap.size + 1 + 1) er wN x y h1 h2 (by omega)).mono ?_
  rintro e1 u1 w' ⟨rfl, hs, rfl⟩
  show Leaves _ _ _ _ _ (settle u1) _
  rw [hs]
  obtain ⟨k1, k2, k3⟩ := hm.put (.int .i64 0) (.int .i64 er)
  exact ⟨_, hr _ _ _ k3, ValuePost.mk (k1.trans (TStep.below ((Below.refl _ _).drew))) (k2.below ((Below.refl _ _).drew)) hv⟩
theorem vleave_good (e : Ex) (w wN : World) (g B : Nat) (T T' : Tab) (u u' : Value) (tmps : Array Value) (n f : Int) (hr : VResRd w.heap.size tmps) (hst : TStep g w u wN u') (ht : TabAt wN B g T' u') (hk : VRes wN w.heap.size (.int .i64 n) (.int .i64 f)) (hv : valueF e T = (n, f, T')) :
    Leaves Tryz.prog Tryz.f17 tmps (ValuePost e g B T u w) [vcatchD w.heap.size] .returning wN := by
  refine leaves_cons (f := 36) (args := #[.pointer (some ⟨w.heap.size + 1, 0, none⟩), .pointer (some ⟨w.heap.size + 1 + 1, 0, none⟩)]) (by simp) (by simp [go_sem]) ?_
  refine (vcatch_idle ⟨w.heap.size + 1, 0, none⟩ ⟨w.heap.size + 1 + 1, 0, none⟩ wN).mono ?_
  rintro e1 u1 w' ⟨rfl, rfl, rfl⟩
  exact ⟨_, hr _ _ _ hk, ValuePost.mk hst ht hv⟩
theorem vstart (w : World) (a0 a1 a2 a3 b0 c0 : Value) :
    let w' := ((w.alloc (.cells #[a0, a1, a2, a3] 30)).alloc (.cells #[b0] T64)).alloc (.cells #[c0] TEr)
    Below w.heap.size w w' ∧ Bk w' w.heap.size 30 #[a0, a1, a2, a3] ∧ VRes w' w.heap.size b0 c0 := by
  refine ⟨(((Below.refl _ _).alloc (Nat.le_refl _) _).alloc (by simp) _).alloc (by simp; omega) _, ?_, ?_, ?_⟩
  · exact ((Bk.new w 30 #[a0, a1, a2, a3]).alloc (.cells #[b0] T64)).alloc (.cells #[c0] TEr)
  · have := ((Bk.new (w.alloc (.cells #[a0, a1, a2, a3] 30)) T64 #[b0])).alloc (.cells #[c0] TEr)
    simpa using this
  · have := Bk.new ((w.alloc (.cells #[a0, a1, a2, a3] 30)).alloc (.cells #[b0] T64)) TEr #[c0]
    simpa using this
set_option maxRecDepth 100000 in
set_option maxHeartbeats 4000000 in
theorem value_any (e : Ex) (w : World) (g B : Nat) (T : Tab) (u v : Value) (hr : RdX w (Free w g u) e v) (hV : VIn w g B T u) (hl : T.length + szF e ≤ 100000) (hD : DeepC 200 e) (hC : ValC e) :
    Calls Tryz.prog 17 #[v, .iface TSt (.pointer (some ⟨g, 0, none⟩))] w (ValuePost e g B T u w) := by
  have hmf : ∀ (fn : Fn) (first cap : Array Value) (w : World), (Instr.makeFunc fn first cap).run Tryz.prog w = .ok (.func fn first cap) w := fun _ _ _ _ => rfl
  obtain ⟨A, cap, rfl, hcap, hkids⟩ := hr.form
  obtain ⟨hb0, kE, kR⟩ := vstart w (.string ⟨e.op.toArray⟩) (.int .i64 e.num) (.string ⟨e.name.toArray⟩) (.slice A e.kids.len cap) (.int .i64 0) (.int .i64 0)
  have HV := hid hV
  have HX := hid hr
  have HD := hid hD
  have HC := hid hC
  have HGL := hid hV.tab.1.lt
  clear hkids hr hV hD hC hcap
  go_enter_defers Tryz.func17, Tryz.ntmps17
  go_wp2_with fail
  ((with_reducible refine (HD.out.call _ (Free w g u) _ 200 rfl (HX.out.below hb0)).mono ?_); rintro e1 w1 ⟨rfl, hb1⟩)
  have HB1 := hid (bel_step hb0 hb1)
  have lE := kE.lt
  have l1 := kR.1.lt
  have l2 := kR.2.lt
  have kE := kE.below hb1 lE
  have kR1 := kR.1.below hb1 l1
  have kR2 := kR.2.below hb1 l2
  have L1 := hid kR1.lt
  have L2 := hid kR2.lt
  obtain ⟨c0, c1, c2, c3⟩ := kE.cells4
  have u0 := kR1.cell 0 _ rfl
  have u1 := kR1.free 0
  have v0 := kR2.cell 0 _ rfl
  have v1 := kR2.free 0
  have V1 := hid (HV.out.below HB1.out)
  have HX1 := hid (HX.out.step (TStep.below (g := g) (u := u) HB1.out))
  have HM : Hid (VMid w g B u w1 T u) := hid ⟨TStep.below HB1.out, V1.out.tab, ⟨_, _, kR1, kR2⟩, fun e => by have := HV.out.tab.own_lt _ e.symm; omega, fun e => by have := HV.out.tab.own_lt _ e.symm; omega, HGL.out⟩
  have KR1 := hid kR1
  have KR2 := hid kR2
  clear hb0 hb1 kE kR kR1 kR2 lE l1 l2
  have HRD : ∀ tmps : Array Value, tmps[4]? = some (.pointer (some ⟨w.heap.size + 1, 0, none⟩)) → tmps[5]? = some (.pointer (some ⟨w.heap.size + 1 + 1, 0, none⟩)) → VResRd w.heap.size tmps := by
    intro tmps h4 h5 wz a b hk
    have d0 := hk.1.cell 0 a rfl
    have d1 := hk.2.cell 0 b rfl
    simp [results, Tryz.results17, go_sem, h4, h5, d0, d1]
  by_cases hd : 200 < deepF 200 e
  · have hdi : (200 : Int) < (deepF 200 e : Int) := by omega
    have HO : Hid (valueF e T = (0, 32, T)) := hid (by unfold valueF; rw [if_pos hd])
    clear hd
    go_wp2_with fail
    obtain ⟨k1, k2, k3⟩ := HM.out.put (.int .i64 0) (.int .i64 32)
    exact ⟨_, HRD _ (by rfl) (by rfl) _ _ _ k3, ValuePost.mk k1 k2 HO.out⟩
  · have hdi : ¬ (200 : Int) < (deepF 200 e : Int) := by omega
    have HO : Hid (valueF e T = match valF e T with
        | (.ok n, T1) => (n, 0, T1)
        | (.error er, T1) => (0, er, T1)) := hid (by unfold valueF; rw [if_neg hd])
    clear hd
    go_wp2_with fail
    ((with_reducible refine (HC.out.call _ g B T u _ HX1.out V1.out hl).mono ?_); rintro e2 w2 ⟨u2, hst, htab, hm⟩)
    obtain ⟨r2, T2, hv2⟩ : ∃ r T1, valF e T = (r, T1) := ⟨_, _, rfl⟩
    rw [hv2] at htab hm HO
    have F1 : Free w1 g u (w.heap.size + 1) := ⟨by have := HGL.out; omega, HM.out.f1, L1.out⟩
    have F2 : Free w1 g u (w.heap.size + 1 + 1) := ⟨by have := HGL.out; omega, HM.out.f2, L2.out⟩
    have kR1 : Bk w2 (w.heap.size + 1) T64 #[.int .i64 0] := (hst.block _ F1).trans KR1.out
    have kR2 : Bk w2 (w.heap.size + 1 + 1) TEr #[.int .i64 0] := (hst.block _ F2).trans KR2.out
    have HM2 : Hid (VMid w g B u w2 T2 u2) := hid ⟨HM.out.st.trans hst, htab, ⟨_, _, kR1, kR2⟩, hst.own _ F1, hst.own _ F2, HGL.out⟩
    rcases r2 with er | n
    · dsimp only at hm
      subst hm
      exact vleave_bad e w w2 g B T T2 u u2 _ er (HRD _ (by rfl) (by rfl)) HM2.out HO.out
    · dsimp only at hm
      subst hm
      have u0 := kR1.cell 0 _ rfl
      have u1 := kR1.free 0
      have v0 := kR2.cell 0 _ rfl
      have v1 := kR2.free 0
      obtain ⟨k1, k2, k3⟩ := HM2.out.put (.int .i64 n) (.int .i64 0)
      have K1 := hid k1
      have K2 := hid k2
      have K3 := hid k3
      clear k1 k2 k3 kR1 kR2 hst htab hv2 F1 F2
      go_wp2_with fail
      exact vleave_good e w _ g B T T2 u u2 _ n 0 (HRD _ (by rfl) (by rfl)) K1.out K2.out K3.out HO.out
end Go.Proofs.YtadmmmehphhecaaGreatDoor
