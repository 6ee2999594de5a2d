/- SumsShows returns true at every input, and each argument reads behind the call as before it; its card, tied to the program's text. No condition but the row's own: the listed variables hold what the text lays. -/
import Derived.Test.YtadmmmehphhecaaGreatDoorLr
import Derived.Test.YtadmmmehphhecaaGreatDoorLs1
import Derived.Test.YtadmmmehphhecaaGreatDoorLs2
import Derived.Test.YtadmmmehphhecaaGreatDoorLs3
import Derived.Test.YtadmmmehphhecaaGreatDoorLs4
import Derived.Test.YtadmmmehphhecaaGreatDoorSa
import Derived.Defers
import Derived.Recover
import Derived.Test.YtadmmmehphhecaaGreatDoorLf
import Derived.IntWalk
import Derived.Test.YtadmmmehphhecaaGreatDoorLe
import Derived.Test.YtadmmmehphhecaaGreatDoorLm
import Derived.Test.YtadmmmehphhecaaGreatDoorO
import Derived.Deep.RegionLaw
import Derived.Deep.AppendLies
import Derived.Test.YtadmmmehphhecaaGreatDoorE
import Derived.Test.YtadmmmehphhecaaGreatDoorK
import Derived.Test.YtadmmmehphhecaaGreatDoorLj
import Derived.Deep.DeepCutAuto
import Derived.Test.YtadmmmehphhecaaGreatDoorLi
import Derived.Test.YtadmmmehphhecaaGreatDoorJ
import Derived.Test.YtadmmmehphhecaaGreatDoorLk
import Derived.Test.YtadmmmehphhecaaGreatDoorRows
import Derived.Test.YtadmmmehphhecaaGreatDoorN
import Derived.ProofKit
import Derived.OpenShut
import Derived.LaidMore
import Derived.LaidSub
import Derived.Lib.LaidTab
import Derived.Lay
import Derived.Stop.Joined
import Derived.MakeChecks
import Derived.ChangeArms
import Derived.Test.YtadmmmehphhecaaGreatDoorCards
import Derived.Test.YtadmmmehphhecaaGreatDoorTie
import Derived.SevenTiedAt
set_option linter.unusedVariables false
set_option linter.unusedSimpArgs false
/- The walk of set of sums.valuer. -/
namespace Go.Proofs.YtadmmmehphhecaaGreatDoor
open Go.RowKit
def SetC (e : Ex) : Prop := ∀ (w : World) (g B : Nat) (T : Tab) (u v : Value), RdX w (Free w g u) e v → VIn w g B T u → T.length + szF e ≤ 100000 → Calls Tryz.prog 65 #[vw g, v] w (ValPost e g B T u w)
theorem SetC.call {e : Ex} (h : SetC e) (w : World) (g B : Nat) (T : Tab) (u v : Value) (hr : RdX w (Free w g u) e v) (hV : VIn w g B T u) (hl : T.length + szF e ≤ 100000) : Calls Tryz.prog 65 #[.agg #[.iface TSt (.pointer (some ⟨g, 0, none⟩))], v] w (ValPost e g B T u w) := h w g B T u v hr hV hl
theorem nameC2 (w : World) (g B : Nat) (T : Tab) (u : Value) (x : List UInt8) (h : VIn w g B T u) (hl : T.length ≤ 1000000) : Calls Tryz.prog 66 #[.agg #[.iface TSt (.pointer (some ⟨g, 0, none⟩))], .string ⟨x.toArray⟩] w (NamePost T x w) := name_any T x g B u w h.tab hl h.short h.laid
set_option maxRecDepth 100000 in
set_option maxHeartbeats 4000000 in
theorem set_eq (n : Int) (nm : List UInt8) (x : Ex) (hkx : ValC x) (hox : okF x = true) : SetC (.mk [61] n nm (.cons x .nil)) := by
  have HKx := hid hkx
  have HOx := hid hox
  clear hkx hox
  have HSZ : Hid (szF x ≤ szF (.mk [61] n nm (.cons x .nil))) := hid (by simp only [szF, szL]; omega)
  intro w g B T u v hr hV hlen
  obtain ⟨A, cap, rfl, hcap, hkids⟩ := hr.form
  dsimp only [Ex.op, Ex.num, Ex.name, Ex.kids, Exs.len, Nat.zero_add, Nat.reduceAdd] at *
  obtain ⟨b, off, rfl⟩ := hkids.form_ (by simp [Exs.len])
  obtain ⟨Ax, capx, hPx, qx0, qx1, qx2, qx3, hrx, hkids⟩ := hkids.un
  unfold vw
  have kV : Bk ((w.alloc (.cells #[.iface TSt (.pointer (some ⟨g, 0, none⟩))] 78)).alloc (.cells #[.string ⟨#[61]⟩, .int .i64 n, .string ⟨nm.toArray⟩, .slice (some ⟨b, off, none⟩) 1 cap] 30)) w.heap.size 78 #[.iface TSt (.pointer (some ⟨g, 0, none⟩))] := (Bk.new w 78 #[.iface TSt (.pointer (some ⟨g, 0, none⟩))]).alloc _
  have kE : Bk ((w.alloc (.cells #[.iface TSt (.pointer (some ⟨g, 0, none⟩))] 78)).alloc (.cells #[.string ⟨#[61]⟩, .int .i64 n, .string ⟨nm.toArray⟩, .slice (some ⟨b, off, none⟩) 1 cap] 30)) (w.heap.size + 1) 30 #[.string ⟨#[61]⟩, .int .i64 n, .string ⟨nm.toArray⟩, .slice (some ⟨b, off, none⟩) 1 cap] := heap2_1 w _ _
  have hB0 : Below w.heap.size w ((w.alloc (.cells #[.iface TSt (.pointer (some ⟨g, 0, none⟩))] 78)).alloc (.cells #[.string ⟨#[61]⟩, .int .i64 n, .string ⟨nm.toArray⟩, .slice (some ⟨b, off, none⟩) 1 cap] 30)) := ((Below.refl _ _).alloc (Nat.le_refl _) _).alloc (by simp) _
  have hsz0 : ((w.alloc (.cells #[.iface TSt (.pointer (some ⟨g, 0, none⟩))] 78)).alloc (.cells #[.string ⟨#[61]⟩, .int .i64 n, .string ⟨nm.toArray⟩, .slice (some ⟨b, off, none⟩) 1 cap] 30)).heap.size = w.heap.size + 1 + 1 := by simp
  have px0 : ((w.alloc (.cells #[.iface TSt (.pointer (some ⟨g, 0, none⟩))] 78)).alloc (.cells #[.string ⟨#[61]⟩, .int .i64 n, .string ⟨nm.toArray⟩, .slice (some ⟨b, off, none⟩) 1 cap] 30)).cell? ⟨b, off, none⟩ = some (.string ⟨x.op.toArray⟩) := al (al qx0)
  have px1 : ((w.alloc (.cells #[.iface TSt (.pointer (some ⟨g, 0, none⟩))] 78)).alloc (.cells #[.string ⟨#[61]⟩, .int .i64 n, .string ⟨nm.toArray⟩, .slice (some ⟨b, off, none⟩) 1 cap] 30)).cell? ⟨b, off + 1, none⟩ = some (.int .i64 x.num) := al (al qx1)
  have px2 : ((w.alloc (.cells #[.iface TSt (.pointer (some ⟨g, 0, none⟩))] 78)).alloc (.cells #[.string ⟨#[61]⟩, .int .i64 n, .string ⟨nm.toArray⟩, .slice (some ⟨b, off, none⟩) 1 cap] 30)).cell? ⟨b, off + 2, none⟩ = some (.string ⟨x.name.toArray⟩) := al (al qx2)
  have px3 : ((w.alloc (.cells #[.iface TSt (.pointer (some ⟨g, 0, none⟩))] 78)).alloc (.cells #[.string ⟨#[61]⟩, .int .i64 n, .string ⟨nm.toArray⟩, .slice (some ⟨b, off, none⟩) 1 cap] 30)).cell? ⟨b, off + 3, none⟩ = some (.slice Ax x.kids.len capx) := al (al qx3)
  go_enter Tryz.func65, Tryz.ntmps65
  go_wp2_with fail
  obtain ⟨W0, hW0⟩ : ∃ W0, W0 = ((w.alloc (.cells #[.iface TSt (.pointer (some ⟨g, 0, none⟩))] 78)).alloc (.cells #[.string ⟨#[61]⟩, .int .i64 n, .string ⟨nm.toArray⟩, .slice (some ⟨b, off, none⟩) 1 cap] 30)) := ⟨_, rfl⟩
  rw [← hW0] at kV kE hB0 hsz0 px0 px1 px2 px3
  rw [← hW0]
  clear hW0 qx0 qx1 qx2 qx3
  have v0 := kV.cell 0 _ rfl
  obtain ⟨c0, c1, c2, c3⟩ := kE.cells4
  have fV : Free W0 g u w.heap.size := hV.new hB0 (Nat.le_refl _) (by omega)
  have fE : Free W0 g u (w.heap.size + 1) := hV.new hB0 (by omega) (by omega)
  have fB : Free W0 g u b := (TStep.below (g := g) (u := u) hB0).free hPx
  have ST := hid (TStep.below (g := g) (u := u) hB0)
  have VI := hid (hV.below hB0)
  have HS0 := hid hV.short
  have HXx := hid (hrx.step (TStep.below (g := g) (u := u) hB0))
  clear kV kE hB0 hsz0 hV hr hcap hkids hrx hPx
  have hszx := HSZ.out
  have hns := nil_set
  have hms := method_set
  have stq := TStep.below (g := g) (u := u) ((Below.refl W0.heap.size W0).drew)
  have v0 := cell_step stq fV v0
  have c0 := cell_step stq fE c0
  have c1 := cell_step stq fE c1
  have c2 := cell_step stq fE c2
  have c3 := cell_step stq fE c3
  have px0 := cell_step stq fB px0
  have px1 := cell_step stq fB px1
  have px2 := cell_step stq fB px2
  have px3 := cell_step stq fB px3
  have fV := stq.free fV
  have fE := stq.free fE
  have fB := stq.free fB
  have ST := hid (ST.out.trans stq)
  have HXx := hid (HXx.out.step stq)
  have VI := hid (VI.out.below ((Below.refl W0.heap.size W0).drew))
  clear stq
  refine wp_region_held_drew (S := (fun w' => w'.cell? ⟨w.heap.size, 0, none⟩ = some (.iface TSt (.pointer (some ⟨g, 0, none⟩))) ∧ w'.cell? ⟨w.heap.size + 1, 0, none⟩ = some (.string ⟨#[61]⟩) ∧ w'.cell? ⟨w.heap.size + 1, 1, none⟩ = some (.int .i64 n) ∧ w'.cell? ⟨w.heap.size + 1, 2, none⟩ = some (.string ⟨nm.toArray⟩) ∧ w'.cell? ⟨w.heap.size + 1, 3, none⟩ = some (.slice (some ⟨b, off, none⟩) 1 cap) ∧ w'.cell? ⟨b, off, none⟩ = some (.string ⟨x.op.toArray⟩) ∧ w'.cell? ⟨b, off + 1, none⟩ = some (.int .i64 x.num) ∧ w'.cell? ⟨b, off + 2, none⟩ = some (.string ⟨x.name.toArray⟩) ∧ w'.cell? ⟨b, off + 3, none⟩ = some (.slice Ax x.kids.len capx))) (by kernel_rfl) ⟨v0, c0, c1, c2, c3, px0, px1, px2, px3⟩ (fun hHeld => ?_)
  refine takeYes (i := 0) (v := .agg #[.iface TSt (.pointer (some ⟨g, 0, none⟩))]) rfl (by kernel_rfl) (by kernel_rfl) (by kernel_rfl) (fun _ _ _ h => h) (by rfl) ?_ (by assumption) ?_
  · intro w hSw; obtain ⟨sq0, sq1, sq2, sq3, sq4, sq5, sq6, sq7, sq8⟩ := hSw; go_simp
  try simp only [Act.put, List.setIfInBounds_toArray, List.set_cons_zero, List.set_cons_succ]
  refine takeYes (i := 1) (v := .pointer (some ⟨w.heap.size + 1, 3, none⟩)) rfl (by kernel_rfl) (by kernel_rfl) (by kernel_rfl) (fun _ _ _ h => h) (by rfl) ?_ (by assumption) ?_
  · intro w hSw; obtain ⟨sq0, sq1, sq2, sq3, sq4, sq5, sq6, sq7, sq8⟩ := hSw; go_simp
  try simp only [Act.put, List.setIfInBounds_toArray, List.set_cons_zero, List.set_cons_succ]
  refine takeYes (i := 2) (v := .slice (some ⟨b, off, none⟩) 1 cap) rfl (by kernel_rfl) (by kernel_rfl) (by kernel_rfl) (fun _ _ _ h => h) (by rfl) ?_ (by assumption) ?_
  · intro w hSw; obtain ⟨sq0, sq1, sq2, sq3, sq4, sq5, sq6, sq7, sq8⟩ := hSw; go_simp
  try simp only [Act.put, List.setIfInBounds_toArray, List.set_cons_zero, List.set_cons_succ]
  refine takeYes (i := 3) (v := .pointer (some ⟨b, off, none⟩)) rfl (by kernel_rfl) (by kernel_rfl) (by kernel_rfl) (fun _ _ _ h => h) (by rfl) ?_ (by assumption) ?_
  · intro w hSw; obtain ⟨sq0, sq1, sq2, sq3, sq4, sq5, sq6, sq7, sq8⟩ := hSw; go_simp
  try simp only [Act.put, List.setIfInBounds_toArray, List.set_cons_zero, List.set_cons_succ]
  refine takeYes (i := 4) (v := .agg #[.string ⟨x.op.toArray⟩, .int .i64 x.num, .string ⟨x.name.toArray⟩, .slice Ax x.kids.len capx]) rfl (by kernel_rfl) (by kernel_rfl) (by kernel_rfl) (fun _ _ _ h => h) (by rfl) ?_ (by assumption) ?_
  · intro w hSw; obtain ⟨sq0, sq1, sq2, sq3, sq4, sq5, sq6, sq7, sq8⟩ := hSw; go_simp
  try simp only [Act.put, List.setIfInBounds_toArray, List.set_cons_zero, List.set_cons_succ]
  refine wpAnyH_ready (rs := [5]) (by kernel_rfl) (by simp) ?_
  refine AllReadyH.cons rfl (fun K hK => ?_) AllReadyH.nil
  go_simp
  ((with_reducible refine (HKx.out.call _ g B T u _ HXx.out VI.out (by omega)).mono ?_); rintro e1 w5 ⟨u5, hst, htab, hm⟩)
  obtain ⟨r5, T5, hv5⟩ : ∃ r T1, valF x T = (r, T1) := ⟨_, _, rfl⟩
  rw [hv5] at htab hm
  obtain ⟨ha, hb, hc⟩ := val_after HOx.out VI.out.short hv5
  have v0 := cell_step hst fV v0
  have c0 := cell_step hst fE c0
  have c1 := cell_step hst fE c1
  have c2 := cell_step hst fE c2
  have c3 := cell_step hst fE c3
  have px0 := cell_step hst fB px0
  have px1 := cell_step hst fB px1
  have px2 := cell_step hst fB px2
  have px3 := cell_step hst fB px3
  have fV := hst.free fV
  have fE := hst.free fE
  have fB := hst.free fB
  have ST := hid (ST.out.trans hst)
  have HXx := hid (HXx.out.step hst)
  have VI := hid (VI.out.step hst htab ha)
  have HT5 := hid htab
  have HV5 := hid hv5
  clear hst htab ha hv5
  rcases r5 with er | n5
  · (dsimp only at hm; subst hm; exact ⟨rfl, ValPost.bad ST.out VI.out.tab (show thenV (valF x T) _ = _ by rw [HV5.out]; rfl)⟩)
  dsimp only at hm
  subst hm
  have HI5 := hid (hc _ rfl)
  clear hc
  go_wp2_with fail
  refine hK.out _ _ ?_ (fun hHeld => ?_)
  · exact ⟨v0, c0, c1, c2, c3, px0, px1, px2, px3⟩
  clear hK K
  try simp only [Act.put, List.setIfInBounds_toArray, List.set_cons_zero, List.set_cons_succ]
  refine takeYes (i := 6) (v := .int .i64 n5) rfl (by kernel_rfl) (by kernel_rfl) (by kernel_rfl) (fun _ _ _ h => h) (by rfl) ?_ (by assumption) ?_
  · intro w hSw; obtain ⟨sq0, sq1, sq2, sq3, sq4, sq5, sq6, sq7, sq8⟩ := hSw; go_simp
  try simp only [Act.put, List.setIfInBounds_toArray, List.set_cons_zero, List.set_cons_succ]
  refine wpAnyH_done (by kernel_rfl) ?_ _
  go_wp2_with fail
  have stq := TStep.below (g := g) (u := u5) ((Below.refl w5.heap.size w5).drew)
  have v0 := cell_step stq fV v0
  have c0 := cell_step stq fE c0
  have c1 := cell_step stq fE c1
  have c2 := cell_step stq fE c2
  have c3 := cell_step stq fE c3
  have px0 := cell_step stq fB px0
  have px1 := cell_step stq fB px1
  have px2 := cell_step stq fB px2
  have px3 := cell_step stq fB px3
  have fV := stq.free fV
  have fE := stq.free fE
  have fB := stq.free fB
  have ST := hid (ST.out.trans stq)
  have HXx := hid (HXx.out.step stq)
  have VI := hid (VI.out.below ((Below.refl w5.heap.size w5).drew))
  clear stq
  refine wp_region_held_drew (S := (fun w' => w'.cell? ⟨w.heap.size, 0, none⟩ = some (.iface TSt (.pointer (some ⟨g, 0, none⟩))) ∧ w'.cell? ⟨w.heap.size + 1, 0, none⟩ = some (.string ⟨#[61]⟩) ∧ w'.cell? ⟨w.heap.size + 1, 1, none⟩ = some (.int .i64 n) ∧ w'.cell? ⟨w.heap.size + 1, 2, none⟩ = some (.string ⟨nm.toArray⟩) ∧ w'.cell? ⟨w.heap.size + 1, 3, none⟩ = some (.slice (some ⟨b, off, none⟩) 1 cap) ∧ w'.cell? ⟨b, off, none⟩ = some (.string ⟨x.op.toArray⟩) ∧ w'.cell? ⟨b, off + 1, none⟩ = some (.int .i64 x.num) ∧ w'.cell? ⟨b, off + 2, none⟩ = some (.string ⟨x.name.toArray⟩) ∧ w'.cell? ⟨b, off + 3, none⟩ = some (.slice Ax x.kids.len capx))) (by kernel_rfl) ⟨v0, c0, c1, c2, c3, px0, px1, px2, px3⟩ (fun hHeld => ?_)
  refine takeYes (i := 0) (v := .pointer (some ⟨w.heap.size, 0, none⟩)) rfl (by kernel_rfl) (by kernel_rfl) (by kernel_rfl) (fun _ _ _ h => h) (by rfl) ?_ (by assumption) ?_
  · intro w hSw; obtain ⟨sq0, sq1, sq2, sq3, sq4, sq5, sq6, sq7, sq8⟩ := hSw; go_simp
  try simp only [Act.put, List.setIfInBounds_toArray, List.set_cons_zero, List.set_cons_succ]
  refine takeYes (i := 1) (v := .iface TSt (.pointer (some ⟨g, 0, none⟩))) rfl (by kernel_rfl) (by kernel_rfl) (by kernel_rfl) (fun _ _ _ h => h) (by rfl) ?_ (by assumption) ?_
  · intro w hSw; obtain ⟨sq0, sq1, sq2, sq3, sq4, sq5, sq6, sq7, sq8⟩ := hSw; go_simp
  try simp only [Act.put, List.setIfInBounds_toArray, List.set_cons_zero, List.set_cons_succ]
  refine takeYes (i := 2) (v := .pointer (some ⟨w.heap.size + 1, 2, none⟩)) rfl (by kernel_rfl) (by kernel_rfl) (by kernel_rfl) (fun _ _ _ h => h) (by rfl) ?_ (by assumption) ?_
  · intro w hSw; obtain ⟨sq0, sq1, sq2, sq3, sq4, sq5, sq6, sq7, sq8⟩ := hSw; go_simp
  try simp only [Act.put, List.setIfInBounds_toArray, List.set_cons_zero, List.set_cons_succ]
  refine takeYes (i := 3) (v := .string ⟨nm.toArray⟩) rfl (by kernel_rfl) (by kernel_rfl) (by kernel_rfl) (fun _ _ _ h => h) (by rfl) ?_ (by assumption) ?_
  · intro w hSw; obtain ⟨sq0, sq1, sq2, sq3, sq4, sq5, sq6, sq7, sq8⟩ := hSw; go_simp
  try simp only [Act.put, List.setIfInBounds_toArray, List.set_cons_zero, List.set_cons_succ]
  refine takeYes (i := 4) (v := .int .i64 n5) rfl (by kernel_rfl) (by kernel_rfl) (by kernel_rfl) (fun _ _ _ h => h) (by rfl) ?_ (by assumption) ?_
  · intro w hSw; obtain ⟨sq0, sq1, sq2, sq3, sq4, sq5, sq6, sq7, sq8⟩ := hSw; go_simp
  try simp only [Act.put, List.setIfInBounds_toArray, List.set_cons_zero, List.set_cons_succ]
  refine takeYes (i := 6) (v := .iface TSt (.pointer (some ⟨g, 0, none⟩))) rfl (by kernel_rfl) (by kernel_rfl) (by kernel_rfl) (fun _ _ _ h => h) (by rfl) ?_ (by assumption) ?_
  · intro w hSw; obtain ⟨sq0, sq1, sq2, sq3, sq4, sq5, sq6, sq7, sq8⟩ := hSw; go_simp
  try simp only [Act.put, List.setIfInBounds_toArray, List.set_cons_zero, List.set_cons_succ]
  refine takeYes (i := 7) (v := .iface TSt (.pointer (some ⟨g, 0, none⟩))) rfl (by kernel_rfl) (by kernel_rfl) (by kernel_rfl) (fun _ _ _ h => h) (by rfl) ?_ (by assumption) ?_
  · intro w hSw; obtain ⟨sq0, sq1, sq2, sq3, sq4, sq5, sq6, sq7, sq8⟩ := hSw; go_simp
  try simp only [Act.put, List.setIfInBounds_toArray, List.set_cons_zero, List.set_cons_succ]
  refine wpAnyH_ready (rs := [5]) (by kernel_rfl) (by simp) ?_
  refine AllReadyH.cons rfl (fun K hK => ?_) AllReadyH.nil
  go_simp
  ((with_reducible refine (text_any n5 (I64.lo HI5.out) (I64.hi HI5.out) _ VI.out.laid).mono ?_); rintro e1 w8 ⟨rfl, hby⟩)
  have stq := TStep.below (g := g) (u := u5) hby
  have v0 := cell_step stq fV v0
  have c0 := cell_step stq fE c0
  have c1 := cell_step stq fE c1
  have c2 := cell_step stq fE c2
  have c3 := cell_step stq fE c3
  have px0 := cell_step stq fB px0
  have px1 := cell_step stq fB px1
  have px2 := cell_step stq fB px2
  have px3 := cell_step stq fB px3
  have fV := stq.free fV
  have fE := stq.free fE
  have fB := stq.free fB
  have ST := hid (ST.out.trans stq)
  have HXx := hid (HXx.out.step stq)
  have VI := hid (VI.out.below hby)
  clear stq hby
  go_wp2_with fail
  refine hK.out _ _ ?_ (fun hHeld => ?_)
  · exact ⟨v0, c0, c1, c2, c3, px0, px1, px2, px3⟩
  clear hK K
  try simp only [Act.put, List.setIfInBounds_toArray, List.set_cons_zero, List.set_cons_succ]
  refine wpAnyH_ready (rs := [8]) (by kernel_rfl) (by simp) ?_
  refine AllReadyH.cons rfl (fun K hK => ?_) AllReadyH.nil
  go_simp
  ((with_reducible refine (Set_any T5 nm (Lib.itoa n5) g B u5 _ VI.out.tab (by omega)).mono ?_); rintro e1 w9 ⟨u9, rfl, hst, htab⟩)
  obtain ⟨pc, PT, hput⟩ : ∃ pc PT, putF T5 nm (Lib.itoa n5) = (pc, PT) := ⟨_, _, rfl⟩
  rw [hput] at htab
  rw [hput]
  dsimp only
  dsimp only at htab
  have v0 := cell_step hst fV v0
  have c0 := cell_step hst fE c0
  have c1 := cell_step hst fE c1
  have c2 := cell_step hst fE c2
  have c3 := cell_step hst fE c3
  have px0 := cell_step hst fB px0
  have px1 := cell_step hst fB px1
  have px2 := cell_step hst fB px2
  have px3 := cell_step hst fB px3
  have fV := hst.free fV
  have fE := hst.free fE
  have fB := hst.free fB
  have ST := hid (ST.out.trans hst)
  have HXx := hid (HXx.out.step hst)
  have HTF := hid htab
  have HPV : Hid (storeV nm n5 T5 = if pc = 0 then (.ok n5, PT) else (.error pc, PT)) := hid (by unfold storeV; rw [hput])
  clear hst htab hput
  go_wp2_with fail
  refine hK.out _ _ ?_ (fun hHeld => ?_)
  · exact ⟨v0, c0, c1, c2, c3, px0, px1, px2, px3⟩
  clear hK K
  try simp only [Act.put, List.setIfInBounds_toArray, List.set_cons_zero, List.set_cons_succ]
  refine wpAnyH_ready (rs := [9]) (by kernel_rfl) (by simp) ?_
  refine AllReadyH.cons rfl (fun K hK => ?_) AllReadyH.nil
  go_simp
  by_cases hpc : pc = 0
  · subst hpc
    have HEQ : Hid (valF (.mk [61] n nm (.cons x .nil)) T = (.ok n5, PT)) := hid (by show thenV (valF x T) (fun n T1 => storeV nm n T1) = _; rw [HV5.out, thenV_ok]; rw [HPV.out]; rfl)
    ((with_reducible refine (may_ok _).mono ?_); rintro e1 w10 ⟨rfl, rfl⟩)
    go_wp2_with fail
    refine hK.out _ _ ?_ (fun hHeld => ?_)
    · assumption
    clear hK K
    try simp only [Act.put, List.setIfInBounds_toArray, List.set_cons_zero, List.set_cons_succ]
    refine wpAnyH_done (by kernel_rfl) ?_ _
    go_wp2_with fail
    go_ret
    exact ValPost.good ST.out HTF.out HEQ.out rfl
  · have HEQ : Hid (valF (.mk [61] n nm (.cons x .nil)) T = (.error pc, PT)) := hid (by show thenV (valF x T) (fun n T1 => storeV nm n T1) = _; rw [HV5.out, thenV_ok]; rw [HPV.out, if_neg hpc])
    ((with_reducible refine (may_bad pc hpc _).mono ?_); rintro e1 w10 ⟨rfl, rfl⟩)
    exact ⟨rfl, ValPost.bad ST.out HTF.out HEQ.out⟩
set_option maxRecDepth 100000 in
set_option maxHeartbeats 4000000 in
theorem set_op (op : List UInt8) (n : Int) (nm : List UInt8) (x : Ex) (hop : setF op = true) (hne : op ≠ [61]) (hol : op.length ≤ 4) (hkx : ValC x) (hox : okF x = true) : SetC (.mk op n nm (.cons x .nil)) := by
  have hval : ∀ T, valF (.mk op n nm (.cons x .nil)) T = setV op nm (valF x) T := by
    intro T; show combV op n nm _ T = _; unfold combV
    rw [if_neg (by rw [setF_kids hop]; simp [valL]), if_pos hop]; rfl
  have hset : ∀ T, valF (.mk op n nm (.cons x .nil)) T = match nameV T nm with
      | .error e => (.error e, T)
      | .ok a => thenV (valF x T) fun b T1 => match twoV op.dropLast a b with
        | .error e => (.error e, T1)
        | .ok n => storeV nm n T1 := by
    intro T; rw [hval]; unfold setV; rw [if_neg hne]; rfl
  have HVAL := hid hset
  have b0 : (op == [61]) = false := by simpa using hne
  have h0l : 0 < op.length := by cases op with | nil => revert hop; decide | cons => simp
  have hdl : (⟨op.toArray⟩ : ByteArray).extract 0 (op.length - 1) = ⟨op.dropLast.toArray⟩ := by apply ByteArray.ext; simp [List.dropLast_eq_take]
  have hw1 : IntKind.i64.wrap ((op.length : Int) - 1) = (op.length : Int) - 1 := IntWalk.i64_in _ (by omega)
  clear hval hset hne hop
  have HKx := hid hkx
  have HOx := hid hox
  clear hkx hox
  have HSZ : Hid (szF x ≤ szF (.mk op n nm (.cons x .nil))) := hid (by simp only [szF, szL]; omega)
  intro w g B T u v hr hV hlen
  obtain ⟨A, cap, rfl, hcap, hkids⟩ := hr.form
  dsimp only [Ex.op, Ex.num, Ex.name, Ex.kids, Exs.len, Nat.zero_add, Nat.reduceAdd] at *
  obtain ⟨b, off, rfl⟩ := hkids.form_ (by simp [Exs.len])
  obtain ⟨Ax, capx, hPx, qx0, qx1, qx2, qx3, hrx, hkids⟩ := hkids.un
  unfold vw
  have kV : Bk ((w.alloc (.cells #[.iface TSt (.pointer (some ⟨g, 0, none⟩))] 78)).alloc (.cells #[.string ⟨op.toArray⟩, .int .i64 n, .string ⟨nm.toArray⟩, .slice (some ⟨b, off, none⟩) 1 cap] 30)) w.heap.size 78 #[.iface TSt (.pointer (some ⟨g, 0, none⟩))] := (Bk.new w 78 #[.iface TSt (.pointer (some ⟨g, 0, none⟩))]).alloc _
  have kE : Bk ((w.alloc (.cells #[.iface TSt (.pointer (some ⟨g, 0, none⟩))] 78)).alloc (.cells #[.string ⟨op.toArray⟩, .int .i64 n, .string ⟨nm.toArray⟩, .slice (some ⟨b, off, none⟩) 1 cap] 30)) (w.heap.size + 1) 30 #[.string ⟨op.toArray⟩, .int .i64 n, .string ⟨nm.toArray⟩, .slice (some ⟨b, off, none⟩) 1 cap] := heap2_1 w _ _
  have hB0 : Below w.heap.size w ((w.alloc (.cells #[.iface TSt (.pointer (some ⟨g, 0, none⟩))] 78)).alloc (.cells #[.string ⟨op.toArray⟩, .int .i64 n, .string ⟨nm.toArray⟩, .slice (some ⟨b, off, none⟩) 1 cap] 30)) := ((Below.refl _ _).alloc (Nat.le_refl _) _).alloc (by simp) _
  have hsz0 : ((w.alloc (.cells #[.iface TSt (.pointer (some ⟨g, 0, none⟩))] 78)).alloc (.cells #[.string ⟨op.toArray⟩, .int .i64 n, .string ⟨nm.toArray⟩, .slice (some ⟨b, off, none⟩) 1 cap] 30)).heap.size = w.heap.size + 1 + 1 := by simp
  have px0 : ((w.alloc (.cells #[.iface TSt (.pointer (some ⟨g, 0, none⟩))] 78)).alloc (.cells #[.string ⟨op.toArray⟩, .int .i64 n, .string ⟨nm.toArray⟩, .slice (some ⟨b, off, none⟩) 1 cap] 30)).cell? ⟨b, off, none⟩ = some (.string ⟨x.op.toArray⟩) := al (al qx0)
  have px1 : ((w.alloc (.cells #[.iface TSt (.pointer (some ⟨g, 0, none⟩))] 78)).alloc (.cells #[.string ⟨op.toArray⟩, .int .i64 n, .string ⟨nm.toArray⟩, .slice (some ⟨b, off, none⟩) 1 cap] 30)).cell? ⟨b, off + 1, none⟩ = some (.int .i64 x.num) := al (al qx1)
  have px2 : ((w.alloc (.cells #[.iface TSt (.pointer (some ⟨g, 0, none⟩))] 78)).alloc (.cells #[.string ⟨op.toArray⟩, .int .i64 n, .string ⟨nm.toArray⟩, .slice (some ⟨b, off, none⟩) 1 cap] 30)).cell? ⟨b, off + 2, none⟩ = some (.string ⟨x.name.toArray⟩) := al (al qx2)
  have px3 : ((w.alloc (.cells #[.iface TSt (.pointer (some ⟨g, 0, none⟩))] 78)).alloc (.cells #[.string ⟨op.toArray⟩, .int .i64 n, .string ⟨nm.toArray⟩, .slice (some ⟨b, off, none⟩) 1 cap] 30)).cell? ⟨b, off + 3, none⟩ = some (.slice Ax x.kids.len capx) := al (al qx3)
  go_enter Tryz.func65, Tryz.ntmps65
  go_wp2_with fail
  obtain ⟨W0, hW0⟩ : ∃ W0, W0 = ((w.alloc (.cells #[.iface TSt (.pointer (some ⟨g, 0, none⟩))] 78)).alloc (.cells #[.string ⟨op.toArray⟩, .int .i64 n, .string ⟨nm.toArray⟩, .slice (some ⟨b, off, none⟩) 1 cap] 30)) := ⟨_, rfl⟩
  rw [← hW0] at kV kE hB0 hsz0 px0 px1 px2 px3
  rw [← hW0]
  clear hW0 qx0 qx1 qx2 qx3
  have v0 := kV.cell 0 _ rfl
  obtain ⟨c0, c1, c2, c3⟩ := kE.cells4
  have fV : Free W0 g u w.heap.size := hV.new hB0 (Nat.le_refl _) (by omega)
  have fE : Free W0 g u (w.heap.size + 1) := hV.new hB0 (by omega) (by omega)
  have fB : Free W0 g u b := (TStep.below (g := g) (u := u) hB0).free hPx
  have ST := hid (TStep.below (g := g) (u := u) hB0)
  have VI := hid (hV.below hB0)
  have HS0 := hid hV.short
  have HXx := hid (hrx.step (TStep.below (g := g) (u := u) hB0))
  clear kV kE hB0 hsz0 hV hr hcap hkids hrx hPx
  have hszx := HSZ.out
  have hns := nil_set
  have hms := method_set
  ((with_reducible refine (nameC2 _ g B T u nm VI.out (by omega)).mono ?_); rintro e1 w1 ⟨hby, hm⟩)
  have stq := TStep.below (g := g) (u := u) hby
  have v0 := cell_step stq fV v0
  have c0 := cell_step stq fE c0
  have c1 := cell_step stq fE c1
  have c2 := cell_step stq fE c2
  have c3 := cell_step stq fE c3
  have px0 := cell_step stq fB px0
  have px1 := cell_step stq fB px1
  have px2 := cell_step stq fB px2
  have px3 := cell_step stq fB px3
  have fV := stq.free fV
  have fE := stq.free fE
  have fB := stq.free fB
  have ST := hid (ST.out.trans stq)
  have HXx := hid (HXx.out.step stq)
  have VI := hid (VI.out.below hby)
  clear stq hby
  cases hn : nameV T nm with
  | error er =>
    rw [hn] at hm; dsimp only at hm; subst hm
    exact ⟨rfl, ValPost.bad ST.out VI.out.tab (show _ = _ by rw [HVAL.out, hn])⟩
  | ok na =>
    rw [hn] at hm; dsimp only at hm; subst hm
    have HN := hid hn
    have HIA : Hid (I64 na) := hid (name_rng hn)
    clear hn
    go_wp2_with fail
    have stq := TStep.below (g := g) (u := u) ((Below.refl w1.heap.size w1).drew)
    have v0 := cell_step stq fV v0
    have c0 := cell_step stq fE c0
    have c1 := cell_step stq fE c1
    have c2 := cell_step stq fE c2
    have c3 := cell_step stq fE c3
    have px0 := cell_step stq fB px0
    have px1 := cell_step stq fB px1
    have px2 := cell_step stq fB px2
    have px3 := cell_step stq fB px3
    have fV := stq.free fV
    have fE := stq.free fE
    have fB := stq.free fB
    have ST := hid (ST.out.trans stq)
    have HXx := hid (HXx.out.step stq)
    have VI := hid (VI.out.below ((Below.refl w1.heap.size w1).drew))
    clear stq
    refine wp_region_held_drew (S := (fun w' => w'.cell? ⟨w.heap.size, 0, none⟩ = some (.iface TSt (.pointer (some ⟨g, 0, none⟩))) ∧ w'.cell? ⟨w.heap.size + 1, 0, none⟩ = some (.string ⟨op.toArray⟩) ∧ w'.cell? ⟨w.heap.size + 1, 1, none⟩ = some (.int .i64 n) ∧ w'.cell? ⟨w.heap.size + 1, 2, none⟩ = some (.string ⟨nm.toArray⟩) ∧ w'.cell? ⟨w.heap.size + 1, 3, none⟩ = some (.slice (some ⟨b, off, none⟩) 1 cap) ∧ w'.cell? ⟨b, off, none⟩ = some (.string ⟨x.op.toArray⟩) ∧ w'.cell? ⟨b, off + 1, none⟩ = some (.int .i64 x.num) ∧ w'.cell? ⟨b, off + 2, none⟩ = some (.string ⟨x.name.toArray⟩) ∧ w'.cell? ⟨b, off + 3, none⟩ = some (.slice Ax x.kids.len capx))) (by kernel_rfl) ⟨v0, c0, c1, c2, c3, px0, px1, px2, px3⟩ (fun hHeld => ?_)
    refine takeYes (i := 0) (v := .pointer (some ⟨w.heap.size + 1, 0, none⟩)) rfl (by kernel_rfl) (by kernel_rfl) (by kernel_rfl) (fun _ _ _ h => h) (by rfl) ?_ (by assumption) ?_
    · intro w hSw; obtain ⟨sq0, sq1, sq2, sq3, sq4, sq5, sq6, sq7, sq8⟩ := hSw; go_simp
    try simp only [Act.put, List.setIfInBounds_toArray, List.set_cons_zero, List.set_cons_succ]
    refine takeYes (i := 1) (v := .string ⟨op.toArray⟩) rfl (by kernel_rfl) (by kernel_rfl) (by kernel_rfl) (fun _ _ _ h => h) (by rfl) ?_ (by assumption) ?_
    · intro w hSw; obtain ⟨sq0, sq1, sq2, sq3, sq4, sq5, sq6, sq7, sq8⟩ := hSw; go_simp
    try simp only [Act.put, List.setIfInBounds_toArray, List.set_cons_zero, List.set_cons_succ]
    refine takeYes (i := 2) (v := .pointer (some ⟨w.heap.size + 1, 0, none⟩)) rfl (by kernel_rfl) (by kernel_rfl) (by kernel_rfl) (fun _ _ _ h => h) (by rfl) ?_ (by assumption) ?_
    · intro w hSw; obtain ⟨sq0, sq1, sq2, sq3, sq4, sq5, sq6, sq7, sq8⟩ := hSw; go_simp
    try simp only [Act.put, List.setIfInBounds_toArray, List.set_cons_zero, List.set_cons_succ]
    refine takeYes (i := 3) (v := .string ⟨op.toArray⟩) rfl (by kernel_rfl) (by kernel_rfl) (by kernel_rfl) (fun _ _ _ h => h) (by rfl) ?_ (by assumption) ?_
    · intro w hSw; obtain ⟨sq0, sq1, sq2, sq3, sq4, sq5, sq6, sq7, sq8⟩ := hSw; go_simp
    try simp only [Act.put, List.setIfInBounds_toArray, List.set_cons_zero, List.set_cons_succ]
    refine takeYes (i := 4) (v := .int .i64 (op.length : Int)) rfl (by kernel_rfl) (by kernel_rfl) (by kernel_rfl) (fun _ _ _ h => h) (by rfl) ?_ (by assumption) ?_
    · intro w hSw; obtain ⟨sq0, sq1, sq2, sq3, sq4, sq5, sq6, sq7, sq8⟩ := hSw; go_simp
    try simp only [Act.put, List.setIfInBounds_toArray, List.set_cons_zero, List.set_cons_succ]
    refine takeYes (i := 5) (v := .int .i64 ((op.length : Int) - 1)) rfl (by kernel_rfl) (by kernel_rfl) (by kernel_rfl) (fun _ _ _ h => h) (by rfl) ?_ (by assumption) ?_
    · intro w hSw; obtain ⟨sq0, sq1, sq2, sq3, sq4, sq5, sq6, sq7, sq8⟩ := hSw; go_simp
    try simp only [Act.put, List.setIfInBounds_toArray, List.set_cons_zero, List.set_cons_succ]
    refine takeYes (i := 6) (v := .string ⟨op.dropLast.toArray⟩) rfl (by kernel_rfl) (by kernel_rfl) (by kernel_rfl) (fun _ _ _ h => h) (by rfl) ?_ (by assumption) ?_
    · intro w hSw; obtain ⟨sq0, sq1, sq2, sq3, sq4, sq5, sq6, sq7, sq8⟩ := hSw; go_simp; intro hx; exfalso; omega
    try simp only [Act.put, List.setIfInBounds_toArray, List.set_cons_zero, List.set_cons_succ]
    refine takeYes (i := 7) (v := .int .i64 na) rfl (by kernel_rfl) (by kernel_rfl) (by kernel_rfl) (fun _ _ _ h => h) (by rfl) ?_ (by assumption) ?_
    · intro w hSw; obtain ⟨sq0, sq1, sq2, sq3, sq4, sq5, sq6, sq7, sq8⟩ := hSw; go_simp
    try simp only [Act.put, List.setIfInBounds_toArray, List.set_cons_zero, List.set_cons_succ]
    refine takeYes (i := 8) (v := .agg #[.iface TSt (.pointer (some ⟨g, 0, none⟩))]) rfl (by kernel_rfl) (by kernel_rfl) (by kernel_rfl) (fun _ _ _ h => h) (by rfl) ?_ (by assumption) ?_
    · intro w hSw; obtain ⟨sq0, sq1, sq2, sq3, sq4, sq5, sq6, sq7, sq8⟩ := hSw; go_simp
    try simp only [Act.put, List.setIfInBounds_toArray, List.set_cons_zero, List.set_cons_succ]
    refine takeYes (i := 9) (v := .pointer (some ⟨w.heap.size + 1, 3, none⟩)) rfl (by kernel_rfl) (by kernel_rfl) (by kernel_rfl) (fun _ _ _ h => h) (by rfl) ?_ (by assumption) ?_
    · intro w hSw; obtain ⟨sq0, sq1, sq2, sq3, sq4, sq5, sq6, sq7, sq8⟩ := hSw; go_simp
    try simp only [Act.put, List.setIfInBounds_toArray, List.set_cons_zero, List.set_cons_succ]
    refine takeYes (i := 10) (v := .slice (some ⟨b, off, none⟩) 1 cap) rfl (by kernel_rfl) (by kernel_rfl) (by kernel_rfl) (fun _ _ _ h => h) (by rfl) ?_ (by assumption) ?_
    · intro w hSw; obtain ⟨sq0, sq1, sq2, sq3, sq4, sq5, sq6, sq7, sq8⟩ := hSw; go_simp
    try simp only [Act.put, List.setIfInBounds_toArray, List.set_cons_zero, List.set_cons_succ]
    refine takeYes (i := 11) (v := .pointer (some ⟨b, off, none⟩)) rfl (by kernel_rfl) (by kernel_rfl) (by kernel_rfl) (fun _ _ _ h => h) (by rfl) ?_ (by assumption) ?_
    · intro w hSw; obtain ⟨sq0, sq1, sq2, sq3, sq4, sq5, sq6, sq7, sq8⟩ := hSw; go_simp
    try simp only [Act.put, List.setIfInBounds_toArray, List.set_cons_zero, List.set_cons_succ]
    refine takeYes (i := 12) (v := .agg #[.string ⟨x.op.toArray⟩, .int .i64 x.num, .string ⟨x.name.toArray⟩, .slice Ax x.kids.len capx]) rfl (by kernel_rfl) (by kernel_rfl) (by kernel_rfl) (fun _ _ _ h => h) (by rfl) ?_ (by assumption) ?_
    · intro w hSw; obtain ⟨sq0, sq1, sq2, sq3, sq4, sq5, sq6, sq7, sq8⟩ := hSw; go_simp
    try simp only [Act.put, List.setIfInBounds_toArray, List.set_cons_zero, List.set_cons_succ]
    refine wpAnyH_ready (rs := [13]) (by kernel_rfl) (by simp) ?_
    refine AllReadyH.cons rfl (fun K hK => ?_) AllReadyH.nil
    go_simp
    ((with_reducible refine (HKx.out.call _ g B T u _ HXx.out VI.out (by omega)).mono ?_); rintro e1 w5 ⟨u5, hst, htab, hm⟩)
    obtain ⟨r5, T5, hv5⟩ : ∃ r T1, valF x T = (r, T1) := ⟨_, _, rfl⟩
    rw [hv5] at htab hm
    obtain ⟨ha, hb, hc⟩ := val_after HOx.out VI.out.short hv5
    have v0 := cell_step hst fV v0
    have c0 := cell_step hst fE c0
    have c1 := cell_step hst fE c1
    have c2 := cell_step hst fE c2
    have c3 := cell_step hst fE c3
    have px0 := cell_step hst fB px0
    have px1 := cell_step hst fB px1
    have px2 := cell_step hst fB px2
    have px3 := cell_step hst fB px3
    have fV := hst.free fV
    have fE := hst.free fE
    have fB := hst.free fB
    have ST := hid (ST.out.trans hst)
    have HXx := hid (HXx.out.step hst)
    have VI := hid (VI.out.step hst htab ha)
    have HT5 := hid htab
    have HV5 := hid hv5
    clear hst htab ha hv5
    rcases r5 with er | n5
    · (dsimp only at hm; subst hm; exact ⟨rfl, ValPost.bad ST.out VI.out.tab (show _ = _ by rw [HVAL.out, HN.out]; show thenV (valF x T) _ = _; rw [HV5.out]; rfl)⟩)
    dsimp only at hm
    subst hm
    have HI5 := hid (hc _ rfl)
    clear hc
    go_wp2_with fail
    refine hK.out _ _ ?_ (fun hHeld => ?_)
    · exact ⟨v0, c0, c1, c2, c3, px0, px1, px2, px3⟩
    clear hK K
    try simp only [Act.put, List.setIfInBounds_toArray, List.set_cons_zero, List.set_cons_succ]
    refine wpAnyH_ready (rs := [14]) (by kernel_rfl) (by simp) ?_
    refine AllReadyH.cons rfl (fun K hK => ?_) AllReadyH.nil
    go_simp
    ((with_reducible refine (two_any op.dropLast na n5 _).mono ?_); rintro e1 w7 ⟨rfl, hm⟩)
    have HVV : Hid (valF (.mk op n nm (.cons x .nil)) T = match twoV op.dropLast na n5 with | .error e => (.error e, T5) | .ok n => storeV nm n T5) := hid (by rw [HVAL.out, HN.out]; show thenV (valF x T) _ = _; rw [HV5.out]; rfl)
    have HR7 : Hid (∀ n, twoV op.dropLast na n5 = .ok n → I64 n) := hid (fun n h => two_rng HIA.out HI5.out h)
    generalize twoV op.dropLast na n5 = r7 at hm HVV HR7
    rcases r7 with er | n7
    · (dsimp only at hm; subst hm; exact ⟨rfl, ValPost.bad ST.out VI.out.tab HVV.out⟩)
    dsimp only at hm
    subst hm
    have HI7 := hid (HR7.out n7 rfl)
    go_wp2_with fail
    refine hK.out _ _ ?_ (fun hHeld => ?_)
    · assumption
    clear hK K
    try simp only [Act.put, List.setIfInBounds_toArray, List.set_cons_zero, List.set_cons_succ]
    refine takeYes (i := 15) (v := .int .i64 n7) rfl (by kernel_rfl) (by kernel_rfl) (by kernel_rfl) (fun _ _ _ h => h) (by rfl) ?_ (by assumption) ?_
    · intro w hSw; obtain ⟨sq0, sq1, sq2, sq3, sq4, sq5, sq6, sq7, sq8⟩ := hSw; go_simp
    try simp only [Act.put, List.setIfInBounds_toArray, List.set_cons_zero, List.set_cons_succ]
    refine wpAnyH_done (by kernel_rfl) ?_ _
    go_wp2_with fail
    have stq := TStep.below (g := g) (u := u5) ((Below.refl w5.heap.size w5).drew)
    have v0 := cell_step stq fV v0
    have c0 := cell_step stq fE c0
    have c1 := cell_step stq fE c1
    have c2 := cell_step stq fE c2
    have c3 := cell_step stq fE c3
    have px0 := cell_step stq fB px0
    have px1 := cell_step stq fB px1
    have px2 := cell_step stq fB px2
    have px3 := cell_step stq fB px3
    have fV := stq.free fV
    have fE := stq.free fE
    have fB := stq.free fB
    have ST := hid (ST.out.trans stq)
    have HXx := hid (HXx.out.step stq)
    have VI := hid (VI.out.below ((Below.refl w5.heap.size w5).drew))
    clear stq
    refine wp_region_held_drew (S := (fun w' => w'.cell? ⟨w.heap.size, 0, none⟩ = some (.iface TSt (.pointer (some ⟨g, 0, none⟩))) ∧ w'.cell? ⟨w.heap.size + 1, 0, none⟩ = some (.string ⟨op.toArray⟩) ∧ w'.cell? ⟨w.heap.size + 1, 1, none⟩ = some (.int .i64 n) ∧ w'.cell? ⟨w.heap.size + 1, 2, none⟩ = some (.string ⟨nm.toArray⟩) ∧ w'.cell? ⟨w.heap.size + 1, 3, none⟩ = some (.slice (some ⟨b, off, none⟩) 1 cap) ∧ w'.cell? ⟨b, off, none⟩ = some (.string ⟨x.op.toArray⟩) ∧ w'.cell? ⟨b, off + 1, none⟩ = some (.int .i64 x.num) ∧ w'.cell? ⟨b, off + 2, none⟩ = some (.string ⟨x.name.toArray⟩) ∧ w'.cell? ⟨b, off + 3, none⟩ = some (.slice Ax x.kids.len capx))) (by kernel_rfl) ⟨v0, c0, c1, c2, c3, px0, px1, px2, px3⟩ (fun hHeld => ?_)
    refine takeYes (i := 0) (v := .pointer (some ⟨w.heap.size, 0, none⟩)) rfl (by kernel_rfl) (by kernel_rfl) (by kernel_rfl) (fun _ _ _ h => h) (by rfl) ?_ (by assumption) ?_
    · intro w hSw; obtain ⟨sq0, sq1, sq2, sq3, sq4, sq5, sq6, sq7, sq8⟩ := hSw; go_simp
    try simp only [Act.put, List.setIfInBounds_toArray, List.set_cons_zero, List.set_cons_succ]
    refine takeYes (i := 1) (v := .iface TSt (.pointer (some ⟨g, 0, none⟩))) rfl (by kernel_rfl) (by kernel_rfl) (by kernel_rfl) (fun _ _ _ h => h) (by rfl) ?_ (by assumption) ?_
    · intro w hSw; obtain ⟨sq0, sq1, sq2, sq3, sq4, sq5, sq6, sq7, sq8⟩ := hSw; go_simp
    try simp only [Act.put, List.setIfInBounds_toArray, List.set_cons_zero, List.set_cons_succ]
    refine takeYes (i := 2) (v := .pointer (some ⟨w.heap.size + 1, 2, none⟩)) rfl (by kernel_rfl) (by kernel_rfl) (by kernel_rfl) (fun _ _ _ h => h) (by rfl) ?_ (by assumption) ?_
    · intro w hSw; obtain ⟨sq0, sq1, sq2, sq3, sq4, sq5, sq6, sq7, sq8⟩ := hSw; go_simp
    try simp only [Act.put, List.setIfInBounds_toArray, List.set_cons_zero, List.set_cons_succ]
    refine takeYes (i := 3) (v := .string ⟨nm.toArray⟩) rfl (by kernel_rfl) (by kernel_rfl) (by kernel_rfl) (fun _ _ _ h => h) (by rfl) ?_ (by assumption) ?_
    · intro w hSw; obtain ⟨sq0, sq1, sq2, sq3, sq4, sq5, sq6, sq7, sq8⟩ := hSw; go_simp
    try simp only [Act.put, List.setIfInBounds_toArray, List.set_cons_zero, List.set_cons_succ]
    refine takeYes (i := 4) (v := .int .i64 n7) rfl (by kernel_rfl) (by kernel_rfl) (by kernel_rfl) (fun _ _ _ h => h) (by rfl) ?_ (by assumption) ?_
    · intro w hSw; obtain ⟨sq0, sq1, sq2, sq3, sq4, sq5, sq6, sq7, sq8⟩ := hSw; go_simp
    try simp only [Act.put, List.setIfInBounds_toArray, List.set_cons_zero, List.set_cons_succ]
    refine takeYes (i := 6) (v := .iface TSt (.pointer (some ⟨g, 0, none⟩))) rfl (by kernel_rfl) (by kernel_rfl) (by kernel_rfl) (fun _ _ _ h => h) (by rfl) ?_ (by assumption) ?_
    · intro w hSw; obtain ⟨sq0, sq1, sq2, sq3, sq4, sq5, sq6, sq7, sq8⟩ := hSw; go_simp
    try simp only [Act.put, List.setIfInBounds_toArray, List.set_cons_zero, List.set_cons_succ]
    refine takeYes (i := 7) (v := .iface TSt (.pointer (some ⟨g, 0, none⟩))) rfl (by kernel_rfl) (by kernel_rfl) (by kernel_rfl) (fun _ _ _ h => h) (by rfl) ?_ (by assumption) ?_
    · intro w hSw; obtain ⟨sq0, sq1, sq2, sq3, sq4, sq5, sq6, sq7, sq8⟩ := hSw; go_simp
    try simp only [Act.put, List.setIfInBounds_toArray, List.set_cons_zero, List.set_cons_succ]
    refine wpAnyH_ready (rs := [5]) (by kernel_rfl) (by simp) ?_
    refine AllReadyH.cons rfl (fun K hK => ?_) AllReadyH.nil
    go_simp
    ((with_reducible refine (text_any n7 (I64.lo HI7.out) (I64.hi HI7.out) _ VI.out.laid).mono ?_); rintro e1 w8 ⟨rfl, hby⟩)
    have stq := TStep.below (g := g) (u := u5) hby
    have v0 := cell_step stq fV v0
    have c0 := cell_step stq fE c0
    have c1 := cell_step stq fE c1
    have c2 := cell_step stq fE c2
    have c3 := cell_step stq fE c3
    have px0 := cell_step stq fB px0
    have px1 := cell_step stq fB px1
    have px2 := cell_step stq fB px2
    have px3 := cell_step stq fB px3
    have fV := stq.free fV
    have fE := stq.free fE
    have fB := stq.free fB
    have ST := hid (ST.out.trans stq)
    have HXx := hid (HXx.out.step stq)
    have VI := hid (VI.out.below hby)
    clear stq hby
    go_wp2_with fail
    refine hK.out _ _ ?_ (fun hHeld => ?_)
    · exact ⟨v0, c0, c1, c2, c3, px0, px1, px2, px3⟩
    clear hK K
    try simp only [Act.put, List.setIfInBounds_toArray, List.set_cons_zero, List.set_cons_succ]
    refine wpAnyH_ready (rs := [8]) (by kernel_rfl) (by simp) ?_
    refine AllReadyH.cons rfl (fun K hK => ?_) AllReadyH.nil
    go_simp
    ((with_reducible refine (Set_any T5 nm (Lib.itoa n7) g B u5 _ VI.out.tab (by omega)).mono ?_); rintro e1 w9 ⟨u9, rfl, hst, htab⟩)
    obtain ⟨pc, PT, hput⟩ : ∃ pc PT, putF T5 nm (Lib.itoa n7) = (pc, PT) := ⟨_, _, rfl⟩
    rw [hput] at htab
    rw [hput]
    dsimp only
    dsimp only at htab
    have v0 := cell_step hst fV v0
    have c0 := cell_step hst fE c0
    have c1 := cell_step hst fE c1
    have c2 := cell_step hst fE c2
    have c3 := cell_step hst fE c3
    have px0 := cell_step hst fB px0
    have px1 := cell_step hst fB px1
    have px2 := cell_step hst fB px2
    have px3 := cell_step hst fB px3
    have fV := hst.free fV
    have fE := hst.free fE
    have fB := hst.free fB
    have ST := hid (ST.out.trans hst)
    have HXx := hid (HXx.out.step hst)
    have HTF := hid htab
    have HPV : Hid (storeV nm n7 T5 = if pc = 0 then (.ok n7, PT) else (.error pc, PT)) := hid (by unfold storeV; rw [hput])
    clear hst htab hput
    go_wp2_with fail
    refine hK.out _ _ ?_ (fun hHeld => ?_)
    · exact ⟨v0, c0, c1, c2, c3, px0, px1, px2, px3⟩
    clear hK K
    try simp only [Act.put, List.setIfInBounds_toArray, List.set_cons_zero, List.set_cons_succ]
    refine wpAnyH_ready (rs := [9]) (by kernel_rfl) (by simp) ?_
    refine AllReadyH.cons rfl (fun K hK => ?_) AllReadyH.nil
    go_simp
    by_cases hpc : pc = 0
    · subst hpc
      have HEQ : Hid (valF (.mk op n nm (.cons x .nil)) T = (.ok n7, PT)) := hid (by rw [HVV.out]; rw [HPV.out]; rfl)
      ((with_reducible refine (may_ok _).mono ?_); rintro e1 w10 ⟨rfl, rfl⟩)
      go_wp2_with fail
      refine hK.out _ _ ?_ (fun hHeld => ?_)
      · assumption
      clear hK K
      try simp only [Act.put, List.setIfInBounds_toArray, List.set_cons_zero, List.set_cons_succ]
      refine wpAnyH_done (by kernel_rfl) ?_ _
      go_wp2_with fail
      go_ret
      exact ValPost.good ST.out HTF.out HEQ.out rfl
    · have HEQ : Hid (valF (.mk op n nm (.cons x .nil)) T = (.error pc, PT)) := hid (by rw [HVV.out]; rw [HPV.out, if_neg hpc])
      ((with_reducible refine (may_bad pc hpc _).mono ?_); rintro e1 w10 ⟨rfl, rfl⟩)
      exact ⟨rfl, ValPost.bad ST.out HTF.out HEQ.out⟩
end Go.Proofs.YtadmmmehphhecaaGreatDoor
/- The contract of value of sums.valuer, by induction; the walk of Value. -/
namespace Go.Proofs.YtadmmmehphhecaaGreatDoor
open Go.RowKit
theorem set_any (op : List UInt8) (n : Int) (nm : List UInt8) (x : Ex) (hop : setF op = true) (hkx : ValC x) (hox : okF x = true) : SetC (.mk op n nm (.cons x .nil)) := by
  by_cases h : op = [61]
  · subst h; exact set_eq n nm x hkx hox
  · exact set_op op n nm x hop h (op_len (by rw [setF_kids hop]; decide)) hkx hox
set_option maxRecDepth 100000 in
set_option maxHeartbeats 4000000 in
theorem val_set (op : List UInt8) (n : Int) (nm : List UInt8) (x : Ex) (hop : setF op = true) (hset : SetC (.mk op n nm (.cons x .nil))) : ValC (.mk op n nm (.cons x .nil)) := by
  have HKF := hid (setF_kids hop)
  have HNS := hid hop
  have HSET := hid hset
  clear hop hset
  intro w g B T u v hr hV hlen
  obtain ⟨A, cap, rfl, hcap, hkids⟩ := hr.form
  dsimp only [Ex.op, Ex.num, Ex.name, Ex.kids, Exs.len, Nat.zero_add, Nat.reduceAdd] at *
  obtain ⟨b, off, rfl⟩ := hkids.form_ (by simp [Exs.len])
  obtain ⟨Ax, capx, hPx, qx0, qx1, qx2, qx3, hrx, hkids⟩ := hkids.un
  unfold vw
  have kV : Bk ((w.alloc (.cells #[.iface TSt (.pointer (some ⟨g, 0, none⟩))] 78)).alloc (.cells #[.string ⟨op.toArray⟩, .int .i64 n, .string ⟨nm.toArray⟩, .slice (some ⟨b, off, none⟩) 1 cap] 30)) w.heap.size 78 #[.iface TSt (.pointer (some ⟨g, 0, none⟩))] := (Bk.new w 78 #[.iface TSt (.pointer (some ⟨g, 0, none⟩))]).alloc _
  have kE : Bk ((w.alloc (.cells #[.iface TSt (.pointer (some ⟨g, 0, none⟩))] 78)).alloc (.cells #[.string ⟨op.toArray⟩, .int .i64 n, .string ⟨nm.toArray⟩, .slice (some ⟨b, off, none⟩) 1 cap] 30)) (w.heap.size + 1) 30 #[.string ⟨op.toArray⟩, .int .i64 n, .string ⟨nm.toArray⟩, .slice (some ⟨b, off, none⟩) 1 cap] := heap2_1 w _ _
  have hB0 : Below w.heap.size w ((w.alloc (.cells #[.iface TSt (.pointer (some ⟨g, 0, none⟩))] 78)).alloc (.cells #[.string ⟨op.toArray⟩, .int .i64 n, .string ⟨nm.toArray⟩, .slice (some ⟨b, off, none⟩) 1 cap] 30)) := ((Below.refl _ _).alloc (Nat.le_refl _) _).alloc (by simp) _
  have hsz0 : ((w.alloc (.cells #[.iface TSt (.pointer (some ⟨g, 0, none⟩))] 78)).alloc (.cells #[.string ⟨op.toArray⟩, .int .i64 n, .string ⟨nm.toArray⟩, .slice (some ⟨b, off, none⟩) 1 cap] 30)).heap.size = w.heap.size + 1 + 1 := by simp
  have px0 : ((w.alloc (.cells #[.iface TSt (.pointer (some ⟨g, 0, none⟩))] 78)).alloc (.cells #[.string ⟨op.toArray⟩, .int .i64 n, .string ⟨nm.toArray⟩, .slice (some ⟨b, off, none⟩) 1 cap] 30)).cell? ⟨b, off, none⟩ = some (.string ⟨x.op.toArray⟩) := al (al qx0)
  have px1 : ((w.alloc (.cells #[.iface TSt (.pointer (some ⟨g, 0, none⟩))] 78)).alloc (.cells #[.string ⟨op.toArray⟩, .int .i64 n, .string ⟨nm.toArray⟩, .slice (some ⟨b, off, none⟩) 1 cap] 30)).cell? ⟨b, off + 1, none⟩ = some (.int .i64 x.num) := al (al qx1)
  have px2 : ((w.alloc (.cells #[.iface TSt (.pointer (some ⟨g, 0, none⟩))] 78)).alloc (.cells #[.string ⟨op.toArray⟩, .int .i64 n, .string ⟨nm.toArray⟩, .slice (some ⟨b, off, none⟩) 1 cap] 30)).cell? ⟨b, off + 2, none⟩ = some (.string ⟨x.name.toArray⟩) := al (al qx2)
  have px3 : ((w.alloc (.cells #[.iface TSt (.pointer (some ⟨g, 0, none⟩))] 78)).alloc (.cells #[.string ⟨op.toArray⟩, .int .i64 n, .string ⟨nm.toArray⟩, .slice (some ⟨b, off, none⟩) 1 cap] 30)).cell? ⟨b, off + 3, none⟩ = some (.slice Ax x.kids.len capx) := al (al qx3)
  go_enter Tryz.func37, Tryz.ntmps37
  go_wp2_with fail
  obtain ⟨W0, hW0⟩ : ∃ W0, W0 = ((w.alloc (.cells #[.iface TSt (.pointer (some ⟨g, 0, none⟩))] 78)).alloc (.cells #[.string ⟨op.toArray⟩, .int .i64 n, .string ⟨nm.toArray⟩, .slice (some ⟨b, off, none⟩) 1 cap] 30)) := ⟨_, rfl⟩
  rw [← hW0] at kV kE hB0 hsz0 px0 px1 px2 px3
  rw [← hW0]
  clear hW0 qx0 qx1 qx2 qx3
  have v0 := kV.cell 0 _ rfl
  obtain ⟨c0, c1, c2, c3⟩ := kE.cells4
  have fV : Free W0 g u w.heap.size := hV.new hB0 (Nat.le_refl _) (by omega)
  have fE : Free W0 g u (w.heap.size + 1) := hV.new hB0 (by omega) (by omega)
  have fB : Free W0 g u b := (TStep.below (g := g) (u := u) hB0).free hPx
  have ST := hid (TStep.below (g := g) (u := u) hB0)
  have VI := hid (hV.below hB0)
  have HE0 := hid (hr.step (TStep.below (g := g) (u := u) hB0))
  have HS0 := hid hV.short
  have HXx := hid (hrx.step (TStep.below (g := g) (u := u) hB0))
  clear kV kE hB0 hsz0 hV hr hcap hkids hrx hPx
  have stq := TStep.below (g := g) (u := u) ((Below.refl W0.heap.size W0).drew)
  have v0 := cell_step stq fV v0
  have c0 := cell_step stq fE c0
  have c1 := cell_step stq fE c1
  have c2 := cell_step stq fE c2
  have c3 := cell_step stq fE c3
  have px0 := cell_step stq fB px0
  have px1 := cell_step stq fB px1
  have px2 := cell_step stq fB px2
  have px3 := cell_step stq fB px3
  have fV := stq.free fV
  have fE := stq.free fE
  have fB := stq.free fB
  have ST := hid (ST.out.trans stq)
  have HXx := hid (HXx.out.step stq)
  have HE0 := hid (HE0.out.step stq)
  have VI := hid (VI.out.below ((Below.refl W0.heap.size W0).drew))
  clear stq
  refine wp_region_held_drew (S := (fun w' => w'.cell? ⟨w.heap.size, 0, none⟩ = some (.iface TSt (.pointer (some ⟨g, 0, none⟩))) ∧ w'.cell? ⟨w.heap.size + 1, 0, none⟩ = some (.string ⟨op.toArray⟩) ∧ w'.cell? ⟨w.heap.size + 1, 1, none⟩ = some (.int .i64 n) ∧ w'.cell? ⟨w.heap.size + 1, 2, none⟩ = some (.string ⟨nm.toArray⟩) ∧ w'.cell? ⟨w.heap.size + 1, 3, none⟩ = some (.slice (some ⟨b, off, none⟩) 1 cap) ∧ w'.cell? ⟨b, off, none⟩ = some (.string ⟨x.op.toArray⟩) ∧ w'.cell? ⟨b, off + 1, none⟩ = some (.int .i64 x.num) ∧ w'.cell? ⟨b, off + 2, none⟩ = some (.string ⟨x.name.toArray⟩) ∧ w'.cell? ⟨b, off + 3, none⟩ = some (.slice Ax x.kids.len capx))) (by kernel_rfl) ⟨v0, c0, c1, c2, c3, px0, px1, px2, px3⟩ (fun hHeld => ?_)
  refine takeYes (i := 0) (v := .pointer (some ⟨w.heap.size + 1, 3, none⟩)) rfl (by kernel_rfl) (by kernel_rfl) (by kernel_rfl) (fun _ _ _ h => h) (by rfl) ?_ (by assumption) ?_
  · intro w hSw; obtain ⟨sq0, sq1, sq2, sq3, sq4, sq5, sq6, sq7, sq8⟩ := hSw; go_simp
  try simp only [Act.put, List.setIfInBounds_toArray, List.set_cons_zero, List.set_cons_succ]
  refine takeYes (i := 1) (v := .slice (some ⟨b, off, none⟩) 1 cap) rfl (by kernel_rfl) (by kernel_rfl) (by kernel_rfl) (fun _ _ _ h => h) (by rfl) ?_ (by assumption) ?_
  · intro w hSw; obtain ⟨sq0, sq1, sq2, sq3, sq4, sq5, sq6, sq7, sq8⟩ := hSw; go_simp
  try simp only [Act.put, List.setIfInBounds_toArray, List.set_cons_zero, List.set_cons_succ]
  refine takeYes (i := 2) (v := .int .i64 1) rfl (by kernel_rfl) (by kernel_rfl) (by kernel_rfl) (fun _ _ _ h => h) (by rfl) ?_ (by assumption) ?_
  · intro w hSw; obtain ⟨sq0, sq1, sq2, sq3, sq4, sq5, sq6, sq7, sq8⟩ := hSw; go_simp
  try simp only [Act.put, List.setIfInBounds_toArray, List.set_cons_zero, List.set_cons_succ]
  refine takeYes (i := 3) (v := .pointer (some ⟨w.heap.size + 1, 0, none⟩)) rfl (by kernel_rfl) (by kernel_rfl) (by kernel_rfl) (fun _ _ _ h => h) (by rfl) ?_ (by assumption) ?_
  · intro w hSw; obtain ⟨sq0, sq1, sq2, sq3, sq4, sq5, sq6, sq7, sq8⟩ := hSw; go_simp
  try simp only [Act.put, List.setIfInBounds_toArray, List.set_cons_zero, List.set_cons_succ]
  refine takeYes (i := 4) (v := .string ⟨op.toArray⟩) rfl (by kernel_rfl) (by kernel_rfl) (by kernel_rfl) (fun _ _ _ h => h) (by rfl) ?_ (by assumption) ?_
  · intro w hSw; obtain ⟨sq0, sq1, sq2, sq3, sq4, sq5, sq6, sq7, sq8⟩ := hSw; go_simp
  try simp only [Act.put, List.setIfInBounds_toArray, List.set_cons_zero, List.set_cons_succ]
  refine wpAnyH_ready (rs := [5]) (by kernel_rfl) (by simp) ?_
  refine AllReadyH.cons rfl (fun K hK => ?_) AllReadyH.nil
  go_simp
  ((with_reducible refine (kids_any _ _).mono ?_); rintro e1 w1 ⟨rfl, hby⟩)
  rw [HKF.out]
  have stq := TStep.below (g := g) (u := u) hby
  have v0 := cell_step stq fV v0
  have c0 := cell_step stq fE c0
  have c1 := cell_step stq fE c1
  have c2 := cell_step stq fE c2
  have c3 := cell_step stq fE c3
  have px0 := cell_step stq fB px0
  have px1 := cell_step stq fB px1
  have px2 := cell_step stq fB px2
  have px3 := cell_step stq fB px3
  have fV := stq.free fV
  have fE := stq.free fE
  have fB := stq.free fB
  have ST := hid (ST.out.trans stq)
  have HXx := hid (HXx.out.step stq)
  have HE0 := hid (HE0.out.step stq)
  have VI := hid (VI.out.below hby)
  clear stq hby
  go_wp2_with fail
  refine hK.out _ _ ?_ (fun hHeld => ?_)
  · exact ⟨v0, c0, c1, c2, c3, px0, px1, px2, px3⟩
  clear hK K
  try simp only [Act.put, List.setIfInBounds_toArray, List.set_cons_zero, List.set_cons_succ]
  refine takeYes (i := 6) (v := .bool false) rfl (by kernel_rfl) (by kernel_rfl) (by kernel_rfl) (fun _ _ _ h => h) (by rfl) ?_ (by assumption) ?_
  · intro w hSw; obtain ⟨sq0, sq1, sq2, sq3, sq4, sq5, sq6, sq7, sq8⟩ := hSw; go_simp
  try simp only [Act.put, List.setIfInBounds_toArray, List.set_cons_zero, List.set_cons_succ]
  refine wpAnyH_done (by kernel_rfl) ?_ _
  go_wp2_with fail
  ((with_reducible refine (isSet_any op _).mono ?_); rintro e1 w2 ⟨rfl, rfl⟩)
  rw [HNS.out]
  go_wp2_with fail
  ((with_reducible refine (HSET.out.call _ g B T u _ HE0.out VI.out hlen).mono ?_); rintro e1 w4 ⟨u4, hst, htab, hm⟩)
  have HST := hid (ST.out.trans hst)
  have HTB := hid htab
  obtain ⟨r4, T4, hv4⟩ : ∃ r T1, valF (.mk op n nm (.cons x .nil)) T = (r, T1) := ⟨_, _, rfl⟩
  rw [hv4] at hm HTB
  have HV4 := hid hv4
  clear hst htab hv4
  rcases r4 with er | n4
  · (dsimp only at hm; subst hm; exact ⟨rfl, ValPost.bad HST.out HTB.out HV4.out⟩)
  dsimp only at hm
  subst hm
  go_wp2_with fail
  go_ret
  exact ValPost.good HST.out HTB.out HV4.out rfl
theorem val_any : ∀ e : Ex, okF e = true → ValC e := by
  intro e
  induction hs : szF e using Nat.strongRecOn generalizing e with
  | _ m ih =>
    subst hs
    intro ho
    obtain ⟨op, n, nm, k⟩ := e
    simp only [okF, Bool.and_eq_true, decide_eq_true_eq] at ho
    obtain ⟨⟨⟨o1, o2⟩, o3⟩, o4⟩ := ho
    have key : ∀ x : Ex, szF x < szF (.mk op n nm k) → okF x = true → ValC x := fun x hx ho => ih _ hx x rfl ho
    by_cases hl : (k.len : Int) = kidsF op
    case neg => exact val_kids op n nm k hl
    rcases op_kinds (op := op) (by omega) with rfl | rfl | h | rfl | h | ⟨h, h', h''⟩
    · have : k = .nil := by
        match k, hl with
        | .nil, _ => rfl
        | .cons x r, hl => rw [show kidsF numO = 0 by decide] at hl; simp [Exs.len] at hl; omega
      subst this
      exact val_num n nm
    · have : k = .nil := by
        match k, hl with
        | .nil, _ => rfl
        | .cons x r, hl => rw [show kidsF nameO = 0 by decide] at hl; simp [Exs.len] at hl; omega
      subst this
      exact val_name n nm
    · have hl' := hl
      rw [kidsF_una h] at hl'
      obtain ⟨x, rfl⟩ := Exs.one (k := k) (by omega)
      simp only [okL, Bool.and_eq_true] at o4
      have hx := key x (by simp only [szF, szL]; omega) o4.1
      rcases h with rfl | rfl | rfl | rfl
      · exact val_neg n nm x hx o4.1
      · exact val_pos n nm x hx o4.1
      · exact val_not n nm x hx o4.1
      · exact val_com n nm x hx o4.1
    · rw [show kidsF [63] = 3 by decide] at hl
      obtain ⟨x, y, z, rfl⟩ := Exs.three (k := k) (by omega)
      simp only [okL, Bool.and_eq_true] at o4
      exact val_if n nm x y z (key x (by simp only [szF, szL]; omega) o4.1) o4.1 (key y (by simp only [szF, szL]; omega) o4.2.1) o4.2.1 (key z (by simp only [szF, szL]; omega) o4.2.2.1) o4.2.2.1
    · have hl' := hl
      rw [setF_kids h] at hl'
      obtain ⟨x, rfl⟩ := Exs.one (k := k) (by omega)
      simp only [okL, Bool.and_eq_true] at o4
      exact val_set op n nm x h (set_any op n nm x h (key x (by simp only [szF, szL]; omega) o4.1) o4.1)
    · have hl' := hl
      rw [h''] at hl'
      obtain ⟨x, y, rfl⟩ := Exs.two (k := k) (by omega)
      simp only [okL, Bool.and_eq_true] at o4
      have hx := key x (by simp only [szF, szL]; omega) o4.1
      have hy := key y (by simp only [szF, szL]; omega) o4.2.1
      by_cases h1 : op = [38, 38]
      · subst h1; exact val_and n nm x y hx o4.1 hy o4.2.1
      by_cases h2 : op = [124, 124]
      · subst h2; exact val_or n nm x y hx o4.1 hy o4.2.1
      exact val_two op n nm x y h h' h'' h1 h2 hx o4.1 hy o4.2.1
end Go.Proofs.YtadmmmehphhecaaGreatDoor
/- The walk of Value of sums. -/
namespace Go.Proofs.YtadmmmehphhecaaGreatDoor
open Go.RowKit
abbrev T64 : TypeId := 2
theorem as_errno (v : Value) (w : World) : (Instr.typeAssert (.iface TEr v) 20 TEr false).run Tryz.prog w = .ok v w := by kernel_rfl
theorem vcatch_idle (r0 r1 : Addr) (w : World) :
    CallsD Tryz.prog 36 #[.pointer (some r0), .pointer (some r1)] .returning w fun e u' w' => e = .returned (.tuple #[]) ∧ u' = .returning ∧ w' = w := by
  refine callsD_of_wpS Tryz.func36 rfl fun c₀ cs hu => ?_
  simp only [Tryz.ntmps36, List.size_toArray, List.length_cons, List.length_nil, Nat.reduceAdd, Nat.reduceSub, Array.replicate_succ,
     Array.replicate_zero, List.push_toArray, List.append_toArray, List.nil_append, List.cons_append]
  apply wpS_seq
  apply wpS_region
  simp [wpOpsS, go_sem, recoverD, hu, Exit.thenS]
  refine wpS_of_wp ?_
  go_wp2_with fail
  cases c₀
  simp_all [bodyPostS, results, Tryz.results36]
set_option maxRecDepth 100000 in
set_option maxHeartbeats 2000000 in
theorem vcatch_bad (R1 R2 : Nat) (er : Int) (w : World) (x y : Value) (h1 : Bk w R1 T64 #[x]) (h2 : Bk w R2 TEr #[y]) (h12 : R1 ≠ R2) :
    CallsD Tryz.prog 36 #[.pointer (some ⟨R1, 0, none⟩), .pointer (some ⟨R2, 0, none⟩)] (.panicking (errV er)) w fun e u' w' =>
      e = .returned (.tuple #[]) ∧ settle u' = .returning ∧ w' = ((w.setCell ⟨R1, 0, none⟩ (.int .i64 0)).setCell ⟨R2, 0, none⟩ (.int .i64 er)).drew := by
  refine callsD_of_wpS Tryz.func36 rfl fun c₀ cs hu => ?_
  unfold errV at hu
  have d0 := h1.cell 0 x rfl
  have g0 := h1.free 0
  have e0 := h2.cell 0 y rfl
  have k0 := h2.free 0
  have hta := as_errno
  have l1 := h1.lt
  have l2 := h2.lt
  clear h1 h2
  simp only [Tryz.ntmps36, List.size_toArray, List.length_cons, List.length_nil, Nat.reduceAdd, Nat.reduceSub, Array.replicate_succ,
     Array.replicate_zero, List.push_toArray, List.append_toArray, List.nil_append, List.cons_append]
  apply wpS_seq
  apply wpS_region
  simp [wpOpsS, go_sem, recoverD, hu, Exit.thenS]
  refine wpS_of_wp ?_
  go_wp2_with fail
  go_region_with fail
  all_goals exact ⟨rfl, _, rfl, _, results_none rfl _ _ _, rfl, rfl, rfl⟩
/-- what Value answers: number, error, table -/
def valueF (e : Ex) (T : Tab) : Int × Int × Tab :=
  if 200 < deepF 200 e then (0, 32, T) else match valF e T with
    | (.ok n, T1) => (n, 0, T1)
    | (.error er, T1) => (0, er, T1)
def ValuePost (e : Ex) (g B : Nat) (T : Tab) (u : Value) (w : World) (x : Ending) (w' : World) : Prop :=
  ∃ u', TStep g w u w' u' ∧ TabAt w' B g (valueF e T).2.2 u' ∧ x = .returned (.tuple #[.int .i64 (valueF e T).1, .int .i64 (valueF e T).2.1])
theorem ValuePost.mk {e : Ex} {g B : Nat} {T T' : Tab} {u u' : Value} {w w' : World} {n f : Int} (hst : TStep g w u w' u') (ht : TabAt w' B g T' u') (hv : valueF e T = (n, f, T')) : ValuePost e g B T u w (.returned (.tuple #[.int .i64 n, .int .i64 f])) w' :=
  ⟨u', hst, by rw [hv]; exact ht, by rw [hv]⟩
def VRes (w : World) (R : Nat) (a b : Value) : Prop := Bk w (R + 1) T64 #[a] ∧ Bk w (R + 1 + 1) TEr #[b]
def VResRd (R : Nat) (tmps : Array Value) : Prop := ∀ (w : World) (a b : Value), VRes w R a b → (results Tryz.f17 tmps).run Tryz.prog w = .ok (.tuple #[a, b]) w
abbrev vcatchD (R : Nat) : Deferred := { target := .fn (.func 36) #[.pointer (some ⟨R + 1, 0, none⟩), .pointer (some ⟨R + 1 + 1, 0, none⟩)], args := #[] }
/-- a cell elsewhere is set -/
theorem TabAt.far {w : World} {B g : Nat} {T : Tab} {u : Value} (h : TabAt w B g T u) {r : Nat} (hr : r ≠ g) (hu : some r ≠ u.ownBlock) (v : Value) : TabAt (w.setCell ⟨r, 0, none⟩ v) B g T u := by
  refine ⟨h.1.far (p := ⟨r, 0, none⟩) (fun e => hr e.symm) v, ?_, by have := h.2.2; simp [World.setCell]; exact this⟩
  exact h.2.1.kept (row := some r) (grown_setCell (w := w) (p := ⟨r, 0, none⟩) rfl v) (by
    cases hb : u.ownBlock with
    | none => simp
    | some b => rw [hb] at hu; simp; intro e; exact hu (by rw [e]))
theorem TStep.far {w0 w : World} {g : Nat} {u0 u : Value} (h : TStep g w0 u0 w u) {r : Nat} (hr : w0.heap.size ≤ r) (v : Value) : TStep g w0 u0 (w.setCell ⟨r, 0, none⟩ v) u :=
  ⟨h.os, h.tape, h.output, by have := h.size; simp [World.setCell]; exact this, fun b hb => (Below.heap_setCell w ⟨r, 0, none⟩ v b (by have := hb.2.2; simp only; omega)).trans (h.block b hb), h.own⟩
/-- what holds when the deferred call is run -/
structure VMid (w : World) (g B : Nat) (u0 : Value) (wN : World) (T : Tab) (u : Value) : Prop where
  st : TStep g w u0 wN u
  tab : TabAt wN B g T u
  res : ∃ a b, VRes wN w.heap.size a b
  f1 : some (w.heap.size + 1) ≠ u.ownBlock
  f2 : some (w.heap.size + 1 + 1) ≠ u.ownBlock
  gl : g < w.heap.size
theorem VMid.put {w wN : World} {g B : Nat} {u0 u : Value} {T : Tab} (h : VMid w g B u0 wN T u) (a b : Value) :
    TStep g w u0 ((wN.setCell ⟨w.heap.size + 1, 0, none⟩ a).setCell ⟨w.heap.size + 1 + 1, 0, none⟩ b) u ∧
    TabAt ((wN.setCell ⟨w.heap.size + 1, 0, none⟩ a).setCell ⟨w.heap.size + 1 + 1, 0, none⟩ b) B g T u ∧
    VRes ((wN.setCell ⟨w.heap.size + 1, 0, none⟩ a).setCell ⟨w.heap.size + 1 + 1, 0, none⟩ b) w.heap.size a b := by
  obtain ⟨x, y, h1, h2⟩ := h.res
  have hg := h.gl
  refine ⟨(h.st.far (by omega) a).far (by omega) b, (h.tab.far (by omega) h.f1 a).far (by omega) h.f2 b, ?_, ?_⟩
  · exact (h1.set_ 0 a).far (p := ⟨w.heap.size + 1 + 1, 0, none⟩) (by simp) b
  · exact (h2.far (p := ⟨w.heap.size + 1, 0, none⟩) (by simp) a).set_ 0 b
theorem vleave_bad (e : Ex) (w wN : World) (g B : Nat) (T T' : Tab) (u u' : Value) (tmps : Array Value) (er : Int) (hr : VResRd w.heap.size tmps) (hm : VMid w g B u wN T' u') (hv : valueF e T = (0, er, T')) :
    Leaves Tryz.prog Tryz.f17 tmps (ValuePost e g B T u w) [vcatchD w.heap.size] (.panicking (errV er)) wN := by
  obtain ⟨x, y, h1, h2⟩ := hm.res
  refine leaves_cons (f := 36) (args := #[.pointer (some ⟨w.heap.size + 1, 0, none⟩), .pointer (some ⟨w.heap.size + 1 + 1, 0, none⟩)]) (by simp) (by simp [go_sem]) ?_
  refine (vcatch_bad (w.heap.size + 1) (w.heap.size + 1 + 1) er wN x y h1 h2 (by omega)).mono ?_
  rintro e1 u1 w' ⟨rfl, hs, rfl⟩
  show Leaves _ _ _ _ _ (settle u1) _
  rw [hs]
  obtain ⟨k1, k2, k3⟩ := hm.put (.int .i64 0) (.int .i64 er)
  exact ⟨_, hr _ _ _ k3, ValuePost.mk (k1.trans (TStep.below ((Below.refl _ _).drew))) (k2.below ((Below.refl _ _).drew)) hv⟩
theorem vleave_good (e : Ex) (w wN : World) (g B : Nat) (T T' : Tab) (u u' : Value) (tmps : Array Value) (n f : Int) (hr : VResRd w.heap.size tmps) (hst : TStep g w u wN u') (ht : TabAt wN B g T' u') (hk : VRes wN w.heap.size (.int .i64 n) (.int .i64 f)) (hv : valueF e T = (n, f, T')) :
    Leaves Tryz.prog Tryz.f17 tmps (ValuePost e g B T u w) [vcatchD w.heap.size] .returning wN := by
  refine leaves_cons (f := 36) (args := #[.pointer (some ⟨w.heap.size + 1, 0, none⟩), .pointer (some ⟨w.heap.size + 1 + 1, 0, none⟩)]) (by simp) (by simp [go_sem]) ?_
  refine (vcatch_idle ⟨w.heap.size + 1, 0, none⟩ ⟨w.heap.size + 1 + 1, 0, none⟩ wN).mono ?_
  rintro e1 u1 w' ⟨rfl, rfl, rfl⟩
  exact ⟨_, hr _ _ _ hk, ValuePost.mk hst ht hv⟩
theorem vstart (w : World) (a0 a1 a2 a3 b0 c0 : Value) :
    let w' := ((w.alloc (.cells #[a0, a1, a2, a3] 30)).alloc (.cells #[b0] T64)).alloc (.cells #[c0] TEr)
    Below w.heap.size w w' ∧ Bk w' w.heap.size 30 #[a0, a1, a2, a3] ∧ VRes w' w.heap.size b0 c0 := by
  refine ⟨(((Below.refl _ _).alloc (Nat.le_refl _) _).alloc (by simp) _).alloc (by simp; omega) _, ?_, ?_, ?_⟩
  · exact ((Bk.new w 30 #[a0, a1, a2, a3]).alloc (.cells #[b0] T64)).alloc (.cells #[c0] TEr)
  · have := ((Bk.new (w.alloc (.cells #[a0, a1, a2, a3] 30)) T64 #[b0])).alloc (.cells #[c0] TEr)
    simpa using this
  · have := Bk.new ((w.alloc (.cells #[a0, a1, a2, a3] 30)).alloc (.cells #[b0] T64)) TEr #[c0]
    simpa using this
set_option maxRecDepth 100000 in
set_option maxHeartbeats 4000000 in
theorem value_any (e : Ex) (w : World) (g B : Nat) (T : Tab) (u v : Value) (hr : RdX w (Free w g u) e v) (hV : VIn w g B T u) (hl : T.length + szF e ≤ 100000) (hD : DeepC 200 e) (hC : ValC e) :
    Calls Tryz.prog 17 #[v, .iface TSt (.pointer (some ⟨g, 0, none⟩))] w (ValuePost e g B T u w) := by
  have hmf : ∀ (fn : Fn) (first cap : Array Value) (w : World), (Instr.makeFunc fn first cap).run Tryz.prog w = .ok (.func fn first cap) w := fun _ _ _ _ => rfl
  obtain ⟨A, cap, rfl, hcap, hkids⟩ := hr.form
  obtain ⟨hb0, kE, kR⟩ := vstart w (.string ⟨e.op.toArray⟩) (.int .i64 e.num) (.string ⟨e.name.toArray⟩) (.slice A e.kids.len cap) (.int .i64 0) (.int .i64 0)
  have HV := hid hV
  have HX := hid hr
  have HD := hid hD
  have HC := hid hC
  have HGL := hid hV.tab.1.lt
  clear hkids hr hV hD hC hcap
  go_enter_defers Tryz.func17, Tryz.ntmps17
  go_wp2_with fail
  ((with_reducible refine (HD.out.call _ (Free w g u) _ 200 rfl (HX.out.below hb0)).mono ?_); rintro e1 w1 ⟨rfl, hb1⟩)
  have HB1 := hid (bel_step hb0 hb1)
  have lE := kE.lt
  have l1 := kR.1.lt
  have l2 := kR.2.lt
  have kE := kE.below hb1 lE
  have kR1 := kR.1.below hb1 l1
  have kR2 := kR.2.below hb1 l2
  have L1 := hid kR1.lt
  have L2 := hid kR2.lt
  obtain ⟨c0, c1, c2, c3⟩ := kE.cells4
  have u0 := kR1.cell 0 _ rfl
  have u1 := kR1.free 0
  have v0 := kR2.cell 0 _ rfl
  have v1 := kR2.free 0
  have V1 := hid (HV.out.below HB1.out)
  have HX1 := hid (HX.out.step (TStep.below (g := g) (u := u) HB1.out))
  have HM : Hid (VMid w g B u w1 T u) := hid ⟨TStep.below HB1.out, V1.out.tab, ⟨_, _, kR1, kR2⟩, fun e => by have := HV.out.tab.own_lt _ e.symm; omega, fun e => by have := HV.out.tab.own_lt _ e.symm; omega, HGL.out⟩
  have KR1 := hid kR1
  have KR2 := hid kR2
  clear hb0 hb1 kE kR kR1 kR2 lE l1 l2
  have HRD : ∀ tmps : Array Value, tmps[4]? = some (.pointer (some ⟨w.heap.size + 1, 0, none⟩)) → tmps[5]? = some (.pointer (some ⟨w.heap.size + 1 + 1, 0, none⟩)) → VResRd w.heap.size tmps := by
    intro tmps h4 h5 wz a b hk
    have d0 := hk.1.cell 0 a rfl
    have d1 := hk.2.cell 0 b rfl
    simp [results, Tryz.results17, go_sem, h4, h5, d0, d1]
  by_cases hd : 200 < deepF 200 e
  · have hdi : (200 : Int) < (deepF 200 e : Int) := by omega
    have HO : Hid (valueF e T = (0, 32, T)) := hid (by unfold valueF; rw [if_pos hd])
    clear hd
    go_wp2_with fail
    obtain ⟨k1, k2, k3⟩ := HM.out.put (.int .i64 0) (.int .i64 32)
    exact ⟨_, HRD _ (by rfl) (by rfl) _ _ _ k3, ValuePost.mk k1 k2 HO.out⟩
  · have hdi : ¬ (200 : Int) < (deepF 200 e : Int) := by omega
    have HO : Hid (valueF e T = match valF e T with
        | (.ok n, T1) => (n, 0, T1)
        | (.error er, T1) => (0, er, T1)) := hid (by unfold valueF; rw [if_neg hd])
    clear hd
    go_wp2_with fail
    ((with_reducible refine (HC.out.call _ g B T u _ HX1.out V1.out hl).mono ?_); rintro e2 w2 ⟨u2, hst, htab, hm⟩)
    obtain ⟨r2, T2, hv2⟩ : ∃ r T1, valF e T = (r, T1) := ⟨_, _, rfl⟩
    rw [hv2] at htab hm HO
    have F1 : Free w1 g u (w.heap.size + 1) := ⟨by have := HGL.out; omega, HM.out.f1, L1.out⟩
    have F2 : Free w1 g u (w.heap.size + 1 + 1) := ⟨by have := HGL.out; omega, HM.out.f2, L2.out⟩
    have kR1 : Bk w2 (w.heap.size + 1) T64 #[.int .i64 0] := (hst.block _ F1).trans KR1.out
    have kR2 : Bk w2 (w.heap.size + 1 + 1) TEr #[.int .i64 0] := (hst.block _ F2).trans KR2.out
    have HM2 : Hid (VMid w g B u w2 T2 u2) := hid ⟨HM.out.st.trans hst, htab, ⟨_, _, kR1, kR2⟩, hst.own _ F1, hst.own _ F2, HGL.out⟩
    rcases r2 with er | n
    · dsimp only at hm
      subst hm
      exact vleave_bad e w w2 g B T T2 u u2 _ er (HRD _ (by rfl) (by rfl)) HM2.out HO.out
    · dsimp only at hm
      subst hm
      have u0 := kR1.cell 0 _ rfl
      have u1 := kR1.free 0
      have v0 := kR2.cell 0 _ rfl
      have v1 := kR2.free 0
      obtain ⟨k1, k2, k3⟩ := HM2.out.put (.int .i64 n) (.int .i64 0)
      have K1 := hid k1
      have K2 := hid k2
      have K3 := hid k3
      clear k1 k2 k3 kR1 kR2 hst htab hv2 F1 F2
      go_wp2_with fail
      exact vleave_good e w _ g B T T2 u u2 _ n 0 (HRD _ (by rfl) (by rfl)) K1.out K2.out K3.out HO.out
end Go.Proofs.YtadmmmehphhecaaGreatDoor
/- Plain: what fixed texts are parsed as. -/
namespace Go.Proofs.YtadmmmehphhecaaGreatDoor
open Go.RowKit
theorem ParseOut.at_ok {s : List UInt8} {r : Except (Nat × Int) Ex} (h : ParseOut s r) (hl : s.length ≤ 4096) {t t' : PSt} {x : Ex} (n : Nat) (hn : nextF s ⟨0, [], 0, 0⟩ = .ok t) (ht : t.text ≠ []) (hF : F s n .whole 0 t = some (.ok (x, t'))) (ht' : t'.text = []) : r = .ok x := by
  have ho : Out s .whole 0 t (.ok (x, t')) := ⟨n, hF⟩
  cases h with
  | big h => omega
  | bad h hn' => rw [hn] at hn'; cases hn'
  | none h hn' h2 => rw [hn] at hn'; injection hn' with hn'; subst hn'; exact (ht h2).elim
  | err h hn' h2 h3 => rw [hn] at hn'; injection hn' with hn'; subst hn'; cases ho.same h3
  | left h hn' h2 h3 h4 => rw [hn] at hn'; injection hn' with hn'; subst hn'; have := ho.same h3; injection this with this; injection this with e1 e2; subst e2; exact (h4 ht').elim
  | good h hn' h2 h3 h4 => rw [hn] at hn'; injection hn' with hn'; subst hn'; have := ho.same h3; injection this with this; injection this with e1 e2; rw [e1]
theorem ParseOut.at_bad {s : List UInt8} {r : Except (Nat × Int) Ex} (h : ParseOut s r) (hl : s.length ≤ 4096) {t : PSt} {x : Nat × Int} (n : Nat) (hn : nextF s ⟨0, [], 0, 0⟩ = .ok t) (ht : t.text ≠ []) (hF : F s n .whole 0 t = some (.error x)) : r = .error x := by
  have ho : Out s .whole 0 t (.error x) := ⟨n, hF⟩
  cases h with
  | big h => omega
  | bad h hn' => rw [hn] at hn'; cases hn'
  | none h hn' h2 => rw [hn] at hn'; injection hn' with hn'; subst hn'; exact (ht h2).elim
  | err h hn' h2 h3 => rw [hn] at hn'; injection hn' with hn'; subst hn'; have := ho.same h3; injection this with this; rw [this]
  | left h hn' h2 h3 h4 => rw [hn] at hn'; injection hn' with hn'; subst hn'; cases ho.same h3
  | good h hn' h2 h3 h4 => rw [hn] at hn'; injection hn' with hn'; subst hn'; cases ho.same h3
theorem ParseOut.at_next {s : List UInt8} {r : Except (Nat × Int) Ex} (h : ParseOut s r) (hl : s.length ≤ 4096) {x : Nat × Int} (hn : nextF s ⟨0, [], 0, 0⟩ = .error x) : r = .error x := by
  cases h with
  | big h => omega
  | bad h hn' => rw [hn] at hn'; injection hn' with hn'; rw [hn']
  | none h hn' h2 => rw [hn] at hn'; cases hn'
  | err h hn' h2 h3 => rw [hn] at hn'; cases hn'
  | left h hn' h2 h3 h4 => rw [hn] at hn'; cases hn'
  | good h hn' h2 h3 h4 => rw [hn] at hn'; cases hn'
def tx1 : List UInt8 := [120, 61, 121, 43, 61, 50]
def ex1 : Ex := .mk [61] 0 [120] (.cons (.mk [43, 61] 0 [121] (.cons (.mk numO 2 [] .nil) .nil)) .nil)
def tx2 : List UInt8 := [48, 124, 124, 120, 61, 49]
def tx3 : List UInt8 := [48, 56]
def tx4 : List UInt8 := [97, 63, 45, 98, 58, 51]
def ex4 : Ex := .mk [63] 0 [] (.cons (.mk nameO 0 [97] .nil) (.cons (.mk [110, 101, 103] 0 [] (.cons (.mk nameO 0 [98] .nil) .nil)) (.cons (.mk numO 3 [] .nil) .nil)))
theorem parse1 {r : Except (Nat × Int) Ex} (h : ParseOut tx1 r) : r = .ok ex1 :=
  h.at_ok (by decide) 100 (t := ⟨0, [120], 0, 2⟩) (t' := ⟨6, [], 0, 0⟩) (by rfl) (by decide) (by kernel_rfl) rfl
theorem parse2 {r : Except (Nat × Int) Ex} (h : ParseOut tx2 r) : r = .error (4, 25) :=
  h.at_bad (by decide) 100 (t := ⟨0, [48], 0, 1⟩) (by rfl) (by decide) (by kernel_rfl)
theorem parse3 {r : Except (Nat × Int) Ex} (h : ParseOut tx3 r) : r = .error (0, 23) := h.at_next (by decide) (by rfl)
theorem parse4 {r : Except (Nat × Int) Ex} (h : ParseOut tx4 r) : r = .ok ex4 :=
  h.at_ok (by decide) 100 (t := ⟨0, [97], 0, 2⟩) (t' := ⟨6, [], 0, 0⟩) (by rfl) (by decide) (by kernel_rfl) rfl
theorem itoa_dig (k : Nat) (h : k < 10) : Lib.itoa (k : Int) = [UInt8.ofNat (48 + k)] := by rw [itoa_pos, dec1 k h]
theorem itoa7 : Lib.itoa 7 = [55] := itoa_dig 7 (by decide)
theorem itoa3 : Lib.itoa 3 = [51] := itoa_dig 3 (by decide)
def tab1 : Tab := [([121], [53], false)]
def tab2 : Tab := [([121], [55], false), ([120], [55], false)]
theorem val1 : valF ex1 tab1 = (.ok 7, tab2) := by
  have h2 : valF (.mk [43, 61] 0 [121] (.cons (.mk numO 2 [] .nil) .nil)) tab1 = (.ok 7, [([121], [55], false)]) := by
    show setV [43, 61] [121] (valF (.mk numO 2 [] .nil)) tab1 = _
    unfold setV
    rw [if_neg (by decide), show nameV tab1 [121] = .ok 5 by kernel_rfl]
    show thenV (valF (.mk numO 2 [] .nil) tab1) (fun b T1 => match twoV [43] 5 b with | .error e => (.error e, T1) | .ok n => storeV [121] n T1) = _
    rw [show valF (.mk numO 2 [] .nil) tab1 = (.ok 2, tab1) from rfl, thenV_ok, show twoV [43] 5 2 = .ok 7 by kernel_rfl]
    show storeV [121] 7 tab1 = _
    unfold storeV; rw [itoa7]; rfl
  show setV [61] [120] (valF (.mk [43, 61] 0 [121] (.cons (.mk numO 2 [] .nil) .nil))) tab1 = _
  unfold setV
  rw [if_pos rfl, h2]
  show storeV [120] 7 [([121], [55], false)] = _
  unfold storeV; rw [itoa7]; rfl
theorem show4 : showF ex4 = [40, 97, 63, 40, 45, 98, 41, 58, 51, 41] := by
  show [40] ++ [97] ++ [63] ++ ([40, 45] ++ [98] ++ [41]) ++ [58] ++ Lib.itoa 3 ++ [41] = _
  rw [itoa3]; rfl
theorem out4 : showOut ex4 = ([40, 97, 63, 40, 45, 98, 41, 58, 51, 41], 0) := by
  unfold showOut
  rw [if_neg (by decide), if_neg (by decide), show4, if_neg (by decide)]
end Go.Proofs.YtadmmmehphhecaaGreatDoor
/- The walk of awake. The library's variables hold what is laid. -/
namespace Go.Proofs.YtadmmmehphhecaaGreatDoor
open Go.RowKit
theorem RdX.free {w : World} {g H : Nat} {u : Value} {e : Ex} {v : Value} (h : RdX w (fun b => H ≤ b) e v) (hg : g < H) (hu : ∀ b, u.ownBlock = some b → b < H) : RdX w (Free w g u) e v :=
  RdX.keep (fun b off x hp hx => ⟨⟨by omega, fun he => by have := hu b he.symm; omega, World.block_lt_of_cell? w _ hx⟩, hx⟩) e v h
theorem TStep.belowOf {g B0 : Nat} {w w' : World} {u u' : Value} (h : TStep g w u w' u') (hg : B0 ≤ g) (hu : ∀ b, u.ownBlock = some b → B0 ≤ b) (hB : B0 ≤ w.heap.size) : Below B0 w w' :=
  ⟨h.os, h.tape, h.output, h.size, fun k hk => h.block k ⟨by omega, fun he => by have := hu k he.symm; omega, by omega⟩⟩
theorem below_of_none {w w' : World} (h : w.grownBy w' none) : Below w.heap.size w w' := ⟨h.os, h.tape, h.output, h.size, fun k hk => h.block k hk (by simp)⟩
theorem TabAt.own_ge {w : World} {B g : Nat} {T : Tab} {u : Value} (h : TabAt w B g T u) : ∀ b, u.ownBlock = some b → B ≤ b := by
  intro b hb
  rcases h.2.1.2 with ⟨rfl, _⟩ | ⟨g', cap, cur, rfl, hge, _⟩
  · simp [Value.ownBlock] at hb
  · have : g' = b := by simpa [Value.ownBlock] using hb
    omega
theorem short1 : Short tab1 := by intro p hp; simp [tab1] at hp; subst hp; decide
theorem short2 : Short tab2 := by intro p hp; simp [tab2] at hp; rcases hp with rfl | rfl <;> decide
theorem value1 : valueF ex1 tab1 = (7, 0, tab2) := by
  unfold valueF
  rw [if_neg (by decide), val1]
theorem get2 : getF tab2 [120] = ([55], true) := by decide
/-- a row of pairs and a table, new -/
theorem tab_new (w : World) (T : Tab) (cs : Array Value) (h : cs.toList = tabC T) (hl : T.length ≤ 1000) :
    TabAt ((w.alloc (.cells cs TPr)).alloc (.cells #[.slice (some ⟨w.heap.size, 0, none⟩) T.length T.length] TT)) w.heap.size (w.heap.size + 1) T (.slice (some ⟨w.heap.size, 0, none⟩) T.length T.length) := by
  have hc := tabC_len T
  refine ⟨by have := Bk.new (w.alloc (.cells cs TPr)) TT #[.slice (some ⟨w.heap.size, 0, none⟩) T.length T.length]; simpa using this, ⟨tabC_len T, .inr ⟨w.heap.size, T.length, cs, rfl, Nat.le_refl _, (Bk.new w TPr cs).alloc _, Nat.le_refl _, by unfold maxLen; omega, ?_, ?_⟩⟩, by simp; omega⟩
  · rw [← hc, ← h]; simp
  · rw [h, ← hc, List.take_length]
set_option maxRecDepth 100000 in
set_option maxHeartbeats 4000000 in
theorem awake_any (w : World) (hL : Laid w) (hG : GBig w.heap.size) : Calls Tryz.prog 6 #[] w fun e w' => e = .returned (.bool true) ∧ Below w.heap.size w w' := by
  have hwx : GBig w.heap.size := hG
  have HL := hid hL
  have HG := hid hG
  clear hL hG hwx
  have hT1 := tab_new w tab1 #[.string ⟨#[121]⟩, .string ⟨#[53]⟩, .bool false] rfl (by decide)
  have hb1 : Below w.heap.size w ((w.alloc (.cells #[.string ⟨#[121]⟩, .string ⟨#[53]⟩, .bool false] TPr)).alloc (.cells #[.slice (some ⟨w.heap.size, 0, none⟩) 1 1] TT)) := ((Below.refl _ _).alloc (Nat.le_refl _) _).alloc (by simp) _
  go_enter Tryz.func6, Tryz.ntmps6
  go_wp2_with fail
  obtain ⟨W1, hW1⟩ : ∃ W1, W1 = (w.alloc (.cells #[.string ⟨#[121]⟩, .string ⟨#[53]⟩, .bool false] TPr)).alloc (.cells #[.slice (some ⟨w.heap.size, 0, none⟩) 1 1] TT) := ⟨_, rfl⟩
  rw [← hW1] at hb1
  rw [← hW1]
  have hT1 : TabAt W1 w.heap.size (w.heap.size + 1) tab1 (.slice (some ⟨w.heap.size, 0, none⟩) 1 1) := by rw [hW1]; exact hT1
  clear hW1
  have hs1 := hb1.size
  have HB1 := hid hb1
  have HT1 := hid hT1
  ((with_reducible refine (parse_any ⟨#[120, 61, 121, 43, 61, 50]⟩ _ (HL.out.below hb1) (by have := HG.out; unfold GBig at *; omega)).mono ?_); rintro e1 w2 ⟨r, hpo, hg2, hres⟩)
  obtain rfl := parse1 hpo
  obtain ⟨v, rfl, hx⟩ := hres
  obtain ⟨A1, cap1, rfl, _, _⟩ := hx.form
  dsimp only [ex1, Ex.op, Ex.num, Ex.name, Ex.kids, Exs.len, Nat.zero_add] at *
  have HP2 := hid (below_of_none hg2)
  clear hg2 hpo
  have HX2 := hid hx
  have hg1 : w.heap.size + 1 < W1.heap.size := hT1.1.lt
  have hBa : Below W1.heap.size W1 (w2.alloc (.cells #[.string ⟨#[61]⟩, .int .i64 0, .string ⟨#[120]⟩, .slice A1 1 cap1] 30)) := HP2.out.alloc HP2.out.size _
  have hVI : VIn (w2.alloc (.cells #[.string ⟨#[61]⟩, .int .i64 0, .string ⟨#[120]⟩, .slice A1 1 cap1] 30)) (w.heap.size + 1) w.heap.size tab1 (.slice (some ⟨w.heap.size, 0, none⟩) 1 1) := ⟨HT1.out.below hBa, (HL.out.below HB1.out).below hBa, HG.out, by have := HG.out; unfold GBig at *; omega, short1⟩
  have HVI := hid hVI
  have HXV := hid ((hx.alloc_ (.cells #[.string ⟨#[61]⟩, .int .i64 0, .string ⟨#[120]⟩, .slice A1 1 cap1] 30)).free hg1 (fun b hb => HT1.out.own_lt b hb))
  have HBA := hid hBa
  clear hVI hx hT1 hb1 hBa
  go_wp2_with fail
  ((with_reducible refine (value_any ex1 _ (w.heap.size + 1) w.heap.size tab1 _ _ HXV.out HVI.out (by decide) (deep_any 200 (by decide) ex1 (by decide)) (val_any ex1 (by decide))).mono ?_); rintro e2 w3 ⟨u3, hst, htab, rfl⟩)
  rw [value1] at htab ⊢
  dsimp only at htab ⊢
  have hbb := hst.belowOf (B0 := w.heap.size) (by omega) (fun b hb => HVI.out.tab.own_ge b hb) HVI.out.tab.2.2
  have HV3 := hid (HVI.out.step hst htab short2)
  have HB3 := hid ((HB1.out.trans (HBA.out.mono HB1.out.size)).trans hbb)
  have HT3 := hid htab
  clear hst htab hbb
  go_wp2_with fail
  ((with_reducible refine (Get_any tab2 [120] (w.heap.size + 1) w.heap.size u3 _ HT3.out (by decide)).mono ?_); rintro e3 w4 ⟨rfl, hb4⟩)
  rw [get2]
  dsimp only
  have HB4 := hid (bel_step HB3.out hb4)
  clear hb4
  go_wp2_with fail
  ((with_reducible refine (parse_any ⟨#[48, 124, 124, 120, 61, 49]⟩ _ (HL.out.below HB4.out) (by have := HG.out; have := HB4.out.size; unfold GBig at *; omega)).mono ?_); rintro e5 w5 ⟨r, hpo, hg2, hres⟩)
  obtain rfl := parse2 hpo
  dsimp only at hres
  subst hres
  have HB5 := hid ((bel_step HB4.out (below_of_none hg2)).alloc (bel_step HB4.out (below_of_none hg2)).size (.cells #[.string ⟨#[]⟩, .int .i64 0, .string ⟨#[]⟩, .slice none 0 0] 30))
  clear hg2 hpo
  go_wp2_with fail
  ((with_reducible refine (parse_any ⟨#[48, 56]⟩ _ (HL.out.below HB5.out) (by have := HG.out; have := HB5.out.size; unfold GBig at *; omega)).mono ?_); rintro e5 w6 ⟨r, hpo, hg2, hres⟩)
  obtain rfl := parse3 hpo
  dsimp only at hres
  subst hres
  have HB6 := hid ((bel_step HB5.out (below_of_none hg2)).alloc (bel_step HB5.out (below_of_none hg2)).size (.cells #[.string ⟨#[]⟩, .int .i64 0, .string ⟨#[]⟩, .slice none 0 0] 30))
  clear hg2 hpo
  go_wp2_with fail
  ((with_reducible refine (parse_any ⟨#[97, 63, 45, 98, 58, 51]⟩ _ (HL.out.below HB6.out) (by have := HG.out; have := HB6.out.size; unfold GBig at *; omega)).mono ?_); rintro e7 w7 ⟨r, hpo, hg2, hres⟩)
  obtain rfl := parse4 hpo
  obtain ⟨v, rfl, hx⟩ := hres
  obtain ⟨A4, cap4, rfl, _, _⟩ := hx.form
  dsimp only [ex4, Ex.op, Ex.num, Ex.name, Ex.kids, Exs.len, Nat.zero_add, Nat.reduceAdd] at *
  have HB7 := hid ((bel_step HB6.out (below_of_none hg2)).alloc (bel_step HB6.out (below_of_none hg2)).size (.cells #[.string ⟨#[63]⟩, .int .i64 0, .string ⟨#[]⟩, .slice A4 3 cap4] 30))
  have HX7 := hid (hx.alloc_ (.cells #[.string ⟨#[63]⟩, .int .i64 0, .string ⟨#[]⟩, .slice A4 3 cap4] 30))
  clear hg2 hpo hx
  go_wp2_with fail
  ((with_reducible refine (Show_any ex4 _ _ _ HX7.out (by decide) (by decide) (HL.out.below HB7.out)).mono ?_); rintro e8 w8 ⟨rfl, hb8⟩)
  rw [out4]
  dsimp only
  have HB8 := hid (bel_step HB7.out hb8)
  clear hb8
  go_wp2_with fail
  go_ret
  exact ⟨rfl, HB8.out⟩
end Go.Proofs.YtadmmmehphhecaaGreatDoor
/- Plain: which expressions are few; what follows from it. No program in sight. -/
namespace Go.Proofs.YtadmmmehphhecaaGreatDoor
open Go.RowKit
mutual
/-- numbers of 64 bits -/
def numsF : Ex → Bool
  | .mk _ n _ k => decide (-9223372036854775808 ≤ n) && decide (n ≤ 9223372036854775807) && numsL k
def numsL : Exs → Bool
  | .nil => true
  | .cons e r => numsF e && numsL r
end
mutual
/-- no row is longer than what a machine reaches -/
def wideF : Ex → Bool
  | .mk _ _ _ k => decide (k.len ≤ 140737488355328) && wideL k
def wideL : Exs → Bool
  | .nil => true
  | .cons e r => wideF e && wideL r
end
mutual
/-- the harness's few -/
def fewF : Ex → Bool
  | .mk _ _ nm k => decide (wrap64 ((szL k + 1 : Nat) : Int) ≤ 600) && decide (nm.length ≤ 100) && fewL k
def fewL : Exs → Bool
  | .nil => true
  | .cons e r => fewF e && fewL r
end
theorem fewL_all : ∀ l : Exs, fewL l = l.toL.all fewF
  | .nil => rfl
  | .cons e r => by simp [fewL, Exs.toL, fewL_all r]
theorem fewF_eq (e : Ex) : fewF e = (decide (wrap64 (szF e : Int) ≤ 600) && decide (e.name.length ≤ 100) && e.kids.toL.all fewF) := by
  cases e; simp only [fewF, fewL_all, szF]; rfl
theorem wide_len {e : Ex} (h : wideF e = true) : e.kids.len ≤ 140737488355328 := by
  cases e; simp only [wideF, Bool.and_eq_true, decide_eq_true_eq] at h; exact h.1
theorem wideL_at : ∀ (l : Exs) (k : Nat) (h : k < l.toL.length), wideL l = true → wideF l.toL[k] = true
  | .nil, k, h, _ => by simp [Exs.toL] at h
  | .cons e r, 0, h, ho => by simp only [wideL, Bool.and_eq_true] at ho; exact ho.1
  | .cons e r, k + 1, h, ho => by
    simp only [wideL, Bool.and_eq_true] at ho
    exact wideL_at r k (by simpa [Exs.toL] using h) ho.2
theorem wide_at {e : Ex} (h : wideF e = true) (k : Nat) (hk : k < e.kids.toL.length) : wideF e.kids.toL[k] = true := by
  apply wideL_at
  cases e; simp only [wideF, Bool.and_eq_true] at h; exact h.2
theorem wrap_small (n : Nat) (h : n < 9223372036854775808) : wrap64 (n : Int) = (n : Int) := by unfold wrap64; omega
mutual
theorem few_sz : ∀ e : Ex, wideF e = true → fewF e = true → szF e ≤ 600
  | .mk op n nm k, hw, hf => by
    simp only [wideF, Bool.and_eq_true, decide_eq_true_eq] at hw
    simp only [fewF, Bool.and_eq_true, decide_eq_true_eq] at hf
    have h1 := few_szL k hw.2 hf.2
    have h2 := hf.1.1
    have h3 : szL k ≤ 600 * 140737488355328 := Nat.le_trans h1 (Nat.mul_le_mul (Nat.le_refl _) hw.1)
    rw [wrap_small _ (by omega)] at h2
    simp only [szF]; omega
theorem few_szL : ∀ l : Exs, wideL l = true → fewL l = true → szL l ≤ 600 * l.len
  | .nil, _, _ => by simp [szL]
  | .cons e r, hw, hf => by
    simp only [wideL, Bool.and_eq_true] at hw
    simp only [fewL, Bool.and_eq_true] at hf
    have h1 := few_sz e hw.1 hf.1
    have h2 := few_szL r hw.2 hf.2
    simp only [szL, Exs.len]; omega
end
mutual
theorem few_ok : ∀ e : Ex, numsF e = true → fewF e = true → okF e = true
  | .mk op n nm k, hw, hf => by
    simp only [numsF, Bool.and_eq_true, decide_eq_true_eq] at hw
    simp only [fewF, Bool.and_eq_true, decide_eq_true_eq] at hf
    have := few_okL k hw.2 hf.2
    simp only [okF, Bool.and_eq_true, decide_eq_true_eq]
    exact ⟨⟨⟨hw.1.1, hw.1.2⟩, by omega⟩, this⟩
theorem few_okL : ∀ l : Exs, numsL l = true → fewL l = true → okL l = true
  | .nil, _, _ => rfl
  | .cons e r, hw, hf => by
    simp only [numsL, Bool.and_eq_true] at hw
    simp only [fewL, Bool.and_eq_true] at hf
    simp only [okL, Bool.and_eq_true]
    exact ⟨few_ok e hw.1 hf.1, few_okL r hw.2 hf.2⟩
end
/-- sizes, up to an index -/
def szT (l : Exs) (k : Nat) : Nat := ((l.toL.take k).map szF).sum
theorem szT_zero (l : Exs) : szT l 0 = 0 := by simp [szT]
theorem szT_step (l : Exs) (k : Nat) (h : k < l.toL.length) : szT l (k + 1) = szT l k + szF l.toL[k] := by
  unfold szT
  rw [List.take_add_one, List.getElem?_eq_getElem h]
  simp only [Option.toList, List.map_append, List.map_cons, List.map_nil, List.sum_append, List.sum_cons, List.sum_nil, Nat.add_zero]
theorem szT_all : ∀ l : Exs, (l.toL.map szF).sum = szL l
  | .nil => by simp [Exs.toL, szL]
  | .cons e r => by simp [Exs.toL, szL, szT_all r]
theorem szT_end (l : Exs) : szT l l.len = szL l := by unfold szT; rw [← Exs.toL_len, List.take_length]; exact szT_all l
theorem wrap_add (a b : Nat) : wrap64 (wrap64 (a : Int) + wrap64 (b : Int)) = wrap64 ((a + b : Nat) : Int) := by unfold wrap64; omega
/-- how deep, for the reference: no more than the size -/
theorem rdeep_le : ∀ e : Ex, rdeepF e ≤ szF e := by
  have key : ∀ n, (∀ e, szF e ≤ n → rdeepF e ≤ szF e) := by
    intro n
    induction n with
    | zero => intro e h; have := szF_pos e; omega
    | succ n ih =>
      intro e h
      have hl : ∀ l : Exs, szL l ≤ n → rdeepL l ≤ szL l := by
        intro l
        match l with
        | .nil => intro _; simp [rdeepL, szL]
        | .cons e r =>
          intro hl
          simp only [szL] at hl
          simp only [rdeepL, szL]
          have h1 := ih e (by omega)
          have h2 : ∀ r : Exs, szL r ≤ n → rdeepL r ≤ szL r := by
            intro r
            induction hr : r.len generalizing r with
            | zero => intro _; cases r with
              | nil => simp [rdeepL]
              | cons a b => simp [Exs.len] at hr
            | succ m ihm => intro hs; cases r with
              | nil => simp [rdeepL]
              | cons a b =>
                simp only [szL] at hs
                have := ih a (by omega)
                have := ihm b (by simp [Exs.len] at hr; omega) (by omega)
                simp only [rdeepL, szL]; omega
          have := h2 r (by omega)
          omega
      cases e with
      | mk op nn nm k =>
        simp only [szF] at h
        have := hl k (by omega)
        simp only [rdeepF, szF]; omega
  intro e
  exact key _ e (Nat.le_refl _)
end Go.Proofs.YtadmmmehphhecaaGreatDoor
/- The walks of the harness's size and few. Rows no longer than what a machine reaches. -/
namespace Go.Proofs.YtadmmmehphhecaaGreatDoor
open Go.RowKit
def SizeC (e : Ex) : Prop := ∀ (w : World) (P : Nat → Prop) (v : Value), RdX w P e v → Calls Tryz.prog 29 #[v] w fun x w' => x = .returned (.int .i64 (wrap64 (szF e : Int))) ∧ Below w.heap.size w w'
theorem SizeC.call {e : Ex} (h : SizeC e) (w : World) (P : Nat → Prop) (v : Value) (hr : RdX w P e v) : Calls Tryz.prog 29 #[v] w fun x w' => x = .returned (.int .i64 (wrap64 (szF e : Int))) ∧ Below w.heap.size w w' := h w P v hr
set_option maxRecDepth 100000 in
set_option maxHeartbeats 2000000 in
theorem size_step (e : Ex) (hn : e.kids.len ≤ 140737488355328) (hk : ∀ k (h : k < e.kids.toL.length), SizeC e.kids.toL[k]) : SizeC e := by
  intro w P v hr
  obtain ⟨A, cap, rfl, hcap, hkids⟩ := hr.form
  have HKI := hid hkids
  have HK := hid hk
  clear hk hkids hr
  go_enter Tryz.func29, Tryz.ntmps29
  go_wp2_with fail
  obtain ⟨W0, hW0⟩ : ∃ W0, W0 = w.alloc (.cells #[.string ⟨e.op.toArray⟩, .int .i64 e.num, .string ⟨e.name.toArray⟩, .slice A e.kids.len cap] 30) := ⟨_, rfl⟩
  have kB := Bk.new w 30 #[.string ⟨e.op.toArray⟩, .int .i64 e.num, .string ⟨e.name.toArray⟩, .slice A e.kids.len cap]
  have HW0 := hid (show Below w.heap.size w W0 by rw [hW0]; exact (Below.refl _ _).alloc (Nat.le_refl _) _)
  rw [← hW0] at kB
  rw [← hW0]
  clear hW0
  have KB := hid kB
  clear kB

  go_loopw [3, 4] (fun v2 v5 wr => ∃ k : Nat, k ≤ e.kids.len ∧ v5 = .int .i64 k ∧ v2 = .int .i64 (wrap64 ((1 + szT e.kids k : Nat) : Int)) ∧ Hid (Below W0.heap.size W0 wr)) (fun v2 v5 _ => e.kids.len - (intOf v5).toNat)
  case atStart => exact ⟨0, Nat.zero_le _, rfl, congrArg (Value.int .i64) (by rw [szT_zero]; unfold wrap64; omega), hid (Below.refl _ _)⟩
  case round =>
    obtain ⟨k, hk, rfl, rfl, HB⟩ := hrel
    obtain ⟨c0, c1, c2, c3⟩ := KB.out.cells4
    have c3 := bel_cell HB.out c3
    by_cases hlt : k < e.kids.len
    · have hkl : k < e.kids.toL.length := by rw [Exs.toL_len]; exact hlt
      obtain ⟨b, off, rfl⟩ := HKI.out.form_ (by omega)
      have HBB := hid (HW0.out.trans (HB.out.mono HW0.out.size))
      obtain ⟨A2, cap2, _, q0, q1, q2, q3, hx⟩ := RdL.kid e.kids b off k hkl HKI.out
      have q0 := bel_cell HBB.out q0
      have q1 := bel_cell HBB.out q1
      have q2 := bel_cell HBB.out q2
      have q3 := bel_cell HBB.out q3
      have HX := hid (hx.below HBB.out)
      have HST := hid (szT_step e.kids k hkl)
      clear hx
      go_wp2_with fail
      ((with_reducible refine ((HK.out k hkl).call _ P _ HX.out).mono ?_); rintro e1 w1 ⟨rfl, hb1⟩)
      have HB1 := hid (HB.out.trans (hb1.mono HB.out.size))
      go_wp2_with fail
      go_round
      case rel => exact ⟨k + 1, by omega, rfl, congrArg (Value.int .i64) (by rw [HST.out]; unfold wrap64; omega), HB1⟩
      case measure => simp [intOf]; omega
    · go_wp2_with fail
      go_ret
      refine ⟨ret_int ?_, HW0.out.trans (HB.out.mono HW0.out.size)⟩
      rw [show k = e.kids.len by omega, szT_end]
      have h9 := szF_kids e
      congr 1; omega
theorem size_any : ∀ e : Ex, wideF e = true → SizeC e := by
  intro e
  induction e using Ex.ind with
  | h e ih => exact fun hw => size_step e (wide_len hw) (fun k hk => ih k hk (wide_at hw k hk))
def FewC (e : Ex) : Prop := ∀ (w : World) (P : Nat → Prop) (v : Value), RdX w P e v → Calls Tryz.prog 11 #[v] w fun x w' => x = .returned (.bool (fewF e)) ∧ Below w.heap.size w w'
theorem FewC.call {e : Ex} (h : FewC e) (w : World) (P : Nat → Prop) (v : Value) (hr : RdX w P e v) : Calls Tryz.prog 11 #[v] w fun x w' => x = .returned (.bool (fewF e)) ∧ Below w.heap.size w w' := h w P v hr
set_option maxRecDepth 100000 in
set_option maxHeartbeats 2000000 in
theorem few_step (e : Ex) (hn : e.kids.len ≤ 140737488355328) (hs : SizeC e) (hk : ∀ k (h : k < e.kids.toL.length), FewC e.kids.toL[k]) : FewC e := by
  intro w P v hr
  obtain ⟨m, hm⟩ : ∃ m, m = wrap64 (szF e : Int) := ⟨_, rfl⟩
  have hE := fewF_eq e
  have hs2 : ∀ (w : World) (P : Nat → Prop) (v : Value), RdX w P e v → Calls Tryz.prog 29 #[v] w fun x w' => x = .returned (.int .i64 m) ∧ Below w.heap.size w w' := by rw [hm]; exact hs
  rw [← hm] at hE
  have HE := hid hE
  have HXE := hid hr
  have HS := hid hs2
  clear hE hs2 hm
  obtain ⟨A, cap, rfl, hcap, hkids⟩ := hr.form
  have HKI := hid hkids
  have HK := hid hk
  clear hk hkids hr hs
  have kB := Bk.new w 30 #[.string ⟨e.op.toArray⟩, .int .i64 e.num, .string ⟨e.name.toArray⟩, .slice A e.kids.len cap]
  have hB0 : Below w.heap.size w (w.alloc (.cells #[.string ⟨e.op.toArray⟩, .int .i64 e.num, .string ⟨e.name.toArray⟩, .slice A e.kids.len cap] 30)) := (Below.refl _ _).alloc (Nat.le_refl _) _
  go_enter Tryz.func11, Tryz.ntmps11
  go_wp2_with fail
  obtain ⟨W0, hW0⟩ : ∃ W0, W0 = w.alloc (.cells #[.string ⟨e.op.toArray⟩, .int .i64 e.num, .string ⟨e.name.toArray⟩, .slice A e.kids.len cap] 30) := ⟨_, rfl⟩
  rw [← hW0] at kB hB0
  try rw [← hW0]
  clear hW0
  have KB := hid kB
  have HB0 := hid hB0
  obtain ⟨c0, c1, c2, c3⟩ := kB.cells4
  clear kB hB0
  ((with_reducible refine (HS.out _ P _ (HXE.out.below HB0.out)).mono ?_); rintro e1 w1 ⟨rfl, hb1⟩)
  have c0 := bel_cell hb1 c0
  have c1 := bel_cell hb1 c1
  have c2 := bel_cell hb1 c2
  have c3 := bel_cell hb1 c3
  have HB1 := hid (HB0.out.trans (hb1.mono HB0.out.size))
  clear hb1
  by_cases hsz : 600 < m
  · have HF : Hid (fewF e = false) := hid (by rw [HE.out, decide_eq_false (p := m ≤ 600) (by omega)]; simp)
    go_wp2_with fail
    go_ret
    exact ⟨ret_bool HF.out.symm, HB1.out⟩
  by_cases hnl : 100 < e.name.length
  · have hnli : (100 : Int) < (e.name.length : Int) := by omega
    have HF : Hid (fewF e = false) := hid (by rw [HE.out, decide_eq_false (p := e.name.length ≤ 100) (by omega)]; simp)
    go_wp2_with fail
    go_ret
    exact ⟨ret_bool HF.out.symm, HB1.out⟩
  have hnli : ¬ (100 : Int) < (e.name.length : Int) := by omega
  have HE : Hid (fewF e = e.kids.toL.all fewF) := hid (by rw [HE.out, decide_eq_true (p := m ≤ 600) (by omega), decide_eq_true (p := e.name.length ≤ 100) (by omega)]; simp)
  have hcc : ∀ w2, Below w1.heap.size w1 w2 → w2.cell? ⟨w.heap.size, 3, none⟩ = some (.slice A e.kids.len cap) := fun w2 h => bel_cell h c3
  have HC := hid hcc
  clear hcc
  go_wp2_with fail
  clear c0 c1 c2 c3
  go_loopw [3] (fun v12 wr => ∃ k : Nat, k ≤ e.kids.len ∧ v12 = .int .i64 k ∧ Hid (∀ j (hj : j < e.kids.toL.length), j < k → fewF e.kids.toL[j] = true) ∧ Hid (Below w1.heap.size w1 wr)) (fun v12 _ => e.kids.len - (intOf v12).toNat)
  case atStart => exact ⟨0, Nat.zero_le _, rfl, hid (fun j hj h => by omega), hid (Below.refl _ _)⟩
  case round =>
    obtain ⟨k, hk, rfl, HA, HB⟩ := hrel
    have c3 := HC.out _ HB.out
    have HBB := hid (HB1.out.trans (HB.out.mono HB1.out.size))
    by_cases hlt : k < e.kids.len
    · have hkl : k < e.kids.toL.length := by rw [Exs.toL_len]; exact hlt
      obtain ⟨b, off, rfl⟩ := HKI.out.form_ (by omega)
      obtain ⟨A2, cap2, _, q0, q1, q2, q3, hx⟩ := RdL.kid e.kids b off k hkl HKI.out
      have q0 := bel_cell HBB.out q0
      have q1 := bel_cell HBB.out q1
      have q2 := bel_cell HBB.out q2
      have q3 := bel_cell HBB.out q3
      have HX := hid (hx.below HBB.out)
      clear hx
      go_wp2_with fail
      ((with_reducible refine ((HK.out k hkl).call _ P _ HX.out).mono ?_); rintro e1 w2 ⟨rfl, hb2⟩)
      have HB2 := hid (HB.out.trans (hb2.mono HB.out.size))
      cases hf : fewF e.kids.toL[k]
      · have HF : Hid (fewF e = false) := hid (by rw [HE.out]; simp; exact ⟨_, List.getElem_mem hkl, hf⟩)
        clear hf
        go_wp2_with fail
        go_ret
        exact ⟨ret_bool HF.out.symm, HB1.out.trans (HB2.out.mono HB1.out.size)⟩
      · have HA1 : Hid (∀ j (hj : j < e.kids.toL.length), j < k + 1 → fewF e.kids.toL[j] = true) := hid (fun j hj h => by
          by_cases he : j = k
          · subst he; exact hf
          · exact HA.out j hj (by omega))
        clear hf
        go_wp2_with fail
        go_round
        case rel => exact ⟨k + 1, by omega, rfl, HA1, HB2⟩
        case measure => simp [intOf]; omega
    · have HF : Hid (fewF e = true) := hid (by
        rw [HE.out, List.all_eq_true]
        intro x hx
        obtain ⟨j, hj, rfl⟩ := List.mem_iff_getElem.1 hx
        exact HA.out j hj (by rw [Exs.toL_len] at hj; omega))
      go_wp2_with fail
      go_ret
      exact ⟨ret_bool HF.out.symm, HBB.out⟩
theorem few_any : ∀ e : Ex, wideF e = true → FewC e := by
  intro e
  induction e using Ex.ind with
  | h e ih => exact fun hw => few_step e (wide_len hw) (size_any e hw) (fun k hk => ih k hk (wide_at hw k hk))
end Go.Proofs.YtadmmmehphhecaaGreatDoor
/- The walk of the harness's Plain. Expressions of up to a hundred thousand ops. -/
namespace Go.Proofs.YtadmmmehphhecaaGreatDoor
open Go.RowKit
abbrev TRE : TypeId := 37
theorem info_rex : (Tryz.prog.info? 37).map (fun i => (i.zero, i.size, i.bytes)) = some (some (.agg #[.string ⟨#[]⟩, .int .i64 0, .string ⟨#[]⟩, .slice none 0 0]), 4, 64) := by kernel_rfl
def PlainC (e : Ex) : Prop := ∀ (w : World) (P : Nat → Prop) (v : Value), RdX w P e v → Calls Tryz.prog 14 #[v] w fun x w' => ∃ u, x = .returned u ∧ RdX w' (fun b => w.heap.size ≤ b) e u ∧ Below w.heap.size w w'
theorem PlainC.call {e : Ex} (h : PlainC e) (w : World) (P : Nat → Prop) (v : Value) (hr : RdX w P e v) : Calls Tryz.prog 14 #[v] w fun x w' => ∃ u, x = .returned u ∧ RdX w' (fun b => w.heap.size ≤ b) e u ∧ Below w.heap.size w w' := h w P v hr
/-- the cells of the first kids -/
def KR (w : World) (P : Nat → Prop) (l : Exs) (k : Nat) (cs : List Value) : Prop := ∀ j (h : j < l.toL.length), j < k → ∃ c0 c1 c2 c3, cs[j * 4]? = some c0 ∧ cs[j * 4 + 1]? = some c1 ∧ cs[j * 4 + 2]? = some c2 ∧ cs[j * 4 + 3]? = some c3 ∧ RdX w P l.toL[j] (.agg #[c0, c1, c2, c3])
/-- not below H, neither the struct nor its row, and there -/
def FreeH (H : Nat) (w : World) (g : Nat) (u : Value) (b : Nat) : Prop := H ≤ b ∧ Free w g u b
theorem RdX.stepH {H g : Nat} {w w' : World} {u u' : Value} {e : Ex} {v : Value} (h : RdX w (FreeH H w g u) e v) (k : TStep g w u w' u') : RdX w' (FreeH H w' g u') e v :=
  RdX.keep (fun b off x hp hx => ⟨⟨hp.1, k.free hp.2⟩, (World.cell?_of_block (w := w) (w' := w') (a := ⟨b, off, none⟩) (k.block b hp.2)).trans hx⟩) e v h
theorem KR.stepH {H g : Nat} {w w' : World} {u u' : Value} {l : Exs} {n : Nat} {cs : List Value} (h : KR w (FreeH H w g u) l n cs) (k : TStep g w u w' u') : KR w' (FreeH H w' g u') l n cs := fun j hj hjk => by
  obtain ⟨c0, c1, c2, c3, h0, h1, h2, h3, h4⟩ := h j hj hjk
  exact ⟨c0, c1, c2, c3, h0, h1, h2, h3, h4.stepH k⟩
theorem RdX.freeH {w : World} {g H N : Nat} {u : Value} {e : Ex} {v : Value} (h : RdX w (fun b => N ≤ b) e v) (hH : H ≤ N) (hg : g < N) (hu : ∀ b, u.ownBlock = some b → b < N) : RdX w (FreeH H w g u) e v :=
  RdX.keep (fun b off x hp hx => ⟨⟨by omega, by omega, fun he => by have := hu b he.symm; omega, World.block_lt_of_cell? w _ hx⟩, hx⟩) e v h
theorem own_lt {w : World} {B e size n : Nat} {u : Value} {cs : List Value} (h : w.ownsRow B e size u n cs) : ∀ b, u.ownBlock = some b → b < w.heap.size ∧ B ≤ b := by
  intro b hb
  rcases h.2 with ⟨rfl, _⟩ | ⟨g', cap, cur, rfl, hB, hh, _⟩
  · simp [Value.ownBlock] at hb
  · have : g' = b := by simpa [Value.ownBlock] using hb
    subst this
    exact ⟨Bk.lt hh, hB⟩
theorem KR.push {w : World} {P : Nat → Prop} {l : Exs} {n : Nat} {cs : List Value} (h : KR w P l n cs) (hn : n < l.toL.length) (hl : cs.length = n * 4) {c0 c1 c2 c3 : Value} (hx : RdX w P l.toL[n] (.agg #[c0, c1, c2, c3])) : KR w P l (n + 1) (cs ++ [c0, c1, c2, c3]) := fun j hj hjk => by
  by_cases he : j = n
  · subst he
    refine ⟨c0, c1, c2, c3, ?_, ?_, ?_, ?_, hx⟩
    · rw [List.getElem?_append_right (by omega), hl, Nat.sub_self]; rfl
    · rw [List.getElem?_append_right (by omega), hl, show j * 4 + 1 - j * 4 = 1 by omega]; rfl
    · rw [List.getElem?_append_right (by omega), hl, show j * 4 + 2 - j * 4 = 2 by omega]; rfl
    · rw [List.getElem?_append_right (by omega), hl, show j * 4 + 3 - j * 4 = 3 by omega]; rfl
  · obtain ⟨d0, d1, d2, d3, h0, h1, h2, h3, h4⟩ := h j hj (by omega)
    refine ⟨d0, d1, d2, d3, ?_, ?_, ?_, ?_, h4⟩
    all_goals (rw [List.getElem?_append_left (by omega)]; assumption)
/-- a row whose cells lie in a block reads as the kids from a place on -/
theorem RdL.of_at {w : World} {P : Nat → Prop} {l : Exs} {cs : List Value} {b : Nat} (hP : P b) (hat : ∀ j u, cs[j]? = some u → w.cell? ⟨b, j, none⟩ = some u) (h : KR w P l l.len cs) : ∀ (r : Exs) (k : Nat), r.toL = l.toL.drop k → RdL w P r (some ⟨b, k * 4, none⟩)
  | .nil, k, _ => by unfold RdL; trivial
  | .cons e r, k, he => by
    have hk : k < l.toL.length := by
      rcases Nat.lt_or_ge k l.toL.length with h | h
      · exact h
      · rw [List.drop_eq_nil_of_le h] at he; cases he
    rw [List.drop_eq_getElem_cons hk] at he
    simp only [Exs.toL, List.cons.injEq] at he
    obtain ⟨c0, c1, c2, c3, h0, h1, h2, h3, h4⟩ := h k hk (by rw [← Exs.toL_len]; exact hk)
    unfold RdL
    refine ⟨b, k * 4, c0, c1, c2, c3, rfl, hP, hat _ _ h0, hat _ _ h1, hat _ _ h2, hat _ _ h3, by rw [he.1]; exact h4, ?_⟩
    have := RdL.of_at hP hat h r (k + 1) he.2
    rwa [show (k + 1) * 4 = k * 4 + 4 by omega] at this
/-- a struct with a row of its own in its last field takes a further element -/
theorem row_app {TS T g B ga capn k : Nat} {w w3 : World} {o : Obj} {u : Value} {cs ds : List Value} {x0 x1 x2 : Value} (hb : Bk w g TS #[x0, x1, x2, u]) (hB : g < B) (hBw : B ≤ w.heap.size) (hown : w.ownsRow B T 4 u k cs) (hown3 : w3.ownsRow B T 4 (.slice (some ⟨ga, 0, none⟩) (k + 1) capn) (k + 1) ds)
    (hg : (w.alloc o).grownBy w3 u.ownBlock) (hat : u.ownBlock = some ga ∨ ga = w.heap.size + 1) :
    TStep g w u (w3.setCell ⟨g, 3, none⟩ (.slice (some ⟨ga, 0, none⟩) (k + 1) capn)) (.slice (some ⟨ga, 0, none⟩) (k + 1) capn) ∧ Bk (w3.setCell ⟨g, 3, none⟩ (.slice (some ⟨ga, 0, none⟩) (k + 1) capn)) g TS #[x0, x1, x2, .slice (some ⟨ga, 0, none⟩) (k + 1) capn]
      ∧ (w3.setCell ⟨g, 3, none⟩ (.slice (some ⟨ga, 0, none⟩) (k + 1) capn)).ownsRow B T 4 (.slice (some ⟨ga, 0, none⟩) (k + 1) capn) (k + 1) ds := by
  have hgl := hb.lt
  have hB0 : Below w.heap.size w (w.alloc o) := (Below.refl _ _).alloc (Nat.le_refl _) _
  have hsz := hg.size
  simp at hsz
  have hgu : some g ≠ u.ownBlock := fun e => by have := (own_lt hown g e.symm).2; omega
  have k1 := (hb.alloc o).grown hg hgu
  have hne : g ≠ ga := by
    rcases hat with he | he
    · intro e; exact hgu (by rw [e, he])
    · omega
  refine ⟨⟨hg.os, hg.tape, hg.output, by simp [World.setCell]; omega, fun c hc => ?_, fun c hc => ?_⟩, k1.set_ 3 _, hown3.kept (row := some g) (grown_setCell (w := w3) (p := ⟨g, 3, none⟩) rfl _) (by simp [Value.ownBlock]; omega)⟩
  · rw [Below.heap_setCell _ _ _ _ (by simpa using hc.1)]
    rw [hg.block c (by have := hc.2.2; simp; omega) hc.2.1]
    exact Below.heap_alloc w o c hc.2.2
  · intro e
    have e : c = ga := by simpa [Value.ownBlock] using e
    rcases hat with he | he
    · exact hc.2.1 (by rw [e, he])
    · have := hc.2.2; omega
theorem rdx_row {w : World} {B T cap : Nat} {Q : Nat → Prop} {A : Option Addr} {e : Ex} {cs : List Value} (hown : w.ownsRow B T 4 (.slice A e.kids.len cap) e.kids.len cs) (hk : KR w Q e.kids e.kids.len cs) (hQ : ∀ b, B ≤ b → Q b) : RdX w Q e (.agg #[.string ⟨e.op.toArray⟩, .int .i64 e.num, .string ⟨e.name.toArray⟩, .slice A e.kids.len cap]) := by
  obtain ⟨op, n, nm, kk⟩ := e
  dsimp only [Ex.op, Ex.num, Ex.name, Ex.kids] at *
  unfold RdX
  rcases hown.2 with ⟨h1, h2⟩ | ⟨g, cap', cur, h1, hB, _, hc, _⟩
  · injection h1 with e1 e2 e3
    have : kk = .nil := by cases kk with
      | nil => rfl
      | cons a b => simp [Exs.len] at h2
    subst this
    exact ⟨A, cap, rfl, by simp [Exs.len], by unfold RdL; trivial⟩
  · injection h1 with e1 e2 e3
    subst e1 e3
    refine ⟨_, _, rfl, hc, ?_⟩
    have := RdL.of_at (w := w) (P := Q) (hQ g hB) (fun j u hu => by have := At.of_own hown j u hu; rwa [Nat.zero_add] at this) hk kk 0 (by simp)
    rwa [Nat.zero_mul] at this
theorem TStep.belowH {g B0 : Nat} {w w' : World} {u u' : Value} (h : TStep g w u w' u') (hg : B0 ≤ g) (hu : ∀ b, u.ownBlock = some b → B0 ≤ b) (hB : B0 ≤ w.heap.size) : Below B0 w w' :=
  ⟨h.os, h.tape, h.output, h.size, fun k hk => h.block k ⟨by omega, fun he => by have := hu k he.symm; omega, by omega⟩⟩
set_option maxRecDepth 100000 in
set_option maxHeartbeats 4000000 in
theorem plain_step (e : Ex) (hn : e.kids.len ≤ 100000) (hk : ∀ k (h : k < e.kids.toL.length), PlainC e.kids.toL[k]) : PlainC e := by
  intro w P v hr
  obtain ⟨i0, hi0, hz0, hz1, hz2⟩ := info_parts info_rex
  obtain ⟨A, cap, rfl, hcap, hkids⟩ := hr.form
  have HKI := hid hkids
  have HK := hid hk
  clear hk hkids hr
  go_enter Tryz.func14, Tryz.ntmps14
  go_wp2_with fail
  obtain ⟨W1, hW1⟩ : ∃ W1, W1 = (w.alloc (.cells #[.string ⟨e.op.toArray⟩, .int .i64 e.num, .string ⟨e.name.toArray⟩, .slice A e.kids.len cap] 30)).alloc (.cells #[.string ⟨#[]⟩, .int .i64 0, .string ⟨#[]⟩, .slice none 0 0] 37) := ⟨_, rfl⟩
  obtain ⟨W0, hW0⟩ : ∃ W0, W0 = W1.alloc (.cells #[.string ⟨e.op.toArray⟩, .int .i64 e.num, .string ⟨e.name.toArray⟩, .slice none 0 0] 37) := ⟨_, rfl⟩
  have hs1 : W1.heap.size = w.heap.size + 1 + 1 := by rw [hW1]; simp
  have hs0 : W0.heap.size = w.heap.size + 1 + 1 + 1 := by rw [hW0]; simp [hs1]
  have kB : Bk W0 w.heap.size 30 #[.string ⟨e.op.toArray⟩, .int .i64 e.num, .string ⟨e.name.toArray⟩, .slice A e.kids.len cap] := by rw [hW0, hW1]; exact ((Bk.new w _ _).alloc _).alloc _
  have kG : Bk W0 (w.heap.size + 1 + 1) 37 #[.string ⟨e.op.toArray⟩, .int .i64 e.num, .string ⟨e.name.toArray⟩, .slice none 0 0] := by rw [hW0, ← hs1]; exact Bk.new W1 _ _
  have hB0 : Below w.heap.size w W0 := by rw [hW0, hW1]; exact (((Below.refl _ _).alloc (Nat.le_refl _) _).alloc (by simp) _).alloc (by simp; omega) _
  have hkz : Bk W1 (w.heap.size + 1) 37 #[.string ⟨#[]⟩, .int .i64 0, .string ⟨#[]⟩, .slice none 0 0] := by rw [hW1]; have := Bk.new (w.alloc (.cells #[.string ⟨e.op.toArray⟩, .int .i64 e.num, .string ⟨e.name.toArray⟩, .slice A e.kids.len cap] 30)) 37 #[.string ⟨#[]⟩, .int .i64 0, .string ⟨#[]⟩, .slice none 0 0]; simpa using this
  have hKZ := hW0
  rw [← hW1, ← hW0]
  clear hW0 hW1
  have kZ : Bk W0 (w.heap.size + 1) 37 #[.string ⟨#[]⟩, .int .i64 0, .string ⟨#[]⟩, .slice none 0 0] := by rw [hKZ]; exact hkz.alloc _
  have KB := hid kB
  have KG := hid kG
  have KZ := hid kZ
  clear hkz hKZ kZ
  have HB0 := hid hB0
  clear kB kG hB0
  go_loopw [4] (fun v4 wr => ∃ (k : Nat) (u : Value) (cs : List Value), k ≤ e.kids.len ∧ v4 = .int .i64 k ∧ Hid (TStep (w.heap.size + 1 + 1) W0 (.slice none 0 0) wr u) ∧ Hid (wr.ownsRow W0.heap.size 37 4 u k cs) ∧ Hid (Bk wr (w.heap.size + 1 + 1) 37 #[.string ⟨e.op.toArray⟩, .int .i64 e.num, .string ⟨e.name.toArray⟩, u]) ∧ Hid (KR wr (FreeH W0.heap.size wr (w.heap.size + 1 + 1) u) e.kids k cs)) (fun v4 _ => e.kids.len - (intOf v4).toNat)
  case atStart => exact ⟨0, _, [], Nat.zero_le _, rfl, hid (TStep.refl _ _ _), hid ⟨rfl, .inl ⟨rfl, rfl⟩⟩, KG, hid (fun j hj h => by omega)⟩
  case round =>
    obtain ⟨k, u, cs, hk, rfl, HST, HOW, HBK, HKR⟩ := hrel
    obtain ⟨A', cap', rfl⟩ := own_slice HOW.out
    have hszr := HST.out.size
    obtain ⟨p0, p1, p2, p3⟩ := KB.out.cells4
    obtain ⟨g0, g1, g2, g3⟩ := HBK.out.cells4
    have p3 := cell_step HST.out ⟨by omega, by simp [Value.ownBlock], by omega⟩ p3
    have f3 := HBK.out.free 3
    have hglt := HBK.out.lt
    clear p0 p1 p2
    by_cases hlt : k < e.kids.len
    · have hkl : k < e.kids.toL.length := by rw [Exs.toL_len]; exact hlt
      obtain ⟨b, off, rfl⟩ := HKI.out.form_ (by omega)
      obtain ⟨A2, cap2, _, q0, q1, q2, q3, hx⟩ := RdL.kid e.kids b off k hkl HKI.out
      have hbr : Below w.heap.size w wr := HB0.out.trans (HST.out.belowH (by omega) (by simp [Value.ownBlock]) HB0.out.size)
      have q0 := bel_cell hbr q0
      have q1 := bel_cell hbr q1
      have q2 := bel_cell hbr q2
      have q3 := bel_cell hbr q3
      have HX := hid (hx.below hbr)
      have HBR := hid hbr
      clear hx hbr
      go_wp2_with fail
      have HXD := hid (show RdX wr.drew P e.kids.toL[k] _ from HX.out.below (Below.refl wr.heap.size wr).drew)
      have HGN : Hid (∀ {w1 : World}, w1.ownsRow W0.heap.size 37 4 (.slice A' k cap') k cs → some (w.heap.size + 1 + 1) ≠ (Value.slice A' k cap').ownBlock) := hid (fun h he => by have := (own_lt h _ he.symm).2; omega)
      have hnews : ∀ (w1 : World) (c0 c1 c2 c3 : Value), ∀ j u, [c0, c1, c2, c3][j]? = some u → (w1.alloc (.cells #[c0, c1, c2, c3] 37)).cell? ((⟨w1.heap.size, 0, none⟩ : Addr).add j) = some u := fun w1 c0 c1 c2 c3 => World.news_of_block (cs := #[c0, c1, c2, c3]) (t := 37) (fr := (0, 0)) (heap_alloc_new w1 _)
      have HNW := hid hnews
      have h63 : k + 1 ≤ maxLen := by unfold maxLen; omega
      have hbytes : (k + 1) * 64 ≤ 140737488355328 := by omega
      have hwr0 : W0.heap.size ≤ wr.heap.size := hszr
      clear hnews
      go_region_law (first
        | (refine step_append_lies _ rfl (.tmp 20) (.tmp 27) 35 rfl W0.heap.size 37 i0 _ 4 64 Tryz.underlying35 hi0 hz0 hz1 hz2 rfl (by decide) (.slice A' k cap') k cs (by simp [Act.eval, Act.put]) HOWA.out ⟨w1.heap.size, 0, none⟩ 1 1 [.string ⟨e.kids.toL[k].op.toArray⟩, .int .i64 e.kids.toL[k].num, .string ⟨e.kids.toL[k].name.toArray⟩, .slice A1 e.kids.toL[k].kids.len cap1] (by simp [Act.eval, Act.put]) rfl (HNW.out w1 _ _ _ _) (by simp [Value.oneCell']) (by omega) h63 hbytes (by simp; omega) (w1.heap.size + 1) (by simp) ?_; intro ga capn w3 hown3 hgrow hat hlt3; have kb3 := (HBK1.out.alloc _).grown hgrow hgne; have g3 := kb3.cell 3 _ rfl; have f3 := kb3.free 3; have HOW3 := hid hown3; have HGR := hid hgrow; have HAT := hid hat; clear hown3 hgrow hat kb3)
        | (go_simp; go_at_call 14; (with_reducible refine ((HK.out k hkl).call _ P _ HXD.out).mono ?_); rintro e1 w1 ⟨u1, rfl, hx1, hb1⟩; obtain ⟨A1, cap1, rfl, hc1, _⟩ := hx1.form; have hb1 := ((Below.refl wr.heap.size wr).drew).trans hb1; have hs3 := hb1.size; have HOWA := hid (own_below (own_below HOW.out hb1) ((Below.refl _ _).alloc (Nat.le_refl _) (.cells #[.string ⟨e.kids.toL[k].op.toArray⟩, .int .i64 e.kids.toL[k].num, .string ⟨e.kids.toL[k].name.toArray⟩, .slice A1 e.kids.toL[k].kids.len cap1] 37))); have HOW1 := hid (own_below HOW.out hb1); have kb1 := HBK.out.below hb1 hglt; have HBK1 := hid kb1; have hgne := HGN.out HOW1.out; have hlt1 := kb1.lt; have hne1 := Nat.ne_of_lt hlt1; have g3 := kb1.cell 3 _ rfl; have f3 := kb1.free 3; have HRX := hid hx1; have HB1 := hid hb1; clear hx1 hb1 kb1)
        | fail)
      all_goals
        have hbw1 : W0.heap.size ≤ w1.heap.size := Nat.le_trans hwr0 hs3
        have HP := row_app HBK1.out (show w.heap.size + 1 + 1 < W0.heap.size by omega) hbw1 HOW1.out HOW3.out HGR.out HAT.out
        have HS1 := (TStep.below HB1.out : TStep (w.heap.size + 1 + 1) wr (.slice A' k cap') w1 (.slice A' k cap'))
        have HST3 := hid (HST.out.trans (HS1.trans HP.1))
        have hxf : RdX w1 (FreeH W0.heap.size w1 (w.heap.size + 1 + 1) (.slice A' k cap')) e.kids.toL[k] (.agg #[.string ⟨e.kids.toL[k].op.toArray⟩, .int .i64 e.kids.toL[k].num, .string ⟨e.kids.toL[k].name.toArray⟩, .slice A1 e.kids.toL[k].kids.len cap1]) := HRX.out.freeH hwr0 (show w.heap.size + 1 + 1 < wr.heap.size by omega) (fun b hb => (own_lt HOW.out b hb).1)
        have HKR3 := hid ((((HKR.out.stepH HS1).push hkl HOW.out.1 hxf)).stepH HP.1)
        have HBK3 := hid HP.2.1
        have HOW4 := hid HP.2.2
        clear HP HS1 hxf HKR HRX
        go_wp2_with fail
        go_round
        case rel => exact ⟨k + 1, _, _, by omega, rfl, HST3, HOW4, HBK3, HKR3⟩
        case measure => simp [intOf]; omega
    · obtain ⟨z0, z1, z2, z3⟩ := KZ.out.cells4
      have fz : Free W0 (w.heap.size + 1 + 1) (.slice none 0 0) (w.heap.size + 1) := ⟨by omega, by simp [Value.ownBlock], by omega⟩
      have z0 := cell_step HST.out fz z0
      have z1 := cell_step HST.out fz z1
      have z2 := cell_step HST.out fz z2
      have z3 := cell_step HST.out fz z3
      have KZr := hid (show Bk wr (w.heap.size + 1) 37 _ from (HST.out.block _ fz).trans KZ.out)
      have zf0 := KZr.out.free 0
      have zf1 := KZr.out.free 1
      have zf2 := KZr.out.free 2
      have zf3 := KZr.out.free 3
      clear f3 fz
      obtain rfl : k = e.kids.len := by omega
      have hbel : Below w.heap.size w wr := HB0.out.trans (HST.out.belowH (by omega) (by simp [Value.ownBlock]) HB0.out.size)
      have hrdx : RdX wr (fun b => W0.heap.size ≤ b) e (.agg #[.string ⟨e.op.toArray⟩, .int .i64 e.num, .string ⟨e.name.toArray⟩, .slice A' e.kids.len cap']) := rdx_row HOW.out (fun j hj hjk => by
        obtain ⟨c0, c1, c2, c3, h0, h1, h2, h3, h4⟩ := HKR.out j hj hjk
        exact ⟨c0, c1, c2, c3, h0, h1, h2, h3, h4.low (fun b hb => hb.1)⟩) (fun b hb => hb)
      have HF := hid (show RdX _ (fun b => w.heap.size ≤ b) e _ from (put4_rd (b := w.heap.size + 1) (.string ⟨e.op.toArray⟩) (.int .i64 e.num) (.string ⟨e.name.toArray⟩) (.slice A' e.kids.len cap') hrdx (fun b hb => by omega)).low (fun b hb => by omega))
      have HBF := hid ((((hbel.setCell (p := ⟨w.heap.size + 1, 0, none⟩) (by simp) (.string ⟨e.op.toArray⟩)).setCell (p := ⟨w.heap.size + 1, 1, none⟩) (by simp) (.int .i64 e.num)).setCell (p := ⟨w.heap.size + 1, 2, none⟩) (by simp) (.string ⟨e.name.toArray⟩)).setCell (p := ⟨w.heap.size + 1, 3, none⟩) (by simp) (.slice A' e.kids.len cap'))
      obtain ⟨y0, y1, y2, y3⟩ := (KZr.out.put4 (.string ⟨e.op.toArray⟩) (.int .i64 e.num) (.string ⟨e.name.toArray⟩) (.slice A' e.kids.len cap')).cells4
      clear hbel hrdx
      go_wp2_with fail
      refine bodyPost_ret (v := .agg #[.string ⟨e.op.toArray⟩, .int .i64 e.num, .string ⟨e.name.toArray⟩, .slice A' e.kids.len cap']) (by simp [results, Tryz.results14, go_sem, y0, y1, y2, y3]) rfl ?_
      exact ⟨_, rfl, HF.out, HBF.out⟩
theorem plain_any : ∀ e : Ex, szF e ≤ 100000 → PlainC e := by
  intro e
  induction e using Ex.ind with
  | h e ih => exact fun hs => plain_step e (by have := szF_len e; omega) (fun k hk => ih k hk (by have := szF_at e k hk; omega))
end Go.Proofs.YtadmmmehphhecaaGreatDoor
/- The walk of the reference's Deep. Expressions of up to a hundred thousand ops. -/
namespace Go.Proofs.YtadmmmehphhecaaGreatDoor
open Go.RowKit
def RDeepC (e : Ex) : Prop := ∀ (w : World) (P : Nat → Prop) (v : Value), RdX w P e v → Calls Tryz.prog 34 #[v] w fun x w' => x = .returned (.int .i64 (rdeepF e : Int)) ∧ Below w.heap.size w w'
theorem RDeepC.call {e : Ex} (h : RDeepC e) (w : World) (P : Nat → Prop) (v : Value) (hr : RdX w P e v) : Calls Tryz.prog 34 #[v] w fun x w' => x = .returned (.int .i64 (rdeepF e : Int)) ∧ Below w.heap.size w w' := h w P v hr
def rmaxT (l : Exs) (k : Nat) : Nat := ((l.toL.take k).map rdeepF).foldr max 0
theorem rmaxT_all : ∀ (l : Exs), ((l.toL).map rdeepF).foldr max 0 = rdeepL l
  | .nil => by simp [Exs.toL, rdeepL]
  | .cons e r => by simp [Exs.toL, rdeepL, rmaxT_all r]
theorem rmaxT_step (l : Exs) (k : Nat) (h : k < l.toL.length) : rmaxT l (k + 1) = max (rmaxT l k) (rdeepF l.toL[k]) := by
  unfold rmaxT
  rw [List.take_add_one, List.getElem?_eq_getElem h]
  simp only [Option.toList, List.map_append, List.map_cons, List.map_nil]
  exact foldr_max _ _
theorem rmaxT_end (l : Exs) : rmaxT l l.len = rdeepL l := by unfold rmaxT; rw [← Exs.toL_len, List.take_length]; exact rmaxT_all l
set_option maxRecDepth 100000 in
set_option maxHeartbeats 2000000 in
theorem rdeep_step (e : Ex) (hn : szF e ≤ 100000) (hk : ∀ k (h : k < e.kids.toL.length), RDeepC e.kids.toL[k]) : RDeepC e := by
  intro w P v hr
  have hlen := szF_len e
  have hdl := rdeep_le e
  obtain ⟨A, cap, rfl, hcap, hkids⟩ := hr.form
  have HKI := hid hkids
  have HK := hid hk
  have HDE : Hid (rdeepF e = rdeepL e.kids + 1) := hid (by cases e; rfl)
  clear hk hkids hr
  go_enter Tryz.func34, Tryz.ntmps34
  go_wp2_with fail
  obtain ⟨W0, hW0⟩ : ∃ W0, W0 = w.alloc (.cells #[.string ⟨e.op.toArray⟩, .int .i64 e.num, .string ⟨e.name.toArray⟩, .slice A e.kids.len cap] 37) := ⟨_, rfl⟩
  have kB := Bk.new w 37 #[.string ⟨e.op.toArray⟩, .int .i64 e.num, .string ⟨e.name.toArray⟩, .slice A e.kids.len cap]
  have HW0 := hid (show Below w.heap.size w W0 by rw [hW0]; exact (Below.refl _ _).alloc (Nat.le_refl _) _)
  rw [← hW0] at kB
  rw [← hW0]
  clear hW0
  have KB := hid kB
  clear kB
  go_loopw [3, 4] (fun v2 v5 wr => ∃ k : Nat, k ≤ e.kids.len ∧ v5 = .int .i64 k ∧ v2 = .int .i64 (rmaxT e.kids k : Int) ∧ Hid (Below W0.heap.size W0 wr)) (fun v2 v5 _ => e.kids.len - (intOf v5).toNat)
  case atStart => exact ⟨0, Nat.zero_le _, rfl, rfl, hid (Below.refl _ _)⟩
  case round =>
    obtain ⟨k, hk, rfl, rfl, HB⟩ := hrel
    obtain ⟨c0, c1, c2, c3⟩ := KB.out.cells4
    have c3 := bel_cell HB.out c3
    by_cases hlt : k < e.kids.len
    · have hkl : k < e.kids.toL.length := by rw [Exs.toL_len]; exact hlt
      obtain ⟨b, off, rfl⟩ := HKI.out.form_ (by omega)
      have HBB := hid (HW0.out.trans (HB.out.mono HW0.out.size))
      obtain ⟨A2, cap2, _, q0, q1, q2, q3, hx⟩ := RdL.kid e.kids b off k hkl HKI.out
      have q0 := bel_cell HBB.out q0
      have q1 := bel_cell HBB.out q1
      have q2 := bel_cell HBB.out q2
      have q3 := bel_cell HBB.out q3
      have HX := hid (hx.below HBB.out)
      have HST := hid (rmaxT_step e.kids k hkl)
      clear hx
      go_wp2_with fail
      ((with_reducible refine ((HK.out k hkl).call _ P _ HX.out).mono ?_); rintro e1 w1 ⟨rfl, hb1⟩)
      have HB1 := hid (HB.out.trans (hb1.mono HB.out.size))
      go_wp2_with fail
      go_round
      case rel => exact ⟨k + 1, by omega, rfl, congrArg (Value.int .i64) (by rw [HST.out]; omega), HB1⟩
      case measure => simp [intOf]; omega
    · go_wp2_with fail
      go_ret
      refine ⟨ret_int ?_, HW0.out.trans (HB.out.mono HW0.out.size)⟩
      rw [show k = e.kids.len by omega, rmaxT_end]
      have := HDE.out
      unfold wrap64; omega
theorem rdeep_any : ∀ e : Ex, szF e ≤ 100000 → RDeepC e := by
  intro e
  induction e using Ex.ind with
  | h e ih => exact fun hs => rdeep_step e hs (fun k hk => ih k hk (by have := szF_at e k hk; omega))
end Go.Proofs.YtadmmmehphhecaaGreatDoor
/- The walk of the reference's Letter. No condition. -/
namespace Go.Proofs.YtadmmmehphhecaaGreatDoor
open Go.RowKit
theorem rLetter_any (b : UInt8) (w : World) : Calls Tryz.prog 90 #[.int .u8 (b.toNat : Int)] w fun e w' => e = .returned (.bool (letB b)) ∧ w = w' := by
  have h : letB b = (((decide ((97 : Int) ≤ (b.toNat : Int)) && decide ((b.toNat : Int) ≤ 122)) || (decide ((65 : Int) ≤ (b.toNat : Int)) && decide ((b.toNat : Int) ≤ 90))) || ((b.toNat : Int) == 95)) := by rw [Bool.eq_iff_iff]; simp [letB]; omega
  rw [h]; clear h
  go_enter Tryz.func90, Tryz.ntmps90
  go_wp2_with fail
  all_goals (go_ret; exact ⟨ret_bool (by first | rfl | (simp [*]; done) | (simp [*]; intros; omega) | (simp [*]; omega) | (rw [Bool.eq_iff_iff]; simp [*]; omega)), rfl⟩)
end Go.Proofs.YtadmmmehphhecaaGreatDoor
/- The walk of the reference's name. -/
namespace Go.Proofs.YtadmmmehphhecaaGreatDoor
open Go.RowKit
/-- is a byte right at a name's place -/
def nmAt (i : Nat) (b : UInt8) : Bool := letB b || (decide (i ≠ 0) && digB b)
theorem let_dig (b : UInt8) : letB b = true → digB b = false := by
  intro h; simp [letB] at h; simp [digB]; omega
theorem nameB_at : ∀ l : List UInt8, nameB l = true ↔ l ≠ [] ∧ ∀ i (h : i < l.length), nmAt i l[i] = true
  | [] => by simp [nameB]
  | b :: r => by
    have hbd := let_dig b
    constructor
    · intro h
      simp only [nameB, Bool.and_eq_true, Bool.not_eq_true', List.all_cons, List.all_eq_true] at h
      refine ⟨by simp, fun i hi => ?_⟩
      cases i with
      | zero => simpa [nmAt, wrdB, h.1] using h.2.1
      | succ i => simpa [nmAt, wrdB] using h.2.2 (r[i]'(by simpa using hi)) (List.getElem_mem _)
    · rintro ⟨_, h⟩
      have h0 := h 0 (by simp)
      simp [nmAt] at h0
      simp only [nameB, Bool.and_eq_true, Bool.not_eq_true', List.all_cons, List.all_eq_true]
      refine ⟨hbd h0, by simp [wrdB, h0], fun c hc => ?_⟩
      obtain ⟨i, hi, rfl⟩ := List.mem_iff_getElem.1 hc
      have := h (i + 1) (by simpa using hi)
      rw [List.getElem_cons_succ] at this
      simpa [nmAt, wrdB] using this
set_option maxRecDepth 100000 in
set_option maxHeartbeats 2000000 in
theorem rname_any (s : ByteArray) (w : World) (hs : s.size ≤ 100000) : Calls Tryz.prog 63 #[.string s] w fun e w' => e = .returned (.bool (nameB s.data.toList)) ∧ w = w' := by
  have hl : s.data.toList.length = s.size := by simp
  have HN := hid (nameB_at s.data.toList)
  go_enter Tryz.func63, Tryz.ntmps63
  go_wp2_with fail
  go_loop [3] (fun v3 => ∃ i : Nat, i ≤ s.size ∧ v3 = .int .i64 i ∧ Hid (∀ j (h : j < s.data.toList.length), j < i → nmAt j s.data.toList[j] = true)) (fun v3 => s.size - (intOf v3).toNat)
  case atStart => exact ⟨0, Nat.zero_le _, rfl, hid (fun j h h2 => by omega)⟩
  case round =>
    obtain ⟨i, hi, rfl, HA⟩ := hrel
    by_cases hlt : i < s.size
    · have hil : i < s.data.toList.length := by omega
      have hgi : s[i] = s.data.toList[i] := by rw [Array.getElem_toList]; rfl
      have hbad : nmAt i s[i] = false → nameB s.data.toList = false := fun h => by
        cases hb : nameB s.data.toList with
        | false => rfl
        | true => have := (HN.out.1 hb).2 i hil; rw [← hgi, h] at this; cases this
      have HBAD := hid hbad
      have hok : nmAt i s[i] = true → ∀ j (h : j < s.data.toList.length), j < i + 1 → nmAt j s.data.toList[j] = true := fun h j hj hjk => by
        by_cases he : j = i
        · subst he; rw [← hgi]; exact h
        · exact HA.out j hj (by omega)
      have HOK := hid hok
      clear hbad hok hgi
      go_wp2_with fail
      ((with_reducible refine (rLetter_any s[i] _).mono ?_); rintro e1 w1 ⟨rfl, rfl⟩)
      cases hlb : letB s[i]
      · by_cases h0 : i = 0
        · have HF := hid (HBAD.out (by simp only [nmAt, hlb]; simp [h0]))
          have h0i : ((i : Int) == 0) = true := by simp [h0]
          clear hlb h0
          go_wp2_with fail
          go_ret
          exact ⟨ret_bool HF.out.symm, rfl⟩
        · have h0i : ((i : Int) == 0) = false := by simp; omega
          go_wp2_with fail
          ((with_reducible refine (rDigit_any s[i] _).mono ?_); rintro e2 w2 ⟨rfl, rfl⟩)
          cases hdb : digB s[i]
          · have HF := hid (HBAD.out (by simp [nmAt, hlb, hdb]))
            clear hlb hdb h0
            go_wp2_with fail
            go_ret
            exact ⟨ret_bool HF.out.symm, rfl⟩
          · have HG := hid (HOK.out (by simp [nmAt, hdb, h0]))
            clear hlb hdb h0
            go_wp2_with fail
            go_round
            case rel => exact ⟨i + 1, by omega, rfl, HG⟩
            case measure => simp [intOf]; omega
      · have HG := hid (HOK.out (by simp [nmAt, hlb]))
        clear hlb
        go_wp2_with fail
        go_round
        case rel => exact ⟨i + 1, by omega, rfl, HG⟩
        case measure => simp [intOf]; omega
    · have HF : Hid (nameB s.data.toList = !s.toList.isEmpty) := hid (by
        have h1 : s.toList = s.data.toList := by simp [ByteArray.toList_eq]
        rw [h1]
        cases hb : nameB s.data.toList with
        | false =>
          cases hl2 : s.data.toList with
          | nil => rfl
          | cons c q =>
            have : nameB s.data.toList = true := HN.out.2 ⟨by rw [hl2]; simp, fun j hj => HA.out j hj (by omega)⟩
            rw [this] at hb; cases hb
        | true =>
          have := (HN.out.1 hb).1
          cases hl2 : s.data.toList with
          | nil => exact (this hl2).elim
          | cons c q => rfl)
      go_wp2_with fail
      go_ret
      exact ⟨ret_bool HF.out.symm, rfl⟩
end Go.Proofs.YtadmmmehphhecaaGreatDoor
/- The walk of the reference's right. -/
namespace Go.Proofs.YtadmmmehphhecaaGreatDoor
open Go.RowKit
def RRightC (e : Ex) : Prop := ∀ (w : World) (P : Nat → Prop) (v : Value), RdX w P e v → Calls Tryz.prog 33 #[v] w fun x w' => x = .returned (.bool (rightF e)) ∧ Below w.heap.size w w'
theorem RRightC.call {e : Ex} (h : RRightC e) (w : World) (P : Nat → Prop) (v : Value) (hr : RdX w P e v) : Calls Tryz.prog 33 #[v] w fun x w' => x = .returned (.bool (rightF e)) ∧ Below w.heap.size w w' := h w P v hr
theorem rname_l (nm : List UInt8) (w : World) (h : nm.length ≤ 4096) : Calls Tryz.prog 63 #[.string ⟨nm.toArray⟩] w fun e w' => e = .returned (.bool (nameB nm)) ∧ w = w' := by
  have := rname_any ⟨nm.toArray⟩ w (by simp [ByteArray.size]; omega)
  simpa using this
set_option maxRecDepth 100000 in
set_option maxHeartbeats 8000000 in
theorem rright_step (op : List UInt8) (n : Int) (nm : List UInt8) (k : Exs) (hnl : nm.length ≤ 4096) (hkl : k.len ≤ 100000) (hks : ∀ i (hi : i < k.toL.length), RRightC k.toL[i]) : RRightC (.mk op n nm k) := by
  intro w P v hr
  have HR : Hid (rightF (.mk op n nm k) = (headB op n nm k.len && k.toL.all rightF)) := hid (by simp only [rightF, rightL_all])
  have HH : Hid (headB op n nm k.len = (decide ((k.len : Int) = kidsF op) && !(decide (op = numO) && decide (n < 0)) && !((decide (op = nameO) || setF op) && !nameB nm))) := hid rfl
  have HKS := hid hks
  obtain ⟨A, cap, rfl, hcap, hkids⟩ := hr.form
  have HKI := hid hkids
  clear hr hkids hks
  dsimp only [Ex.op, Ex.num, Ex.name, Ex.kids] at *
  have kB := Bk.new w 37 #[.string ⟨op.toArray⟩, .int .i64 n, .string ⟨nm.toArray⟩, .slice A k.len cap]
  have hB0 : Below w.heap.size w (w.alloc (.cells #[.string ⟨op.toArray⟩, .int .i64 n, .string ⟨nm.toArray⟩, .slice A k.len cap] 37)) := (Below.refl _ _).alloc (Nat.le_refl _) _
  have hlt0 : w.heap.size < (w.alloc (.cells #[.string ⟨op.toArray⟩, .int .i64 n, .string ⟨nm.toArray⟩, .slice A k.len cap] 37)).heap.size := by simp
  go_enter Tryz.func33, Tryz.ntmps33
  go_wp2_with fail
  obtain ⟨W0, hW0⟩ : ∃ W0, W0 = w.alloc (.cells #[.string ⟨op.toArray⟩, .int .i64 n, .string ⟨nm.toArray⟩, .slice A k.len cap] 37) := ⟨_, rfl⟩
  rw [← hW0] at kB hB0 hlt0
  rw [← hW0]
  clear hW0
  have HB0 := hid hB0
  have KB := hid kB
  obtain ⟨c0, c1, c2, c3⟩ := kB.cells4
  clear kB hB0
  obtain ⟨hb, hhb⟩ : ∃ hb, hb = headB op n nm k.len := ⟨_, rfl⟩
  rw [← hhb] at HR HH
  clear hhb
  go_cut [36] (fun v36 wx => v36 = .bool (!hb) ∧ Below W0.heap.size W0 wx)
  case first =>
    by_cases hk : (k.len : Int) = kidsF op
    · have hk' : kidsF op = (k.len : Int) := hk.symm
      by_cases hnum : op = numO
      · have hnu : (op == [110, 117, 109]) = true := by rw [hnum]; rfl
        have hnu2 : (op == [110, 97, 109, 101]) = false := by rw [hnum]; rfl
        have hst : setF op = false := by rw [hnum]; rfl
        by_cases hneg : n < 0
        · have HHB : Hid (hb = false) := hid (by rw [HH.out]; simp [hnum, hneg])
          clear hnum
          clear hk
          refine wp_region_held_drew (S := (fun w' => w'.cell? ⟨w.heap.size, 0, none⟩ = some (.string ⟨op.toArray⟩) ∧ w'.cell? ⟨w.heap.size, 1, none⟩ = some (.int .i64 n) ∧ w'.cell? ⟨w.heap.size, 2, none⟩ = some (.string ⟨nm.toArray⟩) ∧ w'.cell? ⟨w.heap.size, 3, none⟩ = some (.slice A k.len cap))) (by kernel_rfl) ⟨c0, c1, c2, c3⟩ (fun hHeld => ?_)
          refine takeYes (i := 0) (v := .pointer (some ⟨w.heap.size, 0, none⟩)) rfl (by kernel_rfl) (by kernel_rfl) (by kernel_rfl) (fun _ _ _ h => h) (by rfl) ?_ (by assumption) ?_
          · intro w hSw; obtain ⟨sq0, sq1, sq2, sq3⟩ := hSw; go_simp
          try simp only [Act.put, List.setIfInBounds_toArray, List.set_cons_zero, List.set_cons_succ]
          refine takeYes (i := 1) (v := .string ⟨op.toArray⟩) rfl (by kernel_rfl) (by kernel_rfl) (by kernel_rfl) (fun _ _ _ h => h) (by rfl) ?_ (by assumption) ?_
          · intro w hSw; obtain ⟨sq0, sq1, sq2, sq3⟩ := hSw; go_simp
          try simp only [Act.put, List.setIfInBounds_toArray, List.set_cons_zero, List.set_cons_succ]
          refine takeYes (i := 3) (v := .pointer (some ⟨w.heap.size, 3, none⟩)) rfl (by kernel_rfl) (by kernel_rfl) (by kernel_rfl) (fun _ _ _ h => h) (by rfl) ?_ (by assumption) ?_
          · intro w hSw; obtain ⟨sq0, sq1, sq2, sq3⟩ := hSw; go_simp
          try simp only [Act.put, List.setIfInBounds_toArray, List.set_cons_zero, List.set_cons_succ]
          refine takeYes (i := 4) (v := .slice A k.len cap) rfl (by kernel_rfl) (by kernel_rfl) (by kernel_rfl) (fun _ _ _ h => h) (by rfl) ?_ (by assumption) ?_
          · intro w hSw; obtain ⟨sq0, sq1, sq2, sq3⟩ := hSw; go_simp
          try simp only [Act.put, List.setIfInBounds_toArray, List.set_cons_zero, List.set_cons_succ]
          refine takeYes (i := 5) (v := .int .i64 (k.len : Int)) rfl (by kernel_rfl) (by kernel_rfl) (by kernel_rfl) (fun _ _ _ h => h) (by rfl) ?_ (by assumption) ?_
          · intro w hSw; obtain ⟨sq0, sq1, sq2, sq3⟩ := hSw; go_simp
          try simp only [Act.put, List.setIfInBounds_toArray, List.set_cons_zero, List.set_cons_succ]
          refine wpAnyH_ready (rs := [2]) (by kernel_rfl) (by simp) ?_
          refine AllReadyH.cons rfl (fun K hK => ?_) AllReadyH.nil
          go_simp
          ((with_reducible refine (rkids_any op _).mono ?_); rintro e1 wy ⟨rfl, rfl⟩)
          go_wp2_with fail
          refine hK.out _ _ ?_ (fun hHeld => ?_)
          · assumption
          clear hK K
          try simp only [Act.put, List.setIfInBounds_toArray, List.set_cons_zero, List.set_cons_succ]
          refine takeYes (i := 6) (v := .bool false) rfl (by kernel_rfl) (by kernel_rfl) (by kernel_rfl) (fun _ _ _ h => h) (by rfl) ?_ (by assumption) ?_
          · intro w hSw; obtain ⟨sq0, sq1, sq2, sq3⟩ := hSw; go_simp
          try simp only [Act.put, List.setIfInBounds_toArray, List.set_cons_zero, List.set_cons_succ]
          refine takeYes (i := 7) (v := .bool false) rfl (by kernel_rfl) (by kernel_rfl) (by kernel_rfl) (fun _ _ _ h => h) (by rfl) ?_ (by assumption) ?_
          · intro w hSw; obtain ⟨sq0, sq1, sq2, sq3⟩ := hSw; go_simp
          try simp only [Act.put, List.setIfInBounds_toArray, List.set_cons_zero, List.set_cons_succ]
          refine takeYes (i := 8) (v := .pointer (some ⟨w.heap.size, 0, none⟩)) rfl (by kernel_rfl) (by kernel_rfl) (by kernel_rfl) (fun _ _ _ h => h) (by rfl) ?_ (by assumption) ?_
          · intro w hSw; obtain ⟨sq0, sq1, sq2, sq3⟩ := hSw; go_simp
          try simp only [Act.put, List.setIfInBounds_toArray, List.set_cons_zero, List.set_cons_succ]
          refine takeYes (i := 9) (v := .string ⟨op.toArray⟩) rfl (by kernel_rfl) (by kernel_rfl) (by kernel_rfl) (fun _ _ _ h => h) (by rfl) ?_ (by assumption) ?_
          · intro w hSw; obtain ⟨sq0, sq1, sq2, sq3⟩ := hSw; go_simp
          try simp only [Act.put, List.setIfInBounds_toArray, List.set_cons_zero, List.set_cons_succ]
          refine takeYes (i := 10) (v := .bool true) rfl (by kernel_rfl) (by kernel_rfl) (by kernel_rfl) (fun _ _ _ h => h) (by rfl) ?_ (by assumption) ?_
          · intro w hSw; obtain ⟨sq0, sq1, sq2, sq3⟩ := hSw; go_simp
          try simp only [Act.put, List.setIfInBounds_toArray, List.set_cons_zero, List.set_cons_succ]
          refine takeYes (i := 11) (v := .bool true) rfl (by kernel_rfl) (by kernel_rfl) (by kernel_rfl) (fun _ _ _ h => h) (by rfl) ?_ (by assumption) ?_
          · intro w hSw; obtain ⟨sq0, sq1, sq2, sq3⟩ := hSw; go_simp
          try simp only [Act.put, List.setIfInBounds_toArray, List.set_cons_zero, List.set_cons_succ]
          refine takeYes (i := 12) (v := .pointer (some ⟨w.heap.size, 1, none⟩)) rfl (by kernel_rfl) (by kernel_rfl) (by kernel_rfl) (fun _ _ _ h => h) (by rfl) ?_ (by assumption) ?_
          · intro w hSw; obtain ⟨sq0, sq1, sq2, sq3⟩ := hSw; go_simp
          try simp only [Act.put, List.setIfInBounds_toArray, List.set_cons_zero, List.set_cons_succ]
          refine takeYes (i := 13) (v := .int .i64 n) rfl (by kernel_rfl) (by kernel_rfl) (by kernel_rfl) (fun _ _ _ h => h) (by rfl) ?_ (by assumption) ?_
          · intro w hSw; obtain ⟨sq0, sq1, sq2, sq3⟩ := hSw; go_simp
          try simp only [Act.put, List.setIfInBounds_toArray, List.set_cons_zero, List.set_cons_succ]
          refine takeYes (i := 14) (v := .bool true) rfl (by kernel_rfl) (by kernel_rfl) (by kernel_rfl) (fun _ _ _ h => h) (by rfl) ?_ (by assumption) ?_
          · intro w hSw; obtain ⟨sq0, sq1, sq2, sq3⟩ := hSw; go_simp
          try simp only [Act.put, List.setIfInBounds_toArray, List.set_cons_zero, List.set_cons_succ]
          refine takeYes (i := 15) (v := .bool true) rfl (by kernel_rfl) (by kernel_rfl) (by kernel_rfl) (fun _ _ _ h => h) (by rfl) ?_ (by assumption) ?_
          · intro w hSw; obtain ⟨sq0, sq1, sq2, sq3⟩ := hSw; go_simp
          try simp only [Act.put, List.setIfInBounds_toArray, List.set_cons_zero, List.set_cons_succ]
          refine takeYes (i := 16) (v := .bool true) rfl (by kernel_rfl) (by kernel_rfl) (by kernel_rfl) (fun _ _ _ h => h) (by rfl) ?_ (by assumption) ?_
          · intro w hSw; obtain ⟨sq0, sq1, sq2, sq3⟩ := hSw; go_simp
          try simp only [Act.put, List.setIfInBounds_toArray, List.set_cons_zero, List.set_cons_succ]
          refine takeYes (i := 17) (v := .bool true) rfl (by kernel_rfl) (by kernel_rfl) (by kernel_rfl) (fun _ _ _ h => h) (by rfl) ?_ (by assumption) ?_
          · intro w hSw; obtain ⟨sq0, sq1, sq2, sq3⟩ := hSw; go_simp
          try simp only [Act.put, List.setIfInBounds_toArray, List.set_cons_zero, List.set_cons_succ]
          refine takeNo (i := 18) rfl (by kernel_rfl) (by kernel_rfl) (by kernel_rfl) (fun _ _ _ h => h) (by rfl) (by assumption) ?_
          try simp only [Act.put, List.setIfInBounds_toArray, List.set_cons_zero, List.set_cons_succ]
          refine takeNo (i := 19) rfl (by kernel_rfl) (by kernel_rfl) (by kernel_rfl) (fun _ _ _ h => h) (by rfl) (by assumption) ?_
          try simp only [Act.put, List.setIfInBounds_toArray, List.set_cons_zero, List.set_cons_succ]
          refine takeNo (i := 20) rfl (by kernel_rfl) (by kernel_rfl) (by kernel_rfl) (fun _ _ _ h => h) (by rfl) (by assumption) ?_
          try simp only [Act.put, List.setIfInBounds_toArray, List.set_cons_zero, List.set_cons_succ]
          refine takeNo (i := 21) rfl (by kernel_rfl) (by kernel_rfl) (by kernel_rfl) (fun _ _ _ h => h) (by rfl) (by assumption) ?_
          try simp only [Act.put, List.setIfInBounds_toArray, List.set_cons_zero, List.set_cons_succ]
          refine takeNo (i := 22) rfl (by kernel_rfl) (by kernel_rfl) (by kernel_rfl) (fun _ _ _ h => h) (by rfl) (by assumption) ?_
          try simp only [Act.put, List.setIfInBounds_toArray, List.set_cons_zero, List.set_cons_succ]
          refine takeNo (i := 23) rfl (by kernel_rfl) (by kernel_rfl) (by kernel_rfl) (fun _ _ _ h => h) (by rfl) (by assumption) ?_
          try simp only [Act.put, List.setIfInBounds_toArray, List.set_cons_zero, List.set_cons_succ]
          refine takeNo (i := 24) rfl (by kernel_rfl) (by kernel_rfl) (by kernel_rfl) (fun _ _ _ h => h) (by rfl) (by assumption) ?_
          try simp only [Act.put, List.setIfInBounds_toArray, List.set_cons_zero, List.set_cons_succ]
          refine takeNo (i := 25) rfl (by kernel_rfl) (by kernel_rfl) (by kernel_rfl) (fun _ _ _ h => h) (by rfl) (by assumption) ?_
          try simp only [Act.put, List.setIfInBounds_toArray, List.set_cons_zero, List.set_cons_succ]
          refine takeNo (i := 26) rfl (by kernel_rfl) (by kernel_rfl) (by kernel_rfl) (fun _ _ _ h => h) (by rfl) (by assumption) ?_
          try simp only [Act.put, List.setIfInBounds_toArray, List.set_cons_zero, List.set_cons_succ]
          refine takeNo (i := 27) rfl (by kernel_rfl) (by kernel_rfl) (by kernel_rfl) (fun _ _ _ h => h) (by rfl) (by assumption) ?_
          try simp only [Act.put, List.setIfInBounds_toArray, List.set_cons_zero, List.set_cons_succ]
          refine takeNo (i := 28) rfl (by kernel_rfl) (by kernel_rfl) (by kernel_rfl) (fun _ _ _ h => h) (by rfl) (by assumption) ?_
          try simp only [Act.put, List.setIfInBounds_toArray, List.set_cons_zero, List.set_cons_succ]
          refine takeNo (i := 29) rfl (by kernel_rfl) (by kernel_rfl) (by kernel_rfl) (fun _ _ _ h => h) (by rfl) (by assumption) ?_
          try simp only [Act.put, List.setIfInBounds_toArray, List.set_cons_zero, List.set_cons_succ]
          refine takeNo (i := 30) rfl (by kernel_rfl) (by kernel_rfl) (by kernel_rfl) (fun _ _ _ h => h) (by rfl) (by assumption) ?_
          try simp only [Act.put, List.setIfInBounds_toArray, List.set_cons_zero, List.set_cons_succ]
          refine takeNo (i := 31) rfl (by kernel_rfl) (by kernel_rfl) (by kernel_rfl) (fun _ _ _ h => h) (by rfl) (by assumption) ?_
          try simp only [Act.put, List.setIfInBounds_toArray, List.set_cons_zero, List.set_cons_succ]
          refine takeYes (i := 32) (v := .bool true) rfl (by kernel_rfl) (by kernel_rfl) (by kernel_rfl) (fun _ _ _ h => h) (by rfl) ?_ (by assumption) ?_
          · intro w hSw; obtain ⟨sq0, sq1, sq2, sq3⟩ := hSw; go_simp
          try simp only [Act.put, List.setIfInBounds_toArray, List.set_cons_zero, List.set_cons_succ]
          refine wpAnyH_done (by kernel_rfl) ?_ _
          go_wp2_with fail
          go_meet
          exact ⟨by rw [HHB.out]; rfl, (Below.refl _ _).drew⟩
        · have HHB : Hid (hb = true) := hid (by have h2 : decide (op = nameO) = false := by rw [hnum]; rfl
                                                rw [HH.out, h2, hst, decide_eq_true hk, decide_eq_false hneg]; simp)
          clear hnum
          clear hk
          refine wp_region_held_drew (S := (fun w' => w'.cell? ⟨w.heap.size, 0, none⟩ = some (.string ⟨op.toArray⟩) ∧ w'.cell? ⟨w.heap.size, 1, none⟩ = some (.int .i64 n) ∧ w'.cell? ⟨w.heap.size, 2, none⟩ = some (.string ⟨nm.toArray⟩) ∧ w'.cell? ⟨w.heap.size, 3, none⟩ = some (.slice A k.len cap))) (by kernel_rfl) ⟨c0, c1, c2, c3⟩ (fun hHeld => ?_)
          refine takeYes (i := 0) (v := .pointer (some ⟨w.heap.size, 0, none⟩)) rfl (by kernel_rfl) (by kernel_rfl) (by kernel_rfl) (fun _ _ _ h => h) (by rfl) ?_ (by assumption) ?_
          · intro w hSw; obtain ⟨sq0, sq1, sq2, sq3⟩ := hSw; go_simp
          try simp only [Act.put, List.setIfInBounds_toArray, List.set_cons_zero, List.set_cons_succ]
          refine takeYes (i := 1) (v := .string ⟨op.toArray⟩) rfl (by kernel_rfl) (by kernel_rfl) (by kernel_rfl) (fun _ _ _ h => h) (by rfl) ?_ (by assumption) ?_
          · intro w hSw; obtain ⟨sq0, sq1, sq2, sq3⟩ := hSw; go_simp
          try simp only [Act.put, List.setIfInBounds_toArray, List.set_cons_zero, List.set_cons_succ]
          refine takeYes (i := 3) (v := .pointer (some ⟨w.heap.size, 3, none⟩)) rfl (by kernel_rfl) (by kernel_rfl) (by kernel_rfl) (fun _ _ _ h => h) (by rfl) ?_ (by assumption) ?_
          · intro w hSw; obtain ⟨sq0, sq1, sq2, sq3⟩ := hSw; go_simp
          try simp only [Act.put, List.setIfInBounds_toArray, List.set_cons_zero, List.set_cons_succ]
          refine takeYes (i := 4) (v := .slice A k.len cap) rfl (by kernel_rfl) (by kernel_rfl) (by kernel_rfl) (fun _ _ _ h => h) (by rfl) ?_ (by assumption) ?_
          · intro w hSw; obtain ⟨sq0, sq1, sq2, sq3⟩ := hSw; go_simp
          try simp only [Act.put, List.setIfInBounds_toArray, List.set_cons_zero, List.set_cons_succ]
          refine takeYes (i := 5) (v := .int .i64 (k.len : Int)) rfl (by kernel_rfl) (by kernel_rfl) (by kernel_rfl) (fun _ _ _ h => h) (by rfl) ?_ (by assumption) ?_
          · intro w hSw; obtain ⟨sq0, sq1, sq2, sq3⟩ := hSw; go_simp
          try simp only [Act.put, List.setIfInBounds_toArray, List.set_cons_zero, List.set_cons_succ]
          refine wpAnyH_ready (rs := [2]) (by kernel_rfl) (by simp) ?_
          refine AllReadyH.cons rfl (fun K hK => ?_) AllReadyH.nil
          go_simp
          ((with_reducible refine (rkids_any op _).mono ?_); rintro e1 wy ⟨rfl, rfl⟩)
          go_wp2_with fail
          refine hK.out _ _ ?_ (fun hHeld => ?_)
          · assumption
          clear hK K
          try simp only [Act.put, List.setIfInBounds_toArray, List.set_cons_zero, List.set_cons_succ]
          refine takeYes (i := 6) (v := .bool false) rfl (by kernel_rfl) (by kernel_rfl) (by kernel_rfl) (fun _ _ _ h => h) (by rfl) ?_ (by assumption) ?_
          · intro w hSw; obtain ⟨sq0, sq1, sq2, sq3⟩ := hSw; go_simp
          try simp only [Act.put, List.setIfInBounds_toArray, List.set_cons_zero, List.set_cons_succ]
          refine takeYes (i := 7) (v := .bool false) rfl (by kernel_rfl) (by kernel_rfl) (by kernel_rfl) (fun _ _ _ h => h) (by rfl) ?_ (by assumption) ?_
          · intro w hSw; obtain ⟨sq0, sq1, sq2, sq3⟩ := hSw; go_simp
          try simp only [Act.put, List.setIfInBounds_toArray, List.set_cons_zero, List.set_cons_succ]
          refine takeYes (i := 8) (v := .pointer (some ⟨w.heap.size, 0, none⟩)) rfl (by kernel_rfl) (by kernel_rfl) (by kernel_rfl) (fun _ _ _ h => h) (by rfl) ?_ (by assumption) ?_
          · intro w hSw; obtain ⟨sq0, sq1, sq2, sq3⟩ := hSw; go_simp
          try simp only [Act.put, List.setIfInBounds_toArray, List.set_cons_zero, List.set_cons_succ]
          refine takeYes (i := 9) (v := .string ⟨op.toArray⟩) rfl (by kernel_rfl) (by kernel_rfl) (by kernel_rfl) (fun _ _ _ h => h) (by rfl) ?_ (by assumption) ?_
          · intro w hSw; obtain ⟨sq0, sq1, sq2, sq3⟩ := hSw; go_simp
          try simp only [Act.put, List.setIfInBounds_toArray, List.set_cons_zero, List.set_cons_succ]
          refine takeYes (i := 10) (v := .bool true) rfl (by kernel_rfl) (by kernel_rfl) (by kernel_rfl) (fun _ _ _ h => h) (by rfl) ?_ (by assumption) ?_
          · intro w hSw; obtain ⟨sq0, sq1, sq2, sq3⟩ := hSw; go_simp
          try simp only [Act.put, List.setIfInBounds_toArray, List.set_cons_zero, List.set_cons_succ]
          refine takeYes (i := 11) (v := .bool true) rfl (by kernel_rfl) (by kernel_rfl) (by kernel_rfl) (fun _ _ _ h => h) (by rfl) ?_ (by assumption) ?_
          · intro w hSw; obtain ⟨sq0, sq1, sq2, sq3⟩ := hSw; go_simp
          try simp only [Act.put, List.setIfInBounds_toArray, List.set_cons_zero, List.set_cons_succ]
          refine takeYes (i := 12) (v := .pointer (some ⟨w.heap.size, 1, none⟩)) rfl (by kernel_rfl) (by kernel_rfl) (by kernel_rfl) (fun _ _ _ h => h) (by rfl) ?_ (by assumption) ?_
          · intro w hSw; obtain ⟨sq0, sq1, sq2, sq3⟩ := hSw; go_simp
          try simp only [Act.put, List.setIfInBounds_toArray, List.set_cons_zero, List.set_cons_succ]
          refine takeYes (i := 13) (v := .int .i64 n) rfl (by kernel_rfl) (by kernel_rfl) (by kernel_rfl) (fun _ _ _ h => h) (by rfl) ?_ (by assumption) ?_
          · intro w hSw; obtain ⟨sq0, sq1, sq2, sq3⟩ := hSw; go_simp
          try simp only [Act.put, List.setIfInBounds_toArray, List.set_cons_zero, List.set_cons_succ]
          refine takeYes (i := 14) (v := .bool false) rfl (by kernel_rfl) (by kernel_rfl) (by kernel_rfl) (fun _ _ _ h => h) (by rfl) ?_ (by assumption) ?_
          · intro w hSw; obtain ⟨sq0, sq1, sq2, sq3⟩ := hSw; go_simp
          try simp only [Act.put, List.setIfInBounds_toArray, List.set_cons_zero, List.set_cons_succ]
          refine takeYes (i := 15) (v := .bool false) rfl (by kernel_rfl) (by kernel_rfl) (by kernel_rfl) (fun _ _ _ h => h) (by rfl) ?_ (by assumption) ?_
          · intro w hSw; obtain ⟨sq0, sq1, sq2, sq3⟩ := hSw; go_simp
          try simp only [Act.put, List.setIfInBounds_toArray, List.set_cons_zero, List.set_cons_succ]
          refine takeYes (i := 16) (v := .bool false) rfl (by kernel_rfl) (by kernel_rfl) (by kernel_rfl) (fun _ _ _ h => h) (by rfl) ?_ (by assumption) ?_
          · intro w hSw; obtain ⟨sq0, sq1, sq2, sq3⟩ := hSw; go_simp
          try simp only [Act.put, List.setIfInBounds_toArray, List.set_cons_zero, List.set_cons_succ]
          refine takeYes (i := 17) (v := .bool false) rfl (by kernel_rfl) (by kernel_rfl) (by kernel_rfl) (fun _ _ _ h => h) (by rfl) ?_ (by assumption) ?_
          · intro w hSw; obtain ⟨sq0, sq1, sq2, sq3⟩ := hSw; go_simp
          try simp only [Act.put, List.setIfInBounds_toArray, List.set_cons_zero, List.set_cons_succ]
          refine takeYes (i := 18) (v := .pointer (some ⟨w.heap.size, 0, none⟩)) rfl (by kernel_rfl) (by kernel_rfl) (by kernel_rfl) (fun _ _ _ h => h) (by rfl) ?_ (by assumption) ?_
          · intro w hSw; obtain ⟨sq0, sq1, sq2, sq3⟩ := hSw; go_simp
          try simp only [Act.put, List.setIfInBounds_toArray, List.set_cons_zero, List.set_cons_succ]
          refine takeYes (i := 19) (v := .string ⟨op.toArray⟩) rfl (by kernel_rfl) (by kernel_rfl) (by kernel_rfl) (fun _ _ _ h => h) (by rfl) ?_ (by assumption) ?_
          · intro w hSw; obtain ⟨sq0, sq1, sq2, sq3⟩ := hSw; go_simp
          try simp only [Act.put, List.setIfInBounds_toArray, List.set_cons_zero, List.set_cons_succ]
          refine takeYes (i := 20) (v := .bool false) rfl (by kernel_rfl) (by kernel_rfl) (by kernel_rfl) (fun _ _ _ h => h) (by rfl) ?_ (by assumption) ?_
          · intro w hSw; obtain ⟨sq0, sq1, sq2, sq3⟩ := hSw; go_simp
          try simp only [Act.put, List.setIfInBounds_toArray, List.set_cons_zero, List.set_cons_succ]
          refine takeYes (i := 21) (v := .bool false) rfl (by kernel_rfl) (by kernel_rfl) (by kernel_rfl) (fun _ _ _ h => h) (by rfl) ?_ (by assumption) ?_
          · intro w hSw; obtain ⟨sq0, sq1, sq2, sq3⟩ := hSw; go_simp
          try simp only [Act.put, List.setIfInBounds_toArray, List.set_cons_zero, List.set_cons_succ]
          refine takeYes (i := 22) (v := .pointer (some ⟨w.heap.size, 0, none⟩)) rfl (by kernel_rfl) (by kernel_rfl) (by kernel_rfl) (fun _ _ _ h => h) (by rfl) ?_ (by assumption) ?_
          · intro w hSw; obtain ⟨sq0, sq1, sq2, sq3⟩ := hSw; go_simp
          try simp only [Act.put, List.setIfInBounds_toArray, List.set_cons_zero, List.set_cons_succ]
          refine takeYes (i := 23) (v := .string ⟨op.toArray⟩) rfl (by kernel_rfl) (by kernel_rfl) (by kernel_rfl) (fun _ _ _ h => h) (by rfl) ?_ (by assumption) ?_
          · intro w hSw; obtain ⟨sq0, sq1, sq2, sq3⟩ := hSw; go_simp
          try simp only [Act.put, List.setIfInBounds_toArray, List.set_cons_zero, List.set_cons_succ]
          refine wpAnyH_ready (rs := [24]) (by kernel_rfl) (by simp) ?_
          refine AllReadyH.cons rfl (fun K hK => ?_) AllReadyH.nil
          go_simp
          ((with_reducible refine (rsets_any op _).mono ?_); rintro e1 wy ⟨rfl, rfl⟩)
          rw [hst]
          go_wp2_with fail
          refine hK.out _ _ ?_ (fun hHeld => ?_)
          · assumption
          clear hK K
          try simp only [Act.put, List.setIfInBounds_toArray, List.set_cons_zero, List.set_cons_succ]
          refine takeYes (i := 25) (v := .bool false) rfl (by kernel_rfl) (by kernel_rfl) (by kernel_rfl) (fun _ _ _ h => h) (by rfl) ?_ (by assumption) ?_
          · intro w hSw; obtain ⟨sq0, sq1, sq2, sq3⟩ := hSw; go_simp
          try simp only [Act.put, List.setIfInBounds_toArray, List.set_cons_zero, List.set_cons_succ]
          refine takeYes (i := 26) (v := .bool false) rfl (by kernel_rfl) (by kernel_rfl) (by kernel_rfl) (fun _ _ _ h => h) (by rfl) ?_ (by assumption) ?_
          · intro w hSw; obtain ⟨sq0, sq1, sq2, sq3⟩ := hSw; go_simp
          try simp only [Act.put, List.setIfInBounds_toArray, List.set_cons_zero, List.set_cons_succ]
          refine takeNo (i := 27) rfl (by kernel_rfl) (by kernel_rfl) (by kernel_rfl) (fun _ _ _ h => h) (by rfl) (by assumption) ?_
          try simp only [Act.put, List.setIfInBounds_toArray, List.set_cons_zero, List.set_cons_succ]
          refine takeNo (i := 28) rfl (by kernel_rfl) (by kernel_rfl) (by kernel_rfl) (fun _ _ _ h => h) (by rfl) (by assumption) ?_
          try simp only [Act.put, List.setIfInBounds_toArray, List.set_cons_zero, List.set_cons_succ]
          refine takeNo (i := 29) rfl (by kernel_rfl) (by kernel_rfl) (by kernel_rfl) (fun _ _ _ h => h) (by rfl) (by assumption) ?_
          try simp only [Act.put, List.setIfInBounds_toArray, List.set_cons_zero, List.set_cons_succ]
          refine takeNo (i := 30) rfl (by kernel_rfl) (by kernel_rfl) (by kernel_rfl) (fun _ _ _ h => h) (by rfl) (by assumption) ?_
          try simp only [Act.put, List.setIfInBounds_toArray, List.set_cons_zero, List.set_cons_succ]
          refine takeYes (i := 31) (v := .bool false) rfl (by kernel_rfl) (by kernel_rfl) (by kernel_rfl) (fun _ _ _ h => h) (by rfl) ?_ (by assumption) ?_
          · intro w hSw; obtain ⟨sq0, sq1, sq2, sq3⟩ := hSw; go_simp
          try simp only [Act.put, List.setIfInBounds_toArray, List.set_cons_zero, List.set_cons_succ]
          refine takeYes (i := 32) (v := .bool false) rfl (by kernel_rfl) (by kernel_rfl) (by kernel_rfl) (fun _ _ _ h => h) (by rfl) ?_ (by assumption) ?_
          · intro w hSw; obtain ⟨sq0, sq1, sq2, sq3⟩ := hSw; go_simp
          try simp only [Act.put, List.setIfInBounds_toArray, List.set_cons_zero, List.set_cons_succ]
          refine wpAnyH_done (by kernel_rfl) ?_ _
          go_wp2_with fail
          go_meet
          exact ⟨by rw [HHB.out]; rfl, (Below.refl _ _).drew⟩
      · have hnu : (op == [110, 117, 109]) = false := by simpa [numO] using hnum
        have HH2 : Hid (hb = !((decide (op = nameO) || setF op) && !nameB nm)) := hid (by rw [HH.out, decide_eq_true hk, decide_eq_false hnum]; simp)
        by_cases hnam : op = nameO
        · have hnu2 : (op == [110, 97, 109, 101]) = true := by rw [hnam]; rfl
          cases hnb : nameB nm
          · have HHB : Hid (hb = false) := hid (by rw [HH2.out, hnb, decide_eq_true hnam]; simp)
            clear hnum hnam
            clear hk
            refine wp_region_held_drew (S := (fun w' => w'.cell? ⟨w.heap.size, 0, none⟩ = some (.string ⟨op.toArray⟩) ∧ w'.cell? ⟨w.heap.size, 1, none⟩ = some (.int .i64 n) ∧ w'.cell? ⟨w.heap.size, 2, none⟩ = some (.string ⟨nm.toArray⟩) ∧ w'.cell? ⟨w.heap.size, 3, none⟩ = some (.slice A k.len cap))) (by kernel_rfl) ⟨c0, c1, c2, c3⟩ (fun hHeld => ?_)
            refine takeYes (i := 0) (v := .pointer (some ⟨w.heap.size, 0, none⟩)) rfl (by kernel_rfl) (by kernel_rfl) (by kernel_rfl) (fun _ _ _ h => h) (by rfl) ?_ (by assumption) ?_
            · intro w hSw; obtain ⟨sq0, sq1, sq2, sq3⟩ := hSw; go_simp
            try simp only [Act.put, List.setIfInBounds_toArray, List.set_cons_zero, List.set_cons_succ]
            refine takeYes (i := 1) (v := .string ⟨op.toArray⟩) rfl (by kernel_rfl) (by kernel_rfl) (by kernel_rfl) (fun _ _ _ h => h) (by rfl) ?_ (by assumption) ?_
            · intro w hSw; obtain ⟨sq0, sq1, sq2, sq3⟩ := hSw; go_simp
            try simp only [Act.put, List.setIfInBounds_toArray, List.set_cons_zero, List.set_cons_succ]
            refine takeYes (i := 3) (v := .pointer (some ⟨w.heap.size, 3, none⟩)) rfl (by kernel_rfl) (by kernel_rfl) (by kernel_rfl) (fun _ _ _ h => h) (by rfl) ?_ (by assumption) ?_
            · intro w hSw; obtain ⟨sq0, sq1, sq2, sq3⟩ := hSw; go_simp
            try simp only [Act.put, List.setIfInBounds_toArray, List.set_cons_zero, List.set_cons_succ]
            refine takeYes (i := 4) (v := .slice A k.len cap) rfl (by kernel_rfl) (by kernel_rfl) (by kernel_rfl) (fun _ _ _ h => h) (by rfl) ?_ (by assumption) ?_
            · intro w hSw; obtain ⟨sq0, sq1, sq2, sq3⟩ := hSw; go_simp
            try simp only [Act.put, List.setIfInBounds_toArray, List.set_cons_zero, List.set_cons_succ]
            refine takeYes (i := 5) (v := .int .i64 (k.len : Int)) rfl (by kernel_rfl) (by kernel_rfl) (by kernel_rfl) (fun _ _ _ h => h) (by rfl) ?_ (by assumption) ?_
            · intro w hSw; obtain ⟨sq0, sq1, sq2, sq3⟩ := hSw; go_simp
            try simp only [Act.put, List.setIfInBounds_toArray, List.set_cons_zero, List.set_cons_succ]
            refine wpAnyH_ready (rs := [2]) (by kernel_rfl) (by simp) ?_
            refine AllReadyH.cons rfl (fun K hK => ?_) AllReadyH.nil
            go_simp
            ((with_reducible refine (rkids_any op _).mono ?_); rintro e1 wy ⟨rfl, rfl⟩)
            go_wp2_with fail
            refine hK.out _ _ ?_ (fun hHeld => ?_)
            · assumption
            clear hK K
            try simp only [Act.put, List.setIfInBounds_toArray, List.set_cons_zero, List.set_cons_succ]
            refine takeYes (i := 6) (v := .bool false) rfl (by kernel_rfl) (by kernel_rfl) (by kernel_rfl) (fun _ _ _ h => h) (by rfl) ?_ (by assumption) ?_
            · intro w hSw; obtain ⟨sq0, sq1, sq2, sq3⟩ := hSw; go_simp
            try simp only [Act.put, List.setIfInBounds_toArray, List.set_cons_zero, List.set_cons_succ]
            refine takeYes (i := 7) (v := .bool false) rfl (by kernel_rfl) (by kernel_rfl) (by kernel_rfl) (fun _ _ _ h => h) (by rfl) ?_ (by assumption) ?_
            · intro w hSw; obtain ⟨sq0, sq1, sq2, sq3⟩ := hSw; go_simp
            try simp only [Act.put, List.setIfInBounds_toArray, List.set_cons_zero, List.set_cons_succ]
            refine takeYes (i := 8) (v := .pointer (some ⟨w.heap.size, 0, none⟩)) rfl (by kernel_rfl) (by kernel_rfl) (by kernel_rfl) (fun _ _ _ h => h) (by rfl) ?_ (by assumption) ?_
            · intro w hSw; obtain ⟨sq0, sq1, sq2, sq3⟩ := hSw; go_simp
            try simp only [Act.put, List.setIfInBounds_toArray, List.set_cons_zero, List.set_cons_succ]
            refine takeYes (i := 9) (v := .string ⟨op.toArray⟩) rfl (by kernel_rfl) (by kernel_rfl) (by kernel_rfl) (fun _ _ _ h => h) (by rfl) ?_ (by assumption) ?_
            · intro w hSw; obtain ⟨sq0, sq1, sq2, sq3⟩ := hSw; go_simp
            try simp only [Act.put, List.setIfInBounds_toArray, List.set_cons_zero, List.set_cons_succ]
            refine takeYes (i := 10) (v := .bool false) rfl (by kernel_rfl) (by kernel_rfl) (by kernel_rfl) (fun _ _ _ h => h) (by rfl) ?_ (by assumption) ?_
            · intro w hSw; obtain ⟨sq0, sq1, sq2, sq3⟩ := hSw; go_simp
            try simp only [Act.put, List.setIfInBounds_toArray, List.set_cons_zero, List.set_cons_succ]
            refine takeYes (i := 11) (v := .bool false) rfl (by kernel_rfl) (by kernel_rfl) (by kernel_rfl) (fun _ _ _ h => h) (by rfl) ?_ (by assumption) ?_
            · intro w hSw; obtain ⟨sq0, sq1, sq2, sq3⟩ := hSw; go_simp
            try simp only [Act.put, List.setIfInBounds_toArray, List.set_cons_zero, List.set_cons_succ]
            refine takeNo (i := 12) rfl (by kernel_rfl) (by kernel_rfl) (by kernel_rfl) (fun _ _ _ h => h) (by rfl) (by assumption) ?_
            try simp only [Act.put, List.setIfInBounds_toArray, List.set_cons_zero, List.set_cons_succ]
            refine takeNo (i := 13) rfl (by kernel_rfl) (by kernel_rfl) (by kernel_rfl) (fun _ _ _ h => h) (by rfl) (by assumption) ?_
            try simp only [Act.put, List.setIfInBounds_toArray, List.set_cons_zero, List.set_cons_succ]
            refine takeNo (i := 14) rfl (by kernel_rfl) (by kernel_rfl) (by kernel_rfl) (fun _ _ _ h => h) (by rfl) (by assumption) ?_
            try simp only [Act.put, List.setIfInBounds_toArray, List.set_cons_zero, List.set_cons_succ]
            refine takeYes (i := 15) (v := .bool false) rfl (by kernel_rfl) (by kernel_rfl) (by kernel_rfl) (fun _ _ _ h => h) (by rfl) ?_ (by assumption) ?_
            · intro w hSw; obtain ⟨sq0, sq1, sq2, sq3⟩ := hSw; go_simp
            try simp only [Act.put, List.setIfInBounds_toArray, List.set_cons_zero, List.set_cons_succ]
            refine takeYes (i := 16) (v := .bool false) rfl (by kernel_rfl) (by kernel_rfl) (by kernel_rfl) (fun _ _ _ h => h) (by rfl) ?_ (by assumption) ?_
            · intro w hSw; obtain ⟨sq0, sq1, sq2, sq3⟩ := hSw; go_simp
            try simp only [Act.put, List.setIfInBounds_toArray, List.set_cons_zero, List.set_cons_succ]
            refine takeYes (i := 17) (v := .bool false) rfl (by kernel_rfl) (by kernel_rfl) (by kernel_rfl) (fun _ _ _ h => h) (by rfl) ?_ (by assumption) ?_
            · intro w hSw; obtain ⟨sq0, sq1, sq2, sq3⟩ := hSw; go_simp
            try simp only [Act.put, List.setIfInBounds_toArray, List.set_cons_zero, List.set_cons_succ]
            refine takeYes (i := 18) (v := .pointer (some ⟨w.heap.size, 0, none⟩)) rfl (by kernel_rfl) (by kernel_rfl) (by kernel_rfl) (fun _ _ _ h => h) (by rfl) ?_ (by assumption) ?_
            · intro w hSw; obtain ⟨sq0, sq1, sq2, sq3⟩ := hSw; go_simp
            try simp only [Act.put, List.setIfInBounds_toArray, List.set_cons_zero, List.set_cons_succ]
            refine takeYes (i := 19) (v := .string ⟨op.toArray⟩) rfl (by kernel_rfl) (by kernel_rfl) (by kernel_rfl) (fun _ _ _ h => h) (by rfl) ?_ (by assumption) ?_
            · intro w hSw; obtain ⟨sq0, sq1, sq2, sq3⟩ := hSw; go_simp
            try simp only [Act.put, List.setIfInBounds_toArray, List.set_cons_zero, List.set_cons_succ]
            refine takeYes (i := 20) (v := .bool true) rfl (by kernel_rfl) (by kernel_rfl) (by kernel_rfl) (fun _ _ _ h => h) (by rfl) ?_ (by assumption) ?_
            · intro w hSw; obtain ⟨sq0, sq1, sq2, sq3⟩ := hSw; go_simp
            try simp only [Act.put, List.setIfInBounds_toArray, List.set_cons_zero, List.set_cons_succ]
            refine takeYes (i := 21) (v := .bool true) rfl (by kernel_rfl) (by kernel_rfl) (by kernel_rfl) (fun _ _ _ h => h) (by rfl) ?_ (by assumption) ?_
            · intro w hSw; obtain ⟨sq0, sq1, sq2, sq3⟩ := hSw; go_simp
            try simp only [Act.put, List.setIfInBounds_toArray, List.set_cons_zero, List.set_cons_succ]
            refine takeNo (i := 22) rfl (by kernel_rfl) (by kernel_rfl) (by kernel_rfl) (fun _ _ _ h => h) (by rfl) (by assumption) ?_
            try simp only [Act.put, List.setIfInBounds_toArray, List.set_cons_zero, List.set_cons_succ]
            refine takeNo (i := 23) rfl (by kernel_rfl) (by kernel_rfl) (by kernel_rfl) (fun _ _ _ h => h) (by rfl) (by assumption) ?_
            try simp only [Act.put, List.setIfInBounds_toArray, List.set_cons_zero, List.set_cons_succ]
            refine takeNo (i := 24) rfl (by kernel_rfl) (by kernel_rfl) (by kernel_rfl) (fun _ _ _ h => h) (by rfl) (by assumption) ?_
            try simp only [Act.put, List.setIfInBounds_toArray, List.set_cons_zero, List.set_cons_succ]
            refine takeYes (i := 25) (v := .bool true) rfl (by kernel_rfl) (by kernel_rfl) (by kernel_rfl) (fun _ _ _ h => h) (by rfl) ?_ (by assumption) ?_
            · intro w hSw; obtain ⟨sq0, sq1, sq2, sq3⟩ := hSw; go_simp
            try simp only [Act.put, List.setIfInBounds_toArray, List.set_cons_zero, List.set_cons_succ]
            refine takeYes (i := 26) (v := .bool true) rfl (by kernel_rfl) (by kernel_rfl) (by kernel_rfl) (fun _ _ _ h => h) (by rfl) ?_ (by assumption) ?_
            · intro w hSw; obtain ⟨sq0, sq1, sq2, sq3⟩ := hSw; go_simp
            try simp only [Act.put, List.setIfInBounds_toArray, List.set_cons_zero, List.set_cons_succ]
            refine takeYes (i := 27) (v := .pointer (some ⟨w.heap.size, 2, none⟩)) rfl (by kernel_rfl) (by kernel_rfl) (by kernel_rfl) (fun _ _ _ h => h) (by rfl) ?_ (by assumption) ?_
            · intro w hSw; obtain ⟨sq0, sq1, sq2, sq3⟩ := hSw; go_simp
            try simp only [Act.put, List.setIfInBounds_toArray, List.set_cons_zero, List.set_cons_succ]
            refine takeYes (i := 28) (v := .string ⟨nm.toArray⟩) rfl (by kernel_rfl) (by kernel_rfl) (by kernel_rfl) (fun _ _ _ h => h) (by rfl) ?_ (by assumption) ?_
            · intro w hSw; obtain ⟨sq0, sq1, sq2, sq3⟩ := hSw; go_simp
            try simp only [Act.put, List.setIfInBounds_toArray, List.set_cons_zero, List.set_cons_succ]
            refine wpAnyH_ready (rs := [29]) (by kernel_rfl) (by simp) ?_
            refine AllReadyH.cons rfl (fun K hK => ?_) AllReadyH.nil
            go_simp
            ((with_reducible refine (rname_l nm _ hnl).mono ?_); rintro e1 wy ⟨rfl, rfl⟩)
            rw [hnb]
            go_wp2_with fail
            refine hK.out _ _ ?_ (fun hHeld => ?_)
            · assumption
            clear hK K
            try simp only [Act.put, List.setIfInBounds_toArray, List.set_cons_zero, List.set_cons_succ]
            refine takeYes (i := 30) (v := .bool true) rfl (by kernel_rfl) (by kernel_rfl) (by kernel_rfl) (fun _ _ _ h => h) (by rfl) ?_ (by assumption) ?_
            · intro w hSw; obtain ⟨sq0, sq1, sq2, sq3⟩ := hSw; go_simp
            try simp only [Act.put, List.setIfInBounds_toArray, List.set_cons_zero, List.set_cons_succ]
            refine takeYes (i := 31) (v := .bool true) rfl (by kernel_rfl) (by kernel_rfl) (by kernel_rfl) (fun _ _ _ h => h) (by rfl) ?_ (by assumption) ?_
            · intro w hSw; obtain ⟨sq0, sq1, sq2, sq3⟩ := hSw; go_simp
            try simp only [Act.put, List.setIfInBounds_toArray, List.set_cons_zero, List.set_cons_succ]
            refine takeYes (i := 32) (v := .bool true) rfl (by kernel_rfl) (by kernel_rfl) (by kernel_rfl) (fun _ _ _ h => h) (by rfl) ?_ (by assumption) ?_
            · intro w hSw; obtain ⟨sq0, sq1, sq2, sq3⟩ := hSw; go_simp
            try simp only [Act.put, List.setIfInBounds_toArray, List.set_cons_zero, List.set_cons_succ]
            refine wpAnyH_done (by kernel_rfl) ?_ _
            go_wp2_with fail
            go_meet
            exact ⟨by rw [HHB.out]; rfl, (Below.refl _ _).drew⟩
          · have HHB : Hid (hb = true) := hid (by rw [HH2.out, hnb, decide_eq_true hnam]; simp)
            clear hnum hnam
            clear hk
            refine wp_region_held_drew (S := (fun w' => w'.cell? ⟨w.heap.size, 0, none⟩ = some (.string ⟨op.toArray⟩) ∧ w'.cell? ⟨w.heap.size, 1, none⟩ = some (.int .i64 n) ∧ w'.cell? ⟨w.heap.size, 2, none⟩ = some (.string ⟨nm.toArray⟩) ∧ w'.cell? ⟨w.heap.size, 3, none⟩ = some (.slice A k.len cap))) (by kernel_rfl) ⟨c0, c1, c2, c3⟩ (fun hHeld => ?_)
            refine takeYes (i := 0) (v := .pointer (some ⟨w.heap.size, 0, none⟩)) rfl (by kernel_rfl) (by kernel_rfl) (by kernel_rfl) (fun _ _ _ h => h) (by rfl) ?_ (by assumption) ?_
            · intro w hSw; obtain ⟨sq0, sq1, sq2, sq3⟩ := hSw; go_simp
            try simp only [Act.put, List.setIfInBounds_toArray, List.set_cons_zero, List.set_cons_succ]
            refine takeYes (i := 1) (v := .string ⟨op.toArray⟩) rfl (by kernel_rfl) (by kernel_rfl) (by kernel_rfl) (fun _ _ _ h => h) (by rfl) ?_ (by assumption) ?_
            · intro w hSw; obtain ⟨sq0, sq1, sq2, sq3⟩ := hSw; go_simp
            try simp only [Act.put, List.setIfInBounds_toArray, List.set_cons_zero, List.set_cons_succ]
            refine takeYes (i := 3) (v := .pointer (some ⟨w.heap.size, 3, none⟩)) rfl (by kernel_rfl) (by kernel_rfl) (by kernel_rfl) (fun _ _ _ h => h) (by rfl) ?_ (by assumption) ?_
            · intro w hSw; obtain ⟨sq0, sq1, sq2, sq3⟩ := hSw; go_simp
            try simp only [Act.put, List.setIfInBounds_toArray, List.set_cons_zero, List.set_cons_succ]
            refine takeYes (i := 4) (v := .slice A k.len cap) rfl (by kernel_rfl) (by kernel_rfl) (by kernel_rfl) (fun _ _ _ h => h) (by rfl) ?_ (by assumption) ?_
            · intro w hSw; obtain ⟨sq0, sq1, sq2, sq3⟩ := hSw; go_simp
            try simp only [Act.put, List.setIfInBounds_toArray, List.set_cons_zero, List.set_cons_succ]
            refine takeYes (i := 5) (v := .int .i64 (k.len : Int)) rfl (by kernel_rfl) (by kernel_rfl) (by kernel_rfl) (fun _ _ _ h => h) (by rfl) ?_ (by assumption) ?_
            · intro w hSw; obtain ⟨sq0, sq1, sq2, sq3⟩ := hSw; go_simp
            try simp only [Act.put, List.setIfInBounds_toArray, List.set_cons_zero, List.set_cons_succ]
            refine wpAnyH_ready (rs := [2]) (by kernel_rfl) (by simp) ?_
            refine AllReadyH.cons rfl (fun K hK => ?_) AllReadyH.nil
            go_simp
            ((with_reducible refine (rkids_any op _).mono ?_); rintro e1 wy ⟨rfl, rfl⟩)
            go_wp2_with fail
            refine hK.out _ _ ?_ (fun hHeld => ?_)
            · assumption
            clear hK K
            try simp only [Act.put, List.setIfInBounds_toArray, List.set_cons_zero, List.set_cons_succ]
            refine takeYes (i := 6) (v := .bool false) rfl (by kernel_rfl) (by kernel_rfl) (by kernel_rfl) (fun _ _ _ h => h) (by rfl) ?_ (by assumption) ?_
            · intro w hSw; obtain ⟨sq0, sq1, sq2, sq3⟩ := hSw; go_simp
            try simp only [Act.put, List.setIfInBounds_toArray, List.set_cons_zero, List.set_cons_succ]
            refine takeYes (i := 7) (v := .bool false) rfl (by kernel_rfl) (by kernel_rfl) (by kernel_rfl) (fun _ _ _ h => h) (by rfl) ?_ (by assumption) ?_
            · intro w hSw; obtain ⟨sq0, sq1, sq2, sq3⟩ := hSw; go_simp
            try simp only [Act.put, List.setIfInBounds_toArray, List.set_cons_zero, List.set_cons_succ]
            refine takeYes (i := 8) (v := .pointer (some ⟨w.heap.size, 0, none⟩)) rfl (by kernel_rfl) (by kernel_rfl) (by kernel_rfl) (fun _ _ _ h => h) (by rfl) ?_ (by assumption) ?_
            · intro w hSw; obtain ⟨sq0, sq1, sq2, sq3⟩ := hSw; go_simp
            try simp only [Act.put, List.setIfInBounds_toArray, List.set_cons_zero, List.set_cons_succ]
            refine takeYes (i := 9) (v := .string ⟨op.toArray⟩) rfl (by kernel_rfl) (by kernel_rfl) (by kernel_rfl) (fun _ _ _ h => h) (by rfl) ?_ (by assumption) ?_
            · intro w hSw; obtain ⟨sq0, sq1, sq2, sq3⟩ := hSw; go_simp
            try simp only [Act.put, List.setIfInBounds_toArray, List.set_cons_zero, List.set_cons_succ]
            refine takeYes (i := 10) (v := .bool false) rfl (by kernel_rfl) (by kernel_rfl) (by kernel_rfl) (fun _ _ _ h => h) (by rfl) ?_ (by assumption) ?_
            · intro w hSw; obtain ⟨sq0, sq1, sq2, sq3⟩ := hSw; go_simp
            try simp only [Act.put, List.setIfInBounds_toArray, List.set_cons_zero, List.set_cons_succ]
            refine takeYes (i := 11) (v := .bool false) rfl (by kernel_rfl) (by kernel_rfl) (by kernel_rfl) (fun _ _ _ h => h) (by rfl) ?_ (by assumption) ?_
            · intro w hSw; obtain ⟨sq0, sq1, sq2, sq3⟩ := hSw; go_simp
            try simp only [Act.put, List.setIfInBounds_toArray, List.set_cons_zero, List.set_cons_succ]
            refine takeNo (i := 12) rfl (by kernel_rfl) (by kernel_rfl) (by kernel_rfl) (fun _ _ _ h => h) (by rfl) (by assumption) ?_
            try simp only [Act.put, List.setIfInBounds_toArray, List.set_cons_zero, List.set_cons_succ]
            refine takeNo (i := 13) rfl (by kernel_rfl) (by kernel_rfl) (by kernel_rfl) (fun _ _ _ h => h) (by rfl) (by assumption) ?_
            try simp only [Act.put, List.setIfInBounds_toArray, List.set_cons_zero, List.set_cons_succ]
            refine takeNo (i := 14) rfl (by kernel_rfl) (by kernel_rfl) (by kernel_rfl) (fun _ _ _ h => h) (by rfl) (by assumption) ?_
            try simp only [Act.put, List.setIfInBounds_toArray, List.set_cons_zero, List.set_cons_succ]
            refine takeYes (i := 15) (v := .bool false) rfl (by kernel_rfl) (by kernel_rfl) (by kernel_rfl) (fun _ _ _ h => h) (by rfl) ?_ (by assumption) ?_
            · intro w hSw; obtain ⟨sq0, sq1, sq2, sq3⟩ := hSw; go_simp
            try simp only [Act.put, List.setIfInBounds_toArray, List.set_cons_zero, List.set_cons_succ]
            refine takeYes (i := 16) (v := .bool false) rfl (by kernel_rfl) (by kernel_rfl) (by kernel_rfl) (fun _ _ _ h => h) (by rfl) ?_ (by assumption) ?_
            · intro w hSw; obtain ⟨sq0, sq1, sq2, sq3⟩ := hSw; go_simp
            try simp only [Act.put, List.setIfInBounds_toArray, List.set_cons_zero, List.set_cons_succ]
            refine takeYes (i := 17) (v := .bool false) rfl (by kernel_rfl) (by kernel_rfl) (by kernel_rfl) (fun _ _ _ h => h) (by rfl) ?_ (by assumption) ?_
            · intro w hSw; obtain ⟨sq0, sq1, sq2, sq3⟩ := hSw; go_simp
            try simp only [Act.put, List.setIfInBounds_toArray, List.set_cons_zero, List.set_cons_succ]
            refine takeYes (i := 18) (v := .pointer (some ⟨w.heap.size, 0, none⟩)) rfl (by kernel_rfl) (by kernel_rfl) (by kernel_rfl) (fun _ _ _ h => h) (by rfl) ?_ (by assumption) ?_
            · intro w hSw; obtain ⟨sq0, sq1, sq2, sq3⟩ := hSw; go_simp
            try simp only [Act.put, List.setIfInBounds_toArray, List.set_cons_zero, List.set_cons_succ]
            refine takeYes (i := 19) (v := .string ⟨op.toArray⟩) rfl (by kernel_rfl) (by kernel_rfl) (by kernel_rfl) (fun _ _ _ h => h) (by rfl) ?_ (by assumption) ?_
            · intro w hSw; obtain ⟨sq0, sq1, sq2, sq3⟩ := hSw; go_simp
            try simp only [Act.put, List.setIfInBounds_toArray, List.set_cons_zero, List.set_cons_succ]
            refine takeYes (i := 20) (v := .bool true) rfl (by kernel_rfl) (by kernel_rfl) (by kernel_rfl) (fun _ _ _ h => h) (by rfl) ?_ (by assumption) ?_
            · intro w hSw; obtain ⟨sq0, sq1, sq2, sq3⟩ := hSw; go_simp
            try simp only [Act.put, List.setIfInBounds_toArray, List.set_cons_zero, List.set_cons_succ]
            refine takeYes (i := 21) (v := .bool true) rfl (by kernel_rfl) (by kernel_rfl) (by kernel_rfl) (fun _ _ _ h => h) (by rfl) ?_ (by assumption) ?_
            · intro w hSw; obtain ⟨sq0, sq1, sq2, sq3⟩ := hSw; go_simp
            try simp only [Act.put, List.setIfInBounds_toArray, List.set_cons_zero, List.set_cons_succ]
            refine takeNo (i := 22) rfl (by kernel_rfl) (by kernel_rfl) (by kernel_rfl) (fun _ _ _ h => h) (by rfl) (by assumption) ?_
            try simp only [Act.put, List.setIfInBounds_toArray, List.set_cons_zero, List.set_cons_succ]
            refine takeNo (i := 23) rfl (by kernel_rfl) (by kernel_rfl) (by kernel_rfl) (fun _ _ _ h => h) (by rfl) (by assumption) ?_
            try simp only [Act.put, List.setIfInBounds_toArray, List.set_cons_zero, List.set_cons_succ]
            refine takeNo (i := 24) rfl (by kernel_rfl) (by kernel_rfl) (by kernel_rfl) (fun _ _ _ h => h) (by rfl) (by assumption) ?_
            try simp only [Act.put, List.setIfInBounds_toArray, List.set_cons_zero, List.set_cons_succ]
            refine takeYes (i := 25) (v := .bool true) rfl (by kernel_rfl) (by kernel_rfl) (by kernel_rfl) (fun _ _ _ h => h) (by rfl) ?_ (by assumption) ?_
            · intro w hSw; obtain ⟨sq0, sq1, sq2, sq3⟩ := hSw; go_simp
            try simp only [Act.put, List.setIfInBounds_toArray, List.set_cons_zero, List.set_cons_succ]
            refine takeYes (i := 26) (v := .bool true) rfl (by kernel_rfl) (by kernel_rfl) (by kernel_rfl) (fun _ _ _ h => h) (by rfl) ?_ (by assumption) ?_
            · intro w hSw; obtain ⟨sq0, sq1, sq2, sq3⟩ := hSw; go_simp
            try simp only [Act.put, List.setIfInBounds_toArray, List.set_cons_zero, List.set_cons_succ]
            refine takeYes (i := 27) (v := .pointer (some ⟨w.heap.size, 2, none⟩)) rfl (by kernel_rfl) (by kernel_rfl) (by kernel_rfl) (fun _ _ _ h => h) (by rfl) ?_ (by assumption) ?_
            · intro w hSw; obtain ⟨sq0, sq1, sq2, sq3⟩ := hSw; go_simp
            try simp only [Act.put, List.setIfInBounds_toArray, List.set_cons_zero, List.set_cons_succ]
            refine takeYes (i := 28) (v := .string ⟨nm.toArray⟩) rfl (by kernel_rfl) (by kernel_rfl) (by kernel_rfl) (fun _ _ _ h => h) (by rfl) ?_ (by assumption) ?_
            · intro w hSw; obtain ⟨sq0, sq1, sq2, sq3⟩ := hSw; go_simp
            try simp only [Act.put, List.setIfInBounds_toArray, List.set_cons_zero, List.set_cons_succ]
            refine wpAnyH_ready (rs := [29]) (by kernel_rfl) (by simp) ?_
            refine AllReadyH.cons rfl (fun K hK => ?_) AllReadyH.nil
            go_simp
            ((with_reducible refine (rname_l nm _ hnl).mono ?_); rintro e1 wy ⟨rfl, rfl⟩)
            rw [hnb]
            go_wp2_with fail
            refine hK.out _ _ ?_ (fun hHeld => ?_)
            · assumption
            clear hK K
            try simp only [Act.put, List.setIfInBounds_toArray, List.set_cons_zero, List.set_cons_succ]
            refine takeYes (i := 30) (v := .bool false) rfl (by kernel_rfl) (by kernel_rfl) (by kernel_rfl) (fun _ _ _ h => h) (by rfl) ?_ (by assumption) ?_
            · intro w hSw; obtain ⟨sq0, sq1, sq2, sq3⟩ := hSw; go_simp
            try simp only [Act.put, List.setIfInBounds_toArray, List.set_cons_zero, List.set_cons_succ]
            refine takeYes (i := 31) (v := .bool false) rfl (by kernel_rfl) (by kernel_rfl) (by kernel_rfl) (fun _ _ _ h => h) (by rfl) ?_ (by assumption) ?_
            · intro w hSw; obtain ⟨sq0, sq1, sq2, sq3⟩ := hSw; go_simp
            try simp only [Act.put, List.setIfInBounds_toArray, List.set_cons_zero, List.set_cons_succ]
            refine takeYes (i := 32) (v := .bool false) rfl (by kernel_rfl) (by kernel_rfl) (by kernel_rfl) (fun _ _ _ h => h) (by rfl) ?_ (by assumption) ?_
            · intro w hSw; obtain ⟨sq0, sq1, sq2, sq3⟩ := hSw; go_simp
            try simp only [Act.put, List.setIfInBounds_toArray, List.set_cons_zero, List.set_cons_succ]
            refine wpAnyH_done (by kernel_rfl) ?_ _
            go_wp2_with fail
            go_meet
            exact ⟨by rw [HHB.out]; rfl, (Below.refl _ _).drew⟩
        · have hnu2 : (op == [110, 97, 109, 101]) = false := by simpa [nameO] using hnam
          cases hst : setF op
          · have HHB : Hid (hb = true) := hid (by rw [HH2.out, hst, decide_eq_false hnam]; simp)
            clear hnum hnam
            clear hk
            refine wp_region_held_drew (S := (fun w' => w'.cell? ⟨w.heap.size, 0, none⟩ = some (.string ⟨op.toArray⟩) ∧ w'.cell? ⟨w.heap.size, 1, none⟩ = some (.int .i64 n) ∧ w'.cell? ⟨w.heap.size, 2, none⟩ = some (.string ⟨nm.toArray⟩) ∧ w'.cell? ⟨w.heap.size, 3, none⟩ = some (.slice A k.len cap))) (by kernel_rfl) ⟨c0, c1, c2, c3⟩ (fun hHeld => ?_)
            refine takeYes (i := 0) (v := .pointer (some ⟨w.heap.size, 0, none⟩)) rfl (by kernel_rfl) (by kernel_rfl) (by kernel_rfl) (fun _ _ _ h => h) (by rfl) ?_ (by assumption) ?_
            · intro w hSw; obtain ⟨sq0, sq1, sq2, sq3⟩ := hSw; go_simp
            try simp only [Act.put, List.setIfInBounds_toArray, List.set_cons_zero, List.set_cons_succ]
            refine takeYes (i := 1) (v := .string ⟨op.toArray⟩) rfl (by kernel_rfl) (by kernel_rfl) (by kernel_rfl) (fun _ _ _ h => h) (by rfl) ?_ (by assumption) ?_
            · intro w hSw; obtain ⟨sq0, sq1, sq2, sq3⟩ := hSw; go_simp
            try simp only [Act.put, List.setIfInBounds_toArray, List.set_cons_zero, List.set_cons_succ]
            refine takeYes (i := 3) (v := .pointer (some ⟨w.heap.size, 3, none⟩)) rfl (by kernel_rfl) (by kernel_rfl) (by kernel_rfl) (fun _ _ _ h => h) (by rfl) ?_ (by assumption) ?_
            · intro w hSw; obtain ⟨sq0, sq1, sq2, sq3⟩ := hSw; go_simp
            try simp only [Act.put, List.setIfInBounds_toArray, List.set_cons_zero, List.set_cons_succ]
            refine takeYes (i := 4) (v := .slice A k.len cap) rfl (by kernel_rfl) (by kernel_rfl) (by kernel_rfl) (fun _ _ _ h => h) (by rfl) ?_ (by assumption) ?_
            · intro w hSw; obtain ⟨sq0, sq1, sq2, sq3⟩ := hSw; go_simp
            try simp only [Act.put, List.setIfInBounds_toArray, List.set_cons_zero, List.set_cons_succ]
            refine takeYes (i := 5) (v := .int .i64 (k.len : Int)) rfl (by kernel_rfl) (by kernel_rfl) (by kernel_rfl) (fun _ _ _ h => h) (by rfl) ?_ (by assumption) ?_
            · intro w hSw; obtain ⟨sq0, sq1, sq2, sq3⟩ := hSw; go_simp
            try simp only [Act.put, List.setIfInBounds_toArray, List.set_cons_zero, List.set_cons_succ]
            refine wpAnyH_ready (rs := [2]) (by kernel_rfl) (by simp) ?_
            refine AllReadyH.cons rfl (fun K hK => ?_) AllReadyH.nil
            go_simp
            ((with_reducible refine (rkids_any op _).mono ?_); rintro e1 wy ⟨rfl, rfl⟩)
            go_wp2_with fail
            refine hK.out _ _ ?_ (fun hHeld => ?_)
            · assumption
            clear hK K
            try simp only [Act.put, List.setIfInBounds_toArray, List.set_cons_zero, List.set_cons_succ]
            refine takeYes (i := 6) (v := .bool false) rfl (by kernel_rfl) (by kernel_rfl) (by kernel_rfl) (fun _ _ _ h => h) (by rfl) ?_ (by assumption) ?_
            · intro w hSw; obtain ⟨sq0, sq1, sq2, sq3⟩ := hSw; go_simp
            try simp only [Act.put, List.setIfInBounds_toArray, List.set_cons_zero, List.set_cons_succ]
            refine takeYes (i := 7) (v := .bool false) rfl (by kernel_rfl) (by kernel_rfl) (by kernel_rfl) (fun _ _ _ h => h) (by rfl) ?_ (by assumption) ?_
            · intro w hSw; obtain ⟨sq0, sq1, sq2, sq3⟩ := hSw; go_simp
            try simp only [Act.put, List.setIfInBounds_toArray, List.set_cons_zero, List.set_cons_succ]
            refine takeYes (i := 8) (v := .pointer (some ⟨w.heap.size, 0, none⟩)) rfl (by kernel_rfl) (by kernel_rfl) (by kernel_rfl) (fun _ _ _ h => h) (by rfl) ?_ (by assumption) ?_
            · intro w hSw; obtain ⟨sq0, sq1, sq2, sq3⟩ := hSw; go_simp
            try simp only [Act.put, List.setIfInBounds_toArray, List.set_cons_zero, List.set_cons_succ]
            refine takeYes (i := 9) (v := .string ⟨op.toArray⟩) rfl (by kernel_rfl) (by kernel_rfl) (by kernel_rfl) (fun _ _ _ h => h) (by rfl) ?_ (by assumption) ?_
            · intro w hSw; obtain ⟨sq0, sq1, sq2, sq3⟩ := hSw; go_simp
            try simp only [Act.put, List.setIfInBounds_toArray, List.set_cons_zero, List.set_cons_succ]
            refine takeYes (i := 10) (v := .bool false) rfl (by kernel_rfl) (by kernel_rfl) (by kernel_rfl) (fun _ _ _ h => h) (by rfl) ?_ (by assumption) ?_
            · intro w hSw; obtain ⟨sq0, sq1, sq2, sq3⟩ := hSw; go_simp
            try simp only [Act.put, List.setIfInBounds_toArray, List.set_cons_zero, List.set_cons_succ]
            refine takeYes (i := 11) (v := .bool false) rfl (by kernel_rfl) (by kernel_rfl) (by kernel_rfl) (fun _ _ _ h => h) (by rfl) ?_ (by assumption) ?_
            · intro w hSw; obtain ⟨sq0, sq1, sq2, sq3⟩ := hSw; go_simp
            try simp only [Act.put, List.setIfInBounds_toArray, List.set_cons_zero, List.set_cons_succ]
            refine takeNo (i := 12) rfl (by kernel_rfl) (by kernel_rfl) (by kernel_rfl) (fun _ _ _ h => h) (by rfl) (by assumption) ?_
            try simp only [Act.put, List.setIfInBounds_toArray, List.set_cons_zero, List.set_cons_succ]
            refine takeNo (i := 13) rfl (by kernel_rfl) (by kernel_rfl) (by kernel_rfl) (fun _ _ _ h => h) (by rfl) (by assumption) ?_
            try simp only [Act.put, List.setIfInBounds_toArray, List.set_cons_zero, List.set_cons_succ]
            refine takeNo (i := 14) rfl (by kernel_rfl) (by kernel_rfl) (by kernel_rfl) (fun _ _ _ h => h) (by rfl) (by assumption) ?_
            try simp only [Act.put, List.setIfInBounds_toArray, List.set_cons_zero, List.set_cons_succ]
            refine takeYes (i := 15) (v := .bool false) rfl (by kernel_rfl) (by kernel_rfl) (by kernel_rfl) (fun _ _ _ h => h) (by rfl) ?_ (by assumption) ?_
            · intro w hSw; obtain ⟨sq0, sq1, sq2, sq3⟩ := hSw; go_simp
            try simp only [Act.put, List.setIfInBounds_toArray, List.set_cons_zero, List.set_cons_succ]
            refine takeYes (i := 16) (v := .bool false) rfl (by kernel_rfl) (by kernel_rfl) (by kernel_rfl) (fun _ _ _ h => h) (by rfl) ?_ (by assumption) ?_
            · intro w hSw; obtain ⟨sq0, sq1, sq2, sq3⟩ := hSw; go_simp
            try simp only [Act.put, List.setIfInBounds_toArray, List.set_cons_zero, List.set_cons_succ]
            refine takeYes (i := 17) (v := .bool false) rfl (by kernel_rfl) (by kernel_rfl) (by kernel_rfl) (fun _ _ _ h => h) (by rfl) ?_ (by assumption) ?_
            · intro w hSw; obtain ⟨sq0, sq1, sq2, sq3⟩ := hSw; go_simp
            try simp only [Act.put, List.setIfInBounds_toArray, List.set_cons_zero, List.set_cons_succ]
            refine takeYes (i := 18) (v := .pointer (some ⟨w.heap.size, 0, none⟩)) rfl (by kernel_rfl) (by kernel_rfl) (by kernel_rfl) (fun _ _ _ h => h) (by rfl) ?_ (by assumption) ?_
            · intro w hSw; obtain ⟨sq0, sq1, sq2, sq3⟩ := hSw; go_simp
            try simp only [Act.put, List.setIfInBounds_toArray, List.set_cons_zero, List.set_cons_succ]
            refine takeYes (i := 19) (v := .string ⟨op.toArray⟩) rfl (by kernel_rfl) (by kernel_rfl) (by kernel_rfl) (fun _ _ _ h => h) (by rfl) ?_ (by assumption) ?_
            · intro w hSw; obtain ⟨sq0, sq1, sq2, sq3⟩ := hSw; go_simp
            try simp only [Act.put, List.setIfInBounds_toArray, List.set_cons_zero, List.set_cons_succ]
            refine takeYes (i := 20) (v := .bool false) rfl (by kernel_rfl) (by kernel_rfl) (by kernel_rfl) (fun _ _ _ h => h) (by rfl) ?_ (by assumption) ?_
            · intro w hSw; obtain ⟨sq0, sq1, sq2, sq3⟩ := hSw; go_simp
            try simp only [Act.put, List.setIfInBounds_toArray, List.set_cons_zero, List.set_cons_succ]
            refine takeYes (i := 21) (v := .bool false) rfl (by kernel_rfl) (by kernel_rfl) (by kernel_rfl) (fun _ _ _ h => h) (by rfl) ?_ (by assumption) ?_
            · intro w hSw; obtain ⟨sq0, sq1, sq2, sq3⟩ := hSw; go_simp
            try simp only [Act.put, List.setIfInBounds_toArray, List.set_cons_zero, List.set_cons_succ]
            refine takeYes (i := 22) (v := .pointer (some ⟨w.heap.size, 0, none⟩)) rfl (by kernel_rfl) (by kernel_rfl) (by kernel_rfl) (fun _ _ _ h => h) (by rfl) ?_ (by assumption) ?_
            · intro w hSw; obtain ⟨sq0, sq1, sq2, sq3⟩ := hSw; go_simp
            try simp only [Act.put, List.setIfInBounds_toArray, List.set_cons_zero, List.set_cons_succ]
            refine takeYes (i := 23) (v := .string ⟨op.toArray⟩) rfl (by kernel_rfl) (by kernel_rfl) (by kernel_rfl) (fun _ _ _ h => h) (by rfl) ?_ (by assumption) ?_
            · intro w hSw; obtain ⟨sq0, sq1, sq2, sq3⟩ := hSw; go_simp
            try simp only [Act.put, List.setIfInBounds_toArray, List.set_cons_zero, List.set_cons_succ]
            refine wpAnyH_ready (rs := [24]) (by kernel_rfl) (by simp) ?_
            refine AllReadyH.cons rfl (fun K hK => ?_) AllReadyH.nil
            go_simp
            ((with_reducible refine (rsets_any op _).mono ?_); rintro e1 wy ⟨rfl, rfl⟩)
            rw [hst]
            go_wp2_with fail
            refine hK.out _ _ ?_ (fun hHeld => ?_)
            · assumption
            clear hK K
            try simp only [Act.put, List.setIfInBounds_toArray, List.set_cons_zero, List.set_cons_succ]
            refine takeYes (i := 25) (v := .bool false) rfl (by kernel_rfl) (by kernel_rfl) (by kernel_rfl) (fun _ _ _ h => h) (by rfl) ?_ (by assumption) ?_
            · intro w hSw; obtain ⟨sq0, sq1, sq2, sq3⟩ := hSw; go_simp
            try simp only [Act.put, List.setIfInBounds_toArray, List.set_cons_zero, List.set_cons_succ]
            refine takeYes (i := 26) (v := .bool false) rfl (by kernel_rfl) (by kernel_rfl) (by kernel_rfl) (fun _ _ _ h => h) (by rfl) ?_ (by assumption) ?_
            · intro w hSw; obtain ⟨sq0, sq1, sq2, sq3⟩ := hSw; go_simp
            try simp only [Act.put, List.setIfInBounds_toArray, List.set_cons_zero, List.set_cons_succ]
            refine takeNo (i := 27) rfl (by kernel_rfl) (by kernel_rfl) (by kernel_rfl) (fun _ _ _ h => h) (by rfl) (by assumption) ?_
            try simp only [Act.put, List.setIfInBounds_toArray, List.set_cons_zero, List.set_cons_succ]
            refine takeNo (i := 28) rfl (by kernel_rfl) (by kernel_rfl) (by kernel_rfl) (fun _ _ _ h => h) (by rfl) (by assumption) ?_
            try simp only [Act.put, List.setIfInBounds_toArray, List.set_cons_zero, List.set_cons_succ]
            refine takeNo (i := 29) rfl (by kernel_rfl) (by kernel_rfl) (by kernel_rfl) (fun _ _ _ h => h) (by rfl) (by assumption) ?_
            try simp only [Act.put, List.setIfInBounds_toArray, List.set_cons_zero, List.set_cons_succ]
            refine takeNo (i := 30) rfl (by kernel_rfl) (by kernel_rfl) (by kernel_rfl) (fun _ _ _ h => h) (by rfl) (by assumption) ?_
            try simp only [Act.put, List.setIfInBounds_toArray, List.set_cons_zero, List.set_cons_succ]
            refine takeYes (i := 31) (v := .bool false) rfl (by kernel_rfl) (by kernel_rfl) (by kernel_rfl) (fun _ _ _ h => h) (by rfl) ?_ (by assumption) ?_
            · intro w hSw; obtain ⟨sq0, sq1, sq2, sq3⟩ := hSw; go_simp
            try simp only [Act.put, List.setIfInBounds_toArray, List.set_cons_zero, List.set_cons_succ]
            refine takeYes (i := 32) (v := .bool false) rfl (by kernel_rfl) (by kernel_rfl) (by kernel_rfl) (fun _ _ _ h => h) (by rfl) ?_ (by assumption) ?_
            · intro w hSw; obtain ⟨sq0, sq1, sq2, sq3⟩ := hSw; go_simp
            try simp only [Act.put, List.setIfInBounds_toArray, List.set_cons_zero, List.set_cons_succ]
            refine wpAnyH_done (by kernel_rfl) ?_ _
            go_wp2_with fail
            go_meet
            exact ⟨by rw [HHB.out]; rfl, (Below.refl _ _).drew⟩
          · cases hnb : nameB nm
            · have HHB : Hid (hb = false) := hid (by rw [HH2.out, hnb, hst]; simp)
              clear hnum hnam
              clear hk
              refine wp_region_held_drew (S := (fun w' => w'.cell? ⟨w.heap.size, 0, none⟩ = some (.string ⟨op.toArray⟩) ∧ w'.cell? ⟨w.heap.size, 1, none⟩ = some (.int .i64 n) ∧ w'.cell? ⟨w.heap.size, 2, none⟩ = some (.string ⟨nm.toArray⟩) ∧ w'.cell? ⟨w.heap.size, 3, none⟩ = some (.slice A k.len cap))) (by kernel_rfl) ⟨c0, c1, c2, c3⟩ (fun hHeld => ?_)
              refine takeYes (i := 0) (v := .pointer (some ⟨w.heap.size, 0, none⟩)) rfl (by kernel_rfl) (by kernel_rfl) (by kernel_rfl) (fun _ _ _ h => h) (by rfl) ?_ (by assumption) ?_
              · intro w hSw; obtain ⟨sq0, sq1, sq2, sq3⟩ := hSw; go_simp
              try simp only [Act.put, List.setIfInBounds_toArray, List.set_cons_zero, List.set_cons_succ]
              refine takeYes (i := 1) (v := .string ⟨op.toArray⟩) rfl (by kernel_rfl) (by kernel_rfl) (by kernel_rfl) (fun _ _ _ h => h) (by rfl) ?_ (by assumption) ?_
              · intro w hSw; obtain ⟨sq0, sq1, sq2, sq3⟩ := hSw; go_simp
              try simp only [Act.put, List.setIfInBounds_toArray, List.set_cons_zero, List.set_cons_succ]
              refine takeYes (i := 3) (v := .pointer (some ⟨w.heap.size, 3, none⟩)) rfl (by kernel_rfl) (by kernel_rfl) (by kernel_rfl) (fun _ _ _ h => h) (by rfl) ?_ (by assumption) ?_
              · intro w hSw; obtain ⟨sq0, sq1, sq2, sq3⟩ := hSw; go_simp
              try simp only [Act.put, List.setIfInBounds_toArray, List.set_cons_zero, List.set_cons_succ]
              refine takeYes (i := 4) (v := .slice A k.len cap) rfl (by kernel_rfl) (by kernel_rfl) (by kernel_rfl) (fun _ _ _ h => h) (by rfl) ?_ (by assumption) ?_
              · intro w hSw; obtain ⟨sq0, sq1, sq2, sq3⟩ := hSw; go_simp
              try simp only [Act.put, List.setIfInBounds_toArray, List.set_cons_zero, List.set_cons_succ]
              refine takeYes (i := 5) (v := .int .i64 (k.len : Int)) rfl (by kernel_rfl) (by kernel_rfl) (by kernel_rfl) (fun _ _ _ h => h) (by rfl) ?_ (by assumption) ?_
              · intro w hSw; obtain ⟨sq0, sq1, sq2, sq3⟩ := hSw; go_simp
              try simp only [Act.put, List.setIfInBounds_toArray, List.set_cons_zero, List.set_cons_succ]
              refine wpAnyH_ready (rs := [2]) (by kernel_rfl) (by simp) ?_
              refine AllReadyH.cons rfl (fun K hK => ?_) AllReadyH.nil
              go_simp
              ((with_reducible refine (rkids_any op _).mono ?_); rintro e1 wy ⟨rfl, rfl⟩)
              go_wp2_with fail
              refine hK.out _ _ ?_ (fun hHeld => ?_)
              · assumption
              clear hK K
              try simp only [Act.put, List.setIfInBounds_toArray, List.set_cons_zero, List.set_cons_succ]
              refine takeYes (i := 6) (v := .bool false) rfl (by kernel_rfl) (by kernel_rfl) (by kernel_rfl) (fun _ _ _ h => h) (by rfl) ?_ (by assumption) ?_
              · intro w hSw; obtain ⟨sq0, sq1, sq2, sq3⟩ := hSw; go_simp
              try simp only [Act.put, List.setIfInBounds_toArray, List.set_cons_zero, List.set_cons_succ]
              refine takeYes (i := 7) (v := .bool false) rfl (by kernel_rfl) (by kernel_rfl) (by kernel_rfl) (fun _ _ _ h => h) (by rfl) ?_ (by assumption) ?_
              · intro w hSw; obtain ⟨sq0, sq1, sq2, sq3⟩ := hSw; go_simp
              try simp only [Act.put, List.setIfInBounds_toArray, List.set_cons_zero, List.set_cons_succ]
              refine takeYes (i := 8) (v := .pointer (some ⟨w.heap.size, 0, none⟩)) rfl (by kernel_rfl) (by kernel_rfl) (by kernel_rfl) (fun _ _ _ h => h) (by rfl) ?_ (by assumption) ?_
              · intro w hSw; obtain ⟨sq0, sq1, sq2, sq3⟩ := hSw; go_simp
              try simp only [Act.put, List.setIfInBounds_toArray, List.set_cons_zero, List.set_cons_succ]
              refine takeYes (i := 9) (v := .string ⟨op.toArray⟩) rfl (by kernel_rfl) (by kernel_rfl) (by kernel_rfl) (fun _ _ _ h => h) (by rfl) ?_ (by assumption) ?_
              · intro w hSw; obtain ⟨sq0, sq1, sq2, sq3⟩ := hSw; go_simp
              try simp only [Act.put, List.setIfInBounds_toArray, List.set_cons_zero, List.set_cons_succ]
              refine takeYes (i := 10) (v := .bool false) rfl (by kernel_rfl) (by kernel_rfl) (by kernel_rfl) (fun _ _ _ h => h) (by rfl) ?_ (by assumption) ?_
              · intro w hSw; obtain ⟨sq0, sq1, sq2, sq3⟩ := hSw; go_simp
              try simp only [Act.put, List.setIfInBounds_toArray, List.set_cons_zero, List.set_cons_succ]
              refine takeYes (i := 11) (v := .bool false) rfl (by kernel_rfl) (by kernel_rfl) (by kernel_rfl) (fun _ _ _ h => h) (by rfl) ?_ (by assumption) ?_
              · intro w hSw; obtain ⟨sq0, sq1, sq2, sq3⟩ := hSw; go_simp
              try simp only [Act.put, List.setIfInBounds_toArray, List.set_cons_zero, List.set_cons_succ]
              refine takeNo (i := 12) rfl (by kernel_rfl) (by kernel_rfl) (by kernel_rfl) (fun _ _ _ h => h) (by rfl) (by assumption) ?_
              try simp only [Act.put, List.setIfInBounds_toArray, List.set_cons_zero, List.set_cons_succ]
              refine takeNo (i := 13) rfl (by kernel_rfl) (by kernel_rfl) (by kernel_rfl) (fun _ _ _ h => h) (by rfl) (by assumption) ?_
              try simp only [Act.put, List.setIfInBounds_toArray, List.set_cons_zero, List.set_cons_succ]
              refine takeNo (i := 14) rfl (by kernel_rfl) (by kernel_rfl) (by kernel_rfl) (fun _ _ _ h => h) (by rfl) (by assumption) ?_
              try simp only [Act.put, List.setIfInBounds_toArray, List.set_cons_zero, List.set_cons_succ]
              refine takeYes (i := 15) (v := .bool false) rfl (by kernel_rfl) (by kernel_rfl) (by kernel_rfl) (fun _ _ _ h => h) (by rfl) ?_ (by assumption) ?_
              · intro w hSw; obtain ⟨sq0, sq1, sq2, sq3⟩ := hSw; go_simp
              try simp only [Act.put, List.setIfInBounds_toArray, List.set_cons_zero, List.set_cons_succ]
              refine takeYes (i := 16) (v := .bool false) rfl (by kernel_rfl) (by kernel_rfl) (by kernel_rfl) (fun _ _ _ h => h) (by rfl) ?_ (by assumption) ?_
              · intro w hSw; obtain ⟨sq0, sq1, sq2, sq3⟩ := hSw; go_simp
              try simp only [Act.put, List.setIfInBounds_toArray, List.set_cons_zero, List.set_cons_succ]
              refine takeYes (i := 17) (v := .bool false) rfl (by kernel_rfl) (by kernel_rfl) (by kernel_rfl) (fun _ _ _ h => h) (by rfl) ?_ (by assumption) ?_
              · intro w hSw; obtain ⟨sq0, sq1, sq2, sq3⟩ := hSw; go_simp
              try simp only [Act.put, List.setIfInBounds_toArray, List.set_cons_zero, List.set_cons_succ]
              refine takeYes (i := 18) (v := .pointer (some ⟨w.heap.size, 0, none⟩)) rfl (by kernel_rfl) (by kernel_rfl) (by kernel_rfl) (fun _ _ _ h => h) (by rfl) ?_ (by assumption) ?_
              · intro w hSw; obtain ⟨sq0, sq1, sq2, sq3⟩ := hSw; go_simp
              try simp only [Act.put, List.setIfInBounds_toArray, List.set_cons_zero, List.set_cons_succ]
              refine takeYes (i := 19) (v := .string ⟨op.toArray⟩) rfl (by kernel_rfl) (by kernel_rfl) (by kernel_rfl) (fun _ _ _ h => h) (by rfl) ?_ (by assumption) ?_
              · intro w hSw; obtain ⟨sq0, sq1, sq2, sq3⟩ := hSw; go_simp
              try simp only [Act.put, List.setIfInBounds_toArray, List.set_cons_zero, List.set_cons_succ]
              refine takeYes (i := 20) (v := .bool false) rfl (by kernel_rfl) (by kernel_rfl) (by kernel_rfl) (fun _ _ _ h => h) (by rfl) ?_ (by assumption) ?_
              · intro w hSw; obtain ⟨sq0, sq1, sq2, sq3⟩ := hSw; go_simp
              try simp only [Act.put, List.setIfInBounds_toArray, List.set_cons_zero, List.set_cons_succ]
              refine takeYes (i := 21) (v := .bool false) rfl (by kernel_rfl) (by kernel_rfl) (by kernel_rfl) (fun _ _ _ h => h) (by rfl) ?_ (by assumption) ?_
              · intro w hSw; obtain ⟨sq0, sq1, sq2, sq3⟩ := hSw; go_simp
              try simp only [Act.put, List.setIfInBounds_toArray, List.set_cons_zero, List.set_cons_succ]
              refine takeYes (i := 22) (v := .pointer (some ⟨w.heap.size, 0, none⟩)) rfl (by kernel_rfl) (by kernel_rfl) (by kernel_rfl) (fun _ _ _ h => h) (by rfl) ?_ (by assumption) ?_
              · intro w hSw; obtain ⟨sq0, sq1, sq2, sq3⟩ := hSw; go_simp
              try simp only [Act.put, List.setIfInBounds_toArray, List.set_cons_zero, List.set_cons_succ]
              refine takeYes (i := 23) (v := .string ⟨op.toArray⟩) rfl (by kernel_rfl) (by kernel_rfl) (by kernel_rfl) (fun _ _ _ h => h) (by rfl) ?_ (by assumption) ?_
              · intro w hSw; obtain ⟨sq0, sq1, sq2, sq3⟩ := hSw; go_simp
              try simp only [Act.put, List.setIfInBounds_toArray, List.set_cons_zero, List.set_cons_succ]
              refine wpAnyH_ready (rs := [24]) (by kernel_rfl) (by simp) ?_
              refine AllReadyH.cons rfl (fun K hK => ?_) AllReadyH.nil
              go_simp
              ((with_reducible refine (rsets_any op _).mono ?_); rintro e1 wy ⟨rfl, rfl⟩)
              rw [hst]
              go_wp2_with fail
              refine hK.out _ _ ?_ (fun hHeld => ?_)
              · assumption
              clear hK K
              try simp only [Act.put, List.setIfInBounds_toArray, List.set_cons_zero, List.set_cons_succ]
              refine takeYes (i := 25) (v := .bool true) rfl (by kernel_rfl) (by kernel_rfl) (by kernel_rfl) (fun _ _ _ h => h) (by rfl) ?_ (by assumption) ?_
              · intro w hSw; obtain ⟨sq0, sq1, sq2, sq3⟩ := hSw; go_simp
              try simp only [Act.put, List.setIfInBounds_toArray, List.set_cons_zero, List.set_cons_succ]
              refine takeYes (i := 26) (v := .bool true) rfl (by kernel_rfl) (by kernel_rfl) (by kernel_rfl) (fun _ _ _ h => h) (by rfl) ?_ (by assumption) ?_
              · intro w hSw; obtain ⟨sq0, sq1, sq2, sq3⟩ := hSw; go_simp
              try simp only [Act.put, List.setIfInBounds_toArray, List.set_cons_zero, List.set_cons_succ]
              refine takeYes (i := 27) (v := .pointer (some ⟨w.heap.size, 2, none⟩)) rfl (by kernel_rfl) (by kernel_rfl) (by kernel_rfl) (fun _ _ _ h => h) (by rfl) ?_ (by assumption) ?_
              · intro w hSw; obtain ⟨sq0, sq1, sq2, sq3⟩ := hSw; go_simp
              try simp only [Act.put, List.setIfInBounds_toArray, List.set_cons_zero, List.set_cons_succ]
              refine takeYes (i := 28) (v := .string ⟨nm.toArray⟩) rfl (by kernel_rfl) (by kernel_rfl) (by kernel_rfl) (fun _ _ _ h => h) (by rfl) ?_ (by assumption) ?_
              · intro w hSw; obtain ⟨sq0, sq1, sq2, sq3⟩ := hSw; go_simp
              try simp only [Act.put, List.setIfInBounds_toArray, List.set_cons_zero, List.set_cons_succ]
              refine wpAnyH_ready (rs := [29]) (by kernel_rfl) (by simp) ?_
              refine AllReadyH.cons rfl (fun K hK => ?_) AllReadyH.nil
              go_simp
              ((with_reducible refine (rname_l nm _ hnl).mono ?_); rintro e1 wy ⟨rfl, rfl⟩)
              rw [hnb]
              go_wp2_with fail
              refine hK.out _ _ ?_ (fun hHeld => ?_)
              · assumption
              clear hK K
              try simp only [Act.put, List.setIfInBounds_toArray, List.set_cons_zero, List.set_cons_succ]
              refine takeYes (i := 30) (v := .bool true) rfl (by kernel_rfl) (by kernel_rfl) (by kernel_rfl) (fun _ _ _ h => h) (by rfl) ?_ (by assumption) ?_
              · intro w hSw; obtain ⟨sq0, sq1, sq2, sq3⟩ := hSw; go_simp
              try simp only [Act.put, List.setIfInBounds_toArray, List.set_cons_zero, List.set_cons_succ]
              refine takeYes (i := 31) (v := .bool true) rfl (by kernel_rfl) (by kernel_rfl) (by kernel_rfl) (fun _ _ _ h => h) (by rfl) ?_ (by assumption) ?_
              · intro w hSw; obtain ⟨sq0, sq1, sq2, sq3⟩ := hSw; go_simp
              try simp only [Act.put, List.setIfInBounds_toArray, List.set_cons_zero, List.set_cons_succ]
              refine takeYes (i := 32) (v := .bool true) rfl (by kernel_rfl) (by kernel_rfl) (by kernel_rfl) (fun _ _ _ h => h) (by rfl) ?_ (by assumption) ?_
              · intro w hSw; obtain ⟨sq0, sq1, sq2, sq3⟩ := hSw; go_simp
              try simp only [Act.put, List.setIfInBounds_toArray, List.set_cons_zero, List.set_cons_succ]
              refine wpAnyH_done (by kernel_rfl) ?_ _
              go_wp2_with fail
              go_meet
              exact ⟨by rw [HHB.out]; rfl, (Below.refl _ _).drew⟩
            · have HHB : Hid (hb = true) := hid (by rw [HH2.out, hnb, hst]; simp)
              clear hnum hnam
              clear hk
              refine wp_region_held_drew (S := (fun w' => w'.cell? ⟨w.heap.size, 0, none⟩ = some (.string ⟨op.toArray⟩) ∧ w'.cell? ⟨w.heap.size, 1, none⟩ = some (.int .i64 n) ∧ w'.cell? ⟨w.heap.size, 2, none⟩ = some (.string ⟨nm.toArray⟩) ∧ w'.cell? ⟨w.heap.size, 3, none⟩ = some (.slice A k.len cap))) (by kernel_rfl) ⟨c0, c1, c2, c3⟩ (fun hHeld => ?_)
              refine takeYes (i := 0) (v := .pointer (some ⟨w.heap.size, 0, none⟩)) rfl (by kernel_rfl) (by kernel_rfl) (by kernel_rfl) (fun _ _ _ h => h) (by rfl) ?_ (by assumption) ?_
              · intro w hSw; obtain ⟨sq0, sq1, sq2, sq3⟩ := hSw; go_simp
              try simp only [Act.put, List.setIfInBounds_toArray, List.set_cons_zero, List.set_cons_succ]
              refine takeYes (i := 1) (v := .string ⟨op.toArray⟩) rfl (by kernel_rfl) (by kernel_rfl) (by kernel_rfl) (fun _ _ _ h => h) (by rfl) ?_ (by assumption) ?_
              · intro w hSw; obtain ⟨sq0, sq1, sq2, sq3⟩ := hSw; go_simp
              try simp only [Act.put, List.setIfInBounds_toArray, List.set_cons_zero, List.set_cons_succ]
              refine takeYes (i := 3) (v := .pointer (some ⟨w.heap.size, 3, none⟩)) rfl (by kernel_rfl) (by kernel_rfl) (by kernel_rfl) (fun _ _ _ h => h) (by rfl) ?_ (by assumption) ?_
              · intro w hSw; obtain ⟨sq0, sq1, sq2, sq3⟩ := hSw; go_simp
              try simp only [Act.put, List.setIfInBounds_toArray, List.set_cons_zero, List.set_cons_succ]
              refine takeYes (i := 4) (v := .slice A k.len cap) rfl (by kernel_rfl) (by kernel_rfl) (by kernel_rfl) (fun _ _ _ h => h) (by rfl) ?_ (by assumption) ?_
              · intro w hSw; obtain ⟨sq0, sq1, sq2, sq3⟩ := hSw; go_simp
              try simp only [Act.put, List.setIfInBounds_toArray, List.set_cons_zero, List.set_cons_succ]
              refine takeYes (i := 5) (v := .int .i64 (k.len : Int)) rfl (by kernel_rfl) (by kernel_rfl) (by kernel_rfl) (fun _ _ _ h => h) (by rfl) ?_ (by assumption) ?_
              · intro w hSw; obtain ⟨sq0, sq1, sq2, sq3⟩ := hSw; go_simp
              try simp only [Act.put, List.setIfInBounds_toArray, List.set_cons_zero, List.set_cons_succ]
              refine wpAnyH_ready (rs := [2]) (by kernel_rfl) (by simp) ?_
              refine AllReadyH.cons rfl (fun K hK => ?_) AllReadyH.nil
              go_simp
              ((with_reducible refine (rkids_any op _).mono ?_); rintro e1 wy ⟨rfl, rfl⟩)
              go_wp2_with fail
              refine hK.out _ _ ?_ (fun hHeld => ?_)
              · assumption
              clear hK K
              try simp only [Act.put, List.setIfInBounds_toArray, List.set_cons_zero, List.set_cons_succ]
              refine takeYes (i := 6) (v := .bool false) rfl (by kernel_rfl) (by kernel_rfl) (by kernel_rfl) (fun _ _ _ h => h) (by rfl) ?_ (by assumption) ?_
              · intro w hSw; obtain ⟨sq0, sq1, sq2, sq3⟩ := hSw; go_simp
              try simp only [Act.put, List.setIfInBounds_toArray, List.set_cons_zero, List.set_cons_succ]
              refine takeYes (i := 7) (v := .bool false) rfl (by kernel_rfl) (by kernel_rfl) (by kernel_rfl) (fun _ _ _ h => h) (by rfl) ?_ (by assumption) ?_
              · intro w hSw; obtain ⟨sq0, sq1, sq2, sq3⟩ := hSw; go_simp
              try simp only [Act.put, List.setIfInBounds_toArray, List.set_cons_zero, List.set_cons_succ]
              refine takeYes (i := 8) (v := .pointer (some ⟨w.heap.size, 0, none⟩)) rfl (by kernel_rfl) (by kernel_rfl) (by kernel_rfl) (fun _ _ _ h => h) (by rfl) ?_ (by assumption) ?_
              · intro w hSw; obtain ⟨sq0, sq1, sq2, sq3⟩ := hSw; go_simp
              try simp only [Act.put, List.setIfInBounds_toArray, List.set_cons_zero, List.set_cons_succ]
              refine takeYes (i := 9) (v := .string ⟨op.toArray⟩) rfl (by kernel_rfl) (by kernel_rfl) (by kernel_rfl) (fun _ _ _ h => h) (by rfl) ?_ (by assumption) ?_
              · intro w hSw; obtain ⟨sq0, sq1, sq2, sq3⟩ := hSw; go_simp
              try simp only [Act.put, List.setIfInBounds_toArray, List.set_cons_zero, List.set_cons_succ]
              refine takeYes (i := 10) (v := .bool false) rfl (by kernel_rfl) (by kernel_rfl) (by kernel_rfl) (fun _ _ _ h => h) (by rfl) ?_ (by assumption) ?_
              · intro w hSw; obtain ⟨sq0, sq1, sq2, sq3⟩ := hSw; go_simp
              try simp only [Act.put, List.setIfInBounds_toArray, List.set_cons_zero, List.set_cons_succ]
              refine takeYes (i := 11) (v := .bool false) rfl (by kernel_rfl) (by kernel_rfl) (by kernel_rfl) (fun _ _ _ h => h) (by rfl) ?_ (by assumption) ?_
              · intro w hSw; obtain ⟨sq0, sq1, sq2, sq3⟩ := hSw; go_simp
              try simp only [Act.put, List.setIfInBounds_toArray, List.set_cons_zero, List.set_cons_succ]
              refine takeNo (i := 12) rfl (by kernel_rfl) (by kernel_rfl) (by kernel_rfl) (fun _ _ _ h => h) (by rfl) (by assumption) ?_
              try simp only [Act.put, List.setIfInBounds_toArray, List.set_cons_zero, List.set_cons_succ]
              refine takeNo (i := 13) rfl (by kernel_rfl) (by kernel_rfl) (by kernel_rfl) (fun _ _ _ h => h) (by rfl) (by assumption) ?_
              try simp only [Act.put, List.setIfInBounds_toArray, List.set_cons_zero, List.set_cons_succ]
              refine takeNo (i := 14) rfl (by kernel_rfl) (by kernel_rfl) (by kernel_rfl) (fun _ _ _ h => h) (by rfl) (by assumption) ?_
              try simp only [Act.put, List.setIfInBounds_toArray, List.set_cons_zero, List.set_cons_succ]
              refine takeYes (i := 15) (v := .bool false) rfl (by kernel_rfl) (by kernel_rfl) (by kernel_rfl) (fun _ _ _ h => h) (by rfl) ?_ (by assumption) ?_
              · intro w hSw; obtain ⟨sq0, sq1, sq2, sq3⟩ := hSw; go_simp
              try simp only [Act.put, List.setIfInBounds_toArray, List.set_cons_zero, List.set_cons_succ]
              refine takeYes (i := 16) (v := .bool false) rfl (by kernel_rfl) (by kernel_rfl) (by kernel_rfl) (fun _ _ _ h => h) (by rfl) ?_ (by assumption) ?_
              · intro w hSw; obtain ⟨sq0, sq1, sq2, sq3⟩ := hSw; go_simp
              try simp only [Act.put, List.setIfInBounds_toArray, List.set_cons_zero, List.set_cons_succ]
              refine takeYes (i := 17) (v := .bool false) rfl (by kernel_rfl) (by kernel_rfl) (by kernel_rfl) (fun _ _ _ h => h) (by rfl) ?_ (by assumption) ?_
              · intro w hSw; obtain ⟨sq0, sq1, sq2, sq3⟩ := hSw; go_simp
              try simp only [Act.put, List.setIfInBounds_toArray, List.set_cons_zero, List.set_cons_succ]
              refine takeYes (i := 18) (v := .pointer (some ⟨w.heap.size, 0, none⟩)) rfl (by kernel_rfl) (by kernel_rfl) (by kernel_rfl) (fun _ _ _ h => h) (by rfl) ?_ (by assumption) ?_
              · intro w hSw; obtain ⟨sq0, sq1, sq2, sq3⟩ := hSw; go_simp
              try simp only [Act.put, List.setIfInBounds_toArray, List.set_cons_zero, List.set_cons_succ]
              refine takeYes (i := 19) (v := .string ⟨op.toArray⟩) rfl (by kernel_rfl) (by kernel_rfl) (by kernel_rfl) (fun _ _ _ h => h) (by rfl) ?_ (by assumption) ?_
              · intro w hSw; obtain ⟨sq0, sq1, sq2, sq3⟩ := hSw; go_simp
              try simp only [Act.put, List.setIfInBounds_toArray, List.set_cons_zero, List.set_cons_succ]
              refine takeYes (i := 20) (v := .bool false) rfl (by kernel_rfl) (by kernel_rfl) (by kernel_rfl) (fun _ _ _ h => h) (by rfl) ?_ (by assumption) ?_
              · intro w hSw; obtain ⟨sq0, sq1, sq2, sq3⟩ := hSw; go_simp
              try simp only [Act.put, List.setIfInBounds_toArray, List.set_cons_zero, List.set_cons_succ]
              refine takeYes (i := 21) (v := .bool false) rfl (by kernel_rfl) (by kernel_rfl) (by kernel_rfl) (fun _ _ _ h => h) (by rfl) ?_ (by assumption) ?_
              · intro w hSw; obtain ⟨sq0, sq1, sq2, sq3⟩ := hSw; go_simp
              try simp only [Act.put, List.setIfInBounds_toArray, List.set_cons_zero, List.set_cons_succ]
              refine takeYes (i := 22) (v := .pointer (some ⟨w.heap.size, 0, none⟩)) rfl (by kernel_rfl) (by kernel_rfl) (by kernel_rfl) (fun _ _ _ h => h) (by rfl) ?_ (by assumption) ?_
              · intro w hSw; obtain ⟨sq0, sq1, sq2, sq3⟩ := hSw; go_simp
              try simp only [Act.put, List.setIfInBounds_toArray, List.set_cons_zero, List.set_cons_succ]
              refine takeYes (i := 23) (v := .string ⟨op.toArray⟩) rfl (by kernel_rfl) (by kernel_rfl) (by kernel_rfl) (fun _ _ _ h => h) (by rfl) ?_ (by assumption) ?_
              · intro w hSw; obtain ⟨sq0, sq1, sq2, sq3⟩ := hSw; go_simp
              try simp only [Act.put, List.setIfInBounds_toArray, List.set_cons_zero, List.set_cons_succ]
              refine wpAnyH_ready (rs := [24]) (by kernel_rfl) (by simp) ?_
              refine AllReadyH.cons rfl (fun K hK => ?_) AllReadyH.nil
              go_simp
              ((with_reducible refine (rsets_any op _).mono ?_); rintro e1 wy ⟨rfl, rfl⟩)
              rw [hst]
              go_wp2_with fail
              refine hK.out _ _ ?_ (fun hHeld => ?_)
              · assumption
              clear hK K
              try simp only [Act.put, List.setIfInBounds_toArray, List.set_cons_zero, List.set_cons_succ]
              refine takeYes (i := 25) (v := .bool true) rfl (by kernel_rfl) (by kernel_rfl) (by kernel_rfl) (fun _ _ _ h => h) (by rfl) ?_ (by assumption) ?_
              · intro w hSw; obtain ⟨sq0, sq1, sq2, sq3⟩ := hSw; go_simp
              try simp only [Act.put, List.setIfInBounds_toArray, List.set_cons_zero, List.set_cons_succ]
              refine takeYes (i := 26) (v := .bool true) rfl (by kernel_rfl) (by kernel_rfl) (by kernel_rfl) (fun _ _ _ h => h) (by rfl) ?_ (by assumption) ?_
              · intro w hSw; obtain ⟨sq0, sq1, sq2, sq3⟩ := hSw; go_simp
              try simp only [Act.put, List.setIfInBounds_toArray, List.set_cons_zero, List.set_cons_succ]
              refine takeYes (i := 27) (v := .pointer (some ⟨w.heap.size, 2, none⟩)) rfl (by kernel_rfl) (by kernel_rfl) (by kernel_rfl) (fun _ _ _ h => h) (by rfl) ?_ (by assumption) ?_
              · intro w hSw; obtain ⟨sq0, sq1, sq2, sq3⟩ := hSw; go_simp
              try simp only [Act.put, List.setIfInBounds_toArray, List.set_cons_zero, List.set_cons_succ]
              refine takeYes (i := 28) (v := .string ⟨nm.toArray⟩) rfl (by kernel_rfl) (by kernel_rfl) (by kernel_rfl) (fun _ _ _ h => h) (by rfl) ?_ (by assumption) ?_
              · intro w hSw; obtain ⟨sq0, sq1, sq2, sq3⟩ := hSw; go_simp
              try simp only [Act.put, List.setIfInBounds_toArray, List.set_cons_zero, List.set_cons_succ]
              refine wpAnyH_ready (rs := [29]) (by kernel_rfl) (by simp) ?_
              refine AllReadyH.cons rfl (fun K hK => ?_) AllReadyH.nil
              go_simp
              ((with_reducible refine (rname_l nm _ hnl).mono ?_); rintro e1 wy ⟨rfl, rfl⟩)
              rw [hnb]
              go_wp2_with fail
              refine hK.out _ _ ?_ (fun hHeld => ?_)
              · assumption
              clear hK K
              try simp only [Act.put, List.setIfInBounds_toArray, List.set_cons_zero, List.set_cons_succ]
              refine takeYes (i := 30) (v := .bool false) rfl (by kernel_rfl) (by kernel_rfl) (by kernel_rfl) (fun _ _ _ h => h) (by rfl) ?_ (by assumption) ?_
              · intro w hSw; obtain ⟨sq0, sq1, sq2, sq3⟩ := hSw; go_simp
              try simp only [Act.put, List.setIfInBounds_toArray, List.set_cons_zero, List.set_cons_succ]
              refine takeYes (i := 31) (v := .bool false) rfl (by kernel_rfl) (by kernel_rfl) (by kernel_rfl) (fun _ _ _ h => h) (by rfl) ?_ (by assumption) ?_
              · intro w hSw; obtain ⟨sq0, sq1, sq2, sq3⟩ := hSw; go_simp
              try simp only [Act.put, List.setIfInBounds_toArray, List.set_cons_zero, List.set_cons_succ]
              refine takeYes (i := 32) (v := .bool false) rfl (by kernel_rfl) (by kernel_rfl) (by kernel_rfl) (fun _ _ _ h => h) (by rfl) ?_ (by assumption) ?_
              · intro w hSw; obtain ⟨sq0, sq1, sq2, sq3⟩ := hSw; go_simp
              try simp only [Act.put, List.setIfInBounds_toArray, List.set_cons_zero, List.set_cons_succ]
              refine wpAnyH_done (by kernel_rfl) ?_ _
              go_wp2_with fail
              go_meet
              exact ⟨by rw [HHB.out]; rfl, (Below.refl _ _).drew⟩
    · have hk' : ¬ kidsF op = (k.len : Int) := fun h => hk h.symm
      have HHB : Hid (hb = false) := hid (by rw [HH.out, decide_eq_false hk]; simp)
      refine wp_region_held_drew (S := (fun w' => w'.cell? ⟨w.heap.size, 0, none⟩ = some (.string ⟨op.toArray⟩) ∧ w'.cell? ⟨w.heap.size, 1, none⟩ = some (.int .i64 n) ∧ w'.cell? ⟨w.heap.size, 2, none⟩ = some (.string ⟨nm.toArray⟩) ∧ w'.cell? ⟨w.heap.size, 3, none⟩ = some (.slice A k.len cap))) (by kernel_rfl) ⟨c0, c1, c2, c3⟩ (fun hHeld => ?_)
      refine takeYes (i := 0) (v := .pointer (some ⟨w.heap.size, 0, none⟩)) rfl (by kernel_rfl) (by kernel_rfl) (by kernel_rfl) (fun _ _ _ h => h) (by rfl) ?_ (by assumption) ?_
      · intro w hSw; obtain ⟨sq0, sq1, sq2, sq3⟩ := hSw; go_simp
      try simp only [Act.put, List.setIfInBounds_toArray, List.set_cons_zero, List.set_cons_succ]
      refine takeYes (i := 1) (v := .string ⟨op.toArray⟩) rfl (by kernel_rfl) (by kernel_rfl) (by kernel_rfl) (fun _ _ _ h => h) (by rfl) ?_ (by assumption) ?_
      · intro w hSw; obtain ⟨sq0, sq1, sq2, sq3⟩ := hSw; go_simp
      try simp only [Act.put, List.setIfInBounds_toArray, List.set_cons_zero, List.set_cons_succ]
      refine takeYes (i := 3) (v := .pointer (some ⟨w.heap.size, 3, none⟩)) rfl (by kernel_rfl) (by kernel_rfl) (by kernel_rfl) (fun _ _ _ h => h) (by rfl) ?_ (by assumption) ?_
      · intro w hSw; obtain ⟨sq0, sq1, sq2, sq3⟩ := hSw; go_simp
      try simp only [Act.put, List.setIfInBounds_toArray, List.set_cons_zero, List.set_cons_succ]
      refine takeYes (i := 4) (v := .slice A k.len cap) rfl (by kernel_rfl) (by kernel_rfl) (by kernel_rfl) (fun _ _ _ h => h) (by rfl) ?_ (by assumption) ?_
      · intro w hSw; obtain ⟨sq0, sq1, sq2, sq3⟩ := hSw; go_simp
      try simp only [Act.put, List.setIfInBounds_toArray, List.set_cons_zero, List.set_cons_succ]
      refine takeYes (i := 5) (v := .int .i64 (k.len : Int)) rfl (by kernel_rfl) (by kernel_rfl) (by kernel_rfl) (fun _ _ _ h => h) (by rfl) ?_ (by assumption) ?_
      · intro w hSw; obtain ⟨sq0, sq1, sq2, sq3⟩ := hSw; go_simp
      try simp only [Act.put, List.setIfInBounds_toArray, List.set_cons_zero, List.set_cons_succ]
      refine wpAnyH_ready (rs := [2]) (by kernel_rfl) (by simp) ?_
      refine AllReadyH.cons rfl (fun K hK => ?_) AllReadyH.nil
      go_simp
      ((with_reducible refine (rkids_any op _).mono ?_); rintro e1 wy ⟨rfl, rfl⟩)
      go_wp2_with fail
      refine hK.out _ _ ?_ (fun hHeld => ?_)
      · assumption
      clear hK K
      try simp only [Act.put, List.setIfInBounds_toArray, List.set_cons_zero, List.set_cons_succ]
      refine takeYes (i := 6) (v := .bool true) rfl (by kernel_rfl) (by kernel_rfl) (by kernel_rfl) (fun _ _ _ h => h) (by rfl) ?_ (by assumption) ?_
      · intro w hSw; obtain ⟨sq0, sq1, sq2, sq3⟩ := hSw; go_simp
      try simp only [Act.put, List.setIfInBounds_toArray, List.set_cons_zero, List.set_cons_succ]
      refine takeYes (i := 7) (v := .bool true) rfl (by kernel_rfl) (by kernel_rfl) (by kernel_rfl) (fun _ _ _ h => h) (by rfl) ?_ (by assumption) ?_
      · intro w hSw; obtain ⟨sq0, sq1, sq2, sq3⟩ := hSw; go_simp
      try simp only [Act.put, List.setIfInBounds_toArray, List.set_cons_zero, List.set_cons_succ]
      refine takeNo (i := 8) rfl (by kernel_rfl) (by kernel_rfl) (by kernel_rfl) (fun _ _ _ h => h) (by rfl) (by assumption) ?_
      try simp only [Act.put, List.setIfInBounds_toArray, List.set_cons_zero, List.set_cons_succ]
      refine takeNo (i := 9) rfl (by kernel_rfl) (by kernel_rfl) (by kernel_rfl) (fun _ _ _ h => h) (by rfl) (by assumption) ?_
      try simp only [Act.put, List.setIfInBounds_toArray, List.set_cons_zero, List.set_cons_succ]
      refine takeNo (i := 10) rfl (by kernel_rfl) (by kernel_rfl) (by kernel_rfl) (fun _ _ _ h => h) (by rfl) (by assumption) ?_
      try simp only [Act.put, List.setIfInBounds_toArray, List.set_cons_zero, List.set_cons_succ]
      refine takeNo (i := 11) rfl (by kernel_rfl) (by kernel_rfl) (by kernel_rfl) (fun _ _ _ h => h) (by rfl) (by assumption) ?_
      try simp only [Act.put, List.setIfInBounds_toArray, List.set_cons_zero, List.set_cons_succ]
      refine takeNo (i := 12) rfl (by kernel_rfl) (by kernel_rfl) (by kernel_rfl) (fun _ _ _ h => h) (by rfl) (by assumption) ?_
      try simp only [Act.put, List.setIfInBounds_toArray, List.set_cons_zero, List.set_cons_succ]
      refine takeNo (i := 13) rfl (by kernel_rfl) (by kernel_rfl) (by kernel_rfl) (fun _ _ _ h => h) (by rfl) (by assumption) ?_
      try simp only [Act.put, List.setIfInBounds_toArray, List.set_cons_zero, List.set_cons_succ]
      refine takeNo (i := 14) rfl (by kernel_rfl) (by kernel_rfl) (by kernel_rfl) (fun _ _ _ h => h) (by rfl) (by assumption) ?_
      try simp only [Act.put, List.setIfInBounds_toArray, List.set_cons_zero, List.set_cons_succ]
      refine takeNo (i := 15) rfl (by kernel_rfl) (by kernel_rfl) (by kernel_rfl) (fun _ _ _ h => h) (by rfl) (by assumption) ?_
      try simp only [Act.put, List.setIfInBounds_toArray, List.set_cons_zero, List.set_cons_succ]
      refine takeYes (i := 16) (v := .bool true) rfl (by kernel_rfl) (by kernel_rfl) (by kernel_rfl) (fun _ _ _ h => h) (by rfl) ?_ (by assumption) ?_
      · intro w hSw; obtain ⟨sq0, sq1, sq2, sq3⟩ := hSw; go_simp
      try simp only [Act.put, List.setIfInBounds_toArray, List.set_cons_zero, List.set_cons_succ]
      refine takeYes (i := 17) (v := .bool true) rfl (by kernel_rfl) (by kernel_rfl) (by kernel_rfl) (fun _ _ _ h => h) (by rfl) ?_ (by assumption) ?_
      · intro w hSw; obtain ⟨sq0, sq1, sq2, sq3⟩ := hSw; go_simp
      try simp only [Act.put, List.setIfInBounds_toArray, List.set_cons_zero, List.set_cons_succ]
      refine takeNo (i := 18) rfl (by kernel_rfl) (by kernel_rfl) (by kernel_rfl) (fun _ _ _ h => h) (by rfl) (by assumption) ?_
      try simp only [Act.put, List.setIfInBounds_toArray, List.set_cons_zero, List.set_cons_succ]
      refine takeNo (i := 19) rfl (by kernel_rfl) (by kernel_rfl) (by kernel_rfl) (fun _ _ _ h => h) (by rfl) (by assumption) ?_
      try simp only [Act.put, List.setIfInBounds_toArray, List.set_cons_zero, List.set_cons_succ]
      refine takeNo (i := 20) rfl (by kernel_rfl) (by kernel_rfl) (by kernel_rfl) (fun _ _ _ h => h) (by rfl) (by assumption) ?_
      try simp only [Act.put, List.setIfInBounds_toArray, List.set_cons_zero, List.set_cons_succ]
      refine takeNo (i := 21) rfl (by kernel_rfl) (by kernel_rfl) (by kernel_rfl) (fun _ _ _ h => h) (by rfl) (by assumption) ?_
      try simp only [Act.put, List.setIfInBounds_toArray, List.set_cons_zero, List.set_cons_succ]
      refine takeNo (i := 22) rfl (by kernel_rfl) (by kernel_rfl) (by kernel_rfl) (fun _ _ _ h => h) (by rfl) (by assumption) ?_
      try simp only [Act.put, List.setIfInBounds_toArray, List.set_cons_zero, List.set_cons_succ]
      refine takeNo (i := 23) rfl (by kernel_rfl) (by kernel_rfl) (by kernel_rfl) (fun _ _ _ h => h) (by rfl) (by assumption) ?_
      try simp only [Act.put, List.setIfInBounds_toArray, List.set_cons_zero, List.set_cons_succ]
      refine takeNo (i := 24) rfl (by kernel_rfl) (by kernel_rfl) (by kernel_rfl) (fun _ _ _ h => h) (by rfl) (by assumption) ?_
      try simp only [Act.put, List.setIfInBounds_toArray, List.set_cons_zero, List.set_cons_succ]
      refine takeNo (i := 25) rfl (by kernel_rfl) (by kernel_rfl) (by kernel_rfl) (fun _ _ _ h => h) (by rfl) (by assumption) ?_
      try simp only [Act.put, List.setIfInBounds_toArray, List.set_cons_zero, List.set_cons_succ]
      refine takeNo (i := 26) rfl (by kernel_rfl) (by kernel_rfl) (by kernel_rfl) (fun _ _ _ h => h) (by rfl) (by assumption) ?_
      try simp only [Act.put, List.setIfInBounds_toArray, List.set_cons_zero, List.set_cons_succ]
      refine takeNo (i := 27) rfl (by kernel_rfl) (by kernel_rfl) (by kernel_rfl) (fun _ _ _ h => h) (by rfl) (by assumption) ?_
      try simp only [Act.put, List.setIfInBounds_toArray, List.set_cons_zero, List.set_cons_succ]
      refine takeNo (i := 28) rfl (by kernel_rfl) (by kernel_rfl) (by kernel_rfl) (fun _ _ _ h => h) (by rfl) (by assumption) ?_
      try simp only [Act.put, List.setIfInBounds_toArray, List.set_cons_zero, List.set_cons_succ]
      refine takeNo (i := 29) rfl (by kernel_rfl) (by kernel_rfl) (by kernel_rfl) (fun _ _ _ h => h) (by rfl) (by assumption) ?_
      try simp only [Act.put, List.setIfInBounds_toArray, List.set_cons_zero, List.set_cons_succ]
      refine takeNo (i := 30) rfl (by kernel_rfl) (by kernel_rfl) (by kernel_rfl) (fun _ _ _ h => h) (by rfl) (by assumption) ?_
      try simp only [Act.put, List.setIfInBounds_toArray, List.set_cons_zero, List.set_cons_succ]
      refine takeNo (i := 31) rfl (by kernel_rfl) (by kernel_rfl) (by kernel_rfl) (fun _ _ _ h => h) (by rfl) (by assumption) ?_
      try simp only [Act.put, List.setIfInBounds_toArray, List.set_cons_zero, List.set_cons_succ]
      refine takeYes (i := 32) (v := .bool true) rfl (by kernel_rfl) (by kernel_rfl) (by kernel_rfl) (fun _ _ _ h => h) (by rfl) ?_ (by assumption) ?_
      · intro w hSw; obtain ⟨sq0, sq1, sq2, sq3⟩ := hSw; go_simp
      try simp only [Act.put, List.setIfInBounds_toArray, List.set_cons_zero, List.set_cons_succ]
      refine wpAnyH_done (by kernel_rfl) ?_ _
      go_wp2_with fail
      go_meet
      exact ⟨by rw [HHB.out]; rfl, (Below.refl _ _).drew⟩
  case rest =>
    obtain ⟨rfl, hbx⟩ := hcut
    have HB1 := hid (HB0.out.trans (hbx.mono HB0.out.size))
    have HCC : Hid (∀ w2, Below wc.heap.size wc w2 → w2.cell? ⟨w.heap.size, 3, none⟩ = some (.slice A k.len cap)) := hid (fun w2 h => bel_cell h (bel_cell hbx c3))
    clear hbx c0 c1 c2 c3
    cases hb
    · have HRF : Hid (rightF (.mk op n nm k) = false) := hid (by rw [HR.out]; rfl)
      go_wp2_with fail
      go_ret
      exact ⟨ret_bool HRF.out.symm, HB1.out⟩
    · go_wp2_with fail
      go_loopw [3] (fun v3 wr => ∃ i : Nat, i ≤ k.len ∧ v3 = .int .i64 i ∧ Hid (∀ j (hj : j < k.toL.length), j < i → rightF k.toL[j] = true) ∧ Hid (Below wc.heap.size wc wr)) (fun v3 _ => k.len - (intOf v3).toNat)
      case atStart => exact ⟨0, Nat.zero_le _, rfl, hid (fun j hj h => by omega), hid (Below.refl _ _)⟩
      case round =>
        obtain ⟨i, hi, rfl, HA, HB⟩ := hrel
        have c3 := HCC.out _ HB.out
        have HBB := hid (HB1.out.trans (HB.out.mono HB1.out.size))
        by_cases hlt : i < k.len
        · have hil : i < k.toL.length := by rw [Exs.toL_len]; exact hlt
          obtain ⟨b, off, rfl⟩ := HKI.out.form_ (by omega)
          obtain ⟨A2, cap2, _, q0, q1, q2, q3, hx⟩ := RdL.kid k b off i hil HKI.out
          have q0 := bel_cell HBB.out q0
          have q1 := bel_cell HBB.out q1
          have q2 := bel_cell HBB.out q2
          have q3 := bel_cell HBB.out q3
          have HX := hid (hx.below HBB.out)
          clear hx
          go_wp2_with fail
          ((with_reducible refine ((HKS.out i hil).call _ P _ HX.out).mono ?_); rintro e1 w1 ⟨rfl, hb1⟩)
          have HB2 := hid (HB.out.trans (hb1.mono HB.out.size))
          clear hb1
          cases hr : rightF k.toL[i]
          · have HRF : Hid (rightF (.mk op n nm k) = false) := hid (by rw [HR.out]; simp; exact ⟨_, List.getElem_mem hil, hr⟩)
            clear hr
            go_wp2_with fail
            go_ret
            exact ⟨ret_bool HRF.out.symm, HB1.out.trans (HB2.out.mono HB1.out.size)⟩
          · have HA1 : Hid (∀ j (hj : j < k.toL.length), j < i + 1 → rightF k.toL[j] = true) := hid (fun j hj h => by
              by_cases he : j = i
              · subst he; exact hr
              · exact HA.out j hj (by omega))
            clear hr
            go_wp2_with fail
            go_round
            case rel =>
              (repeat apply Exists.intro)
              exact ⟨⟨i + 1, by omega, rfl, HA1, HB2⟩, rfl⟩
            case measure => simp [intOf]; omega
        · have HRF : Hid (rightF (.mk op n nm k) = true) := hid (by
            rw [HR.out]; simp only [Bool.true_and, List.all_eq_true]
            intro x hx
            obtain ⟨j, hj, rfl⟩ := List.mem_iff_getElem.1 hx
            exact HA.out j hj (by rw [Exs.toL_len] at hj; omega))
          go_wp2_with fail
          go_ret
          exact ⟨ret_bool HRF.out.symm, HBB.out⟩
theorem rright_any : ∀ e : Ex, okF e = true → szF e ≤ 100000 → RRightC e := by
  intro e
  induction hn : szF e using Nat.strongRecOn generalizing e with
  | _ m ih =>
    subst hn
    intro ho hs
    have hp := okF_parts ho
    have hl := szF_len e
    have hk : ∀ i (hi : i < e.kids.toL.length), RRightC e.kids.toL[i] := fun i hi => ih _ (szF_at e i hi) _ rfl (okL_at _ i hi hp.2.2.2) (by have := szF_at e i hi; omega)
    obtain ⟨op, n, nm, k⟩ := e
    dsimp only [Ex.op, Ex.num, Ex.name, Ex.kids] at hp hl hk
    exact rright_step op n nm k hp.2.2.1 (by omega) hk
end Go.Proofs.YtadmmmehphhecaaGreatDoor
/- The walk of the reference's show. -/
namespace Go.Proofs.YtadmmmehphhecaaGreatDoor
open Go.RowKit
def RShowC (e : Ex) : Prop := ∀ (w : World) (P : Nat → Prop) (v : Value), RdX w P e v → Laid w → Calls Tryz.prog 35 #[v] w fun x w' => x = .returned (.string ⟨(showF e).toArray⟩) ∧ Below w.heap.size w w'
theorem RShowC.call {e : Ex} (h : RShowC e) (w : World) (P : Nat → Prop) (v : Value) (hr : RdX w P e v) (hL : Laid w) : Calls Tryz.prog 35 #[v] w fun x w' => x = .returned (.string ⟨(showF e).toArray⟩) ∧ Below w.heap.size w w' := h w P v hr hL
section
variable {e : Ex} {w : World} {P : Nat → Prop} {v : Value}
set_option maxRecDepth 100000 in
set_option maxHeartbeats 2000000 in
theorem rshow_num (n : Int) (nm : List UInt8) (k : Exs) (h0 : -9223372036854775808 ≤ n) (h1 : n ≤ 9223372036854775807) : RShowC (.mk numO n nm k) := by
  intro w P v hr hL
  obtain ⟨A, cap, rfl, hcap, hkids⟩ := hr.form
  have HKI := hid hkids
  have HL := hid hL
  clear hr hkids hL
  dsimp only [Ex.op, Ex.num, Ex.name, Ex.kids] at *
  unfold numO
  go_enter Tryz.func35, Tryz.ntmps35
  go_wp2_with fail
  ((with_reducible refine (rtext_any n h0 h1 _).mono ?_); rintro e1 w1 ⟨rfl, hb1⟩)
  go_wp2_with fail
  go_ret
  exact ⟨rfl, bel_al (Below.refl _ _) hb1⟩
set_option maxRecDepth 100000 in
set_option maxHeartbeats 2000000 in
theorem rshow_name (n : Int) (nm : List UInt8) (k : Exs) : RShowC (.mk nameO n nm k) := by
  intro w P v hr hL
  obtain ⟨A, cap, rfl, hcap, hkids⟩ := hr.form
  have HKI := hid hkids
  have HL := hid hL
  clear hr hkids hL
  dsimp only [Ex.op, Ex.num, Ex.name, Ex.kids] at *
  unfold nameO
  go_enter Tryz.func35, Tryz.ntmps35
  go_wp2_with fail
  go_ret
  exact ⟨rfl, (Below.refl _ _).alloc (Nat.le_refl _) _⟩
set_option maxRecDepth 100000 in
set_option maxHeartbeats 2000000 in
theorem rshow_una (op : List UInt8) (n : Int) (nm : List UInt8) (x : Ex) (hop : op = [110, 101, 103] ∨ op = [112, 111, 115] ∨ op = [110, 111, 116] ∨ op = [99, 111, 109]) (hk : RShowC x) (hlen : (showF x).length ≤ 1000000000) : RShowC (.mk op n nm (.cons x .nil)) := by
  intro w P v hr hL
  obtain ⟨A, cap, rfl, hcap, hkids⟩ := hr.form
  dsimp only [Ex.op, Ex.num, Ex.name, Ex.kids, Exs.len] at *
  obtain ⟨b, off, rfl⟩ := hkids.form_ (by simp [Exs.len])
  obtain ⟨A2, cap2, _, q0, q1, q2, q3, hx, _⟩ := hkids.un
  have hblt := World.block_lt_of_cell? w _ q0
  dsimp only at hblt
  have hbne : ¬ b = w.heap.size := by omega
  have HX := hid hx
  have HL := hid hL
  have HK := hid hk
  obtain ⟨D, hD⟩ : ∃ D, D = showF x := ⟨_, rfl⟩
  have hDl : D.length ≤ 1000000000 := by rw [hD]; exact hlen
  have HD := hid hD
  clear hr hkids hL hx hk hD hlen
  rcases hop with rfl | rfl | rfl | rfl
  all_goals
    go_enter Tryz.func35, Tryz.ntmps35
    go_wp2_with fail
    ((with_reducible refine (HK.out.call _ P _ (HX.out.alloc_ _) (HL.out.below ((Below.refl _ _).alloc (Nat.le_refl _) _))).mono ?_); rintro e1 w1 ⟨rfl, hb1⟩)
    rw [← HD.out]
    go_wp2_with fail
    go_ret
    refine ⟨ret_val (congrArg Value.string ?_), bel_al (Below.refl _ _) hb1⟩
    simp only [showF, showL, glueF, ← HD.out]
    exact str3 _ _ [41]
set_option maxRecDepth 100000 in
set_option maxHeartbeats 2000000 in
theorem rshow_set (op : List UInt8) (n : Int) (nm : List UInt8) (x : Ex) (hop : setF op = true) (hol : op.length ≤ 4) (hnl : nm.length ≤ 4096) (hk : RShowC x) (hlen : (showF x).length ≤ 1000000000) : RShowC (.mk op n nm (.cons x .nil)) := by
  intro w P v hr hL
  obtain ⟨A, cap, rfl, hcap, hkids⟩ := hr.form
  dsimp only [Ex.op, Ex.num, Ex.name, Ex.kids, Exs.len] at *
  obtain ⟨b, off, rfl⟩ := hkids.form_ (by simp [Exs.len])
  obtain ⟨A2, cap2, _, q0, q1, q2, q3, hx, _⟩ := hkids.un
  have hblt := World.block_lt_of_cell? w _ q0
  dsimp only at hblt
  have hbne : ¬ b = w.heap.size := by omega
  have HX := hid hx
  have HL := hid hL
  have HK := hid hk
  obtain ⟨D, hD⟩ : ∃ D, D = showF x := ⟨_, rfl⟩
  have hDl : D.length ≤ 1000000000 := by rw [hD]; exact hlen
  have HD := hid hD
  have a0 : (op == [110, 117, 109]) = false := by cases h : op == [110, 117, 109] with | false => rfl | true => (simp at h; subst h; revert hop; decide)
  have a1 : (op == [110, 97, 109, 101]) = false := by cases h : op == [110, 97, 109, 101] with | false => rfl | true => (simp at h; subst h; revert hop; decide)
  have a2 : (op == [110, 101, 103]) = false := by cases h : op == [110, 101, 103] with | false => rfl | true => (simp at h; subst h; revert hop; decide)
  have a3 : (op == [112, 111, 115]) = false := by cases h : op == [112, 111, 115] with | false => rfl | true => (simp at h; subst h; revert hop; decide)
  have a4 : (op == [110, 111, 116]) = false := by cases h : op == [110, 111, 116] with | false => rfl | true => (simp at h; subst h; revert hop; decide)
  have a5 : (op == [99, 111, 109]) = false := by cases h : op == [99, 111, 109] with | false => rfl | true => (simp at h; subst h; revert hop; decide)
  have a6 : (op == [63]) = false := by cases h : op == [63] with | false => rfl | true => (simp at h; subst h; revert hop; decide)
  have HS := hid hop
  have HE : Hid (showF (.mk op n nm (.cons x .nil)) = [40] ++ nm ++ op ++ D ++ [41]) := hid (by
    simp at a0 a1 a2 a3 a4 a5 a6
    simp only [showF, showL, glueF, numO, nameO, ← HD.out]
    rw [if_neg a0, if_neg a1, if_neg a2, if_neg a3, if_neg a4, if_neg a5, if_neg a6, if_pos hop]; rfl)
  clear hr hkids hL hx hk hD hlen hop
  go_enter Tryz.func35, Tryz.ntmps35
  go_wp2_with fail
  ((with_reducible refine (rsets_any op _).mono ?_); rintro e1 w1 ⟨rfl, rfl⟩)
  rw [HS.out]
  have kB := Bk.new w 37 #[.string ⟨op.toArray⟩, .int .i64 n, .string ⟨nm.toArray⟩, .slice (some ⟨b, off, none⟩) 1 cap]
  have hB0 : Below w.heap.size w (w.alloc (.cells #[.string ⟨op.toArray⟩, .int .i64 n, .string ⟨nm.toArray⟩, .slice (some ⟨b, off, none⟩) 1 cap] 37)) := (Below.refl _ _).alloc (Nat.le_refl _) _
  have p0 := al (o := .cells #[.string ⟨op.toArray⟩, .int .i64 n, .string ⟨nm.toArray⟩, .slice (some ⟨b, off, none⟩) 1 cap] 37) q0
  have p1 := al (o := .cells #[.string ⟨op.toArray⟩, .int .i64 n, .string ⟨nm.toArray⟩, .slice (some ⟨b, off, none⟩) 1 cap] 37) q1
  have p2 := al (o := .cells #[.string ⟨op.toArray⟩, .int .i64 n, .string ⟨nm.toArray⟩, .slice (some ⟨b, off, none⟩) 1 cap] 37) q2
  have p3 := al (o := .cells #[.string ⟨op.toArray⟩, .int .i64 n, .string ⟨nm.toArray⟩, .slice (some ⟨b, off, none⟩) 1 cap] 37) q3
  clear q0 q1 q2 q3
  obtain ⟨W0, hW0⟩ : ∃ W0, W0 = w.alloc (.cells #[.string ⟨op.toArray⟩, .int .i64 n, .string ⟨nm.toArray⟩, .slice (some ⟨b, off, none⟩) 1 cap] 37) := ⟨_, rfl⟩
  rw [← hW0] at kB hB0 p0 p1 p2 p3
  rw [← hW0]
  clear hW0
  obtain ⟨c0, c1, c2, c3⟩ := kB.cells4
  have HX0 := hid (show RdX W0.drew P x _ from HX.out.below hB0.drew)
  have HL0 := hid (show Laid W0.drew from HL.out.below hB0.drew)
  have HB0 := hid hB0
  have s1 : ¬ 9223372036854775807 < 1 + nm.length := by omega
  have s2 : ¬ 9223372036854775807 < 1 + nm.length + op.length := by omega
  have s3 : ¬ 9223372036854775807 < 1 + nm.length + op.length + D.length := by omega
  have s4 : ¬ 9223372036854775807 < 1 + nm.length + op.length + D.length + 1 := by omega
  clear kB hB0 hol hnl hDl hbne
  go_wp2_with fail
  go_region_held3 (fun w' => w'.cell? ⟨w.heap.size, 0, none⟩ = some (.string ⟨op.toArray⟩) ∧ w'.cell? ⟨w.heap.size, 2, none⟩ = some (.string ⟨nm.toArray⟩) ∧ w'.cell? ⟨w.heap.size, 3, none⟩ = some (.slice (some ⟨b, off, none⟩) 1 cap)
      ∧ w'.cell? ⟨b, off, none⟩ = some (.string ⟨x.op.toArray⟩) ∧ w'.cell? ⟨b, off + 1, none⟩ = some (.int .i64 x.num) ∧ w'.cell? ⟨b, off + 2, none⟩ = some (.string ⟨x.name.toArray⟩) ∧ w'.cell? ⟨b, off + 3, none⟩ = some (.slice A2 x.kids.len cap2))
    (first | go_keep | (go_split_ands; refine ⟨?_, ?_, ?_, ?_, ?_, ?_, ?_⟩ <;> (refine bel_cell hb1 ?_; assumption)))
    (first | (go_at_call 35; (with_reducible refine (HK.out.call _ P _ HX0.out HL0.out).mono ?_); rintro e1 w1 ⟨rfl, hb1⟩; rw [← HD.out]))
  go_wp2_with fail
  go_ret
  refine ⟨ret_val (congrArg Value.string ?_), HB0.out.drew.trans (hb1.mono HB0.out.size)⟩
  rw [HE.out]
  exact str5 [40] nm op D [41]
-- printed by genLi.py
set_option maxRecDepth 100000 in
set_option maxHeartbeats 2000000 in
theorem rshow_two (op : List UInt8) (n : Int) (nm : List UInt8) (x y : Ex) (hop : 0 < levF op) (hns : setF op = false) (hol : op.length ≤ 4) (hx : RShowC x) (hlx : (showF x).length ≤ 1000000000) (hy : RShowC y) (hly : (showF y).length ≤ 1000000000) : RShowC (.mk op n nm (.cons x (.cons y .nil))) := by
  intro w P v hr hL
  obtain ⟨A, cap, rfl, hcap, hkids⟩ := hr.form
  dsimp only [Ex.op, Ex.num, Ex.name, Ex.kids, Exs.len, Nat.zero_add, Nat.reduceAdd] at *
  obtain ⟨b, off, rfl⟩ := hkids.form_ (by simp [Exs.len])
  obtain ⟨Ax, capx, _, qx0, qx1, qx2, qx3, hrx, hkids⟩ := hkids.un
  obtain ⟨Ay, capy, _, qy0, qy1, qy2, qy3, hry, hkids⟩ := hkids.un
  have hblt := World.block_lt_of_cell? w _ qx0
  dsimp only at hblt
  have HXx := hid hrx
  have HKx := hid hx
  obtain ⟨Dx, hDx⟩ : ∃ D, D = showF x := ⟨_, rfl⟩
  have hDlx : Dx.length ≤ 1000000000 := by rw [hDx]; exact hlx
  have HDx := hid hDx
  have HXy := hid hry
  have HKy := hid hy
  obtain ⟨Dy, hDy⟩ : ∃ D, D = showF y := ⟨_, rfl⟩
  have hDly : Dy.length ≤ 1000000000 := by rw [hDy]; exact hly
  have HDy := hid hDy
  have HL := hid hL
  have a0 : (op == [110, 117, 109]) = false := by cases h : op == [110, 117, 109] with | false => rfl | true => (simp at h; subst h; revert hop; decide)
  have a1 : (op == [110, 97, 109, 101]) = false := by cases h : op == [110, 97, 109, 101] with | false => rfl | true => (simp at h; subst h; revert hop; decide)
  have a2 : (op == [110, 101, 103]) = false := by cases h : op == [110, 101, 103] with | false => rfl | true => (simp at h; subst h; revert hop; decide)
  have a3 : (op == [112, 111, 115]) = false := by cases h : op == [112, 111, 115] with | false => rfl | true => (simp at h; subst h; revert hop; decide)
  have a4 : (op == [110, 111, 116]) = false := by cases h : op == [110, 111, 116] with | false => rfl | true => (simp at h; subst h; revert hop; decide)
  have a5 : (op == [99, 111, 109]) = false := by cases h : op == [99, 111, 109] with | false => rfl | true => (simp at h; subst h; revert hop; decide)
  have a6 : (op == [63]) = false := by cases h : op == [63] with | false => rfl | true => (simp at h; subst h; revert hop; decide)
  have HS := hid hns
  have HE : Hid (showF (.mk op n nm (.cons x (.cons y .nil))) = [40] ++ Dx ++ op ++ Dy ++ [41]) := hid (by
    simp at a0 a1 a2 a3 a4 a5 a6
    simp only [showF, showL, glueF, numO, nameO, ← HDx.out, ← HDy.out]
    rw [if_neg a0, if_neg a1, if_neg a2, if_neg a3, if_neg a4, if_neg a5, if_neg a6, if_neg (by rw [hns]; decide)]; rfl)
  clear hr hL hrx hx hDx hlx hry hy hDy hly hop hns
  go_enter Tryz.func35, Tryz.ntmps35
  go_wp2_with fail
  ((with_reducible refine (rsets_any op _).mono ?_); rintro e1 w1 ⟨rfl, rfl⟩)
  rw [HS.out]
  have kB := Bk.new w 37 #[.string ⟨op.toArray⟩, .int .i64 n, .string ⟨nm.toArray⟩, .slice (some ⟨b, off, none⟩) 2 cap]
  have hB0 : Below w.heap.size w (w.alloc (.cells #[.string ⟨op.toArray⟩, .int .i64 n, .string ⟨nm.toArray⟩, .slice (some ⟨b, off, none⟩) 2 cap] 37)) := (Below.refl _ _).alloc (Nat.le_refl _) _
  have px0 := al (o := .cells #[.string ⟨op.toArray⟩, .int .i64 n, .string ⟨nm.toArray⟩, .slice (some ⟨b, off, none⟩) 2 cap] 37) qx0
  have px1 := al (o := .cells #[.string ⟨op.toArray⟩, .int .i64 n, .string ⟨nm.toArray⟩, .slice (some ⟨b, off, none⟩) 2 cap] 37) qx1
  have px2 := al (o := .cells #[.string ⟨op.toArray⟩, .int .i64 n, .string ⟨nm.toArray⟩, .slice (some ⟨b, off, none⟩) 2 cap] 37) qx2
  have px3 := al (o := .cells #[.string ⟨op.toArray⟩, .int .i64 n, .string ⟨nm.toArray⟩, .slice (some ⟨b, off, none⟩) 2 cap] 37) qx3
  have py0 := al (o := .cells #[.string ⟨op.toArray⟩, .int .i64 n, .string ⟨nm.toArray⟩, .slice (some ⟨b, off, none⟩) 2 cap] 37) qy0
  have py1 := al (o := .cells #[.string ⟨op.toArray⟩, .int .i64 n, .string ⟨nm.toArray⟩, .slice (some ⟨b, off, none⟩) 2 cap] 37) qy1
  have py2 := al (o := .cells #[.string ⟨op.toArray⟩, .int .i64 n, .string ⟨nm.toArray⟩, .slice (some ⟨b, off, none⟩) 2 cap] 37) qy2
  have py3 := al (o := .cells #[.string ⟨op.toArray⟩, .int .i64 n, .string ⟨nm.toArray⟩, .slice (some ⟨b, off, none⟩) 2 cap] 37) qy3
  clear qx0 qx1 qx2 qx3 qy0 qy1 qy2 qy3
  obtain ⟨W0, hW0⟩ : ∃ W0, W0 = w.alloc (.cells #[.string ⟨op.toArray⟩, .int .i64 n, .string ⟨nm.toArray⟩, .slice (some ⟨b, off, none⟩) 2 cap] 37) := ⟨_, rfl⟩
  rw [← hW0] at kB hB0 px0 px1 px2 px3 py0 py1 py2 py3
  rw [← hW0]
  clear hW0
  obtain ⟨c0, c1, c2, c3⟩ := kB.cells4
  have HB0 := hid hB0
  have s0 : ¬ 9223372036854775807 < 1 + Dx.length := by omega
  have s1 : ¬ 9223372036854775807 < 1 + Dx.length + op.length := by omega
  have s2 : ¬ 9223372036854775807 < 1 + Dx.length + op.length + Dy.length := by omega
  have s3 : ¬ 9223372036854775807 < 1 + Dx.length + op.length + Dy.length + 1 := by omega
  clear kB hB0 hblt hkids hDlx hDly hol
  go_wp2_with fail
  have HX0x := hid (show RdX W0.drew P x _ from HXx.out.below HB0.out.drew)
  have HX0y := hid (show RdX W0.drew P y _ from HXy.out.below HB0.out.drew)
  have HL0 := hid (show Laid W0.drew from HL.out.below HB0.out.drew)
  go_region_held3 (fun w' => w'.cell? ⟨w.heap.size, 0, none⟩ = some (.string ⟨op.toArray⟩) ∧ w'.cell? ⟨w.heap.size, 3, none⟩ = some (.slice (some ⟨b, off, none⟩) 2 cap) ∧ w'.cell? ⟨b, off, none⟩ = some (.string ⟨x.op.toArray⟩) ∧ w'.cell? ⟨b, off + 1, none⟩ = some (.int .i64 x.num) ∧ w'.cell? ⟨b, off + 2, none⟩ = some (.string ⟨x.name.toArray⟩) ∧ w'.cell? ⟨b, off + 3, none⟩ = some (.slice Ax x.kids.len capx) ∧ w'.cell? ⟨b, off + 4, none⟩ = some (.string ⟨y.op.toArray⟩) ∧ w'.cell? ⟨b, off + 5, none⟩ = some (.int .i64 y.num) ∧ w'.cell? ⟨b, off + 6, none⟩ = some (.string ⟨y.name.toArray⟩) ∧ w'.cell? ⟨b, off + 7, none⟩ = some (.slice Ay y.kids.len capy))
    (first | go_keep | (go_split_ands; refine ⟨?_, ?_, ?_, ?_, ?_, ?_, ?_, ?_, ?_, ?_⟩ <;> (refine bel_cell hby ?_; assumption)) | (go_split_ands; refine ⟨?_, ?_, ?_, ?_, ?_, ?_, ?_, ?_, ?_, ?_⟩ <;> (refine bel_cell hbx ?_; assumption)) | fail)
    (first | (go_at_call 35; (with_reducible refine (HKx.out.call _ P _ HX0x.out HL0.out).mono ?_); rintro e1 wx ⟨rfl, hbx⟩; rw [← HDx.out]) | (go_at_call 35; (with_reducible refine (HKy.out.call _ P _ (HX0y.out.below hbx) (HL0.out.below hbx)).mono ?_); rintro e1 wy ⟨rfl, hby⟩; rw [← HDy.out]) | fail)
  go_wp2_with fail
  go_ret
  refine ⟨ret_val (congrArg Value.string ?_), HB0.out.drew.trans (Below.mono (hbx.trans (hby.mono hbx.size)) HB0.out.size)⟩
  rw [HE.out]
  exact str5 [40] Dx op Dy [41]
set_option maxRecDepth 100000 in
set_option maxHeartbeats 2000000 in
theorem rshow_three (n : Int) (nm : List UInt8) (x y z : Ex) (hx : RShowC x) (hlx : (showF x).length ≤ 1000000000) (hy : RShowC y) (hly : (showF y).length ≤ 1000000000) (hz : RShowC z) (hlz : (showF z).length ≤ 1000000000) : RShowC (.mk [63] n nm (.cons x (.cons y (.cons z .nil)))) := by
  intro w P v hr hL
  obtain ⟨A, cap, rfl, hcap, hkids⟩ := hr.form
  dsimp only [Ex.op, Ex.num, Ex.name, Ex.kids, Exs.len, Nat.zero_add, Nat.reduceAdd] at *
  obtain ⟨b, off, rfl⟩ := hkids.form_ (by simp [Exs.len])
  obtain ⟨Ax, capx, _, qx0, qx1, qx2, qx3, hrx, hkids⟩ := hkids.un
  obtain ⟨Ay, capy, _, qy0, qy1, qy2, qy3, hry, hkids⟩ := hkids.un
  obtain ⟨Az, capz, _, qz0, qz1, qz2, qz3, hrz, hkids⟩ := hkids.un
  have hblt := World.block_lt_of_cell? w _ qx0
  dsimp only at hblt
  have HXx := hid hrx
  have HKx := hid hx
  obtain ⟨Dx, hDx⟩ : ∃ D, D = showF x := ⟨_, rfl⟩
  have hDlx : Dx.length ≤ 1000000000 := by rw [hDx]; exact hlx
  have HDx := hid hDx
  have HXy := hid hry
  have HKy := hid hy
  obtain ⟨Dy, hDy⟩ : ∃ D, D = showF y := ⟨_, rfl⟩
  have hDly : Dy.length ≤ 1000000000 := by rw [hDy]; exact hly
  have HDy := hid hDy
  have HXz := hid hrz
  have HKz := hid hz
  obtain ⟨Dz, hDz⟩ : ∃ D, D = showF z := ⟨_, rfl⟩
  have hDlz : Dz.length ≤ 1000000000 := by rw [hDz]; exact hlz
  have HDz := hid hDz
  have HL := hid hL
  have HE : Hid (showF (.mk [63] n nm (.cons x (.cons y (.cons z .nil)))) = [40] ++ Dx ++ [63] ++ Dy ++ [58] ++ Dz ++ [41]) := hid (by simp only [showF, showL, glueF, ← HDx.out, ← HDy.out, ← HDz.out]; rfl)
  clear hr hL hrx hx hDx hlx hry hy hDy hly hrz hz hDz hlz
  go_enter Tryz.func35, Tryz.ntmps35
  go_wp2_with fail
  have kB := Bk.new w 37 #[.string ⟨#[63]⟩, .int .i64 n, .string ⟨nm.toArray⟩, .slice (some ⟨b, off, none⟩) 3 cap]
  have hB0 : Below w.heap.size w (w.alloc (.cells #[.string ⟨#[63]⟩, .int .i64 n, .string ⟨nm.toArray⟩, .slice (some ⟨b, off, none⟩) 3 cap] 37)) := (Below.refl _ _).alloc (Nat.le_refl _) _
  have px0 := al (o := .cells #[.string ⟨#[63]⟩, .int .i64 n, .string ⟨nm.toArray⟩, .slice (some ⟨b, off, none⟩) 3 cap] 37) qx0
  have px1 := al (o := .cells #[.string ⟨#[63]⟩, .int .i64 n, .string ⟨nm.toArray⟩, .slice (some ⟨b, off, none⟩) 3 cap] 37) qx1
  have px2 := al (o := .cells #[.string ⟨#[63]⟩, .int .i64 n, .string ⟨nm.toArray⟩, .slice (some ⟨b, off, none⟩) 3 cap] 37) qx2
  have px3 := al (o := .cells #[.string ⟨#[63]⟩, .int .i64 n, .string ⟨nm.toArray⟩, .slice (some ⟨b, off, none⟩) 3 cap] 37) qx3
  have py0 := al (o := .cells #[.string ⟨#[63]⟩, .int .i64 n, .string ⟨nm.toArray⟩, .slice (some ⟨b, off, none⟩) 3 cap] 37) qy0
  have py1 := al (o := .cells #[.string ⟨#[63]⟩, .int .i64 n, .string ⟨nm.toArray⟩, .slice (some ⟨b, off, none⟩) 3 cap] 37) qy1
  have py2 := al (o := .cells #[.string ⟨#[63]⟩, .int .i64 n, .string ⟨nm.toArray⟩, .slice (some ⟨b, off, none⟩) 3 cap] 37) qy2
  have py3 := al (o := .cells #[.string ⟨#[63]⟩, .int .i64 n, .string ⟨nm.toArray⟩, .slice (some ⟨b, off, none⟩) 3 cap] 37) qy3
  have pz0 := al (o := .cells #[.string ⟨#[63]⟩, .int .i64 n, .string ⟨nm.toArray⟩, .slice (some ⟨b, off, none⟩) 3 cap] 37) qz0
  have pz1 := al (o := .cells #[.string ⟨#[63]⟩, .int .i64 n, .string ⟨nm.toArray⟩, .slice (some ⟨b, off, none⟩) 3 cap] 37) qz1
  have pz2 := al (o := .cells #[.string ⟨#[63]⟩, .int .i64 n, .string ⟨nm.toArray⟩, .slice (some ⟨b, off, none⟩) 3 cap] 37) qz2
  have pz3 := al (o := .cells #[.string ⟨#[63]⟩, .int .i64 n, .string ⟨nm.toArray⟩, .slice (some ⟨b, off, none⟩) 3 cap] 37) qz3
  clear qx0 qx1 qx2 qx3 qy0 qy1 qy2 qy3 qz0 qz1 qz2 qz3
  obtain ⟨W0, hW0⟩ : ∃ W0, W0 = w.alloc (.cells #[.string ⟨#[63]⟩, .int .i64 n, .string ⟨nm.toArray⟩, .slice (some ⟨b, off, none⟩) 3 cap] 37) := ⟨_, rfl⟩
  rw [← hW0] at kB hB0 px0 px1 px2 px3 py0 py1 py2 py3 pz0 pz1 pz2 pz3
  rw [← hW0]
  clear hW0
  obtain ⟨c0, c1, c2, c3⟩ := kB.cells4
  have HB0 := hid hB0
  have s0 : ¬ 9223372036854775807 < 1 + Dx.length := by omega
  have s1 : ¬ 9223372036854775807 < 1 + Dx.length + 1 := by omega
  have s2 : ¬ 9223372036854775807 < 1 + Dx.length + 1 + Dy.length := by omega
  have s3 : ¬ 9223372036854775807 < 1 + Dx.length + 1 + Dy.length + 1 := by omega
  have s4 : ¬ 9223372036854775807 < 1 + Dx.length + 1 + Dy.length + 1 + Dz.length := by omega
  have s5 : ¬ 9223372036854775807 < 1 + Dx.length + 1 + Dy.length + 1 + Dz.length + 1 := by omega
  clear kB hB0 hblt hkids hDlx hDly hDlz
  go_wp2_with fail
  have HX0x := hid (show RdX W0.drew P x _ from HXx.out.below HB0.out.drew)
  have HX0y := hid (show RdX W0.drew P y _ from HXy.out.below HB0.out.drew)
  have HX0z := hid (show RdX W0.drew P z _ from HXz.out.below HB0.out.drew)
  have HL0 := hid (show Laid W0.drew from HL.out.below HB0.out.drew)
  go_region_held3 (fun w' => w'.cell? ⟨w.heap.size, 3, none⟩ = some (.slice (some ⟨b, off, none⟩) 3 cap) ∧ w'.cell? ⟨b, off, none⟩ = some (.string ⟨x.op.toArray⟩) ∧ w'.cell? ⟨b, off + 1, none⟩ = some (.int .i64 x.num) ∧ w'.cell? ⟨b, off + 2, none⟩ = some (.string ⟨x.name.toArray⟩) ∧ w'.cell? ⟨b, off + 3, none⟩ = some (.slice Ax x.kids.len capx) ∧ w'.cell? ⟨b, off + 4, none⟩ = some (.string ⟨y.op.toArray⟩) ∧ w'.cell? ⟨b, off + 5, none⟩ = some (.int .i64 y.num) ∧ w'.cell? ⟨b, off + 6, none⟩ = some (.string ⟨y.name.toArray⟩) ∧ w'.cell? ⟨b, off + 7, none⟩ = some (.slice Ay y.kids.len capy) ∧ w'.cell? ⟨b, off + 8, none⟩ = some (.string ⟨z.op.toArray⟩) ∧ w'.cell? ⟨b, off + 9, none⟩ = some (.int .i64 z.num) ∧ w'.cell? ⟨b, off + 10, none⟩ = some (.string ⟨z.name.toArray⟩) ∧ w'.cell? ⟨b, off + 11, none⟩ = some (.slice Az z.kids.len capz))
    (first | go_keep | (go_split_ands; refine ⟨?_, ?_, ?_, ?_, ?_, ?_, ?_, ?_, ?_, ?_, ?_, ?_, ?_⟩ <;> (refine bel_cell hbz ?_; assumption)) | (go_split_ands; refine ⟨?_, ?_, ?_, ?_, ?_, ?_, ?_, ?_, ?_, ?_, ?_, ?_, ?_⟩ <;> (refine bel_cell hby ?_; assumption)) | (go_split_ands; refine ⟨?_, ?_, ?_, ?_, ?_, ?_, ?_, ?_, ?_, ?_, ?_, ?_, ?_⟩ <;> (refine bel_cell hbx ?_; assumption)) | fail)
    (first | (go_at_call 35; (with_reducible refine (HKx.out.call _ P _ HX0x.out HL0.out).mono ?_); rintro e1 wx ⟨rfl, hbx⟩; rw [← HDx.out]) | (go_at_call 35; (with_reducible refine (HKy.out.call _ P _ (HX0y.out.below hbx) (HL0.out.below hbx)).mono ?_); rintro e1 wy ⟨rfl, hby⟩; rw [← HDy.out]) | (go_at_call 35; (with_reducible refine (HKz.out.call _ P _ ((HX0z.out.below hbx).below hby) ((HL0.out.below hbx).below hby)).mono ?_); rintro e1 wz ⟨rfl, hbz⟩; rw [← HDz.out]) | fail)
  go_wp2_with fail
  go_ret
  refine ⟨ret_val (congrArg Value.string ?_), HB0.out.drew.trans (Below.mono ((hbx.trans (hby.mono hbx.size)).trans (hbz.mono (hbx.trans (hby.mono hbx.size)).size)) HB0.out.size)⟩
  rw [HE.out]
  exact str7 [40] Dx [63] Dy [58] Dz [41]
end
theorem rshow_any : ∀ e : Ex, rightF e = true → okF e = true → szF e ≤ 100000 → RShowC e := by
  intro e
  induction hn : szF e using Nat.strongRecOn generalizing e with
  | _ n ih =>
    subst hn
    intro hr ho hs
    obtain ⟨op, n, nm, k⟩ := e
    have ho' := ho
    simp only [okF, Bool.and_eq_true, decide_eq_true_eq] at ho
    obtain ⟨⟨⟨o1, o2⟩, o3⟩, o4⟩ := ho
    simp only [rightF, Bool.and_eq_true] at hr
    obtain ⟨r1, r2⟩ := hr
    have hl := kids_len r1
    have hol := op_len (headB_op r1)
    have key : ∀ x : Ex, szF x < szF (.mk op n nm k) → rightF x = true → okF x = true → RShowC x ∧ (showF x).length ≤ 1000000000 := fun x hx hr ho =>
      ⟨ih _ hx x rfl hr ho (by omega), by have := show_len x ho hr; omega⟩
    rcases op_kinds (headB_op r1) with rfl | rfl | h | rfl | h | ⟨h, h', h''⟩
    · exact rshow_num n nm k o1 o2
    · exact rshow_name n nm k
    · rw [kidsF_una h] at hl
      obtain ⟨x, rfl⟩ := Exs.one (k := k) (by omega)
      simp only [rightL, okL, Bool.and_eq_true] at r2 o4
      obtain ⟨k1, k2⟩ := key x (by simp only [szF, szL]; omega) r2.1 o4.1
      exact rshow_una op n nm x h k1 k2
    · rw [show kidsF [63] = 3 by decide] at hl
      obtain ⟨x, y, z, rfl⟩ := Exs.three (k := k) (by omega)
      simp only [rightL, okL, Bool.and_eq_true] at r2 o4
      obtain ⟨k1, k2⟩ := key x (by simp only [szF, szL]; omega) r2.1 o4.1
      obtain ⟨k3, k4⟩ := key y (by simp only [szF, szL]; omega) r2.2.1 o4.2.1
      obtain ⟨k5, k6⟩ := key z (by simp only [szF, szL]; omega) r2.2.2.1 o4.2.2.1
      exact rshow_three n nm x y z k1 k2 k3 k4 k5 k6
    · rw [setF_kids h] at hl
      obtain ⟨x, rfl⟩ := Exs.one (k := k) (by omega)
      simp only [rightL, okL, Bool.and_eq_true] at r2 o4
      obtain ⟨k1, k2⟩ := key x (by simp only [szF, szL]; omega) r2.1 o4.1
      exact rshow_set op n nm x h hol o3 k1 k2
    · rw [h''] at hl
      obtain ⟨x, y, rfl⟩ := Exs.two (k := k) (by omega)
      simp only [rightL, okL, Bool.and_eq_true] at r2 o4
      obtain ⟨k1, k2⟩ := key x (by simp only [szF, szL]; omega) r2.1 o4.1
      obtain ⟨k3, k4⟩ := key y (by simp only [szF, szL]; omega) r2.2.1 o4.2.1
      exact rshow_two op n nm x y h h' hol k1 k2 k3 k4
end Go.Proofs.YtadmmmehphhecaaGreatDoor
/- The walk of the reference's Show. Expressions of up to a hundred thousand ops, names of up to 4096 bytes. -/
namespace Go.Proofs.YtadmmmehphhecaaGreatDoor
open Go.RowKit
theorem showOut_r (e : Ex) : showOut e = if rightF e = false then ([], 1) else if 20 < rdeepF e then ([], 32) else if 4096 < (showF e).length then ([], 21) else (showF e, 0) := by
  have h : (20 < deepF 20 e) = (20 < rdeepF e) := by rw [deep_same]; exact propext (by omega)
  unfold showOut
  simp only [h]
set_option maxRecDepth 100000 in
set_option maxHeartbeats 2000000 in
theorem rShow_any (e : Ex) (w : World) (P : Nat → Prop) (v : Value) (hr : RdX w P e v) (ho : okF e = true) (hs : szF e ≤ 100000) (hL : Laid w) :
    Calls Tryz.prog 13 #[v] w fun x w' => x = .returned (.tuple #[.string ⟨(showOut e).1.toArray⟩, .int .i64 (showOut e).2]) ∧ Below w.heap.size w w' := by
  have HR := hid (rright_any e ho hs)
  have HD := hid (rdeep_any e hs)
  obtain ⟨A, cap, rfl, hcap, hkids⟩ := hr.form
  have HX := hid hr
  have HL := hid hL
  have HSA : Hid (rightF e = true → RShowC e) := hid (fun h => rshow_any e h ho hs)
  have HSL : Hid (rightF e = true → (showF e).length ≤ 1000000000) := hid (fun h => by have := show_len e ho h; omega)
  clear hr hkids hL ho hs hcap
  have kB := Bk.new w 37 #[.string ⟨e.op.toArray⟩, .int .i64 e.num, .string ⟨e.name.toArray⟩, .slice A e.kids.len cap]
  have hB0 : Below w.heap.size w (w.alloc (.cells #[.string ⟨e.op.toArray⟩, .int .i64 e.num, .string ⟨e.name.toArray⟩, .slice A e.kids.len cap] 37)) := (Below.refl _ _).alloc (Nat.le_refl _) _
  go_enter Tryz.func13, Tryz.ntmps13
  go_wp2_with fail
  ((with_reducible refine (HR.out.call _ P _ (HX.out.alloc_ _)).mono ?_); rintro e1 w1 ⟨rfl, hb1⟩)
  obtain ⟨W0, hW0⟩ : ∃ W0, W0 = w.alloc (.cells #[.string ⟨e.op.toArray⟩, .int .i64 e.num, .string ⟨e.name.toArray⟩, .slice A e.kids.len cap] 37) := ⟨_, rfl⟩
  rw [← hW0] at kB hB0 hb1
  clear hW0
  obtain ⟨c0, c1, c2, c3⟩ := kB.cells4
  have c0 := bel_cell hb1 c0
  have c1 := bel_cell hb1 c1
  have c2 := bel_cell hb1 c2
  have c3 := bel_cell hb1 c3
  have HB1 := hid (bel_step hB0 hb1)
  clear kB hB0 hb1
  cases hrt : rightF e
  · have HO : Hid (showOut e = ([], 1)) := hid (by rw [showOut_r]; rw [if_pos hrt])
    clear hrt
    go_wp2_with fail
    go_ret2
    exact ⟨by rw [HO.out]; rfl, HB1.out⟩
  · have HRT := hid hrt
    clear hrt
    go_wp2_with fail
    ((with_reducible refine (HD.out.call _ P _ (HX.out.below HB1.out)).mono ?_); rintro e2 w2 ⟨rfl, hb2⟩)
    have c0 := bel_cell hb2 c0
    have c1 := bel_cell hb2 c1
    have c2 := bel_cell hb2 c2
    have c3 := bel_cell hb2 c3
    have HB2 := hid (bel_step HB1.out hb2)
    clear hb2
    by_cases hd : 20 < rdeepF e
    · have HO : Hid (showOut e = ([], 32)) := hid (by rw [showOut_r]; rw [if_neg (by rw [HRT.out]; decide), if_pos hd])
      have hdi : (20 : Int) < (rdeepF e : Int) := by omega
      clear hd
      go_wp2_with fail
      go_ret2
      exact ⟨by rw [HO.out]; rfl, HB2.out⟩
    · have hdi : ¬ (20 : Int) < (rdeepF e : Int) := by omega
      have HO : Hid (showOut e = if 4096 < (showF e).length then ([], 21) else (showF e, 0)) := hid (by rw [showOut_r]; rw [if_neg (by rw [HRT.out]; decide), if_neg hd])
      clear hd
      go_wp2_with fail
      ((with_reducible refine ((HSA.out HRT.out).call _ P _ (HX.out.below HB2.out) (HL.out.below HB2.out)).mono ?_); rintro e3 w3 ⟨rfl, hb3⟩)
      have HB3 := hid (bel_step HB2.out hb3)
      have hlen := HSL.out HRT.out
      clear hb3 c0 c1 c2 c3
      obtain ⟨D, hD⟩ : ∃ D, D = showF e := ⟨_, rfl⟩
      have HDD := hid hD
      rw [← hD] at hlen ⊢
      clear hD
      by_cases hl : 4096 < D.length
      · have hli : (4096 : Int) < (D.length : Int) := by omega
        have HO2 : Hid (showOut e = ([], 21)) := hid (by rw [HO.out, ← HDD.out, if_pos hl])
        clear hl
        go_wp2_with fail
        go_ret2
        exact ⟨by rw [HO2.out]; rfl, HB3.out⟩
      · have hli : ¬ (4096 : Int) < (D.length : Int) := by omega
        have HO2 : Hid (showOut e = (D, 0)) := hid (by rw [HO.out, ← HDD.out, if_neg hl])
        clear hl
        go_wp2_with fail
        go_ret2
        exact ⟨by rw [HO2.out]; rfl, HB3.out⟩
end Go.Proofs.YtadmmmehphhecaaGreatDoor
/- The walk of SumsShows. Rows no longer than what a machine reaches, numbers of 64 bits. -/
namespace Go.Proofs.YtadmmmehphhecaaGreatDoor
open Go.RowKit
set_option maxRecDepth 100000 in
set_option maxHeartbeats 4000000 in
theorem shows_any (e : Ex) (w : World) (P : Nat → Prop) (v : Value) (hr : RdX w P e v) (hn : numsF e = true) (hw : wideF e = true) (hL : Laid w) :
    Calls Tryz.prog 4 #[v] w fun x w' => x = .returned (.bool true) ∧ Below w.heap.size w w' := by
  have HF := hid (few_any e hw)
  have HX := hid hr
  have HL := hid hL
  have HG := hid hL.big
  have HSZ : Hid (fewF e = true → szF e ≤ 100000 ∧ okF e = true) := hid (fun h => ⟨by have := few_sz e hw h; omega, few_ok e hn h⟩)
  obtain ⟨A, cap, rfl, hcap, _⟩ := hr.form
  clear hr hL
  have kB := Bk.new w 30 #[.string ⟨e.op.toArray⟩, .int .i64 e.num, .string ⟨e.name.toArray⟩, .slice A e.kids.len cap]
  have hB0 : Below w.heap.size w (w.alloc (.cells #[.string ⟨e.op.toArray⟩, .int .i64 e.num, .string ⟨e.name.toArray⟩, .slice A e.kids.len cap] 30)) := (Below.refl _ _).alloc (Nat.le_refl _) _
  go_enter Tryz.func4, Tryz.ntmps4
  go_wp2_with fail
  obtain ⟨W0, hW0⟩ : ∃ W0, W0 = w.alloc (.cells #[.string ⟨e.op.toArray⟩, .int .i64 e.num, .string ⟨e.name.toArray⟩, .slice A e.kids.len cap] 30) := ⟨_, rfl⟩
  rw [← hW0] at kB hB0
  rw [← hW0]
  clear hW0
  have KB := hid kB
  have HB0 := hid hB0
  clear kB hB0
  ((with_reducible refine (HF.out.call _ P _ (HX.out.below HB0.out)).mono ?_); rintro e1 w1 ⟨rfl, hb1⟩)
  obtain ⟨c0, c1, c2, c3⟩ := KB.out.cells4
  have c0 := bel_cell hb1 c0
  have c1 := bel_cell hb1 c1
  have c2 := bel_cell hb1 c2
  have c3 := bel_cell hb1 c3
  have HB1 := hid (bel_step HB0.out hb1)
  clear hb1
  cases hfw : fewF e
  · clear hfw
    go_wp2_with fail
    ((with_reducible refine (awake_any _ (HL.out.below HB1.out) (HL.out.below HB1.out).big).mono ?_); rintro e2 w2 ⟨rfl, hb2⟩)
    go_wp2_with fail
    go_ret
    exact ⟨rfl, bel_step HB1.out hb2⟩
  · have HSS := hid (HSZ.out hfw).1
    have HOK := hid (HSZ.out hfw).2
    clear hfw
    go_wp2_with fail
    ((with_reducible refine (Show_any e _ P _ (HX.out.below HB1.out) HOK.out HSS.out (HL.out.below HB1.out)).mono ?_); rintro e2 w2 ⟨rfl, hb2⟩)
    have c0 := bel_cell hb2 c0
    have c1 := bel_cell hb2 c1
    have c2 := bel_cell hb2 c2
    have c3 := bel_cell hb2 c3
    have HB2 := hid (bel_step HB1.out hb2)
    clear hb2
    obtain ⟨⟨so, er⟩, hso⟩ : ∃ p, p = showOut e := ⟨_, rfl⟩
    have HSO := hid hso
    rw [← hso]
    clear hso
    dsimp only
    go_wp2_with fail
    ((with_reducible refine ((plain_any e HSS.out).call _ P _ (HX.out.below HB2.out)).mono ?_); rintro e3 w3 ⟨u3, rfl, hx3, hb3⟩)
    have HX3 := hid hx3
    have HB3 := hid (bel_step HB2.out hb3)
    clear hx3 hb3
    go_wp2_with fail
    ((with_reducible refine (rShow_any e _ _ _ HX3.out HOK.out HSS.out (HL.out.below HB3.out)).mono ?_); rintro e4 w4 ⟨rfl, hb4⟩)
    rw [← HSO.out]
    dsimp only
    have HB4 := hid (bel_step HB3.out hb4)
    clear hb4
    go_wp2_with fail
    ((with_reducible refine (awake_any _ (HL.out.below HB4.out) (HL.out.below HB4.out).big).mono ?_); rintro e5 w5 ⟨rfl, hb5⟩)
    go_wp2_with fail
    go_ret
    exact ⟨rfl, bel_step HB4.out hb5⟩
end Go.Proofs.YtadmmmehphhecaaGreatDoor
/- The last step of each law of this seat: from a walk that returns true and turns nothing below its blocks to the row; what the row lays of the library's variables. No condition. -/
namespace Go.Proofs.YtadmmmehphhecaaGreatDoor
open Go.ChangeShapes Go.WideShapes Go.ChangeAt Go.RowKit
open Go.ChangeMaps (open_string shut_string)

theorem Tryz.own : ownKnob Tryz.prog.godebug = none := by kernel_rfl
theorem Tryz.laidOut : laidOutB Tryz.prog = true := by kernel_rfl
set_option maxRecDepth 100000 in
theorem err_var {W : World} {nm : String} {tn : String} {d : DataW Unit} {rest : List (String × DataW Unit)} {g t : Nat} (hg : Tryz.prog.globalNamed nm = some g) (hty : (Tryz.prog.globals[g]?).map (·.type) = some t) (ht : ∃ m, Tryz.prog.underlying t = some (.interface m))
    (h : laidMet Tryz.prog ((nm, .iface tn d) :: rest) W) : ∃ te pe, W.var? Tryz.prog nm = some #[.iface te pe] := by
  obtain ⟨ps, ⟨g', t', cs, fuel, p, q, hg', ht', hvar, hd, _, _⟩, _⟩ := h
  obtain rfl := Option.some.inj (hg.symm.trans hg')
  obtain rfl := Option.some.inj (hty.symm.trans ht')
  obtain ⟨m, hm⟩ := ht
  cases fuel with
  | zero => simp [DataW.trod] at hd
  | succ fuel =>
    have key : ∀ cl : List Value, DataW.trod (fun _ => ()) Tryz.prog W 0 (fun _ => true) false (fuel + 1) t cl = some (.iface tn d, p) → ∃ u v, cl = [.iface u v] := by
      intro cl hd
      unfold DataW.trod at hd
      rw [hm] at hd
      dsimp only at hd
      split at hd
      all_goals first
        | exact ⟨_, _, rfl⟩
        | (rename_i h; cases h; done)
        | (cases hd; done)
        | (injection hd with hd; injection hd with hd; cases hd; done)
        | skip
    obtain ⟨u, v, hc⟩ := key _ hd
    refine ⟨u, v, ?_⟩
    rw [hvar, ← hc]
theorem laid_all {W : World} {l : List (String × DataW Unit)} (h : laidMetH Tryz.prog l W) (h0 : (l.all fun x => x.2.handleName?.isNone) = true)
    (h1 : (l.filter fun x => x.1 == "strconv.ErrRange") = [("strconv.ErrRange", Rows.laid_strconv_ErrRange)]) (h2 : (l.filter fun x => x.1 == "strconv.ErrSyntax") = [("strconv.ErrSyntax", Rows.laid_strconv_ErrSyntax)])
    (h3 : (l.filter fun x => x.1 == "internal/strconv.uint64pow10") = [("internal/strconv.uint64pow10", Lib.tabData .u64 Lib.pow10Tab)]) : Laid W := by
  rw [MakeChecks.laidMetH_plain _ _ _ h0] at h
  refine ⟨?_, ?_, ?_⟩
  · have h4 := h.filter (fun x => x.1 == "strconv.ErrRange")
    rw [h1] at h4
    exact err_var (g := 4) (t := 96) (by kernel_rfl) (by kernel_rfl) ⟨_, Tryz.underlying96⟩ h4
  · have h4 := h.filter (fun x => x.1 == "strconv.ErrSyntax")
    rw [h2] at h4
    exact err_var (g := 3) (t := 96) (by kernel_rfl) (by kernel_rfl) ⟨_, Tryz.underlying96⟩ h4
  · have h4 := h.filter (fun x => x.1 == "internal/strconv.uint64pow10")
    rw [h3] at h4
    exact Lib.tabIs_of_head (g := 0) (t := 130) (e := 58) (n := 20) (by kernel_rfl) (by kernel_rfl) (by kernel_rfl) (by kernel_rfl) (by kernel_rfl) (by kernel_rfl) h4
section
variable {H : Type} {enc : TypeId × Value → H}
/-- arguments read behind the call as before it, where below their blocks nothing has turned -/
theorem args_stay {W W' : World} (hb : Below W.heap.size W W') : ∀ (ts : List TypeId) (vs : List Value) (ds : List (DataW H)) (ps : List MemPlace),
    (∀ t ∈ ts, Tryz.prog.readableRec t = true ∧ t < Tryz.prog.types.size) → DataW.TrodAll enc Tryz.prog W 0 (fun _ => true) true ts vs ds ps → (∀ x ∈ ps, x.block < W.heap.size) →
    DataW.TrodAll enc Tryz.prog W' 0 (fun b => decide (b < W.heap.size)) true ts vs ds ps
  | [], vs, ds, ps, _, h, _ => by
    obtain ⟨rfl, rfl, rfl⟩ := trodAll_nil h
    exact trodAll_mk0
  | t :: ts, vs, ds, ps, ht, h, hlt => by
    obtain ⟨v, vs', d, ds', p, q, rfl, rfl, rfl, h1, h2⟩ := trodAll_cons h
    have ht' := ht t (List.mem_cons_self ..)
    exact trodAll_cons_mk (Below.trod Tryz.laidOut ht'.1 ht'.2 h1 hb fun x hx => hlt x (List.mem_append_left _ hx))
      (args_stay hb ts vs' ds' q (fun t h => ht t (List.mem_cons_of_mem _ h)) h2 fun x hx => hlt x (List.mem_append_right _ hx))

/-- A LAW's POST: true comes back, the arguments read as they did -/
theorem law_post {f : Func} {s : ChangeSpec} {W W' : World} {args : Array Value} {ds : List (DataW H)} {before : List MemPlace}
    (hW : DataW.Whole enc Tryz.prog f.params.toList s.vars false W args.toList ds [] before) (hA : DataW.TrodAll enc Tryz.prog W 0 (fun _ => true) true f.params.toList args.toList ds before)
    (ht : ∀ t ∈ f.params.toList, Tryz.prog.readableRec t = true ∧ t < Tryz.prog.types.size) (hv : s.vars = []) (hrt : f.resultTypes = #[4])
    (hs : s.fn H (ds ++ []) = { results := [.lit (.bool true)], args := ds }) (hb : Below W.heap.size W W') :
    s.post enc Tryz.prog f false true false false W args (.bool true) W' := by
  refine ⟨ds, [], before, [], before, [], hW, ?_, ?_, ?_, hb.frame _, fun h => by cases h⟩
  · rw [hs, hrt]
    exact trodAll_mk1 (shut_bool Tryz.underlying4 true)
  · rw [hs]
    exact args_stay hb _ _ _ _ ht hA fun x hx => hW.lt x hx
  · rw [hs, hv]; rfl
end
end Go.Proofs.YtadmmmehphhecaaGreatDoor
/- An argument that is an expression, opened. No condition. -/
namespace Go.Proofs.YtadmmmehphhecaaGreatDoor
open Go.ChangeShapes Go.WideShapes Go.ChangeAt Go.RowKit
/-- every weight is one that a machine reaches -/
def Wt {H : Type} (t : TypeId) (d : DataW H) : Prop := ∀ n ∈ d.weights Tryz.prog t, n ≤ reachBytes
theorem wt_all {H : Type} (e : TypeId) : ∀ (l : List (DataW H)) (d : DataW H), d ∈ l → ∀ n ∈ d.weights Tryz.prog e, n ∈ DataW.weightsAll Tryz.prog e l
  | [], d, h, n, hn => by cases h
  | a :: r, d, h, n, hn => by
    unfold DataW.weightsAll
    rcases List.mem_cons.1 h with rfl | h
    · exact List.mem_append_left _ hn
    · exact List.mem_append_right _ (wt_all e r d h n hn)
theorem wt_slice {H : Type} {t e : TypeId} (hu : Tryz.prog.underlying t = some (.slice e)) {l s : List (DataW H)} (hb : 0 < Tryz.prog.bytesOf e) (h : Wt t (.slice l s)) : l.length ≤ 140737488355328 ∧ ∀ d ∈ l, Wt e d := by
  unfold Wt DataW.weights at h
  rw [hu] at h
  dsimp only at h
  refine ⟨?_, fun d hd n hn => h n (List.mem_cons_of_mem _ (List.mem_append_left _ (wt_all e l d hd n hn)))⟩
  have h1 := h _ (List.mem_cons_self ..)
  have h2 : (l.length + s.length) * 1 ≤ (l.length + s.length) * Tryz.prog.bytesOf e := Nat.mul_le_mul (Nat.le_refl _) hb
  have h3 : reachBytes ≤ 140737488355328 := by decide
  omega
theorem wt_struct4 {H : Type} {t t0 t1 t2 t3 : TypeId} {fs : Array Field} (hu : Tryz.prog.underlying t = some (.struct fs)) (hf : fs.toList.map (·.type) = [t0, t1, t2, t3]) {d0 d1 d2 d3 : DataW H} (h : Wt t (.agg [d0, d1, d2, d3])) : Wt t3 d3 := by
  unfold Wt DataW.weights at h
  rw [hu] at h
  dsimp only at h
  rw [hf] at h
  intro n hn
  refine h n ?_
  simp only [DataW.weightsEach, List.mem_append]
  exact .inr (.inr (.inr (.inl hn)))
/-- cells that are an expression's -/
def Opened (W : World) (e : Ex) (cs : List Value) : Prop :=
  ∃ A cap, cs = [.string ⟨e.op.toArray⟩, .int .i64 e.num, .string ⟨e.name.toArray⟩, .slice A e.kids.len cap] ∧ e.kids.len ≤ cap ∧ cap ≤ maxLen ∧ numsF e = true ∧ RdL W (fun _ => True) e.kids A
section
variable {H : Type} {enc : TypeId × Value → H} {W : World} {sp : Nat → Bool} {held : Bool}
theorem open_kids (n : Nat) (a : Addr) (elems : List (DataW H × List MemPlace)) (IH : ∀ cs x, DataW.trod enc Tryz.prog W 0 sp held n 30 cs = some x → ∃ e, Opened W e cs ∧ (Wt 30 x.1 → wideF e = true)) (len : Nat)
    (h : ∀ i, i < len → (W.cells? 0 (a.add (i * 4)) 4).bind (DataW.trod enc Tryz.prog W 0 sp held n 30) = elems[i]?) (hl : elems.length = len) :
    ∀ m j, m + j = len → ∃ l : Exs, l.len = m ∧ numsL l = true ∧ RdL W (fun _ => True) l (some ⟨a.block, a.off + j * 4, none⟩) ∧ ((∀ x ∈ elems.map (·.1), Wt 30 x) → wideL l = true) := by
  intro m
  induction m with
  | zero => intro j _; exact ⟨.nil, rfl, rfl, by unfold RdL; trivial, fun _ => rfl⟩
  | succ m ih =>
    intro j hj
    obtain ⟨l, h1, h2, h3, h4⟩ := ih (j + 1) (by omega)
    have hlt : j < elems.length := by omega
    have hb := h j (by omega)
    rw [List.getElem?_eq_getElem hlt] at hb
    obtain ⟨cs', hcs, htr⟩ := Option.bind_eq_some_iff.1 hb
    obtain ⟨e, ⟨A, cap, he, hc1, hc2, hnum, hrd⟩, hwd⟩ := IH cs' _ htr
    subst he
    have hm : (List.range 4).mapM (fun i => W.cell? ((a.add (j * 4)).add i)) = some [.string ⟨e.op.toArray⟩, .int .i64 e.num, .string ⟨e.name.toArray⟩, .slice A e.kids.len cap] := by
      unfold World.cells? at hcs
      rw [if_pos (Nat.zero_le _)] at hcs; exact hcs
    have key : ∀ i, i < 4 → ∀ u, [Value.string ⟨e.op.toArray⟩, .int .i64 e.num, .string ⟨e.name.toArray⟩, .slice A e.kids.len cap][i]? = some u → W.cell? ⟨a.block, a.off + j * 4 + i, none⟩ = some u := by
      intro i hi u hu
      obtain ⟨b, hb1, hb2⟩ := Lib.mapM_at hm i i (by simp [hi])
      rw [hu] at hb1
      injection hb1 with hb1
      subst hb1
      have hsp := World.cell?_spot hb2
      have : (a.add (j * 4)).add i = ⟨a.block, a.off + j * 4 + i, none⟩ := by
        obtain ⟨ab, ao, as_⟩ := a
        unfold Addr.add at hsp ⊢
        by_cases h0 : j * 4 = 0 <;> by_cases h1 : i = 0 <;> simp_all
      rw [this] at hb2; exact hb2
    refine ⟨.cons e l, by simp [Exs.len, h1], by simp [numsL, hnum, h2], ?_, fun hw => by simp only [wideL, Bool.and_eq_true]; exact ⟨hwd (hw _ (List.mem_map.2 ⟨_, List.getElem_mem hlt, rfl⟩)), h4 hw⟩⟩
    unfold RdL
    refine ⟨a.block, a.off + j * 4, _, _, _, _, rfl, trivial, key 0 (by omega) _ rfl, key 1 (by omega) _ rfl, key 2 (by omega) _ rfl, key 3 (by omega) _ rfl, ?_, ?_⟩
    · cases e; unfold RdX; exact ⟨A, cap, rfl, hc1, hrd⟩
    · have : a.off + j * 4 + 4 = a.off + (j + 1) * 4 := by omega
      rw [this]; exact h3
set_option maxRecDepth 100000 in
theorem open_ex : ∀ (fuel : Nat) (cs : List Value) (x : DataW H × List MemPlace), DataW.trod enc Tryz.prog W 0 sp held fuel 30 cs = some x → ∃ e, Opened W e cs ∧ (Wt 30 x.1 → wideF e = true) := by
  intro fuel
  induction fuel using Nat.strongRecOn with
  | _ fuel IH =>
    intro cs x h
    obtain ⟨fs, hfs, hft, f0, f1, f2, f3⟩ : ∃ fs : Array Field, Tryz.prog.underlying 30 = some (.struct fs) ∧ fs.toList.map (·.type) = [9, 2, 9, 28] ∧ (fs[0]?.map fun (f : Field) => (f.type, f.offset)) = some (9, 0) ∧ (fs[1]?.map fun (f : Field) => (f.type, f.offset)) = some (2, 1) ∧ (fs[2]?.map fun (f : Field) => (f.type, f.offset)) = some (9, 2) ∧ (fs[3]?.map fun (f : Field) => (f.type, f.offset)) = some (28, 3) := ⟨_, Tryz.underlying30, by kernel_rfl, by kernel_rfl, by kernel_rfl, by kernel_rfl, by kernel_rfl⟩
    obtain ⟨xs, n, rfl, rfl, hlen, hxl, hf⟩ := DataW.trod_struct hfs h
    have hc4 : Tryz.prog.cellsOf 30 = 4 := by kernel_rfl
    have hs1 : Tryz.prog.cellsOf 9 = 1 := by kernel_rfl
    have hs2 : Tryz.prog.cellsOf 2 = 1 := by kernel_rfl
    have hs3 : Tryz.prog.cellsOf 28 = 1 := by kernel_rfl
    rw [hc4] at hlen
    obtain ⟨q0, q1, q2, q3, rfl⟩ : ∃ q0 q1 q2 q3, cs = [q0, q1, q2, q3] := by
      match cs, hlen with
      | [q0, q1, q2, q3], _ => exact ⟨q0, q1, q2, q3, rfl⟩
    have hx4 : xs.length = 4 := by rw [hxl]; have := congrArg List.length hft; simpa using this
    obtain ⟨x0, x1, x2, x3, rfl⟩ : ∃ x0 x1 x2 x3, xs = [x0, x1, x2, x3] := by
      match xs, hx4 with
      | [x0, x1, x2, x3], _ => exact ⟨x0, x1, x2, x3, rfl⟩
    have get : ∀ (i : Nat) (t : TypeId) (o : Nat), (fs[i]?.map fun (f : Field) => (f.type, f.offset)) = some (t, o) → ∃ y, DataW.trod enc Tryz.prog W 0 sp held n t (([q0, q1, q2, q3].drop o).take (Tryz.prog.cellsOf t)) = some y ∧ [x0, x1, x2, x3][i]? = some y := by
      intro i t o hi
      cases hfi : fs[i]? with
      | none => rw [hfi] at hi; cases hi
      | some f =>
        rw [hfi] at hi
        simp only [Option.map_some, Option.some.injEq, Prod.mk.injEq] at hi
        obtain ⟨rfl, rfl⟩ := hi
        have := hf i f hfi
        have hlt : i < [x0, x1, x2, x3].length := by
          rw [hxl]
          rcases Nat.lt_or_ge i fs.size with h1 | h1
          · exact h1
          · rw [Array.getElem?_eq_none h1] at hfi; cases hfi
        rw [List.getElem?_eq_getElem hlt] at this
        exact ⟨_, this, List.getElem?_eq_getElem hlt⟩
    obtain ⟨y0, h0, z0⟩ := get 0 _ _ f0
    obtain ⟨y1, h1, z1⟩ := get 1 _ _ f1
    obtain ⟨y2, h2, z2⟩ := get 2 _ _ f2
    obtain ⟨y3, h3, z3⟩ := get 3 _ _ f3
    have hxy : x3 = y3 := Option.some.inj z3
    subst hxy
    have HW3 : Wt 30 (.agg ([x0, x1, x2, x3].map (·.1))) → Wt 28 x3.1 := fun h => wt_struct4 hfs hft h
    rw [hs1] at h0 h2
    rw [hs2] at h1
    rw [hs3] at h3
    simp only [List.drop_zero, List.drop_succ_cons, List.take_succ_cons, List.take_zero] at h0 h1 h2 h3
    obtain ⟨s0, e0, _⟩ := DataW.trod_string Tryz.underlying9 h0
    obtain ⟨k1, e1, _, wk⟩ := DataW.trod_int Tryz.underlying2 h1
    obtain ⟨s2, e2, _⟩ := DataW.trod_string Tryz.underlying9 h2
    injection e0 with e0 _
    injection e1 with e1 _
    injection e2 with e2 _
    subst e0 e1 e2
    have hk1 : -9223372036854775808 ≤ k1 ∧ k1 ≤ 9223372036854775807 := by simpa [Lit.wf, IntKind.min, IntKind.max, IntKind.signed, IntKind.bits] using wk
    have hst : ∀ s : ByteArray, (⟨s.data.toList.toArray⟩ : ByteArray) = s := fun s => by simp
    rcases DataW.trod_slice Tryz.underlying28 h3 with ⟨e3, _⟩ | ⟨a, len, cap, elems, rest, n', rfl, e3, hx3, _, hlc, hcm, hel, hat, _⟩
    · injection e3 with e3 _
      subst e3
      refine ⟨.mk s0.data.toList k1 s2.data.toList .nil, ⟨none, 0, ?_, Nat.le_refl _, Nat.zero_le _, ?_, by unfold RdL; trivial⟩, fun _ => rfl⟩
      · simp only [Ex.op, Ex.num, Ex.name, Ex.kids, Exs.len, hst]
      · simp [numsF, numsL, hk1.1, hk1.2]
    · injection e3 with e3 _
      subst e3
      rw [hc4] at hat
      obtain ⟨l, g1, g2, g3, g4⟩ := open_kids n' a elems (IH n' (by omega)) len hat hel len 0 (by omega)
      refine ⟨.mk s0.data.toList k1 s2.data.toList l, ⟨some a, cap, ?_, by show l.len ≤ cap; omega, hcm, ?_, ?_⟩, fun hw => ?_⟩
      rotate_left 3
      · have h5 := HW3 hw
        rw [hx3] at h5
        have h6 := wt_slice Tryz.underlying28 (by decide +kernel) h5
        rw [List.length_map, hel] at h6
        simp only [wideF, Bool.and_eq_true, decide_eq_true_eq, g1]
        exact ⟨h6.1, g4 h6.2⟩
      · simp only [Ex.op, Ex.num, Ex.name, Ex.kids, hst, g1]
      · simp [numsF, g2, hk1.1, hk1.2]
      · show RdL W _ l (some a)
        cases l with
        | nil => unfold RdL; trivial
        | cons x r =>
          have hb := hat 0 (by simp [Exs.len] at g1; omega)
          rw [List.getElem?_eq_getElem (by simp [Exs.len] at g1; omega)] at hb
          obtain ⟨cs', hcs, htr⟩ := Option.bind_eq_some_iff.1 hb
          unfold World.cells? at hcs
          rw [if_pos (Nat.zero_le _)] at hcs
          obtain ⟨b, _, hb2⟩ := Lib.mapM_at hcs 0 0 (by simp)
          have hsp := World.cell?_spot hb2
          obtain ⟨ab, ao, as_⟩ := a
          simp [Addr.add] at hsp
          subst hsp
          simpa using g3
end
set_option maxRecDepth 100000 in
/-- an argument that is an expression -/
theorem open_expr {H : Type} {enc : TypeId × Value → H} {W : World} {b0 : Nat} {v : Value} {d : DataW H} {p : List MemPlace} (hv : Value.okWide Tryz.prog W .any b0 30 v)
    (h : DataW.Trod enc Tryz.prog W 0 (fun _ => true) true 30 v d p) : ∃ e, RdX W (fun _ => True) e v ∧ numsF e = true ∧ (Wt 30 d → wideF e = true) := by
  obtain ⟨fuel, hf⟩ := h
  obtain ⟨e, ⟨A, cap, he, h1, h2, h3, h4⟩, h5⟩ := open_ex fuel _ _ hf
  refine ⟨e, ?_, h3, h5⟩
  obtain ⟨fs, hfs⟩ : ∃ fs : Array Field, Tryz.prog.underlying 30 = some (.struct fs) := ⟨_, Tryz.underlying30⟩
  obtain ⟨cs, rfl, _⟩ := okWide_struct hfs hv
  have hcs : cs = #[.string ⟨e.op.toArray⟩, .int .i64 e.num, .string ⟨e.name.toArray⟩, .slice A e.kids.len cap] := by
    apply Array.ext'
    simpa [Value.cells] using he
  subst hcs
  cases e; unfold RdX; exact ⟨A, cap, rfl, h1, h4⟩
end Go.Proofs.YtadmmmehphhecaaGreatDoor
/- SumsShows returns true at every input, and each argument reads behind the call as before it; its card, tied to the program's text. No condition but the row's own: the listed variables hold what the text lays. -/
namespace Go.Proofs.YtadmmmehphhecaaGreatDoor
open Go.ChangeShapes Go.WideShapes Go.ChangeAt Go.RowKit
open Go.ChangeMaps (open_string shut_string)

set_option maxRecDepth 100000 in
theorem shows_lifted (os : Os) (started : os.Started) (H : Type) (enc : TypeId × Value → H) :
    ReturnsInHanded {} Tryz.checked os 4 .any (fun w args => (Rows.sumsShowsSpec.pre enc Tryz.prog Tryz.f4 Rows.sumsShowsRow.domain false w args ∧ laidMetH Tryz.prog Rows.sumsShowsRow.laid w) ∧ sizedMet enc Tryz.prog Tryz.f4 (OpenSpec.ofChange Rows.sumsShowsSpec) false w args)
      (Rows.sumsShowsSpec.post enc Tryz.prog Tryz.f4 false true false false) := by
  refine returnsInHanded_of_change_and (C := Tryz.checked) (X := fun w _ => laidMetH Tryz.prog Rows.sumsShowsRow.laid w) (fun _ _ _ hh h => h.of_heap hh) Tryz.own started (by kernel_rfl) Tryz.func4
    (ChangeSpec.witness_shaped (enc := enc) (C := Tryz.checked) (os := os) (X := fun w _ => laidMetH Tryz.prog Rows.sumsShowsRow.laid w) false (World.laidAll Tryz.prog os Rows.sumsShowsRow.laid) #[.agg #[.string ⟨#[]⟩, .int .i64 0, .string ⟨#[]⟩, .slice none 0 0]] 8 (World.laidAll_os _ _ _)
      (World.shaped_of_ZipB (by kernel_rfl) (by kernel_rfl)) (by kernel_rfl) (by kernel_rfl) (by kernel_rfl)
      (by rw [MakeChecks.laidMetH_plain _ _ _ (by kernel_rfl)]; exact laidMet_laidAll _ (by kernel_rfl) (by kernel_rfl))) ?_
  intro W base args ds gs before hval0 hW hc hS1 hL hS2
  have hval : ∀ (j : Nat) t v, Tryz.f4.params[j]? = some t → args[j]? = some v → Value.okWide Tryz.prog W .any base t v := hval0
  have hW' := hW
  obtain ⟨p, q, hA0, hV, rfl, hfz, hnd⟩ := hW
  have hA : DataW.TrodAll enc Tryz.prog W 0 (fun _ => true) true Tryz.f4.params.toList args.toList ds p := hA0
  have hA1 := hA
  rw [Tryz.params4] at hA hval
  obtain ⟨v0, vs0, d0, ds0, p0, q0, hargs, rfl, rfl, h0, r0⟩ := trodAll_cons hA
  obtain ⟨rfl, rfl, rfl⟩ := trodAll_nil r0
  obtain rfl : args = #[v0] := by cases args; simp_all
  obtain ⟨rfl, rfl⟩ := trodVars_none hV
  obtain ⟨e, hr, hn, hw0⟩ := open_expr (hval 0 30 v0 rfl rfl) h0
  have hw : wideF e = true := hw0 (fun m hm => by
    have h9 := List.all_eq_true.1 hS1 m (by
      rw [Tryz.params4]
      show m ∈ DataW.weightsEach Tryz.prog (30 :: _) (d0 :: [])
      unfold DataW.weightsEach
      exact List.mem_append_left _ hm)
    simpa using h9)
  have hLL : Laid W := laid_all hL (by kernel_rfl) (by kernel_rfl) (by kernel_rfl) (by kernel_rfl)
  simp only [List.append_nil] at hW'
  refine (shows_any e W _ v0 hr hn hw hLL).mono fun e W' ⟨he, hb⟩ => ?_
  exact ⟨_, he, law_post hW' (by simpa using hA1) (by rw [Tryz.params4]; intro t ht; simp at ht; subst ht; exact ⟨by kernel_rfl, of_decide_eq_true (by kernel_rfl)⟩) rfl rfl rfl hb⟩

theorem shows_row : Rows.SumsShowsSaid :=
  OpenClaim.holds_of_wide 4 Tryz.f4 rfl rfl rfl rfl rfl rfl rfl ⟨rfl, rfl, rfl, rfl, rfl⟩ rfl rfl rfl rfl rfl (by kernel_rfl) Tryz.func4 (by kernel_rfl)
    (of_decide_eq_true (by kernel_rfl)) (by unfold Func.isWrapper; first | (rw [if_pos (by decide +kernel)]; kernel_rfl) | (rw [if_neg (by decide +kernel)]; exact ⟨rfl, rfl⟩))
    (fun os started H enc _ => shows_lifted os started H enc)
theorem shows_holds : Rows.SumsShowsCardSaid :=
  Claim7.holds_tied_plain_at .later [] [.data, .data, .data, .data, .sentinel, .sentinel, .pinned] true (true, "de5f2bf01d17494fe65ff79c84d6f18fc2d0b3268bda0c5ff877aa72a5516be8") true shows_row (fun _ h => by cases h) (by kernel_rfl) (fun _ h => by cases h) sumsShows_row_tie rfl ⟨rfl, rfl⟩ (by kernel_rfl) rfl
    (fun f fn hf hfn => by
      obtain rfl : f = 4 := Option.some.inj ((show Tryz.prog.funcNamed "whelk/whelklaw03.SumsShows" = some 4 by kernel_rfl).symm.trans hf) |>.symm
      obtain rfl : fn = Tryz.f4 := (Option.some.inj (Tryz.func4.symm.trans hfn)).symm
      exact ⟨by kernel_rfl, fun j t ht => by
        rw [Tryz.params4] at ht
        have hm : t ∈ [30] := by simpa using Array.mem_of_getElem? ht
        have hall : ([30].all fun u => !Tryz.prog.wantsStandIn u) = true := by kernel_rfl
        exact (show Tryz.prog.wantsStandIn t = false by simpa using List.all_eq_true.1 hall t hm)⟩)
    (by kernel_rfl)
end Go.Proofs.YtadmmmehphhecaaGreatDoor
