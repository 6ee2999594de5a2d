/- SumsNumbers returns true at every input, and each argument reads behind the call as before it; its card, tied to the program's text. No condition but the row's own: the listed variables hold what the text lays. -/
import Derived.Test.YtadmmmehphhecaaGreatDoorLs1
import Derived.Test.YtadmmmehphhecaaGreatDoorLs2
import Derived.Test.YtadmmmehphhecaaGreatDoorLs3
import Derived.Test.YtadmmmehphhecaaGreatDoorLs4
import Derived.Test.YtadmmmehphhecaaGreatDoorLt
import Derived.Test.YtadmmmehphhecaaGreatDoorSa
import Derived.Test.YtadmmmehphhecaaGreatDoorLr
import Derived.Defers
import Derived.Recover
import Derived.Test.YtadmmmehphhecaaGreatDoorI
import Derived.Test.YtadmmmehphhecaaGreatDoorRows
import Derived.Test.YtadmmmehphhecaaGreatDoorN
import Derived.ProofKit
import Derived.OpenShut
import Derived.LaidMore
import Derived.LaidSub
import Derived.Lib.LaidTab
import Derived.Lay
import Derived.Stop.Joined
import Derived.MakeChecks
import Derived.Test.YtadmmmehphhecaaGreatDoorCards
import Derived.Test.YtadmmmehphhecaaGreatDoorTie
import Derived.SevenTiedAt
set_option linter.unusedVariables false
set_option linter.unusedSimpArgs false
/- The contract of value of sums.valuer, by induction; the walk of Value. -/
namespace Go.Proofs.YtadmmmehphhecaaGreatDoor
open Go.RowKit
theorem set_any (op : List UInt8) (n : Int) (nm : List UInt8) (x : Ex) (hop : setF op = true) (hkx : ValC x) (hox : okF x = true) : SetC (.mk op n nm (.cons x .nil)) := by
  by_cases h : op = [61]
  · subst h; exact set_eq n nm x hkx hox
  · exact set_op op n nm x hop h (op_len (by rw [setF_kids hop]; decide)) hkx hox
set_option maxRecDepth 100000 in
set_option maxHeartbeats 4000000 in
theorem val_set (op : List UInt8) (n : Int) (nm : List UInt8) (x : Ex) (hop : setF op = true) (hset : SetC (.mk op n nm (.cons x .nil))) : ValC (.mk op n nm (.cons x .nil)) := by
  have HKF := hid (setF_kids hop)
  have HNS := hid hop
  have HSET := hid hset
  clear hop hset
  intro w g B T u v hr hV hlen
  obtain ⟨A, cap, rfl, hcap, hkids⟩ := hr.form
  dsimp only [Ex.op, Ex.num, Ex.name, Ex.kids, Exs.len, Nat.zero_add, Nat.reduceAdd] at *
  obtain ⟨b, off, rfl⟩ := hkids.form_ (by simp [Exs.len])
  obtain ⟨Ax, capx, hPx, qx0, qx1, qx2, qx3, hrx, hkids⟩ := hkids.un
  unfold vw
  have kV : Bk ((w.alloc (.cells #[.iface TSt (.pointer (some ⟨g, 0, none⟩))] 78)).alloc (.cells #[.string ⟨op.toArray⟩, .int .i64 n, .string ⟨nm.toArray⟩, .slice (some ⟨b, off, none⟩) 1 cap] 30)) w.heap.size 78 #[.iface TSt (.pointer (some ⟨g, 0, none⟩))] := (Bk.new w 78 #[.iface TSt (.pointer (some ⟨g, 0, none⟩))]).alloc _
  have kE : Bk ((w.alloc (.cells #[.iface TSt (.pointer (some ⟨g, 0, none⟩))] 78)).alloc (.cells #[.string ⟨op.toArray⟩, .int .i64 n, .string ⟨nm.toArray⟩, .slice (some ⟨b, off, none⟩) 1 cap] 30)) (w.heap.size + 1) 30 #[.string ⟨op.toArray⟩, .int .i64 n, .string ⟨nm.toArray⟩, .slice (some ⟨b, off, none⟩) 1 cap] := heap2_1 w _ _
  have hB0 : Below w.heap.size w ((w.alloc (.cells #[.iface TSt (.pointer (some ⟨g, 0, none⟩))] 78)).alloc (.cells #[.string ⟨op.toArray⟩, .int .i64 n, .string ⟨nm.toArray⟩, .slice (some ⟨b, off, none⟩) 1 cap] 30)) := ((Below.refl _ _).alloc (Nat.le_refl _) _).alloc (by simp) _
  have hsz0 : ((w.alloc (.cells #[.iface TSt (.pointer (some ⟨g, 0, none⟩))] 78)).alloc (.cells #[.string ⟨op.toArray⟩, .int .i64 n, .string ⟨nm.toArray⟩, .slice (some ⟨b, off, none⟩) 1 cap] 30)).heap.size = w.heap.size + 1 + 1 := by simp
  have px0 : ((w.alloc (.cells #[.iface TSt (.pointer (some ⟨g, 0, none⟩))] 78)).alloc (.cells #[.string ⟨op.toArray⟩, .int .i64 n, .string ⟨nm.toArray⟩, .slice (some ⟨b, off, none⟩) 1 cap] 30)).cell? ⟨b, off, none⟩ = some (.string ⟨x.op.toArray⟩) := al (al qx0)
  have px1 : ((w.alloc (.cells #[.iface TSt (.pointer (some ⟨g, 0, none⟩))] 78)).alloc (.cells #[.string ⟨op.toArray⟩, .int .i64 n, .string ⟨nm.toArray⟩, .slice (some ⟨b, off, none⟩) 1 cap] 30)).cell? ⟨b, off + 1, none⟩ = some (.int .i64 x.num) := al (al qx1)
  have px2 : ((w.alloc (.cells #[.iface TSt (.pointer (some ⟨g, 0, none⟩))] 78)).alloc (.cells #[.string ⟨op.toArray⟩, .int .i64 n, .string ⟨nm.toArray⟩, .slice (some ⟨b, off, none⟩) 1 cap] 30)).cell? ⟨b, off + 2, none⟩ = some (.string ⟨x.name.toArray⟩) := al (al qx2)
  have px3 : ((w.alloc (.cells #[.iface TSt (.pointer (some ⟨g, 0, none⟩))] 78)).alloc (.cells #[.string ⟨op.toArray⟩, .int .i64 n, .string ⟨nm.toArray⟩, .slice (some ⟨b, off, none⟩) 1 cap] 30)).cell? ⟨b, off + 3, none⟩ = some (.slice Ax x.kids.len capx) := al (al qx3)
  go_enter Tryz.func37, Tryz.ntmps37
  go_wp2_with fail
  obtain ⟨W0, hW0⟩ : ∃ W0, W0 = ((w.alloc (.cells #[.iface TSt (.pointer (some ⟨g, 0, none⟩))] 78)).alloc (.cells #[.string ⟨op.toArray⟩, .int .i64 n, .string ⟨nm.toArray⟩, .slice (some ⟨b, off, none⟩) 1 cap] 30)) := ⟨_, rfl⟩
  rw [← hW0] at kV kE hB0 hsz0 px0 px1 px2 px3
  rw [← hW0]
  clear hW0 qx0 qx1 qx2 qx3
  have v0 := kV.cell 0 _ rfl
  obtain ⟨c0, c1, c2, c3⟩ := kE.cells4
  have fV : Free W0 g u w.heap.size := hV.new hB0 (Nat.le_refl _) (by omega)
  have fE : Free W0 g u (w.heap.size + 1) := hV.new hB0 (by omega) (by omega)
  have fB : Free W0 g u b := (TStep.below (g := g) (u := u) hB0).free hPx
  have ST := hid (TStep.below (g := g) (u := u) hB0)
  have VI := hid (hV.below hB0)
  have HE0 := hid (hr.step (TStep.below (g := g) (u := u) hB0))
  have HS0 := hid hV.short
  have HXx := hid (hrx.step (TStep.below (g := g) (u := u) hB0))
  clear kV kE hB0 hsz0 hV hr hcap hkids hrx hPx
  have stq := TStep.below (g := g) (u := u) ((Below.refl W0.heap.size W0).drew)
  have v0 := cell_step stq fV v0
  have c0 := cell_step stq fE c0
  have c1 := cell_step stq fE c1
  have c2 := cell_step stq fE c2
  have c3 := cell_step stq fE c3
  have px0 := cell_step stq fB px0
  have px1 := cell_step stq fB px1
  have px2 := cell_step stq fB px2
  have px3 := cell_step stq fB px3
  have fV := stq.free fV
  have fE := stq.free fE
  have fB := stq.free fB
  have ST := hid (ST.out.trans stq)
  have HXx := hid (HXx.out.step stq)
  have HE0 := hid (HE0.out.step stq)
  have VI := hid (VI.out.below ((Below.refl W0.heap.size W0).drew))
  clear stq
  refine wp_region_held_drew (S := (fun w' => w'.cell? ⟨w.heap.size, 0, none⟩ = some (.iface TSt (.pointer (some ⟨g, 0, none⟩))) ∧ w'.cell? ⟨w.heap.size + 1, 0, none⟩ = some (.string ⟨op.toArray⟩) ∧ w'.cell? ⟨w.heap.size + 1, 1, none⟩ = some (.int .i64 n) ∧ w'.cell? ⟨w.heap.size + 1, 2, none⟩ = some (.string ⟨nm.toArray⟩) ∧ w'.cell? ⟨w.heap.size + 1, 3, none⟩ = some (.slice (some ⟨b, off, none⟩) 1 cap) ∧ w'.cell? ⟨b, off, none⟩ = some (.string ⟨x.op.toArray⟩) ∧ w'.cell? ⟨b, off + 1, none⟩ = some (.int .i64 x.num) ∧ w'.cell? ⟨b, off + 2, none⟩ = some (.string ⟨x.name.toArray⟩) ∧ w'.cell? ⟨b, off + 3, none⟩ = some (.slice Ax x.kids.len capx))) (by kernel_rfl) ⟨v0, c0, c1, c2, c3, px0, px1, px2, px3⟩ (fun hHeld => ?_)
  refine takeYes (i := 0) (v := .pointer (some ⟨w.heap.size + 1, 3, none⟩)) rfl (by kernel_rfl) (by kernel_rfl) (by kernel_rfl) (fun _ _ _ h => h) (by rfl) ?_ (by assumption) ?_
  · intro w hSw; obtain ⟨sq0, sq1, sq2, sq3, sq4, sq5, sq6, sq7, sq8⟩ := hSw; go_simp
  try simp only [Act.put, List.setIfInBounds_toArray, List.set_cons_zero, List.set_cons_succ]
  refine takeYes (i := 1) (v := .slice (some ⟨b, off, none⟩) 1 cap) rfl (by kernel_rfl) (by kernel_rfl) (by kernel_rfl) (fun _ _ _ h => h) (by rfl) ?_ (by assumption) ?_
  · intro w hSw; obtain ⟨sq0, sq1, sq2, sq3, sq4, sq5, sq6, sq7, sq8⟩ := hSw; go_simp
  try simp only [Act.put, List.setIfInBounds_toArray, List.set_cons_zero, List.set_cons_succ]
  refine takeYes (i := 2) (v := .int .i64 1) rfl (by kernel_rfl) (by kernel_rfl) (by kernel_rfl) (fun _ _ _ h => h) (by rfl) ?_ (by assumption) ?_
  · intro w hSw; obtain ⟨sq0, sq1, sq2, sq3, sq4, sq5, sq6, sq7, sq8⟩ := hSw; go_simp
  try simp only [Act.put, List.setIfInBounds_toArray, List.set_cons_zero, List.set_cons_succ]
  refine takeYes (i := 3) (v := .pointer (some ⟨w.heap.size + 1, 0, none⟩)) rfl (by kernel_rfl) (by kernel_rfl) (by kernel_rfl) (fun _ _ _ h => h) (by rfl) ?_ (by assumption) ?_
  · intro w hSw; obtain ⟨sq0, sq1, sq2, sq3, sq4, sq5, sq6, sq7, sq8⟩ := hSw; go_simp
  try simp only [Act.put, List.setIfInBounds_toArray, List.set_cons_zero, List.set_cons_succ]
  refine takeYes (i := 4) (v := .string ⟨op.toArray⟩) rfl (by kernel_rfl) (by kernel_rfl) (by kernel_rfl) (fun _ _ _ h => h) (by rfl) ?_ (by assumption) ?_
  · intro w hSw; obtain ⟨sq0, sq1, sq2, sq3, sq4, sq5, sq6, sq7, sq8⟩ := hSw; go_simp
  try simp only [Act.put, List.setIfInBounds_toArray, List.set_cons_zero, List.set_cons_succ]
  refine wpAnyH_ready (rs := [5]) (by kernel_rfl) (by simp) ?_
  refine AllReadyH.cons rfl (fun K hK => ?_) AllReadyH.nil
  go_simp
  ((with_reducible refine (kids_any _ _).mono ?_); rintro e1 w1 ⟨rfl, hby⟩)
  rw [HKF.out]
  have stq := TStep.below (g := g) (u := u) hby
  have v0 := cell_step stq fV v0
  have c0 := cell_step stq fE c0
  have c1 := cell_step stq fE c1
  have c2 := cell_step stq fE c2
  have c3 := cell_step stq fE c3
  have px0 := cell_step stq fB px0
  have px1 := cell_step stq fB px1
  have px2 := cell_step stq fB px2
  have px3 := cell_step stq fB px3
  have fV := stq.free fV
  have fE := stq.free fE
  have fB := stq.free fB
  have ST := hid (ST.out.trans stq)
  have HXx := hid (HXx.out.step stq)
  have HE0 := hid (HE0.out.step stq)
  have VI := hid (VI.out.below hby)
  clear stq hby
  go_wp2_with fail
  refine hK.out _ _ ?_ (fun hHeld => ?_)
  · exact ⟨v0, c0, c1, c2, c3, px0, px1, px2, px3⟩
  clear hK K
  try simp only [Act.put, List.setIfInBounds_toArray, List.set_cons_zero, List.set_cons_succ]
  refine takeYes (i := 6) (v := .bool false) rfl (by kernel_rfl) (by kernel_rfl) (by kernel_rfl) (fun _ _ _ h => h) (by rfl) ?_ (by assumption) ?_
  · intro w hSw; obtain ⟨sq0, sq1, sq2, sq3, sq4, sq5, sq6, sq7, sq8⟩ := hSw; go_simp
  try simp only [Act.put, List.setIfInBounds_toArray, List.set_cons_zero, List.set_cons_succ]
  refine wpAnyH_done (by kernel_rfl) ?_ _
  go_wp2_with fail
  ((with_reducible refine (isSet_any op _).mono ?_); rintro e1 w2 ⟨rfl, rfl⟩)
  rw [HNS.out]
  go_wp2_with fail
  ((with_reducible refine (HSET.out.call _ g B T u _ HE0.out VI.out hlen).mono ?_); rintro e1 w4 ⟨u4, hst, htab, hm⟩)
  have HST := hid (ST.out.trans hst)
  have HTB := hid htab
  obtain ⟨r4, T4, hv4⟩ : ∃ r T1, valF (.mk op n nm (.cons x .nil)) T = (r, T1) := ⟨_, _, rfl⟩
  rw [hv4] at hm HTB
  have HV4 := hid hv4
  clear hst htab hv4
  rcases r4 with er | n4
  · (dsimp only at hm; subst hm; exact ⟨rfl, ValPost.bad HST.out HTB.out HV4.out⟩)
  dsimp only at hm
  subst hm
  go_wp2_with fail
  go_ret
  exact ValPost.good HST.out HTB.out HV4.out rfl
theorem val_any : ∀ e : Ex, okF e = true → ValC e := by
  intro e
  induction hs : szF e using Nat.strongRecOn generalizing e with
  | _ m ih =>
    subst hs
    intro ho
    obtain ⟨op, n, nm, k⟩ := e
    simp only [okF, Bool.and_eq_true, decide_eq_true_eq] at ho
    obtain ⟨⟨⟨o1, o2⟩, o3⟩, o4⟩ := ho
    have key : ∀ x : Ex, szF x < szF (.mk op n nm k) → okF x = true → ValC x := fun x hx ho => ih _ hx x rfl ho
    by_cases hl : (k.len : Int) = kidsF op
    case neg => exact val_kids op n nm k hl
    rcases op_kinds (op := op) (by omega) with rfl | rfl | h | rfl | h | ⟨h, h', h''⟩
    · have : k = .nil := by
        match k, hl with
        | .nil, _ => rfl
        | .cons x r, hl => rw [show kidsF numO = 0 by decide] at hl; simp [Exs.len] at hl; omega
      subst this
      exact val_num n nm
    · have : k = .nil := by
        match k, hl with
        | .nil, _ => rfl
        | .cons x r, hl => rw [show kidsF nameO = 0 by decide] at hl; simp [Exs.len] at hl; omega
      subst this
      exact val_name n nm
    · have hl' := hl
      rw [kidsF_una h] at hl'
      obtain ⟨x, rfl⟩ := Exs.one (k := k) (by omega)
      simp only [okL, Bool.and_eq_true] at o4
      have hx := key x (by simp only [szF, szL]; omega) o4.1
      rcases h with rfl | rfl | rfl | rfl
      · exact val_neg n nm x hx o4.1
      · exact val_pos n nm x hx o4.1
      · exact val_not n nm x hx o4.1
      · exact val_com n nm x hx o4.1
    · rw [show kidsF [63] = 3 by decide] at hl
      obtain ⟨x, y, z, rfl⟩ := Exs.three (k := k) (by omega)
      simp only [okL, Bool.and_eq_true] at o4
      exact val_if n nm x y z (key x (by simp only [szF, szL]; omega) o4.1) o4.1 (key y (by simp only [szF, szL]; omega) o4.2.1) o4.2.1 (key z (by simp only [szF, szL]; omega) o4.2.2.1) o4.2.2.1
    · have hl' := hl
      rw [setF_kids h] at hl'
      obtain ⟨x, rfl⟩ := Exs.one (k := k) (by omega)
      simp only [okL, Bool.and_eq_true] at o4
      exact val_set op n nm x h (set_any op n nm x h (key x (by simp only [szF, szL]; omega) o4.1) o4.1)
    · have hl' := hl
      rw [h''] at hl'
      obtain ⟨x, y, rfl⟩ := Exs.two (k := k) (by omega)
      simp only [okL, Bool.and_eq_true] at o4
      have hx := key x (by simp only [szF, szL]; omega) o4.1
      have hy := key y (by simp only [szF, szL]; omega) o4.2.1
      by_cases h1 : op = [38, 38]
      · subst h1; exact val_and n nm x y hx o4.1 hy o4.2.1
      by_cases h2 : op = [124, 124]
      · subst h2; exact val_or n nm x y hx o4.1 hy o4.2.1
      exact val_two op n nm x y h h' h'' h1 h2 hx o4.1 hy o4.2.1
end Go.Proofs.YtadmmmehphhecaaGreatDoor
/- The walk of Value of sums. -/
namespace Go.Proofs.YtadmmmehphhecaaGreatDoor
open Go.RowKit
abbrev T64 : TypeId := 2
theorem as_errno (v : Value) (w : World) : (Instr.typeAssert (.iface TEr v) 20 TEr false).run Tryz.prog w = .ok v w := by kernel_rfl
theorem vcatch_idle (r0 r1 : Addr) (w : World) :
    CallsD Tryz.prog 36 #[.pointer (some r0), .pointer (some r1)] .returning w fun e u' w' => e = .returned (.tuple #[]) ∧ u' = .returning ∧ w' = w := by
  refine callsD_of_wpS Tryz.func36 rfl fun c₀ cs hu => ?_
  simp only [Tryz.ntmps36, List.size_toArray, List.length_cons, List.length_nil, Nat.reduceAdd, Nat.reduceSub, Array.replicate_succ,
     Array.replicate_zero, List.push_toArray, List.append_toArray, List.nil_append, List.cons_append]
  apply wpS_seq
  apply wpS_region
  simp [wpOpsS, go_sem, recoverD, hu, Exit.thenS]
  refine wpS_of_wp ?_
  go_wp2_with fail
  cases c₀
  simp_all [bodyPostS, results, Tryz.results36]
set_option maxRecDepth 100000 in
set_option maxHeartbeats 2000000 in
theorem vcatch_bad (R1 R2 : Nat) (er : Int) (w : World) (x y : Value) (h1 : Bk w R1 T64 #[x]) (h2 : Bk w R2 TEr #[y]) (h12 : R1 ≠ R2) :
    CallsD Tryz.prog 36 #[.pointer (some ⟨R1, 0, none⟩), .pointer (some ⟨R2, 0, none⟩)] (.panicking (errV er)) w fun e u' w' =>
      e = .returned (.tuple #[]) ∧ settle u' = .returning ∧ w' = ((w.setCell ⟨R1, 0, none⟩ (.int .i64 0)).setCell ⟨R2, 0, none⟩ (.int .i64 er)).drew := by
  refine callsD_of_wpS Tryz.func36 rfl fun c₀ cs hu => ?_
  unfold errV at hu
  have d0 := h1.cell 0 x rfl
  have g0 := h1.free 0
  have e0 := h2.cell 0 y rfl
  have k0 := h2.free 0
  have hta := as_errno
  have l1 := h1.lt
  have l2 := h2.lt
  clear h1 h2
  simp only [Tryz.ntmps36, List.size_toArray, List.length_cons, List.length_nil, Nat.reduceAdd, Nat.reduceSub, Array.replicate_succ,
     Array.replicate_zero, List.push_toArray, List.append_toArray, List.nil_append, List.cons_append]
  apply wpS_seq
  apply wpS_region
  simp [wpOpsS, go_sem, recoverD, hu, Exit.thenS]
  refine wpS_of_wp ?_
  go_wp2_with fail
  go_region_with fail
  all_goals exact ⟨rfl, _, rfl, _, results_none rfl _ _ _, rfl, rfl, rfl⟩
/-- what Value answers: number, error, table -/
def valueF (e : Ex) (T : Tab) : Int × Int × Tab :=
  if 200 < deepF 200 e then (0, 32, T) else match valF e T with
    | (.ok n, T1) => (n, 0, T1)
    | (.error er, T1) => (0, er, T1)
def ValuePost (e : Ex) (g B : Nat) (T : Tab) (u : Value) (w : World) (x : Ending) (w' : World) : Prop :=
  ∃ u', TStep g w u w' u' ∧ TabAt w' B g (valueF e T).2.2 u' ∧ x = .returned (.tuple #[.int .i64 (valueF e T).1, .int .i64 (valueF e T).2.1])
theorem ValuePost.mk {e : Ex} {g B : Nat} {T T' : Tab} {u u' : Value} {w w' : World} {n f : Int} (hst : TStep g w u w' u') (ht : TabAt w' B g T' u') (hv : valueF e T = (n, f, T')) : ValuePost e g B T u w (.returned (.tuple #[.int .i64 n, .int .i64 f])) w' :=
  ⟨u', hst, by rw [hv]; exact ht, by rw [hv]⟩
def VRes (w : World) (R : Nat) (a b : Value) : Prop := Bk w (R + 1) T64 #[a] ∧ Bk w (R + 1 + 1) TEr #[b]
def VResRd (R : Nat) (tmps : Array Value) : Prop := ∀ (w : World) (a b : Value), VRes w R a b → (results Tryz.f17 tmps).run Tryz.prog w = .ok (.tuple #[a, b]) w
abbrev vcatchD (R : Nat) : Deferred := { target := .fn (.func 36) #[.pointer (some ⟨R + 1, 0, none⟩), .pointer (some ⟨R + 1 + 1, 0, none⟩)], args := #[] }
/-- a cell elsewhere is set -/
theorem TabAt.far {w : World} {B g : Nat} {T : Tab} {u : Value} (h : TabAt w B g T u) {r : Nat} (hr : r ≠ g) (hu : some r ≠ u.ownBlock) (v : Value) : TabAt (w.setCell ⟨r, 0, none⟩ v) B g T u := by
  refine ⟨h.1.far (p := ⟨r, 0, none⟩) (fun e => hr e.symm) v, ?_, by have := h.2.2; simp [World.setCell]; exact this⟩
  exact h.2.1.kept (row := some r) (grown_setCell (w := w) (p := ⟨r, 0, none⟩) rfl v) (by
    cases hb : u.ownBlock with
    | none => simp
    | some b => rw [hb] at hu; simp; intro e; exact hu (by rw [e]))
theorem TStep.far {w0 w : World} {g : Nat} {u0 u : Value} (h : TStep g w0 u0 w u) {r : Nat} (hr : w0.heap.size ≤ r) (v : Value) : TStep g w0 u0 (w.setCell ⟨r, 0, none⟩ v) u :=
  ⟨h.os, h.tape, h.output, by have := h.size; simp [World.setCell]; exact this, fun b hb => (Below.heap_setCell w ⟨r, 0, none⟩ v b (by have := hb.2.2; simp only; omega)).trans (h.block b hb), h.own⟩
/-- what holds when the deferred call is run -/
structure VMid (w : World) (g B : Nat) (u0 : Value) (wN : World) (T : Tab) (u : Value) : Prop where
  st : TStep g w u0 wN u
  tab : TabAt wN B g T u
  res : ∃ a b, VRes wN w.heap.size a b
  f1 : some (w.heap.size + 1) ≠ u.ownBlock
  f2 : some (w.heap.size + 1 + 1) ≠ u.ownBlock
  gl : g < w.heap.size
theorem VMid.put {w wN : World} {g B : Nat} {u0 u : Value} {T : Tab} (h : VMid w g B u0 wN T u) (a b : Value) :
    TStep g w u0 ((wN.setCell ⟨w.heap.size + 1, 0, none⟩ a).setCell ⟨w.heap.size + 1 + 1, 0, none⟩ b) u ∧
    TabAt ((wN.setCell ⟨w.heap.size + 1, 0, none⟩ a).setCell ⟨w.heap.size + 1 + 1, 0, none⟩ b) B g T u ∧
    VRes ((wN.setCell ⟨w.heap.size + 1, 0, none⟩ a).setCell ⟨w.heap.size + 1 + 1, 0, none⟩ b) w.heap.size a b := by
  obtain ⟨x, y, h1, h2⟩ := h.res
  have hg := h.gl
  refine ⟨(h.st.far (by omega) a).far (by omega) b, (h.tab.far (by omega) h.f1 a).far (by omega) h.f2 b, ?_, ?_⟩
  · exact (h1.set_ 0 a).far (p := ⟨w.heap.size + 1 + 1, 0, none⟩) (by simp) b
  · exact (h2.far (p := ⟨w.heap.size + 1, 0, none⟩) (by simp) a).set_ 0 b
theorem vleave_bad (e : Ex) (w wN : World) (g B : Nat) (T T' : Tab) (u u' : Value) (tmps : Array Value) (er : Int) (hr : VResRd w.heap.size tmps) (hm : VMid w g B u wN T' u') (hv : valueF e T = (0, er, T')) :
    Leaves Tryz.prog Tryz.f17 tmps (ValuePost e g B T u w) [vcatchD w.heap.size] (.panicking (errV er)) wN := by
  obtain ⟨x, y, h1, h2⟩ := hm.res
  refine leaves_cons (f := 36) (args := #[.pointer (some ⟨w.heap.size + 1, 0, none⟩), .pointer (some ⟨w.heap.size + 1 + 1, 0, none⟩)]) (by simp) (by simp [go_sem]) ?_
  refine (vcatch_bad (w.heap.size + 1) (w.heap.size + 1 + 1) er wN x y h1 h2 (by omega)).mono ?_
  rintro e1 u1 w' ⟨rfl, hs, rfl⟩
  show Leaves _ _ _ _ _ (settle u1) _
  rw [hs]
  obtain ⟨k1, k2, k3⟩ := hm.put (.int .i64 0) (.int .i64 er)
  exact ⟨_, hr _ _ _ k3, ValuePost.mk (k1.trans (TStep.below ((Below.refl _ _).drew))) (k2.below ((Below.refl _ _).drew)) hv⟩
theorem vleave_good (e : Ex) (w wN : World) (g B : Nat) (T T' : Tab) (u u' : Value) (tmps : Array Value) (n f : Int) (hr : VResRd w.heap.size tmps) (hst : TStep g w u wN u') (ht : TabAt wN B g T' u') (hk : VRes wN w.heap.size (.int .i64 n) (.int .i64 f)) (hv : valueF e T = (n, f, T')) :
    Leaves Tryz.prog Tryz.f17 tmps (ValuePost e g B T u w) [vcatchD w.heap.size] .returning wN := by
  refine leaves_cons (f := 36) (args := #[.pointer (some ⟨w.heap.size + 1, 0, none⟩), .pointer (some ⟨w.heap.size + 1 + 1, 0, none⟩)]) (by simp) (by simp [go_sem]) ?_
  refine (vcatch_idle ⟨w.heap.size + 1, 0, none⟩ ⟨w.heap.size + 1 + 1, 0, none⟩ wN).mono ?_
  rintro e1 u1 w' ⟨rfl, rfl, rfl⟩
  exact ⟨_, hr _ _ _ hk, ValuePost.mk hst ht hv⟩
theorem vstart (w : World) (a0 a1 a2 a3 b0 c0 : Value) :
    let w' := ((w.alloc (.cells #[a0, a1, a2, a3] 30)).alloc (.cells #[b0] T64)).alloc (.cells #[c0] TEr)
    Below w.heap.size w w' ∧ Bk w' w.heap.size 30 #[a0, a1, a2, a3] ∧ VRes w' w.heap.size b0 c0 := by
  refine ⟨(((Below.refl _ _).alloc (Nat.le_refl _) _).alloc (by simp) _).alloc (by simp; omega) _, ?_, ?_, ?_⟩
  · exact ((Bk.new w 30 #[a0, a1, a2, a3]).alloc (.cells #[b0] T64)).alloc (.cells #[c0] TEr)
  · have := ((Bk.new (w.alloc (.cells #[a0, a1, a2, a3] 30)) T64 #[b0])).alloc (.cells #[c0] TEr)
    simpa using this
  · have := Bk.new ((w.alloc (.cells #[a0, a1, a2, a3] 30)).alloc (.cells #[b0] T64)) TEr #[c0]
    simpa using this
set_option maxRecDepth 100000 in
set_option maxHeartbeats 4000000 in
theorem value_any (e : Ex) (w : World) (g B : Nat) (T : Tab) (u v : Value) (hr : RdX w (Free w g u) e v) (hV : VIn w g B T u) (hl : T.length + szF e ≤ 100000) (hD : DeepC 200 e) (hC : ValC e) :
    Calls Tryz.prog 17 #[v, .iface TSt (.pointer (some ⟨g, 0, none⟩))] w (ValuePost e g B T u w) := by
  have hmf : ∀ (fn : Fn) (first cap : Array Value) (w : World), (Instr.makeFunc fn first cap).run Tryz.prog w = .ok (.func fn first cap) w := fun _ _ _ _ => rfl
  obtain ⟨A, cap, rfl, hcap, hkids⟩ := hr.form
  obtain ⟨hb0, kE, kR⟩ := vstart w (.string ⟨e.op.toArray⟩) (.int .i64 e.num) (.string ⟨e.name.toArray⟩) (.slice A e.kids.len cap) (.int .i64 0) (.int .i64 0)
  have HV := hid hV
  have HX := hid hr
  have HD := hid hD
  have HC := hid hC
  have HGL := hid hV.tab.1.lt
  clear hkids hr hV hD hC hcap
  go_enter_defers Tryz.func17, Tryz.ntmps17
  go_wp2_with fail
  ((with_reducible refine (HD.out.call _ (Free w g u) _ 200 rfl (HX.out.below hb0)).mono ?_); rintro e1 w1 ⟨rfl, hb1⟩)
  have HB1 := hid (bel_step hb0 hb1)
  have lE := kE.lt
  have l1 := kR.1.lt
  have l2 := kR.2.lt
  have kE := kE.below hb1 lE
  have kR1 := kR.1.below hb1 l1
  have kR2 := kR.2.below hb1 l2
  have L1 := hid kR1.lt
  have L2 := hid kR2.lt
  obtain ⟨c0, c1, c2, c3⟩ := kE.cells4
  have u0 := kR1.cell 0 _ rfl
  have u1 := kR1.free 0
  have v0 := kR2.cell 0 _ rfl
  have v1 := kR2.free 0
  have V1 := hid (HV.out.below HB1.out)
  have HX1 := hid (HX.out.step (TStep.below (g := g) (u := u) HB1.out))
  have HM : Hid (VMid w g B u w1 T u) := hid ⟨TStep.below HB1.out, V1.out.tab, ⟨_, _, kR1, kR2⟩, fun e => by have := HV.out.tab.own_lt _ e.symm; omega, fun e => by have := HV.out.tab.own_lt _ e.symm; omega, HGL.out⟩
  have KR1 := hid kR1
  have KR2 := hid kR2
  clear hb0 hb1 kE kR kR1 kR2 lE l1 l2
  have HRD : ∀ tmps : Array Value, tmps[4]? = some (.pointer (some ⟨w.heap.size + 1, 0, none⟩)) → tmps[5]? = some (.pointer (some ⟨w.heap.size + 1 + 1, 0, none⟩)) → VResRd w.heap.size tmps := by
    intro tmps h4 h5 wz a b hk
    have d0 := hk.1.cell 0 a rfl
    have d1 := hk.2.cell 0 b rfl
    simp [results, Tryz.results17, go_sem, h4, h5, d0, d1]
  by_cases hd : 200 < deepF 200 e
  · have hdi : (200 : Int) < (deepF 200 e : Int) := by omega
    have HO : Hid (valueF e T = (0, 32, T)) := hid (by unfold valueF; rw [if_pos hd])
    clear hd
    go_wp2_with fail
    obtain ⟨k1, k2, k3⟩ := HM.out.put (.int .i64 0) (.int .i64 32)
    exact ⟨_, HRD _ (by rfl) (by rfl) _ _ _ k3, ValuePost.mk k1 k2 HO.out⟩
  · have hdi : ¬ (200 : Int) < (deepF 200 e : Int) := by omega
    have HO : Hid (valueF e T = match valF e T with
        | (.ok n, T1) => (n, 0, T1)
        | (.error er, T1) => (0, er, T1)) := hid (by unfold valueF; rw [if_neg hd])
    clear hd
    go_wp2_with fail
    ((with_reducible refine (HC.out.call _ g B T u _ HX1.out V1.out hl).mono ?_); rintro e2 w2 ⟨u2, hst, htab, hm⟩)
    obtain ⟨r2, T2, hv2⟩ : ∃ r T1, valF e T = (r, T1) := ⟨_, _, rfl⟩
    rw [hv2] at htab hm HO
    have F1 : Free w1 g u (w.heap.size + 1) := ⟨by have := HGL.out; omega, HM.out.f1, L1.out⟩
    have F2 : Free w1 g u (w.heap.size + 1 + 1) := ⟨by have := HGL.out; omega, HM.out.f2, L2.out⟩
    have kR1 : Bk w2 (w.heap.size + 1) T64 #[.int .i64 0] := (hst.block _ F1).trans KR1.out
    have kR2 : Bk w2 (w.heap.size + 1 + 1) TEr #[.int .i64 0] := (hst.block _ F2).trans KR2.out
    have HM2 : Hid (VMid w g B u w2 T2 u2) := hid ⟨HM.out.st.trans hst, htab, ⟨_, _, kR1, kR2⟩, hst.own _ F1, hst.own _ F2, HGL.out⟩
    rcases r2 with er | n
    · dsimp only at hm
      subst hm
      exact vleave_bad e w w2 g B T T2 u u2 _ er (HRD _ (by rfl) (by rfl)) HM2.out HO.out
    · dsimp only at hm
      subst hm
      have u0 := kR1.cell 0 _ rfl
      have u1 := kR1.free 0
      have v0 := kR2.cell 0 _ rfl
      have v1 := kR2.free 0
      obtain ⟨k1, k2, k3⟩ := HM2.out.put (.int .i64 n) (.int .i64 0)
      have K1 := hid k1
      have K2 := hid k2
      have K3 := hid k3
      clear k1 k2 k3 kR1 kR2 hst htab hv2 F1 F2
      go_wp2_with fail
      exact vleave_good e w _ g B T T2 u u2 _ n 0 (HRD _ (by rfl) (by rfl)) K1.out K2.out K3.out HO.out
end Go.Proofs.YtadmmmehphhecaaGreatDoor
/- Plain: what fixed texts are parsed as. -/
namespace Go.Proofs.YtadmmmehphhecaaGreatDoor
open Go.RowKit
theorem ParseOut.at_ok {s : List UInt8} {r : Except (Nat × Int) Ex} (h : ParseOut s r) (hl : s.length ≤ 4096) {t t' : PSt} {x : Ex} (n : Nat) (hn : nextF s ⟨0, [], 0, 0⟩ = .ok t) (ht : t.text ≠ []) (hF : F s n .whole 0 t = some (.ok (x, t'))) (ht' : t'.text = []) : r = .ok x := by
  have ho : Out s .whole 0 t (.ok (x, t')) := ⟨n, hF⟩
  cases h with
  | big h => omega
  | bad h hn' => rw [hn] at hn'; cases hn'
  | none h hn' h2 => rw [hn] at hn'; injection hn' with hn'; subst hn'; exact (ht h2).elim
  | err h hn' h2 h3 => rw [hn] at hn'; injection hn' with hn'; subst hn'; cases ho.same h3
  | left h hn' h2 h3 h4 => rw [hn] at hn'; injection hn' with hn'; subst hn'; have := ho.same h3; injection this with this; injection this with e1 e2; subst e2; exact (h4 ht').elim
  | good h hn' h2 h3 h4 => rw [hn] at hn'; injection hn' with hn'; subst hn'; have := ho.same h3; injection this with this; injection this with e1 e2; rw [e1]
theorem ParseOut.at_bad {s : List UInt8} {r : Except (Nat × Int) Ex} (h : ParseOut s r) (hl : s.length ≤ 4096) {t : PSt} {x : Nat × Int} (n : Nat) (hn : nextF s ⟨0, [], 0, 0⟩ = .ok t) (ht : t.text ≠ []) (hF : F s n .whole 0 t = some (.error x)) : r = .error x := by
  have ho : Out s .whole 0 t (.error x) := ⟨n, hF⟩
  cases h with
  | big h => omega
  | bad h hn' => rw [hn] at hn'; cases hn'
  | none h hn' h2 => rw [hn] at hn'; injection hn' with hn'; subst hn'; exact (ht h2).elim
  | err h hn' h2 h3 => rw [hn] at hn'; injection hn' with hn'; subst hn'; have := ho.same h3; injection this with this; rw [this]
  | left h hn' h2 h3 h4 => rw [hn] at hn'; injection hn' with hn'; subst hn'; cases ho.same h3
  | good h hn' h2 h3 h4 => rw [hn] at hn'; injection hn' with hn'; subst hn'; cases ho.same h3
theorem ParseOut.at_next {s : List UInt8} {r : Except (Nat × Int) Ex} (h : ParseOut s r) (hl : s.length ≤ 4096) {x : Nat × Int} (hn : nextF s ⟨0, [], 0, 0⟩ = .error x) : r = .error x := by
  cases h with
  | big h => omega
  | bad h hn' => rw [hn] at hn'; injection hn' with hn'; rw [hn']
  | none h hn' h2 => rw [hn] at hn'; cases hn'
  | err h hn' h2 h3 => rw [hn] at hn'; cases hn'
  | left h hn' h2 h3 h4 => rw [hn] at hn'; cases hn'
  | good h hn' h2 h3 h4 => rw [hn] at hn'; cases hn'
def tx1 : List UInt8 := [120, 61, 121, 43, 61, 50]
def ex1 : Ex := .mk [61] 0 [120] (.cons (.mk [43, 61] 0 [121] (.cons (.mk numO 2 [] .nil) .nil)) .nil)
def tx2 : List UInt8 := [48, 124, 124, 120, 61, 49]
def tx3 : List UInt8 := [48, 56]
def tx4 : List UInt8 := [97, 63, 45, 98, 58, 51]
def ex4 : Ex := .mk [63] 0 [] (.cons (.mk nameO 0 [97] .nil) (.cons (.mk [110, 101, 103] 0 [] (.cons (.mk nameO 0 [98] .nil) .nil)) (.cons (.mk numO 3 [] .nil) .nil)))
theorem parse1 {r : Except (Nat × Int) Ex} (h : ParseOut tx1 r) : r = .ok ex1 :=
  h.at_ok (by decide) 100 (t := ⟨0, [120], 0, 2⟩) (t' := ⟨6, [], 0, 0⟩) (by rfl) (by decide) (by kernel_rfl) rfl
theorem parse2 {r : Except (Nat × Int) Ex} (h : ParseOut tx2 r) : r = .error (4, 25) :=
  h.at_bad (by decide) 100 (t := ⟨0, [48], 0, 1⟩) (by rfl) (by decide) (by kernel_rfl)
theorem parse3 {r : Except (Nat × Int) Ex} (h : ParseOut tx3 r) : r = .error (0, 23) := h.at_next (by decide) (by rfl)
theorem parse4 {r : Except (Nat × Int) Ex} (h : ParseOut tx4 r) : r = .ok ex4 :=
  h.at_ok (by decide) 100 (t := ⟨0, [97], 0, 2⟩) (t' := ⟨6, [], 0, 0⟩) (by rfl) (by decide) (by kernel_rfl) rfl
theorem itoa_dig (k : Nat) (h : k < 10) : Lib.itoa (k : Int) = [UInt8.ofNat (48 + k)] := by rw [itoa_pos, dec1 k h]
theorem itoa7 : Lib.itoa 7 = [55] := itoa_dig 7 (by decide)
theorem itoa3 : Lib.itoa 3 = [51] := itoa_dig 3 (by decide)
def tab1 : Tab := [([121], [53], false)]
def tab2 : Tab := [([121], [55], false), ([120], [55], false)]
theorem val1 : valF ex1 tab1 = (.ok 7, tab2) := by
  have h2 : valF (.mk [43, 61] 0 [121] (.cons (.mk numO 2 [] .nil) .nil)) tab1 = (.ok 7, [([121], [55], false)]) := by
    show setV [43, 61] [121] (valF (.mk numO 2 [] .nil)) tab1 = _
    unfold setV
    rw [if_neg (by decide), show nameV tab1 [121] = .ok 5 by kernel_rfl]
    show thenV (valF (.mk numO 2 [] .nil) tab1) (fun b T1 => match twoV [43] 5 b with | .error e => (.error e, T1) | .ok n => storeV [121] n T1) = _
    rw [show valF (.mk numO 2 [] .nil) tab1 = (.ok 2, tab1) from rfl, thenV_ok, show twoV [43] 5 2 = .ok 7 by kernel_rfl]
    show storeV [121] 7 tab1 = _
    unfold storeV; rw [itoa7]; rfl
  show setV [61] [120] (valF (.mk [43, 61] 0 [121] (.cons (.mk numO 2 [] .nil) .nil))) tab1 = _
  unfold setV
  rw [if_pos rfl, h2]
  show storeV [120] 7 [([121], [55], false)] = _
  unfold storeV; rw [itoa7]; rfl
theorem show4 : showF ex4 = [40, 97, 63, 40, 45, 98, 41, 58, 51, 41] := by
  show [40] ++ [97] ++ [63] ++ ([40, 45] ++ [98] ++ [41]) ++ [58] ++ Lib.itoa 3 ++ [41] = _
  rw [itoa3]; rfl
theorem out4 : showOut ex4 = ([40, 97, 63, 40, 45, 98, 41, 58, 51, 41], 0) := by
  unfold showOut
  rw [if_neg (by decide), if_neg (by decide), show4, if_neg (by decide)]
end Go.Proofs.YtadmmmehphhecaaGreatDoor
/- The walk of awake. The library's variables hold what is laid. -/
namespace Go.Proofs.YtadmmmehphhecaaGreatDoor
open Go.RowKit
theorem RdX.free {w : World} {g H : Nat} {u : Value} {e : Ex} {v : Value} (h : RdX w (fun b => H ≤ b) e v) (hg : g < H) (hu : ∀ b, u.ownBlock = some b → b < H) : RdX w (Free w g u) e v :=
  RdX.keep (fun b off x hp hx => ⟨⟨by omega, fun he => by have := hu b he.symm; omega, World.block_lt_of_cell? w _ hx⟩, hx⟩) e v h
theorem TStep.belowOf {g B0 : Nat} {w w' : World} {u u' : Value} (h : TStep g w u w' u') (hg : B0 ≤ g) (hu : ∀ b, u.ownBlock = some b → B0 ≤ b) (hB : B0 ≤ w.heap.size) : Below B0 w w' :=
  ⟨h.os, h.tape, h.output, h.size, fun k hk => h.block k ⟨by omega, fun he => by have := hu k he.symm; omega, by omega⟩⟩
theorem below_of_none {w w' : World} (h : w.grownBy w' none) : Below w.heap.size w w' := ⟨h.os, h.tape, h.output, h.size, fun k hk => h.block k hk (by simp)⟩
theorem TabAt.own_ge {w : World} {B g : Nat} {T : Tab} {u : Value} (h : TabAt w B g T u) : ∀ b, u.ownBlock = some b → B ≤ b := by
  intro b hb
  rcases h.2.1.2 with ⟨rfl, _⟩ | ⟨g', cap, cur, rfl, hge, _⟩
  · simp [Value.ownBlock] at hb
  · have : g' = b := by simpa [Value.ownBlock] using hb
    omega
theorem short1 : Short tab1 := by intro p hp; simp [tab1] at hp; subst hp; decide
theorem short2 : Short tab2 := by intro p hp; simp [tab2] at hp; rcases hp with rfl | rfl <;> decide
theorem value1 : valueF ex1 tab1 = (7, 0, tab2) := by
  unfold valueF
  rw [if_neg (by decide), val1]
theorem get2 : getF tab2 [120] = ([55], true) := by decide
/-- a row of pairs and a table, new -/
theorem tab_new (w : World) (T : Tab) (cs : Array Value) (h : cs.toList = tabC T) (hl : T.length ≤ 1000) :
    TabAt ((w.alloc (.cells cs TPr)).alloc (.cells #[.slice (some ⟨w.heap.size, 0, none⟩) T.length T.length] TT)) w.heap.size (w.heap.size + 1) T (.slice (some ⟨w.heap.size, 0, none⟩) T.length T.length) := by
  have hc := tabC_len T
  refine ⟨by have := Bk.new (w.alloc (.cells cs TPr)) TT #[.slice (some ⟨w.heap.size, 0, none⟩) T.length T.length]; simpa using this, ⟨tabC_len T, .inr ⟨w.heap.size, T.length, cs, rfl, Nat.le_refl _, (Bk.new w TPr cs).alloc _, Nat.le_refl _, by unfold maxLen; omega, ?_, ?_⟩⟩, by simp; omega⟩
  · rw [← hc, ← h]; simp
  · rw [h, ← hc, List.take_length]
set_option maxRecDepth 100000 in
set_option maxHeartbeats 4000000 in
theorem awake_any (w : World) (hL : Laid w) (hG : GBig w.heap.size) : Calls Tryz.prog 6 #[] w fun e w' => e = .returned (.bool true) ∧ Below w.heap.size w w' := by
  have hwx : GBig w.heap.size := hG
  have HL := hid hL
  have HG := hid hG
  clear hL hG hwx
  have hT1 := tab_new w tab1 #[.string ⟨#[121]⟩, .string ⟨#[53]⟩, .bool false] rfl (by decide)
  have hb1 : Below w.heap.size w ((w.alloc (.cells #[.string ⟨#[121]⟩, .string ⟨#[53]⟩, .bool false] TPr)).alloc (.cells #[.slice (some ⟨w.heap.size, 0, none⟩) 1 1] TT)) := ((Below.refl _ _).alloc (Nat.le_refl _) _).alloc (by simp) _
  go_enter Tryz.func6, Tryz.ntmps6
  go_wp2_with fail
  obtain ⟨W1, hW1⟩ : ∃ W1, W1 = (w.alloc (.cells #[.string ⟨#[121]⟩, .string ⟨#[53]⟩, .bool false] TPr)).alloc (.cells #[.slice (some ⟨w.heap.size, 0, none⟩) 1 1] TT) := ⟨_, rfl⟩
  rw [← hW1] at hb1
  rw [← hW1]
  have hT1 : TabAt W1 w.heap.size (w.heap.size + 1) tab1 (.slice (some ⟨w.heap.size, 0, none⟩) 1 1) := by rw [hW1]; exact hT1
  clear hW1
  have hs1 := hb1.size
  have HB1 := hid hb1
  have HT1 := hid hT1
  ((with_reducible refine (parse_any ⟨#[120, 61, 121, 43, 61, 50]⟩ _ (HL.out.below hb1) (by have := HG.out; unfold GBig at *; omega)).mono ?_); rintro e1 w2 ⟨r, hpo, hg2, hres⟩)
  obtain rfl := parse1 hpo
  obtain ⟨v, rfl, hx⟩ := hres
  obtain ⟨A1, cap1, rfl, _, _⟩ := hx.form
  dsimp only [ex1, Ex.op, Ex.num, Ex.name, Ex.kids, Exs.len, Nat.zero_add] at *
  have HP2 := hid (below_of_none hg2)
  clear hg2 hpo
  have HX2 := hid hx
  have hg1 : w.heap.size + 1 < W1.heap.size := hT1.1.lt
  have hBa : Below W1.heap.size W1 (w2.alloc (.cells #[.string ⟨#[61]⟩, .int .i64 0, .string ⟨#[120]⟩, .slice A1 1 cap1] 30)) := HP2.out.alloc HP2.out.size _
  have hVI : VIn (w2.alloc (.cells #[.string ⟨#[61]⟩, .int .i64 0, .string ⟨#[120]⟩, .slice A1 1 cap1] 30)) (w.heap.size + 1) w.heap.size tab1 (.slice (some ⟨w.heap.size, 0, none⟩) 1 1) := ⟨HT1.out.below hBa, (HL.out.below HB1.out).below hBa, HG.out, by have := HG.out; unfold GBig at *; omega, short1⟩
  have HVI := hid hVI
  have HXV := hid ((hx.alloc_ (.cells #[.string ⟨#[61]⟩, .int .i64 0, .string ⟨#[120]⟩, .slice A1 1 cap1] 30)).free hg1 (fun b hb => HT1.out.own_lt b hb))
  have HBA := hid hBa
  clear hVI hx hT1 hb1 hBa
  go_wp2_with fail
  ((with_reducible refine (value_any ex1 _ (w.heap.size + 1) w.heap.size tab1 _ _ HXV.out HVI.out (by decide) (deep_any 200 (by decide) ex1 (by decide)) (val_any ex1 (by decide))).mono ?_); rintro e2 w3 ⟨u3, hst, htab, rfl⟩)
  rw [value1] at htab ⊢
  dsimp only at htab ⊢
  have hbb := hst.belowOf (B0 := w.heap.size) (by omega) (fun b hb => HVI.out.tab.own_ge b hb) HVI.out.tab.2.2
  have HV3 := hid (HVI.out.step hst htab short2)
  have HB3 := hid ((HB1.out.trans (HBA.out.mono HB1.out.size)).trans hbb)
  have HT3 := hid htab
  clear hst htab hbb
  go_wp2_with fail
  ((with_reducible refine (Get_any tab2 [120] (w.heap.size + 1) w.heap.size u3 _ HT3.out (by decide)).mono ?_); rintro e3 w4 ⟨rfl, hb4⟩)
  rw [get2]
  dsimp only
  have HB4 := hid (bel_step HB3.out hb4)
  clear hb4
  go_wp2_with fail
  ((with_reducible refine (parse_any ⟨#[48, 124, 124, 120, 61, 49]⟩ _ (HL.out.below HB4.out) (by have := HG.out; have := HB4.out.size; unfold GBig at *; omega)).mono ?_); rintro e5 w5 ⟨r, hpo, hg2, hres⟩)
  obtain rfl := parse2 hpo
  dsimp only at hres
  subst hres
  have HB5 := hid ((bel_step HB4.out (below_of_none hg2)).alloc (bel_step HB4.out (below_of_none hg2)).size (.cells #[.string ⟨#[]⟩, .int .i64 0, .string ⟨#[]⟩, .slice none 0 0] 30))
  clear hg2 hpo
  go_wp2_with fail
  ((with_reducible refine (parse_any ⟨#[48, 56]⟩ _ (HL.out.below HB5.out) (by have := HG.out; have := HB5.out.size; unfold GBig at *; omega)).mono ?_); rintro e5 w6 ⟨r, hpo, hg2, hres⟩)
  obtain rfl := parse3 hpo
  dsimp only at hres
  subst hres
  have HB6 := hid ((bel_step HB5.out (below_of_none hg2)).alloc (bel_step HB5.out (below_of_none hg2)).size (.cells #[.string ⟨#[]⟩, .int .i64 0, .string ⟨#[]⟩, .slice none 0 0] 30))
  clear hg2 hpo
  go_wp2_with fail
  ((with_reducible refine (parse_any ⟨#[97, 63, 45, 98, 58, 51]⟩ _ (HL.out.below HB6.out) (by have := HG.out; have := HB6.out.size; unfold GBig at *; omega)).mono ?_); rintro e7 w7 ⟨r, hpo, hg2, hres⟩)
  obtain rfl := parse4 hpo
  obtain ⟨v, rfl, hx⟩ := hres
  obtain ⟨A4, cap4, rfl, _, _⟩ := hx.form
  dsimp only [ex4, Ex.op, Ex.num, Ex.name, Ex.kids, Exs.len, Nat.zero_add, Nat.reduceAdd] at *
  have HB7 := hid ((bel_step HB6.out (below_of_none hg2)).alloc (bel_step HB6.out (below_of_none hg2)).size (.cells #[.string ⟨#[63]⟩, .int .i64 0, .string ⟨#[]⟩, .slice A4 3 cap4] 30))
  have HX7 := hid (hx.alloc_ (.cells #[.string ⟨#[63]⟩, .int .i64 0, .string ⟨#[]⟩, .slice A4 3 cap4] 30))
  clear hg2 hpo hx
  go_wp2_with fail
  ((with_reducible refine (Show_any ex4 _ _ _ HX7.out (by decide) (by decide) (HL.out.below HB7.out)).mono ?_); rintro e8 w8 ⟨rfl, hb8⟩)
  rw [out4]
  dsimp only
  have HB8 := hid (bel_step HB7.out hb8)
  clear hb8
  go_wp2_with fail
  go_ret
  exact ⟨rfl, HB8.out⟩
end Go.Proofs.YtadmmmehphhecaaGreatDoor
/- The walk of SumsNumbers. -/
namespace Go.Proofs.YtadmmmehphhecaaGreatDoor
open Go.RowKit
set_option maxRecDepth 100000 in
set_option maxHeartbeats 4000000 in
theorem numbers_any (s : ByteArray) (n : Int) (w : World) (hL : Laid w) (hG : GBig w.heap.size) (hs : s.size ≤ 9223372036854775807) (h0 : -9223372036854775808 ≤ n) (h1 : n ≤ 9223372036854775807) :
    Calls Tryz.prog 3 #[.string s, .int .i64 n] w fun e w' => e = .returned (.bool true) ∧ Below w.heap.size w w' := by
  have HL := hid hL
  have HG := hid hG
  clear hL hG
  by_cases hb : 100 < s.size
  · have hbi : (100 : Int) < (s.size : Int) := by omega
    go_enter Tryz.func3, Tryz.ntmps3
    go_wp2_with fail
    ((with_reducible refine (awake_any _ HL.out HG.out).mono ?_); rintro e1 w1 ⟨rfl, hb1⟩)
    go_wp2_with fail
    go_ret
    exact ⟨rfl, hb1⟩
  · have hbi : ¬ (100 : Int) < (s.size : Int) := by omega
    have hs1 : s.size ≤ 100 := by omega
    have h2 : s.data.toList.length = s.size := by simp
    have hl : (Lib.trimS s.data.toList blks).length ≤ 100000 := by have := trim_len s.data.toList; omega
    clear h2
    go_enter Tryz.func3, Tryz.ntmps3
    go_wp2_with fail
    ((with_reducible refine (number_any s _ hs1 HL.out hl).mono ?_); rintro e1 w1 ⟨rfl, hb1⟩)
    rw [trim_eq]
    obtain ⟨p1, p2, hp⟩ : ∃ p1 p2, numberF (cutR (s.data.toList.dropWhile blkB)) = (p1, p2) := ⟨_, _, rfl⟩
    have HP := hid hp
    rw [hp]
    clear hp
    dsimp only [numV]
    have HB1 := hid hb1
    clear hb1
    go_wp2_with fail
    ((with_reducible refine (rNumber_any s _ hs1).mono ?_); rintro e2 w2 ⟨rfl, rfl⟩)
    rw [HP.out]
    dsimp only [numV]
    go_wp2_with fail
    ((with_reducible refine (text_any n h0 h1 _ (HL.out.below HB1.out)).mono ?_); rintro e3 w3 ⟨rfl, hb3⟩)
    have HB3 := hid (bel_step HB1.out hb3)
    clear hb3
    go_wp2_with fail
    ((with_reducible refine (rtext_any n h0 h1 _).mono ?_); rintro e4 w4 ⟨rfl, hb4⟩)
    have HB4 := hid (bel_step HB3.out hb4)
    clear hb4
    go_wp2_with fail
    ((with_reducible refine (awake_any _ (HL.out.below HB4.out) (by have := HB4.out.size; have := HG.out; unfold GBig at *; omega)).mono ?_); rintro e5 w5 ⟨rfl, hb5⟩)
    have HB5 := hid (bel_step HB4.out hb5)
    clear hb5
    go_wp2_with fail
    go_ret
    exact ⟨rfl, HB5.out⟩
end Go.Proofs.YtadmmmehphhecaaGreatDoor
/- The last step of each law of this seat: from a walk that returns true and turns nothing below its blocks to the row; what the row lays of the library's variables. No condition. -/
namespace Go.Proofs.YtadmmmehphhecaaGreatDoor
open Go.ChangeShapes Go.WideShapes Go.ChangeAt Go.RowKit
open Go.ChangeMaps (open_string shut_string)

theorem Tryz.own : ownKnob Tryz.prog.godebug = none := by kernel_rfl
theorem Tryz.laidOut : laidOutB Tryz.prog = true := by kernel_rfl
set_option maxRecDepth 100000 in
theorem err_var {W : World} {nm : String} {tn : String} {d : DataW Unit} {rest : List (String × DataW Unit)} {g t : Nat} (hg : Tryz.prog.globalNamed nm = some g) (hty : (Tryz.prog.globals[g]?).map (·.type) = some t) (ht : ∃ m, Tryz.prog.underlying t = some (.interface m))
    (h : laidMet Tryz.prog ((nm, .iface tn d) :: rest) W) : ∃ te pe, W.var? Tryz.prog nm = some #[.iface te pe] := by
  obtain ⟨ps, ⟨g', t', cs, fuel, p, q, hg', ht', hvar, hd, _, _⟩, _⟩ := h
  obtain rfl := Option.some.inj (hg.symm.trans hg')
  obtain rfl := Option.some.inj (hty.symm.trans ht')
  obtain ⟨m, hm⟩ := ht
  cases fuel with
  | zero => simp [DataW.trod] at hd
  | succ fuel =>
    have key : ∀ cl : List Value, DataW.trod (fun _ => ()) Tryz.prog W 0 (fun _ => true) false (fuel + 1) t cl = some (.iface tn d, p) → ∃ u v, cl = [.iface u v] := by
      intro cl hd
      unfold DataW.trod at hd
      rw [hm] at hd
      dsimp only at hd
      split at hd
      all_goals first
        | exact ⟨_, _, rfl⟩
        | (rename_i h; cases h; done)
        | (cases hd; done)
        | (injection hd with hd; injection hd with hd; cases hd; done)
        | skip
    obtain ⟨u, v, hc⟩ := key _ hd
    refine ⟨u, v, ?_⟩
    rw [hvar, ← hc]
theorem laid_all {W : World} {l : List (String × DataW Unit)} (h : laidMetH Tryz.prog l W) (h0 : (l.all fun x => x.2.handleName?.isNone) = true)
    (h1 : (l.filter fun x => x.1 == "strconv.ErrRange") = [("strconv.ErrRange", Rows.laid_strconv_ErrRange)]) (h2 : (l.filter fun x => x.1 == "strconv.ErrSyntax") = [("strconv.ErrSyntax", Rows.laid_strconv_ErrSyntax)])
    (h3 : (l.filter fun x => x.1 == "internal/strconv.uint64pow10") = [("internal/strconv.uint64pow10", Lib.tabData .u64 Lib.pow10Tab)]) : Laid W := by
  rw [MakeChecks.laidMetH_plain _ _ _ h0] at h
  refine ⟨?_, ?_, ?_⟩
  · have h4 := h.filter (fun x => x.1 == "strconv.ErrRange")
    rw [h1] at h4
    exact err_var (g := 4) (t := 96) (by kernel_rfl) (by kernel_rfl) ⟨_, Tryz.underlying96⟩ h4
  · have h4 := h.filter (fun x => x.1 == "strconv.ErrSyntax")
    rw [h2] at h4
    exact err_var (g := 3) (t := 96) (by kernel_rfl) (by kernel_rfl) ⟨_, Tryz.underlying96⟩ h4
  · have h4 := h.filter (fun x => x.1 == "internal/strconv.uint64pow10")
    rw [h3] at h4
    exact Lib.tabIs_of_head (g := 0) (t := 130) (e := 58) (n := 20) (by kernel_rfl) (by kernel_rfl) (by kernel_rfl) (by kernel_rfl) (by kernel_rfl) (by kernel_rfl) h4
section
variable {H : Type} {enc : TypeId × Value → H}
/-- arguments read behind the call as before it, where below their blocks nothing has turned -/
theorem args_stay {W W' : World} (hb : Below W.heap.size W W') : ∀ (ts : List TypeId) (vs : List Value) (ds : List (DataW H)) (ps : List MemPlace),
    (∀ t ∈ ts, Tryz.prog.readableRec t = true ∧ t < Tryz.prog.types.size) → DataW.TrodAll enc Tryz.prog W 0 (fun _ => true) true ts vs ds ps → (∀ x ∈ ps, x.block < W.heap.size) →
    DataW.TrodAll enc Tryz.prog W' 0 (fun b => decide (b < W.heap.size)) true ts vs ds ps
  | [], vs, ds, ps, _, h, _ => by
    obtain ⟨rfl, rfl, rfl⟩ := trodAll_nil h
    exact trodAll_mk0
  | t :: ts, vs, ds, ps, ht, h, hlt => by
    obtain ⟨v, vs', d, ds', p, q, rfl, rfl, rfl, h1, h2⟩ := trodAll_cons h
    have ht' := ht t (List.mem_cons_self ..)
    exact trodAll_cons_mk (Below.trod Tryz.laidOut ht'.1 ht'.2 h1 hb fun x hx => hlt x (List.mem_append_left _ hx))
      (args_stay hb ts vs' ds' q (fun t h => ht t (List.mem_cons_of_mem _ h)) h2 fun x hx => hlt x (List.mem_append_right _ hx))

/-- A LAW's POST: true comes back, the arguments read as they did -/
theorem law_post {f : Func} {s : ChangeSpec} {W W' : World} {args : Array Value} {ds : List (DataW H)} {before : List MemPlace}
    (hW : DataW.Whole enc Tryz.prog f.params.toList s.vars false W args.toList ds [] before) (hA : DataW.TrodAll enc Tryz.prog W 0 (fun _ => true) true f.params.toList args.toList ds before)
    (ht : ∀ t ∈ f.params.toList, Tryz.prog.readableRec t = true ∧ t < Tryz.prog.types.size) (hv : s.vars = []) (hrt : f.resultTypes = #[4])
    (hs : s.fn H (ds ++ []) = { results := [.lit (.bool true)], args := ds }) (hb : Below W.heap.size W W') :
    s.post enc Tryz.prog f false true false false W args (.bool true) W' := by
  refine ⟨ds, [], before, [], before, [], hW, ?_, ?_, ?_, hb.frame _, fun h => by cases h⟩
  · rw [hs, hrt]
    exact trodAll_mk1 (shut_bool Tryz.underlying4 true)
  · rw [hs]
    exact args_stay hb _ _ _ _ ht hA fun x hx => hW.lt x hx
  · rw [hs, hv]; rfl
end
end Go.Proofs.YtadmmmehphhecaaGreatDoor
/- SumsNumbers returns true at every input, and each argument reads behind the call as before it; its card, tied to the program's text. No condition but the row's own: the listed variables hold what the text lays. -/
namespace Go.Proofs.YtadmmmehphhecaaGreatDoor
open Go.ChangeShapes Go.WideShapes Go.ChangeAt Go.RowKit
open Go.ChangeMaps (open_string shut_string)

set_option maxRecDepth 100000 in
theorem numbers_lifted (os : Os) (started : os.Started) (H : Type) (enc : TypeId × Value → H) :
    ReturnsInHanded {} Tryz.checked os 3 .any (fun w args => (Rows.sumsNumbersSpec.pre enc Tryz.prog Tryz.f3 Rows.sumsNumbersRow.domain false w args ∧ laidMetH Tryz.prog Rows.sumsNumbersRow.laid w) ∧ sizedMet enc Tryz.prog Tryz.f3 (OpenSpec.ofChange Rows.sumsNumbersSpec) false w args)
      (Rows.sumsNumbersSpec.post enc Tryz.prog Tryz.f3 false true false false) := by
  refine returnsInHanded_of_change_and (C := Tryz.checked) (X := fun w _ => laidMetH Tryz.prog Rows.sumsNumbersRow.laid w) (fun _ _ _ hh h => h.of_heap hh) Tryz.own started (by kernel_rfl) Tryz.func3
    (ChangeSpec.witness_shaped (enc := enc) (C := Tryz.checked) (os := os) (X := fun w _ => laidMetH Tryz.prog Rows.sumsNumbersRow.laid w) false (World.laidAll Tryz.prog os Rows.sumsNumbersRow.laid) #[.string ⟨#[]⟩, .int .i64 0] 8 (World.laidAll_os _ _ _)
      (World.shaped_of_ZipB (by kernel_rfl) (by kernel_rfl)) (by kernel_rfl) (by kernel_rfl) (by kernel_rfl)
      (by rw [MakeChecks.laidMetH_plain _ _ _ (by kernel_rfl)]; exact laidMet_laidAll _ (by kernel_rfl) (by kernel_rfl))) ?_
  intro W base args ds gs before hval0 hW hc _ hL _
  have hval : ∀ (j : Nat) t v, Tryz.f3.params[j]? = some t → args[j]? = some v → Value.okWide Tryz.prog W .any base t v := hval0
  have hW' := hW
  obtain ⟨p, q, hA0, hV, rfl, hfz, hnd⟩ := hW
  have hA : DataW.TrodAll enc Tryz.prog W 0 (fun _ => true) true Tryz.f3.params.toList args.toList ds p := hA0
  have hA1 := hA
  rw [Tryz.params3] at hA hval
  obtain ⟨v0, vs0, d0, ds0, p0, q0, hargs, rfl, rfl, h0, r0⟩ := trodAll_cons hA
  obtain ⟨v1, vs1, d1, ds1, p1, q1, rfl, rfl, rfl, h1, r1⟩ := trodAll_cons r0
  obtain ⟨rfl, rfl, rfl⟩ := trodAll_nil r1
  obtain rfl : args = #[v0, v1] := by cases args; simp_all
  obtain ⟨rfl, rfl⟩ := trodVars_none hV
  obtain ⟨s, rfl, _, _, hs⟩ := open_string Tryz.underlying9 (hval 0 9 v0 rfl rfl) h0
  obtain ⟨y, rfl, _, _, wy⟩ := open_int Tryz.underlying2 (hval 1 2 v1 rfl rfl) h1
  have hLL : Laid W := laid_all hL (by kernel_rfl) (by kernel_rfl) (by kernel_rfl) (by kernel_rfl)
  have hy : -9223372036854775808 ≤ y ∧ y ≤ 9223372036854775807 := by simpa [Lit.wf, IntKind.min, IntKind.max, IntKind.signed, IntKind.bits] using wy
  simp only [List.append_nil] at hW'
  refine (numbers_any s y W hLL hLL.big hs hy.1 hy.2).mono fun e W' ⟨he, hb⟩ => ?_
  exact ⟨_, he, law_post hW' (by simpa using hA1) (by rw [Tryz.params3]; intro t ht; simp at ht; rcases ht with rfl | rfl <;> exact ⟨by kernel_rfl, of_decide_eq_true (by kernel_rfl)⟩) rfl rfl rfl hb⟩

theorem numbers_row : Rows.SumsNumbersSaid :=
  OpenClaim.holds_of_wide 3 Tryz.f3 rfl rfl rfl rfl rfl rfl rfl ⟨rfl, rfl, rfl, rfl, rfl⟩ rfl rfl rfl rfl rfl (by kernel_rfl) Tryz.func3 (by kernel_rfl)
    (of_decide_eq_true (by kernel_rfl)) (by unfold Func.isWrapper; first | (rw [if_pos (by decide +kernel)]; kernel_rfl) | (rw [if_neg (by decide +kernel)]; exact ⟨rfl, rfl⟩))
    (fun os started H enc _ => numbers_lifted os started H enc)
theorem numbers_holds : Rows.SumsNumbersCardSaid :=
  Claim7.holds_tied_plain_at .later [] [.data, .data, .data, .data, .sentinel, .sentinel, .pinned] true (true, "de5f2bf01d17494fe65ff79c84d6f18fc2d0b3268bda0c5ff877aa72a5516be8") true numbers_row (fun _ h => by cases h) (by kernel_rfl) (fun _ h => by cases h) sumsNumbers_row_tie rfl ⟨rfl, rfl⟩ (by kernel_rfl) rfl
    (fun f fn hf hfn => by
      obtain rfl : f = 3 := Option.some.inj ((show Tryz.prog.funcNamed "whelk/whelklaw03.SumsNumbers" = some 3 by kernel_rfl).symm.trans hf) |>.symm
      obtain rfl : fn = Tryz.f3 := (Option.some.inj (Tryz.func3.symm.trans hfn)).symm
      exact ⟨by kernel_rfl, fun j t ht => by
        rw [Tryz.params3] at ht
        have hm : t ∈ [9, 2] := by simpa using Array.mem_of_getElem? ht
        have hall : ([9, 2].all fun u => !Tryz.prog.wantsStandIn u) = true := by kernel_rfl
        exact (show Tryz.prog.wantsStandIn t = false by simpa using List.all_eq_true.1 hall t hm)⟩)
    (by kernel_rfl)
end Go.Proofs.YtadmmmehphhecaaGreatDoor
