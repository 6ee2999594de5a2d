/- SumsWrap returns true at every input, and each argument reads behind the call as before it; its card, tied to the program's text. No condition but the row's own: the listed variables hold what the text lays. -/
import Derived.Test.YtadmmmehphhecaaDoorLs1
import Derived.Test.YtadmmmehphhecaaDoorLs2
import Derived.Test.YtadmmmehphhecaaDoorLs3
import Derived.Test.YtadmmmehphhecaaDoorLs4
import Derived.Test.YtadmmmehphhecaaDoorLt
import Derived.Test.YtadmmmehphhecaaDoorSa
import Derived.Test.YtadmmmehphhecaaDoorLr
import Derived.Defers
import Derived.Recover
import Derived.Test.YtadmmmehphhecaaDoorLf
import Derived.Test.YtadmmmehphhecaaDoorF
import Derived.Test.YtadmmmehphhecaaDoorEa
import Derived.Test.YtadmmmehphhecaaDoorLi
import Derived.Test.YtadmmmehphhecaaDoorRows
import Derived.Test.YtadmmmehphhecaaDoorN
import Derived.ProofKit
import Derived.OpenShut
import Derived.LaidMore
import Derived.LaidSub
import Derived.Lib.LaidTab
import Derived.Lay
import Derived.Stop.Joined
import Derived.MakeChecks
import Derived.Test.YtadmmmehphhecaaDoorCards
import Derived.Test.YtadmmmehphhecaaDoorTie
import Derived.SevenTiedAt
import Derived.Laws.IdiomArrays
set_option linter.unusedVariables false
set_option linter.unusedSimpArgs false
/- The contract of value of sums.valuer, by induction; the walk of Value. -/
namespace Go.Proofs.YtadmmmehphhecaaDoor
open Go.RowKit
theorem set_any (op : List UInt8) (n : Int) (nm : List UInt8) (x : Ex) (hop : setF op = true) (hkx : ValC x) (hox : okF x = true) : SetC (.mk op n nm (.cons x .nil)) := by
  by_cases h : op = [61]
  · subst h; exact set_eq n nm x hkx hox
  · exact set_op op n nm x hop h (op_len (by rw [setF_kids hop]; decide)) hkx hox
set_option maxRecDepth 100000 in
set_option maxHeartbeats 4000000 in
theorem val_set (op : List UInt8) (n : Int) (nm : List UInt8) (x : Ex) (hop : setF op = true) (hset : SetC (.mk op n nm (.cons x .nil))) : ValC (.mk op n nm (.cons x .nil)) := by
  have HKF := hid (setF_kids hop)
  have HNS := hid hop
  have HSET := hid hset
  clear hop hset
  intro w g B T u v hr hV hlen
  obtain ⟨A, cap, rfl, hcap, hkids⟩ := hr.form
  dsimp only [Ex.op, Ex.num, Ex.name, Ex.kids, Exs.len, Nat.zero_add, Nat.reduceAdd] at *
  obtain ⟨b, off, rfl⟩ := hkids.form_ (by simp [Exs.len])
  obtain ⟨Ax, capx, hPx, qx0, qx1, qx2, qx3, hrx, hkids⟩ := hkids.un
  unfold vw
  have kV : Bk ((w.alloc (.cells #[.iface TSt (.pointer (some ⟨g, 0, none⟩))] 72)).alloc (.cells #[.string ⟨op.toArray⟩, .int .i64 n, .string ⟨nm.toArray⟩, .slice (some ⟨b, off, none⟩) 1 cap] 24)) w.heap.size 72 #[.iface TSt (.pointer (some ⟨g, 0, none⟩))] := (Bk.new w 72 #[.iface TSt (.pointer (some ⟨g, 0, none⟩))]).alloc _
  have kE : Bk ((w.alloc (.cells #[.iface TSt (.pointer (some ⟨g, 0, none⟩))] 72)).alloc (.cells #[.string ⟨op.toArray⟩, .int .i64 n, .string ⟨nm.toArray⟩, .slice (some ⟨b, off, none⟩) 1 cap] 24)) (w.heap.size + 1) 24 #[.string ⟨op.toArray⟩, .int .i64 n, .string ⟨nm.toArray⟩, .slice (some ⟨b, off, none⟩) 1 cap] := heap2_1 w _ _
  have hB0 : Below w.heap.size w ((w.alloc (.cells #[.iface TSt (.pointer (some ⟨g, 0, none⟩))] 72)).alloc (.cells #[.string ⟨op.toArray⟩, .int .i64 n, .string ⟨nm.toArray⟩, .slice (some ⟨b, off, none⟩) 1 cap] 24)) := ((Below.refl _ _).alloc (Nat.le_refl _) _).alloc (by simp) _
  have hsz0 : ((w.alloc (.cells #[.iface TSt (.pointer (some ⟨g, 0, none⟩))] 72)).alloc (.cells #[.string ⟨op.toArray⟩, .int .i64 n, .string ⟨nm.toArray⟩, .slice (some ⟨b, off, none⟩) 1 cap] 24)).heap.size = w.heap.size + 1 + 1 := by simp
  have px0 : ((w.alloc (.cells #[.iface TSt (.pointer (some ⟨g, 0, none⟩))] 72)).alloc (.cells #[.string ⟨op.toArray⟩, .int .i64 n, .string ⟨nm.toArray⟩, .slice (some ⟨b, off, none⟩) 1 cap] 24)).cell? ⟨b, off, none⟩ = some (.string ⟨x.op.toArray⟩) := al (al qx0)
  have px1 : ((w.alloc (.cells #[.iface TSt (.pointer (some ⟨g, 0, none⟩))] 72)).alloc (.cells #[.string ⟨op.toArray⟩, .int .i64 n, .string ⟨nm.toArray⟩, .slice (some ⟨b, off, none⟩) 1 cap] 24)).cell? ⟨b, off + 1, none⟩ = some (.int .i64 x.num) := al (al qx1)
  have px2 : ((w.alloc (.cells #[.iface TSt (.pointer (some ⟨g, 0, none⟩))] 72)).alloc (.cells #[.string ⟨op.toArray⟩, .int .i64 n, .string ⟨nm.toArray⟩, .slice (some ⟨b, off, none⟩) 1 cap] 24)).cell? ⟨b, off + 2, none⟩ = some (.string ⟨x.name.toArray⟩) := al (al qx2)
  have px3 : ((w.alloc (.cells #[.iface TSt (.pointer (some ⟨g, 0, none⟩))] 72)).alloc (.cells #[.string ⟨op.toArray⟩, .int .i64 n, .string ⟨nm.toArray⟩, .slice (some ⟨b, off, none⟩) 1 cap] 24)).cell? ⟨b, off + 3, none⟩ = some (.slice Ax x.kids.len capx) := al (al qx3)
  go_enter Tryd.func27, Tryd.ntmps27
  go_wp2_with fail
  obtain ⟨W0, hW0⟩ : ∃ W0, W0 = ((w.alloc (.cells #[.iface TSt (.pointer (some ⟨g, 0, none⟩))] 72)).alloc (.cells #[.string ⟨op.toArray⟩, .int .i64 n, .string ⟨nm.toArray⟩, .slice (some ⟨b, off, none⟩) 1 cap] 24)) := ⟨_, rfl⟩
  rw [← hW0] at kV kE hB0 hsz0 px0 px1 px2 px3
  rw [← hW0]
  clear hW0 qx0 qx1 qx2 qx3
  have v0 := kV.cell 0 _ rfl
  obtain ⟨c0, c1, c2, c3⟩ := kE.cells4
  have fV : Free W0 g u w.heap.size := hV.new hB0 (Nat.le_refl _) (by omega)
  have fE : Free W0 g u (w.heap.size + 1) := hV.new hB0 (by omega) (by omega)
  have fB : Free W0 g u b := (TStep.below (g := g) (u := u) hB0).free hPx
  have ST := hid (TStep.below (g := g) (u := u) hB0)
  have VI := hid (hV.below hB0)
  have HE0 := hid (hr.step (TStep.below (g := g) (u := u) hB0))
  have HS0 := hid hV.short
  have HXx := hid (hrx.step (TStep.below (g := g) (u := u) hB0))
  clear kV kE hB0 hsz0 hV hr hcap hkids hrx hPx
  have stq := TStep.below (g := g) (u := u) ((Below.refl W0.heap.size W0).drew)
  have v0 := cell_step stq fV v0
  have c0 := cell_step stq fE c0
  have c1 := cell_step stq fE c1
  have c2 := cell_step stq fE c2
  have c3 := cell_step stq fE c3
  have px0 := cell_step stq fB px0
  have px1 := cell_step stq fB px1
  have px2 := cell_step stq fB px2
  have px3 := cell_step stq fB px3
  have fV := stq.free fV
  have fE := stq.free fE
  have fB := stq.free fB
  have ST := hid (ST.out.trans stq)
  have HXx := hid (HXx.out.step stq)
  have HE0 := hid (HE0.out.step stq)
  have VI := hid (VI.out.below ((Below.refl W0.heap.size W0).drew))
  clear stq
  refine wp_region_held_drew (S := (fun w' => w'.cell? ⟨w.heap.size, 0, none⟩ = some (.iface TSt (.pointer (some ⟨g, 0, none⟩))) ∧ w'.cell? ⟨w.heap.size + 1, 0, none⟩ = some (.string ⟨op.toArray⟩) ∧ w'.cell? ⟨w.heap.size + 1, 1, none⟩ = some (.int .i64 n) ∧ w'.cell? ⟨w.heap.size + 1, 2, none⟩ = some (.string ⟨nm.toArray⟩) ∧ w'.cell? ⟨w.heap.size + 1, 3, none⟩ = some (.slice (some ⟨b, off, none⟩) 1 cap) ∧ w'.cell? ⟨b, off, none⟩ = some (.string ⟨x.op.toArray⟩) ∧ w'.cell? ⟨b, off + 1, none⟩ = some (.int .i64 x.num) ∧ w'.cell? ⟨b, off + 2, none⟩ = some (.string ⟨x.name.toArray⟩) ∧ w'.cell? ⟨b, off + 3, none⟩ = some (.slice Ax x.kids.len capx))) (by kernel_rfl) ⟨v0, c0, c1, c2, c3, px0, px1, px2, px3⟩ (fun hHeld => ?_)
  refine takeYes (i := 0) (v := .pointer (some ⟨w.heap.size + 1, 3, none⟩)) rfl (by kernel_rfl) (by kernel_rfl) (by kernel_rfl) (fun _ _ _ h => h) (by rfl) ?_ (by assumption) ?_
  · intro w hSw; obtain ⟨sq0, sq1, sq2, sq3, sq4, sq5, sq6, sq7, sq8⟩ := hSw; go_simp
  try simp only [Act.put, List.setIfInBounds_toArray, List.set_cons_zero, List.set_cons_succ]
  refine takeYes (i := 1) (v := .slice (some ⟨b, off, none⟩) 1 cap) rfl (by kernel_rfl) (by kernel_rfl) (by kernel_rfl) (fun _ _ _ h => h) (by rfl) ?_ (by assumption) ?_
  · intro w hSw; obtain ⟨sq0, sq1, sq2, sq3, sq4, sq5, sq6, sq7, sq8⟩ := hSw; go_simp
  try simp only [Act.put, List.setIfInBounds_toArray, List.set_cons_zero, List.set_cons_succ]
  refine takeYes (i := 2) (v := .int .i64 1) rfl (by kernel_rfl) (by kernel_rfl) (by kernel_rfl) (fun _ _ _ h => h) (by rfl) ?_ (by assumption) ?_
  · intro w hSw; obtain ⟨sq0, sq1, sq2, sq3, sq4, sq5, sq6, sq7, sq8⟩ := hSw; go_simp
  try simp only [Act.put, List.setIfInBounds_toArray, List.set_cons_zero, List.set_cons_succ]
  refine takeYes (i := 3) (v := .pointer (some ⟨w.heap.size + 1, 0, none⟩)) rfl (by kernel_rfl) (by kernel_rfl) (by kernel_rfl) (fun _ _ _ h => h) (by rfl) ?_ (by assumption) ?_
  · intro w hSw; obtain ⟨sq0, sq1, sq2, sq3, sq4, sq5, sq6, sq7, sq8⟩ := hSw; go_simp
  try simp only [Act.put, List.setIfInBounds_toArray, List.set_cons_zero, List.set_cons_succ]
  refine takeYes (i := 4) (v := .string ⟨op.toArray⟩) rfl (by kernel_rfl) (by kernel_rfl) (by kernel_rfl) (fun _ _ _ h => h) (by rfl) ?_ (by assumption) ?_
  · intro w hSw; obtain ⟨sq0, sq1, sq2, sq3, sq4, sq5, sq6, sq7, sq8⟩ := hSw; go_simp
  try simp only [Act.put, List.setIfInBounds_toArray, List.set_cons_zero, List.set_cons_succ]
  refine wpAnyH_ready (rs := [5]) (by kernel_rfl) (by simp) ?_
  refine AllReadyH.cons rfl (fun K hK => ?_) AllReadyH.nil
  go_simp
  ((with_reducible refine (kids_any _ _).mono ?_); rintro e1 w1 ⟨rfl, hby⟩)
  rw [HKF.out]
  have stq := TStep.below (g := g) (u := u) hby
  have v0 := cell_step stq fV v0
  have c0 := cell_step stq fE c0
  have c1 := cell_step stq fE c1
  have c2 := cell_step stq fE c2
  have c3 := cell_step stq fE c3
  have px0 := cell_step stq fB px0
  have px1 := cell_step stq fB px1
  have px2 := cell_step stq fB px2
  have px3 := cell_step stq fB px3
  have fV := stq.free fV
  have fE := stq.free fE
  have fB := stq.free fB
  have ST := hid (ST.out.trans stq)
  have HXx := hid (HXx.out.step stq)
  have HE0 := hid (HE0.out.step stq)
  have VI := hid (VI.out.below hby)
  clear stq hby
  go_wp2_with fail
  refine hK.out _ _ ?_ (fun hHeld => ?_)
  · exact ⟨v0, c0, c1, c2, c3, px0, px1, px2, px3⟩
  clear hK K
  try simp only [Act.put, List.setIfInBounds_toArray, List.set_cons_zero, List.set_cons_succ]
  refine takeYes (i := 6) (v := .bool false) rfl (by kernel_rfl) (by kernel_rfl) (by kernel_rfl) (fun _ _ _ h => h) (by rfl) ?_ (by assumption) ?_
  · intro w hSw; obtain ⟨sq0, sq1, sq2, sq3, sq4, sq5, sq6, sq7, sq8⟩ := hSw; go_simp
  try simp only [Act.put, List.setIfInBounds_toArray, List.set_cons_zero, List.set_cons_succ]
  refine wpAnyH_done (by kernel_rfl) ?_ _
  go_wp2_with fail
  ((with_reducible refine (isSet_any op _).mono ?_); rintro e1 w2 ⟨rfl, rfl⟩)
  rw [HNS.out]
  go_wp2_with fail
  ((with_reducible refine (HSET.out.call _ g B T u _ HE0.out VI.out hlen).mono ?_); rintro e1 w4 ⟨u4, hst, htab, hm⟩)
  have HST := hid (ST.out.trans hst)
  have HTB := hid htab
  obtain ⟨r4, T4, hv4⟩ : ∃ r T1, valF (.mk op n nm (.cons x .nil)) T = (r, T1) := ⟨_, _, rfl⟩
  rw [hv4] at hm HTB
  have HV4 := hid hv4
  clear hst htab hv4
  rcases r4 with er | n4
  · (dsimp only at hm; subst hm; exact ⟨rfl, ValPost.bad HST.out HTB.out HV4.out⟩)
  dsimp only at hm
  subst hm
  go_wp2_with fail
  go_ret
  exact ValPost.good HST.out HTB.out HV4.out rfl
theorem val_any : ∀ e : Ex, okF e = true → ValC e := by
  intro e
  induction hs : szF e using Nat.strongRecOn generalizing e with
  | _ m ih =>
    subst hs
    intro ho
    obtain ⟨op, n, nm, k⟩ := e
    simp only [okF, Bool.and_eq_true, decide_eq_true_eq] at ho
    obtain ⟨⟨⟨o1, o2⟩, o3⟩, o4⟩ := ho
    have key : ∀ x : Ex, szF x < szF (.mk op n nm k) → okF x = true → ValC x := fun x hx ho => ih _ hx x rfl ho
    by_cases hl : (k.len : Int) = kidsF op
    case neg => exact val_kids op n nm k hl
    rcases op_kinds (op := op) (by omega) with rfl | rfl | h | rfl | h | ⟨h, h', h''⟩
    · have : k = .nil := by
        match k, hl with
        | .nil, _ => rfl
        | .cons x r, hl => rw [show kidsF numO = 0 by decide] at hl; simp [Exs.len] at hl; omega
      subst this
      exact val_num n nm
    · have : k = .nil := by
        match k, hl with
        | .nil, _ => rfl
        | .cons x r, hl => rw [show kidsF nameO = 0 by decide] at hl; simp [Exs.len] at hl; omega
      subst this
      exact val_name n nm
    · have hl' := hl
      rw [kidsF_una h] at hl'
      obtain ⟨x, rfl⟩ := Exs.one (k := k) (by omega)
      simp only [okL, Bool.and_eq_true] at o4
      have hx := key x (by simp only [szF, szL]; omega) o4.1
      rcases h with rfl | rfl | rfl | rfl
      · exact val_neg n nm x hx o4.1
      · exact val_pos n nm x hx o4.1
      · exact val_not n nm x hx o4.1
      · exact val_com n nm x hx o4.1
    · rw [show kidsF [63] = 3 by decide] at hl
      obtain ⟨x, y, z, rfl⟩ := Exs.three (k := k) (by omega)
      simp only [okL, Bool.and_eq_true] at o4
      exact val_if n nm x y z (key x (by simp only [szF, szL]; omega) o4.1) o4.1 (key y (by simp only [szF, szL]; omega) o4.2.1) o4.2.1 (key z (by simp only [szF, szL]; omega) o4.2.2.1) o4.2.2.1
    · have hl' := hl
      rw [setF_kids h] at hl'
      obtain ⟨x, rfl⟩ := Exs.one (k := k) (by omega)
      simp only [okL, Bool.and_eq_true] at o4
      exact val_set op n nm x h (set_any op n nm x h (key x (by simp only [szF, szL]; omega) o4.1) o4.1)
    · have hl' := hl
      rw [h''] at hl'
      obtain ⟨x, y, rfl⟩ := Exs.two (k := k) (by omega)
      simp only [okL, Bool.and_eq_true] at o4
      have hx := key x (by simp only [szF, szL]; omega) o4.1
      have hy := key y (by simp only [szF, szL]; omega) o4.2.1
      by_cases h1 : op = [38, 38]
      · subst h1; exact val_and n nm x y hx o4.1 hy o4.2.1
      by_cases h2 : op = [124, 124]
      · subst h2; exact val_or n nm x y hx o4.1 hy o4.2.1
      exact val_two op n nm x y h h' h'' h1 h2 hx o4.1 hy o4.2.1
end Go.Proofs.YtadmmmehphhecaaDoor
/- The walk of Value of sums. -/
namespace Go.Proofs.YtadmmmehphhecaaDoor
open Go.RowKit
abbrev T64 : TypeId := 2
theorem as_errno (v : Value) (w : World) : (Instr.typeAssert (.iface TEr v) 20 TEr false).run Tryd.prog w = .ok v w := by kernel_rfl
theorem vcatch_idle (r0 r1 : Addr) (w : World) :
    CallsD Tryd.prog 26 #[.pointer (some r0), .pointer (some r1)] .returning w fun e u' w' => e = .returned (.tuple #[]) ∧ u' = .returning ∧ w' = w := by
  refine callsD_of_wpS Tryd.func26 rfl fun c₀ cs hu => ?_
  simp only [Tryd.ntmps26, List.size_toArray, List.length_cons, List.length_nil, Nat.reduceAdd, Nat.reduceSub, Array.replicate_succ,
     Array.replicate_zero, List.push_toArray, List.append_toArray, List.nil_append, List.cons_append]
  apply wpS_seq
  apply wpS_region
  simp [wpOpsS, go_sem, recoverD, hu, Exit.thenS]
  refine wpS_of_wp ?_
  go_wp2_with fail
  cases c₀
  simp_all [bodyPostS, results, Tryd.results26]
set_option maxRecDepth 100000 in
set_option maxHeartbeats 2000000 in
theorem vcatch_bad (R1 R2 : Nat) (er : Int) (w : World) (x y : Value) (h1 : Bk w R1 T64 #[x]) (h2 : Bk w R2 TEr #[y]) (h12 : R1 ≠ R2) :
    CallsD Tryd.prog 26 #[.pointer (some ⟨R1, 0, none⟩), .pointer (some ⟨R2, 0, none⟩)] (.panicking (errV er)) w fun e u' w' =>
      e = .returned (.tuple #[]) ∧ settle u' = .returning ∧ w' = ((w.setCell ⟨R1, 0, none⟩ (.int .i64 0)).setCell ⟨R2, 0, none⟩ (.int .i64 er)).drew := by
  refine callsD_of_wpS Tryd.func26 rfl fun c₀ cs hu => ?_
  unfold errV at hu
  have d0 := h1.cell 0 x rfl
  have g0 := h1.free 0
  have e0 := h2.cell 0 y rfl
  have k0 := h2.free 0
  have hta := as_errno
  have l1 := h1.lt
  have l2 := h2.lt
  clear h1 h2
  simp only [Tryd.ntmps26, List.size_toArray, List.length_cons, List.length_nil, Nat.reduceAdd, Nat.reduceSub, Array.replicate_succ,
     Array.replicate_zero, List.push_toArray, List.append_toArray, List.nil_append, List.cons_append]
  apply wpS_seq
  apply wpS_region
  simp [wpOpsS, go_sem, recoverD, hu, Exit.thenS]
  refine wpS_of_wp ?_
  go_wp2_with fail
  go_region_with fail
  all_goals exact ⟨rfl, _, rfl, _, results_none rfl _ _ _, rfl, rfl, rfl⟩
/-- what Value answers: number, error, table -/
def valueF (e : Ex) (T : Tab) : Int × Int × Tab :=
  if 200 < deepF 200 e then (0, 32, T) else match valF e T with
    | (.ok n, T1) => (n, 0, T1)
    | (.error er, T1) => (0, er, T1)
def ValuePost (e : Ex) (g B : Nat) (T : Tab) (u : Value) (w : World) (x : Ending) (w' : World) : Prop :=
  ∃ u', TStep g w u w' u' ∧ TabAt w' B g (valueF e T).2.2 u' ∧ x = .returned (.tuple #[.int .i64 (valueF e T).1, .int .i64 (valueF e T).2.1])
theorem ValuePost.mk {e : Ex} {g B : Nat} {T T' : Tab} {u u' : Value} {w w' : World} {n f : Int} (hst : TStep g w u w' u') (ht : TabAt w' B g T' u') (hv : valueF e T = (n, f, T')) : ValuePost e g B T u w (.returned (.tuple #[.int .i64 n, .int .i64 f])) w' :=
  ⟨u', hst, by rw [hv]; exact ht, by rw [hv]⟩
def VRes (w : World) (R : Nat) (a b : Value) : Prop := Bk w (R + 1) T64 #[a] ∧ Bk w (R + 1 + 1) TEr #[b]
def VResRd (R : Nat) (tmps : Array Value) : Prop := ∀ (w : World) (a b : Value), VRes w R a b → (results Tryd.f15 tmps).run Tryd.prog w = .ok (.tuple #[a, b]) w
abbrev vcatchD (R : Nat) : Deferred := { target := .fn (.func 26) #[.pointer (some ⟨R + 1, 0, none⟩), .pointer (some ⟨R + 1 + 1, 0, none⟩)], args := #[] }
/-- a cell elsewhere is set -/
theorem TabAt.far {w : World} {B g : Nat} {T : Tab} {u : Value} (h : TabAt w B g T u) {r : Nat} (hr : r ≠ g) (hu : some r ≠ u.ownBlock) (v : Value) : TabAt (w.setCell ⟨r, 0, none⟩ v) B g T u := by
  refine ⟨h.1.far (p := ⟨r, 0, none⟩) (fun e => hr e.symm) v, ?_, by have := h.2.2; simp [World.setCell]; exact this⟩
  exact h.2.1.kept (row := some r) (grown_setCell (w := w) (p := ⟨r, 0, none⟩) rfl v) (by
    cases hb : u.ownBlock with
    | none => simp
    | some b => rw [hb] at hu; simp; intro e; exact hu (by rw [e]))
theorem TStep.far {w0 w : World} {g : Nat} {u0 u : Value} (h : TStep g w0 u0 w u) {r : Nat} (hr : w0.heap.size ≤ r) (v : Value) : TStep g w0 u0 (w.setCell ⟨r, 0, none⟩ v) u :=
  ⟨h.os, h.tape, h.output, by have := h.size; simp [World.setCell]; exact this, fun b hb => (Below.heap_setCell w ⟨r, 0, none⟩ v b (by have := hb.2.2; simp only; omega)).trans (h.block b hb), h.own⟩
/-- what holds when the deferred call is run -/
structure VMid (w : World) (g B : Nat) (u0 : Value) (wN : World) (T : Tab) (u : Value) : Prop where
  st : TStep g w u0 wN u
  tab : TabAt wN B g T u
  res : ∃ a b, VRes wN w.heap.size a b
  f1 : some (w.heap.size + 1) ≠ u.ownBlock
  f2 : some (w.heap.size + 1 + 1) ≠ u.ownBlock
  gl : g < w.heap.size
theorem VMid.put {w wN : World} {g B : Nat} {u0 u : Value} {T : Tab} (h : VMid w g B u0 wN T u) (a b : Value) :
    TStep g w u0 ((wN.setCell ⟨w.heap.size + 1, 0, none⟩ a).setCell ⟨w.heap.size + 1 + 1, 0, none⟩ b) u ∧
    TabAt ((wN.setCell ⟨w.heap.size + 1, 0, none⟩ a).setCell ⟨w.heap.size + 1 + 1, 0, none⟩ b) B g T u ∧
    VRes ((wN.setCell ⟨w.heap.size + 1, 0, none⟩ a).setCell ⟨w.heap.size + 1 + 1, 0, none⟩ b) w.heap.size a b := by
  obtain ⟨x, y, h1, h2⟩ := h.res
  have hg := h.gl
  refine ⟨(h.st.far (by omega) a).far (by omega) b, (h.tab.far (by omega) h.f1 a).far (by omega) h.f2 b, ?_, ?_⟩
  · exact (h1.set_ 0 a).far (p := ⟨w.heap.size + 1 + 1, 0, none⟩) (by simp) b
  · exact (h2.far (p := ⟨w.heap.size + 1, 0, none⟩) (by simp) a).set_ 0 b
theorem vleave_bad (e : Ex) (w wN : World) (g B : Nat) (T T' : Tab) (u u' : Value) (tmps : Array Value) (er : Int) (hr : VResRd w.heap.size tmps) (hm : VMid w g B u wN T' u') (hv : valueF e T = (0, er, T')) :
    Leaves Tryd.prog Tryd.f15 tmps (ValuePost e g B T u w) [vcatchD w.heap.size] (.panicking (errV er)) wN := by
  obtain ⟨x, y, h1, h2⟩ := hm.res
  refine leaves_cons (f := 26) (args := #[.pointer (some ⟨w.heap.size + 1, 0, none⟩), .pointer (some ⟨w.heap.size + 1 + 1, 0, none⟩)]) (by simp) (by simp [go_sem]) ?_
  refine (vcatch_bad (w.heap.size + 1) (w.heap.size + 1 + 1) er wN x y h1 h2 (by omega)).mono ?_
  rintro e1 u1 w' ⟨rfl, hs, rfl⟩
  show Leaves _ _ _ _ _ (settle u1) _
  rw [hs]
  obtain ⟨k1, k2, k3⟩ := hm.put (.int .i64 0) (.int .i64 er)
  exact ⟨_, hr _ _ _ k3, ValuePost.mk (k1.trans (TStep.below ((Below.refl _ _).drew))) (k2.below ((Below.refl _ _).drew)) hv⟩
theorem vleave_good (e : Ex) (w wN : World) (g B : Nat) (T T' : Tab) (u u' : Value) (tmps : Array Value) (n f : Int) (hr : VResRd w.heap.size tmps) (hst : TStep g w u wN u') (ht : TabAt wN B g T' u') (hk : VRes wN w.heap.size (.int .i64 n) (.int .i64 f)) (hv : valueF e T = (n, f, T')) :
    Leaves Tryd.prog Tryd.f15 tmps (ValuePost e g B T u w) [vcatchD w.heap.size] .returning wN := by
  refine leaves_cons (f := 26) (args := #[.pointer (some ⟨w.heap.size + 1, 0, none⟩), .pointer (some ⟨w.heap.size + 1 + 1, 0, none⟩)]) (by simp) (by simp [go_sem]) ?_
  refine (vcatch_idle ⟨w.heap.size + 1, 0, none⟩ ⟨w.heap.size + 1 + 1, 0, none⟩ wN).mono ?_
  rintro e1 u1 w' ⟨rfl, rfl, rfl⟩
  exact ⟨_, hr _ _ _ hk, ValuePost.mk hst ht hv⟩
theorem vstart (w : World) (a0 a1 a2 a3 b0 c0 : Value) :
    let w' := ((w.alloc (.cells #[a0, a1, a2, a3] 24)).alloc (.cells #[b0] T64)).alloc (.cells #[c0] TEr)
    Below w.heap.size w w' ∧ Bk w' w.heap.size 24 #[a0, a1, a2, a3] ∧ VRes w' w.heap.size b0 c0 := by
  refine ⟨(((Below.refl _ _).alloc (Nat.le_refl _) _).alloc (by simp) _).alloc (by simp; omega) _, ?_, ?_, ?_⟩
  · exact ((Bk.new w 24 #[a0, a1, a2, a3]).alloc (.cells #[b0] T64)).alloc (.cells #[c0] TEr)
  · have := ((Bk.new (w.alloc (.cells #[a0, a1, a2, a3] 24)) T64 #[b0])).alloc (.cells #[c0] TEr)
    simpa using this
  · have := Bk.new ((w.alloc (.cells #[a0, a1, a2, a3] 24)).alloc (.cells #[b0] T64)) TEr #[c0]
    simpa using this
set_option maxRecDepth 100000 in
set_option maxHeartbeats 4000000 in
theorem value_any (e : Ex) (w : World) (g B : Nat) (T : Tab) (u v : Value) (hr : RdX w (Free w g u) e v) (hV : VIn w g B T u) (hl : T.length + szF e ≤ 100000) (hD : DeepC 200 e) (hC : ValC e) :
    Calls Tryd.prog 15 #[v, .iface TSt (.pointer (some ⟨g, 0, none⟩))] w (ValuePost e g B T u w) := by
  have hmf : ∀ (fn : Fn) (first cap : Array Value) (w : World), (Instr.makeFunc fn first cap).run Tryd.prog w = .ok (.func fn first cap) w := fun _ _ _ _ => rfl
  obtain ⟨A, cap, rfl, hcap, hkids⟩ := hr.form
  obtain ⟨hb0, kE, kR⟩ := vstart w (.string ⟨e.op.toArray⟩) (.int .i64 e.num) (.string ⟨e.name.toArray⟩) (.slice A e.kids.len cap) (.int .i64 0) (.int .i64 0)
  have HV := hid hV
  have HX := hid hr
  have HD := hid hD
  have HC := hid hC
  have HGL := hid hV.tab.1.lt
  clear hkids hr hV hD hC hcap
  go_enter_defers Tryd.func15, Tryd.ntmps15
  go_wp2_with fail
  ((with_reducible refine (HD.out.call _ (Free w g u) _ 200 rfl (HX.out.below hb0)).mono ?_); rintro e1 w1 ⟨rfl, hb1⟩)
  have HB1 := hid (bel_step hb0 hb1)
  have lE := kE.lt
  have l1 := kR.1.lt
  have l2 := kR.2.lt
  have kE := kE.below hb1 lE
  have kR1 := kR.1.below hb1 l1
  have kR2 := kR.2.below hb1 l2
  have L1 := hid kR1.lt
  have L2 := hid kR2.lt
  obtain ⟨c0, c1, c2, c3⟩ := kE.cells4
  have u0 := kR1.cell 0 _ rfl
  have u1 := kR1.free 0
  have v0 := kR2.cell 0 _ rfl
  have v1 := kR2.free 0
  have V1 := hid (HV.out.below HB1.out)
  have HX1 := hid (HX.out.step (TStep.below (g := g) (u := u) HB1.out))
  have HM : Hid (VMid w g B u w1 T u) := hid ⟨TStep.below HB1.out, V1.out.tab, ⟨_, _, kR1, kR2⟩, fun e => by have := HV.out.tab.own_lt _ e.symm; omega, fun e => by have := HV.out.tab.own_lt _ e.symm; omega, HGL.out⟩
  have KR1 := hid kR1
  have KR2 := hid kR2
  clear hb0 hb1 kE kR kR1 kR2 lE l1 l2
  have HRD : ∀ tmps : Array Value, tmps[4]? = some (.pointer (some ⟨w.heap.size + 1, 0, none⟩)) → tmps[5]? = some (.pointer (some ⟨w.heap.size + 1 + 1, 0, none⟩)) → VResRd w.heap.size tmps := by
    intro tmps h4 h5 wz a b hk
    have d0 := hk.1.cell 0 a rfl
    have d1 := hk.2.cell 0 b rfl
    simp [results, Tryd.results15, go_sem, h4, h5, d0, d1]
  by_cases hd : 200 < deepF 200 e
  · have hdi : (200 : Int) < (deepF 200 e : Int) := by omega
    have HO : Hid (valueF e T = (0, 32, T)) := hid (by unfold valueF; rw [if_pos hd])
    clear hd
    go_wp2_with fail
    obtain ⟨k1, k2, k3⟩ := HM.out.put (.int .i64 0) (.int .i64 32)
    exact ⟨_, HRD _ (by rfl) (by rfl) _ _ _ k3, ValuePost.mk k1 k2 HO.out⟩
  · have hdi : ¬ (200 : Int) < (deepF 200 e : Int) := by omega
    have HO : Hid (valueF e T = match valF e T with
        | (.ok n, T1) => (n, 0, T1)
        | (.error er, T1) => (0, er, T1)) := hid (by unfold valueF; rw [if_neg hd])
    clear hd
    go_wp2_with fail
    ((with_reducible refine (HC.out.call _ g B T u _ HX1.out V1.out hl).mono ?_); rintro e2 w2 ⟨u2, hst, htab, hm⟩)
    obtain ⟨r2, T2, hv2⟩ : ∃ r T1, valF e T = (r, T1) := ⟨_, _, rfl⟩
    rw [hv2] at htab hm HO
    have F1 : Free w1 g u (w.heap.size + 1) := ⟨by have := HGL.out; omega, HM.out.f1, L1.out⟩
    have F2 : Free w1 g u (w.heap.size + 1 + 1) := ⟨by have := HGL.out; omega, HM.out.f2, L2.out⟩
    have kR1 : Bk w2 (w.heap.size + 1) T64 #[.int .i64 0] := (hst.block _ F1).trans KR1.out
    have kR2 : Bk w2 (w.heap.size + 1 + 1) TEr #[.int .i64 0] := (hst.block _ F2).trans KR2.out
    have HM2 : Hid (VMid w g B u w2 T2 u2) := hid ⟨HM.out.st.trans hst, htab, ⟨_, _, kR1, kR2⟩, hst.own _ F1, hst.own _ F2, HGL.out⟩
    rcases r2 with er | n
    · dsimp only at hm
      subst hm
      exact vleave_bad e w w2 g B T T2 u u2 _ er (HRD _ (by rfl) (by rfl)) HM2.out HO.out
    · dsimp only at hm
      subst hm
      have u0 := kR1.cell 0 _ rfl
      have u1 := kR1.free 0
      have v0 := kR2.cell 0 _ rfl
      have v1 := kR2.free 0
      obtain ⟨k1, k2, k3⟩ := HM2.out.put (.int .i64 n) (.int .i64 0)
      have K1 := hid k1
      have K2 := hid k2
      have K3 := hid k3
      clear k1 k2 k3 kR1 kR2 hst htab hv2 F1 F2
      go_wp2_with fail
      exact vleave_good e w _ g B T T2 u u2 _ n 0 (HRD _ (by rfl) (by rfl)) K1.out K2.out K3.out HO.out
end Go.Proofs.YtadmmmehphhecaaDoor
/- Plain: what fixed texts are parsed as. -/
namespace Go.Proofs.YtadmmmehphhecaaDoor
open Go.RowKit
theorem ParseOut.at_ok {s : List UInt8} {r : Except (Nat × Int) Ex} (h : ParseOut s r) (hl : s.length ≤ 4096) {t t' : PSt} {x : Ex} (n : Nat) (hn : nextF s ⟨0, [], 0, 0⟩ = .ok t) (ht : t.text ≠ []) (hF : F s n .whole 0 t = some (.ok (x, t'))) (ht' : t'.text = []) : r = .ok x := by
  have ho : Out s .whole 0 t (.ok (x, t')) := ⟨n, hF⟩
  cases h with
  | big h => omega
  | bad h hn' => rw [hn] at hn'; cases hn'
  | none h hn' h2 => rw [hn] at hn'; injection hn' with hn'; subst hn'; exact (ht h2).elim
  | err h hn' h2 h3 => rw [hn] at hn'; injection hn' with hn'; subst hn'; cases ho.same h3
  | left h hn' h2 h3 h4 => rw [hn] at hn'; injection hn' with hn'; subst hn'; have := ho.same h3; injection this with this; injection this with e1 e2; subst e2; exact (h4 ht').elim
  | good h hn' h2 h3 h4 => rw [hn] at hn'; injection hn' with hn'; subst hn'; have := ho.same h3; injection this with this; injection this with e1 e2; rw [e1]
theorem ParseOut.at_bad {s : List UInt8} {r : Except (Nat × Int) Ex} (h : ParseOut s r) (hl : s.length ≤ 4096) {t : PSt} {x : Nat × Int} (n : Nat) (hn : nextF s ⟨0, [], 0, 0⟩ = .ok t) (ht : t.text ≠ []) (hF : F s n .whole 0 t = some (.error x)) : r = .error x := by
  have ho : Out s .whole 0 t (.error x) := ⟨n, hF⟩
  cases h with
  | big h => omega
  | bad h hn' => rw [hn] at hn'; cases hn'
  | none h hn' h2 => rw [hn] at hn'; injection hn' with hn'; subst hn'; exact (ht h2).elim
  | err h hn' h2 h3 => rw [hn] at hn'; injection hn' with hn'; subst hn'; have := ho.same h3; injection this with this; rw [this]
  | left h hn' h2 h3 h4 => rw [hn] at hn'; injection hn' with hn'; subst hn'; cases ho.same h3
  | good h hn' h2 h3 h4 => rw [hn] at hn'; injection hn' with hn'; subst hn'; cases ho.same h3
theorem ParseOut.at_next {s : List UInt8} {r : Except (Nat × Int) Ex} (h : ParseOut s r) (hl : s.length ≤ 4096) {x : Nat × Int} (hn : nextF s ⟨0, [], 0, 0⟩ = .error x) : r = .error x := by
  cases h with
  | big h => omega
  | bad h hn' => rw [hn] at hn'; injection hn' with hn'; rw [hn']
  | none h hn' h2 => rw [hn] at hn'; cases hn'
  | err h hn' h2 h3 => rw [hn] at hn'; cases hn'
  | left h hn' h2 h3 h4 => rw [hn] at hn'; cases hn'
  | good h hn' h2 h3 h4 => rw [hn] at hn'; cases hn'
def tx1 : List UInt8 := [120, 61, 121, 43, 61, 50]
def ex1 : Ex := .mk [61] 0 [120] (.cons (.mk [43, 61] 0 [121] (.cons (.mk numO 2 [] .nil) .nil)) .nil)
def tx2 : List UInt8 := [48, 124, 124, 120, 61, 49]
def tx3 : List UInt8 := [48, 56]
def tx4 : List UInt8 := [97, 63, 45, 98, 58, 51]
def ex4 : Ex := .mk [63] 0 [] (.cons (.mk nameO 0 [97] .nil) (.cons (.mk [110, 101, 103] 0 [] (.cons (.mk nameO 0 [98] .nil) .nil)) (.cons (.mk numO 3 [] .nil) .nil)))
theorem parse1 {r : Except (Nat × Int) Ex} (h : ParseOut tx1 r) : r = .ok ex1 :=
  h.at_ok (by decide) 100 (t := ⟨0, [120], 0, 2⟩) (t' := ⟨6, [], 0, 0⟩) (by rfl) (by decide) (by kernel_rfl) rfl
theorem parse2 {r : Except (Nat × Int) Ex} (h : ParseOut tx2 r) : r = .error (4, 25) :=
  h.at_bad (by decide) 100 (t := ⟨0, [48], 0, 1⟩) (by rfl) (by decide) (by kernel_rfl)
theorem parse3 {r : Except (Nat × Int) Ex} (h : ParseOut tx3 r) : r = .error (0, 23) := h.at_next (by decide) (by rfl)
theorem parse4 {r : Except (Nat × Int) Ex} (h : ParseOut tx4 r) : r = .ok ex4 :=
  h.at_ok (by decide) 100 (t := ⟨0, [97], 0, 2⟩) (t' := ⟨6, [], 0, 0⟩) (by rfl) (by decide) (by kernel_rfl) rfl
theorem itoa_dig (k : Nat) (h : k < 10) : Lib.itoa (k : Int) = [UInt8.ofNat (48 + k)] := by rw [itoa_pos, dec1 k h]
theorem itoa7 : Lib.itoa 7 = [55] := itoa_dig 7 (by decide)
theorem itoa3 : Lib.itoa 3 = [51] := itoa_dig 3 (by decide)
def tab1 : Tab := [([121], [53], false)]
def tab2 : Tab := [([121], [55], false), ([120], [55], false)]
theorem val1 : valF ex1 tab1 = (.ok 7, tab2) := by
  have h2 : valF (.mk [43, 61] 0 [121] (.cons (.mk numO 2 [] .nil) .nil)) tab1 = (.ok 7, [([121], [55], false)]) := by
    show setV [43, 61] [121] (valF (.mk numO 2 [] .nil)) tab1 = _
    unfold setV
    rw [if_neg (by decide), show nameV tab1 [121] = .ok 5 by kernel_rfl]
    show thenV (valF (.mk numO 2 [] .nil) tab1) (fun b T1 => match twoV [43] 5 b with | .error e => (.error e, T1) | .ok n => storeV [121] n T1) = _
    rw [show valF (.mk numO 2 [] .nil) tab1 = (.ok 2, tab1) from rfl, thenV_ok, show twoV [43] 5 2 = .ok 7 by kernel_rfl]
    show storeV [121] 7 tab1 = _
    unfold storeV; rw [itoa7]; rfl
  show setV [61] [120] (valF (.mk [43, 61] 0 [121] (.cons (.mk numO 2 [] .nil) .nil))) tab1 = _
  unfold setV
  rw [if_pos rfl, h2]
  show storeV [120] 7 [([121], [55], false)] = _
  unfold storeV; rw [itoa7]; rfl
theorem show4 : showF ex4 = [40, 97, 63, 40, 45, 98, 41, 58, 51, 41] := by
  show [40] ++ [97] ++ [63] ++ ([40, 45] ++ [98] ++ [41]) ++ [58] ++ Lib.itoa 3 ++ [41] = _
  rw [itoa3]; rfl
theorem out4 : showOut ex4 = ([40, 97, 63, 40, 45, 98, 41, 58, 51, 41], 0) := by
  unfold showOut
  rw [if_neg (by decide), if_neg (by decide), show4, if_neg (by decide)]
end Go.Proofs.YtadmmmehphhecaaDoor
/- The walk of awake. The library's variables hold what is laid. -/
namespace Go.Proofs.YtadmmmehphhecaaDoor
open Go.RowKit
theorem RdX.free {w : World} {g H : Nat} {u : Value} {e : Ex} {v : Value} (h : RdX w (fun b => H ≤ b) e v) (hg : g < H) (hu : ∀ b, u.ownBlock = some b → b < H) : RdX w (Free w g u) e v :=
  RdX.keep (fun b off x hp hx => ⟨⟨by omega, fun he => by have := hu b he.symm; omega, World.block_lt_of_cell? w _ hx⟩, hx⟩) e v h
theorem TStep.belowOf {g B0 : Nat} {w w' : World} {u u' : Value} (h : TStep g w u w' u') (hg : B0 ≤ g) (hu : ∀ b, u.ownBlock = some b → B0 ≤ b) (hB : B0 ≤ w.heap.size) : Below B0 w w' :=
  ⟨h.os, h.tape, h.output, h.size, fun k hk => h.block k ⟨by omega, fun he => by have := hu k he.symm; omega, by omega⟩⟩
theorem below_of_none {w w' : World} (h : w.grownBy w' none) : Below w.heap.size w w' := ⟨h.os, h.tape, h.output, h.size, fun k hk => h.block k hk (by simp)⟩
theorem TabAt.own_ge {w : World} {B g : Nat} {T : Tab} {u : Value} (h : TabAt w B g T u) : ∀ b, u.ownBlock = some b → B ≤ b := by
  intro b hb
  rcases h.2.1.2 with ⟨rfl, _⟩ | ⟨g', cap, cur, rfl, hge, _⟩
  · simp [Value.ownBlock] at hb
  · have : g' = b := by simpa [Value.ownBlock] using hb
    omega
theorem short1 : Short tab1 := by intro p hp; simp [tab1] at hp; subst hp; decide
theorem short2 : Short tab2 := by intro p hp; simp [tab2] at hp; rcases hp with rfl | rfl <;> decide
theorem value1 : valueF ex1 tab1 = (7, 0, tab2) := by
  unfold valueF
  rw [if_neg (by decide), val1]
theorem get2 : getF tab2 [120] = ([55], true) := by decide
/-- a row of pairs and a table, new -/
theorem tab_new (w : World) (T : Tab) (cs : Array Value) (h : cs.toList = tabC T) (hl : T.length ≤ 1000) :
    TabAt ((w.alloc (.cells cs TPr)).alloc (.cells #[.slice (some ⟨w.heap.size, 0, none⟩) T.length T.length] TT)) w.heap.size (w.heap.size + 1) T (.slice (some ⟨w.heap.size, 0, none⟩) T.length T.length) := by
  have hc := tabC_len T
  refine ⟨by have := Bk.new (w.alloc (.cells cs TPr)) TT #[.slice (some ⟨w.heap.size, 0, none⟩) T.length T.length]; simpa using this, ⟨tabC_len T, .inr ⟨w.heap.size, T.length, cs, rfl, Nat.le_refl _, (Bk.new w TPr cs).alloc _, Nat.le_refl _, by unfold maxLen; omega, ?_, ?_⟩⟩, by simp; omega⟩
  · rw [← hc, ← h]; simp
  · rw [h, ← hc, List.take_length]
set_option maxRecDepth 100000 in
set_option maxHeartbeats 4000000 in
theorem awake_any (w : World) (hL : Laid w) (hG : GBig w.heap.size) : Calls Tryd.prog 7 #[] w fun e w' => e = .returned (.bool true) ∧ Below w.heap.size w w' := by
  have hwx : GBig w.heap.size := hG
  have HL := hid hL
  have HG := hid hG
  clear hL hG hwx
  have hT1 := tab_new w tab1 #[.string ⟨#[121]⟩, .string ⟨#[53]⟩, .bool false] rfl (by decide)
  have hb1 : Below w.heap.size w ((w.alloc (.cells #[.string ⟨#[121]⟩, .string ⟨#[53]⟩, .bool false] TPr)).alloc (.cells #[.slice (some ⟨w.heap.size, 0, none⟩) 1 1] TT)) := ((Below.refl _ _).alloc (Nat.le_refl _) _).alloc (by simp) _
  go_enter Tryd.func7, Tryd.ntmps7
  go_wp2_with fail
  obtain ⟨W1, hW1⟩ : ∃ W1, W1 = (w.alloc (.cells #[.string ⟨#[121]⟩, .string ⟨#[53]⟩, .bool false] TPr)).alloc (.cells #[.slice (some ⟨w.heap.size, 0, none⟩) 1 1] TT) := ⟨_, rfl⟩
  rw [← hW1] at hb1
  rw [← hW1]
  have hT1 : TabAt W1 w.heap.size (w.heap.size + 1) tab1 (.slice (some ⟨w.heap.size, 0, none⟩) 1 1) := by rw [hW1]; exact hT1
  clear hW1
  have hs1 := hb1.size
  have HB1 := hid hb1
  have HT1 := hid hT1
  ((with_reducible refine (parse_any ⟨#[120, 61, 121, 43, 61, 50]⟩ _ (HL.out.below hb1) (by have := HG.out; unfold GBig at *; omega)).mono ?_); rintro e1 w2 ⟨r, hpo, hg2, hres⟩)
  obtain rfl := parse1 hpo
  obtain ⟨v, rfl, hx⟩ := hres
  obtain ⟨A1, cap1, rfl, _, _⟩ := hx.form
  dsimp only [ex1, Ex.op, Ex.num, Ex.name, Ex.kids, Exs.len, Nat.zero_add] at *
  have HP2 := hid (below_of_none hg2)
  clear hg2 hpo
  have HX2 := hid hx
  have hg1 : w.heap.size + 1 < W1.heap.size := hT1.1.lt
  have hBa : Below W1.heap.size W1 (w2.alloc (.cells #[.string ⟨#[61]⟩, .int .i64 0, .string ⟨#[120]⟩, .slice A1 1 cap1] 24)) := HP2.out.alloc HP2.out.size _
  have hVI : VIn (w2.alloc (.cells #[.string ⟨#[61]⟩, .int .i64 0, .string ⟨#[120]⟩, .slice A1 1 cap1] 24)) (w.heap.size + 1) w.heap.size tab1 (.slice (some ⟨w.heap.size, 0, none⟩) 1 1) := ⟨HT1.out.below hBa, (HL.out.below HB1.out).below hBa, HG.out, by have := HG.out; unfold GBig at *; omega, short1⟩
  have HVI := hid hVI
  have HXV := hid ((hx.alloc_ (.cells #[.string ⟨#[61]⟩, .int .i64 0, .string ⟨#[120]⟩, .slice A1 1 cap1] 24)).free hg1 (fun b hb => HT1.out.own_lt b hb))
  have HBA := hid hBa
  clear hVI hx hT1 hb1 hBa
  go_wp2_with fail
  ((with_reducible refine (value_any ex1 _ (w.heap.size + 1) w.heap.size tab1 _ _ HXV.out HVI.out (by decide) (deep_any 200 (by decide) ex1 (by decide)) (val_any ex1 (by decide))).mono ?_); rintro e2 w3 ⟨u3, hst, htab, rfl⟩)
  rw [value1] at htab ⊢
  dsimp only at htab ⊢
  have hbb := hst.belowOf (B0 := w.heap.size) (by omega) (fun b hb => HVI.out.tab.own_ge b hb) HVI.out.tab.2.2
  have HV3 := hid (HVI.out.step hst htab short2)
  have HB3 := hid ((HB1.out.trans (HBA.out.mono HB1.out.size)).trans hbb)
  have HT3 := hid htab
  clear hst htab hbb
  go_wp2_with fail
  ((with_reducible refine (Get_any tab2 [120] (w.heap.size + 1) w.heap.size u3 _ HT3.out (by decide)).mono ?_); rintro e3 w4 ⟨rfl, hb4⟩)
  rw [get2]
  dsimp only
  have HB4 := hid (bel_step HB3.out hb4)
  clear hb4
  go_wp2_with fail
  ((with_reducible refine (parse_any ⟨#[48, 124, 124, 120, 61, 49]⟩ _ (HL.out.below HB4.out) (by have := HG.out; have := HB4.out.size; unfold GBig at *; omega)).mono ?_); rintro e5 w5 ⟨r, hpo, hg2, hres⟩)
  obtain rfl := parse2 hpo
  dsimp only at hres
  subst hres
  have HB5 := hid ((bel_step HB4.out (below_of_none hg2)).alloc (bel_step HB4.out (below_of_none hg2)).size (.cells #[.string ⟨#[]⟩, .int .i64 0, .string ⟨#[]⟩, .slice none 0 0] 24))
  clear hg2 hpo
  go_wp2_with fail
  ((with_reducible refine (parse_any ⟨#[48, 56]⟩ _ (HL.out.below HB5.out) (by have := HG.out; have := HB5.out.size; unfold GBig at *; omega)).mono ?_); rintro e5 w6 ⟨r, hpo, hg2, hres⟩)
  obtain rfl := parse3 hpo
  dsimp only at hres
  subst hres
  have HB6 := hid ((bel_step HB5.out (below_of_none hg2)).alloc (bel_step HB5.out (below_of_none hg2)).size (.cells #[.string ⟨#[]⟩, .int .i64 0, .string ⟨#[]⟩, .slice none 0 0] 24))
  clear hg2 hpo
  go_wp2_with fail
  ((with_reducible refine (parse_any ⟨#[97, 63, 45, 98, 58, 51]⟩ _ (HL.out.below HB6.out) (by have := HG.out; have := HB6.out.size; unfold GBig at *; omega)).mono ?_); rintro e7 w7 ⟨r, hpo, hg2, hres⟩)
  obtain rfl := parse4 hpo
  obtain ⟨v, rfl, hx⟩ := hres
  obtain ⟨A4, cap4, rfl, _, _⟩ := hx.form
  dsimp only [ex4, Ex.op, Ex.num, Ex.name, Ex.kids, Exs.len, Nat.zero_add, Nat.reduceAdd] at *
  have HB7 := hid ((bel_step HB6.out (below_of_none hg2)).alloc (bel_step HB6.out (below_of_none hg2)).size (.cells #[.string ⟨#[63]⟩, .int .i64 0, .string ⟨#[]⟩, .slice A4 3 cap4] 24))
  have HX7 := hid (hx.alloc_ (.cells #[.string ⟨#[63]⟩, .int .i64 0, .string ⟨#[]⟩, .slice A4 3 cap4] 24))
  clear hg2 hpo hx
  go_wp2_with fail
  ((with_reducible refine (Show_any ex4 _ _ _ HX7.out (by decide) (by decide) (HL.out.below HB7.out)).mono ?_); rintro e8 w8 ⟨rfl, hb8⟩)
  rw [out4]
  dsimp only
  have HB8 := hid (bel_step HB7.out hb8)
  clear hb8
  go_wp2_with fail
  go_ret
  exact ⟨rfl, HB8.out⟩
end Go.Proofs.YtadmmmehphhecaaDoor
/- Plain: the things of a shown expression. -/
namespace Go.Proofs.YtadmmmehphhecaaDoor
open Go.RowKit
/-- what may stand behind an operand, so that a name or a number ends there -/
def EndB (r : List UInt8) : Prop := ∀ c ∈ r.head?, wrdB c = false
theorem takeWhile_end {r : List UInt8} (h : EndB r) : r.takeWhile wrdB = [] := by
  cases r with
  | nil => rfl
  | cons c q => simp [h c (by simp)]
theorem wrd_of_dig {c : UInt8} (h : digB c = true) : wrdB c = true := by simp [wrdB, h]
theorem dig_of_oct {c : UInt8} (h : octB c = true) : digB c = true := by simp [octB, digB] at *; omega
theorem takeWhile_end2 {f : UInt8 → Bool} (hf : ∀ c, f c = true → wrdB c = true) {r : List UInt8} (h : EndB r) : r.takeWhile f = [] := by
  cases r with
  | nil => rfl
  | cons c q =>
    have := h c (by simp)
    have h2 : f c = false := by
      cases hc : f c with
      | false => rfl
      | true => rw [hf c hc] at this; cases this
    simp [h2]
theorem tok_name (p : Nat) (nm r : List UInt8) (hn : nameB nm = true) (hr : EndB r) : tokF p (nm ++ r) = .ok ⟨p, nm, 0, 2⟩ := by
  match nm, hn with
  | b :: q, hn =>
    simp only [nameB, Bool.and_eq_true, Bool.not_eq_true'] at hn
    obtain ⟨hd, ha⟩ := hn
    have hw : wrdB b = true := List.all_eq_true.1 ha b (by simp)
    have hl : letB b = true := by simpa [wrdB, hd] using hw
    have ht : (b :: (q ++ r)).takeWhile wrdB = b :: q := by
      rw [show b :: (q ++ r) = (b :: q) ++ r by simp, List.takeWhile_append_of_pos (fun c hc => List.all_eq_true.1 ha c hc), takeWhile_end hr]; simp
    simp only [List.cons_append, tokF, hd, hl, ht]
    simp
theorem dv_dec (k : Nat) (h : k < 10) : dv (UInt8.ofNat (48 + k)) = k ∧ digB (UInt8.ofNat (48 + k)) = true := by
  have hc : k = 0 ∨ k = 1 ∨ k = 2 ∨ k = 3 ∨ k = 4 ∨ k = 5 ∨ k = 6 ∨ k = 7 ∨ k = 8 ∨ k = 9 := by omega
  rcases hc with rfl | rfl | rfl | rfl | rfl | rfl | rfl | rfl | rfl | rfl <;> decide
theorem dec_dig (n : Nat) : ∀ c ∈ Lib.decDigits n, digB c = true := by
  induction n using Nat.strongRecOn with
  | _ n ih =>
    by_cases h : n < 10
    · rw [dec1 n h]; intro c hc; obtain rfl := List.mem_singleton.1 hc; exact (dv_dec n h).2
    · rw [dec2 n (by omega)]
      intro c hc
      rw [List.mem_append] at hc
      rcases hc with hc | hc
      · exact ih (n / 10) (by omega) c hc
      · obtain rfl := List.mem_singleton.1 hc; exact (dv_dec _ (by omega)).2
theorem dec_parse (n : Nat) (h : n < 18446744073709551616) : parseB 10 0 (Lib.decDigits n) = some n := by
  induction n using Nat.strongRecOn with
  | _ n ih =>
    by_cases h1 : n < 10
    · rw [dec1 n h1]
      simp only [parseB, (dv_dec n h1).1]
      rw [if_neg (by omega)]; simp
    · rw [dec2 n (by omega), parseB_snoc, ih (n / 10) (by omega) (by omega)]
      simp only [(dv_dec (n % 10) (by omega)).1]
      rw [if_neg (by omega)]; congr 1; omega
theorem dec_head (n : Nat) (h : 0 < n) : ∃ c q, Lib.decDigits n = c :: q ∧ c.toNat ≠ 48 := by
  induction n using Nat.strongRecOn with
  | _ n ih =>
    by_cases h1 : n < 10
    · rw [dec1 n h1]
      refine ⟨_, _, rfl, ?_⟩
      rw [UInt8.toNat_ofNat_of_lt' (by show 48 + n < 256; omega)]; omega
    · obtain ⟨c, q, hq, hc⟩ := ih (n / 10) (by omega) (by omega)
      rw [dec2 n (by omega), hq]
      exact ⟨c, _, rfl, hc⟩
theorem tok_num (p : Nat) (n : Nat) (r : List UInt8) (hn : n ≤ 9223372036854775807) (hr : EndB r) : tokF p (Lib.itoa (n : Int) ++ r) = .ok ⟨p, Lib.itoa (n : Int), (n : Int), 1⟩ := by
  rw [itoa_pos]
  have hany : ∀ l : List UInt8, l.length = (Lib.decDigits n).length → ((Lib.decDigits n ++ r)[l.length]?.any wrdB) = false := by
    intro l hl
    rw [hl, List.getElem?_append_right (Nat.le_refl _), Nat.sub_self]
    cases r with
    | nil => rfl
    | cons c q => simpa using hr c (by simp)
  by_cases h0 : n = 0
  · subst h0
    have hd : Lib.decDigits 0 = [48] := dec1 0 (by omega)
    rw [hd] at hany ⊢
    have hk : kindF (48 :: r) = 1 := by
      match r, hr with
      | [], _ => rfl
      | [b], _ => rfl
      | b :: c :: q, hr =>
        have hb := hr b (by simp)
        have hx : (b.toNat == 120 || b.toNat == 88) = false := by
          have hb2 : letB b = false := by simp [wrdB] at hb; exact hb.1
          cases hx : (b.toNat == 120 || b.toNat == 88) with
          | false => rfl
          | true => simp at hx; simp [letB] at hb2; omega
        simp only [kindF]
        rw [if_pos (by decide), if_neg (by simp [hx])]
    have hdg : digsF (48 :: r) = [48] := by
      unfold digsF
      rw [hk]
      simp only [fromF, isF]
      simp only [show ¬ (1 = 2) by omega, if_false, List.drop_zero, if_true]
      rw [List.takeWhile_cons, if_pos (by decide), takeWhile_end2 (fun c h => wrd_of_dig (dig_of_oct h)) hr]
    have he : endF (48 :: r) = 1 := by unfold endF; rw [hdg, hk]; rfl
    have hnum : numF (48 :: r) = some 0 := by unfold numF; rw [hdg, hk]; rfl
    have ha := hany [48] rfl
    simp only [List.cons_append, List.nil_append, List.length_cons, List.length_nil, Nat.zero_add] at ha
    simp only [List.cons_append, List.nil_append, tokF]
    rw [if_pos (by decide), hnum]
    simp only [he, ha]
    simp
  · obtain ⟨c, q, hq, hc⟩ := dec_head n (by omega)
    have hall := dec_dig n
    have hpar := dec_parse n (by omega)
    rw [hq] at hany hall hpar ⊢
    have hcd := hall c (by simp)
    have hk : kindF (c :: (q ++ r)) = 0 := by
      unfold kindF
      split
      · rename_i h; injection h with h1 h2; subst h1; rw [if_neg hc]
      · rename_i h; injection h with h1 h2; subst h1; rw [if_neg hc]
      · rfl
    have hdg : digsF (c :: (q ++ r)) = c :: q := by
      unfold digsF
      rw [hk]
      show ((c :: (q ++ r)).drop 0).takeWhile digB = c :: q
      rw [List.drop_zero, show c :: (q ++ r) = (c :: q) ++ r by simp, List.takeWhile_append_of_pos hall, takeWhile_end2 (fun c h => wrd_of_dig h) hr]; simp
    have he : endF (c :: (q ++ r)) = (c :: q).length := by unfold endF; rw [hdg, hk]; simp [fromF]
    have hnum : numF (c :: (q ++ r)) = some n := by unfold numF; rw [hdg, hk]; rw [if_neg (by simp)]; exact hpar
    have ha := hany (c :: q) rfl
    simp only [List.cons_append] at ha
    simp only [List.cons_append, tokF]
    rw [if_pos hcd, hnum]
    simp only [he, ha]
    rw [if_neg (by simp; omega)]
    congr 1
    rw [show c :: (q ++ r) = (c :: q) ++ r by simp, List.take_left]
/-- marks, and what may stand behind them -/
def brkM : List (List UInt8) := [[40], [41], [63], [58]]
def midM : List (List UInt8) := rowsF.flatten ++ setL ++ [[45], [43], [33], [126]]
theorem tok_brk (p : Nat) (c : UInt8) (r : List UInt8) (h : [c] ∈ brkM) : tokF p (c :: r) = .ok ⟨p, [c], 0, 0⟩ := by
  simp [brkM] at h
  rcases h with rfl | rfl | rfl | rfl
  all_goals
    simp only [tokF]
    rw [if_neg (by decide), if_neg (by decide)]
    match r with
    | [] => rfl
    | [b] => simp [markF, bigM, oneM]
    | b :: d :: q => simp [markF, bigM, oneM]
/-- what begins an operand -/
def BegB (x : UInt8) : Prop := x = 40 ∨ wrdB x = true
theorem BegB.ne {x : UInt8} (h : BegB x) : x ≠ 60 ∧ x ≠ 61 ∧ x ≠ 62 ∧ x ≠ 38 ∧ x ≠ 124 := by
  rcases h with rfl | h
  · decide
  · refine ⟨?_, ?_, ?_, ?_, ?_⟩ <;> (rintro rfl; revert h; decide)
theorem tok_mid (p : Nat) (m : List UInt8) (x : UInt8) (r : List UInt8) (hm : m ∈ midM) (hx : BegB x) : tokF p (m ++ x :: r) = .ok ⟨p, m, 0, 0⟩ := by
  obtain ⟨h1, h2, h3, h4, h5⟩ := hx.ne
  simp [midM, rowsF, setL] at hm
  rcases hm with rfl | rfl | rfl | rfl | rfl | rfl | rfl | rfl | rfl | rfl | rfl | rfl | rfl | rfl | rfl | rfl | rfl | rfl | rfl | rfl | rfl | rfl | rfl | rfl | rfl | rfl | rfl | rfl | rfl | rfl | rfl | rfl | rfl | rfl | rfl
  all_goals
    simp only [tokF, List.cons_append, List.nil_append]
    rw [if_neg (by decide), if_neg (by decide)]
    match r with
    | [] => simp [markF, bigM, oneM, h1, h2, h3, h4, h5]
    | b :: q => simp [markF, bigM, oneM, h1, h2, h3, h4, h5]
end Go.Proofs.YtadmmmehphhecaaDoor
/- Plain: the number of a number's text; what the texts of SumsHalf are worth. -/
namespace Go.Proofs.YtadmmmehphhecaaDoor
open Go.RowKit
theorem dec_facts (n : Nat) (hn : n < 18446744073709551616) : numF (Lib.decDigits n) = some n ∧ endF (Lib.decDigits n) = (Lib.decDigits n).length := by
  by_cases h0 : n = 0
  · subst h0
    rw [dec1 0 (by omega)]
    exact ⟨rfl, rfl⟩
  · obtain ⟨c, q, hq, hc⟩ := dec_head n (by omega)
    have hall := dec_dig n
    have hpar := dec_parse n hn
    rw [hq] at hall hpar ⊢
    have hk : kindF (c :: q) = 0 := by
      unfold kindF
      split
      · rename_i h; injection h with h1 h2; subst h1; rw [if_neg hc]
      · rename_i h; injection h with h1 h2; subst h1; rw [if_neg hc]
      · rfl
    have hdg : digsF (c :: q) = c :: q := by
      unfold digsF
      rw [hk]
      show ((c :: q).drop 0).takeWhile digB = c :: q
      rw [List.drop_zero]
      have := List.takeWhile_append_of_pos (l₂ := []) hall
      simpa using this
    refine ⟨?_, ?_⟩
    · unfold numF; rw [hdg, hk]; rw [if_neg (by simp)]; exact hpar
    · unfold endF; rw [hdg, hk]; simp [fromF]
theorem dig_not (c : UInt8) (h : digB c = true) : blkB c = false ∧ c.toNat ≠ 45 ∧ c.toNat ≠ 43 := by
  simp [digB] at h
  refine ⟨?_, by omega, by omega⟩
  simp [blkB]; omega
theorem trim_none (l : List UInt8) (h : ∀ c ∈ l, blkB c = false) : Lib.trimS l blks = l := by
  rw [trim_eq]
  have h1 : l.dropWhile blkB = l := by
    cases l with
    | nil => rfl
    | cons c r => rw [List.dropWhile_cons, if_neg (by rw [h c (by simp)]; decide)]
  rw [h1]
  unfold cutR
  have h2 : l.reverse.dropWhile blkB = l.reverse := by
    cases hr : l.reverse with
    | nil => rfl
    | cons c r => rw [List.dropWhile_cons, if_neg (by rw [h c (by rw [← List.mem_reverse, hr]; simp)]; decide)]
  rw [h2, List.reverse_reverse]
theorem number_itoa (n : Int) (h : I64 n) : numberF (Lib.trimS (Lib.itoa n) blks) = (n, 0) := by
  rcases (by omega : n < 0 ∨ 0 ≤ n) with hneg | hpos
  · obtain ⟨k, rfl⟩ : ∃ k : Nat, n = -(k : Int) := ⟨n.natAbs, by omega⟩
    rw [itoa_neg k (by omega)]
    rw [trim_none _ (fun c hc => by
      rcases List.mem_cons.1 hc with rfl | hc
      · decide
      · exact (dig_not c (dec_dig k c hc)).1)]
    obtain ⟨f1, f2⟩ := dec_facts k (by have := h.1; omega)
    show signF true (Lib.decDigits k) = _
    rw [signF_ok f1 f2 (by have := h.1; simp; omega)]; rfl
  · obtain ⟨k, rfl⟩ := Int.eq_ofNat_of_zero_le hpos
    rw [itoa_pos, trim_none _ (fun c hc => (dig_not c (dec_dig k c hc)).1)]
    obtain ⟨f1, f2⟩ := dec_facts k (by have := h.2; omega)
    have hne : ∃ c q, Lib.decDigits k = c :: q := by
      by_cases h0 : k = 0
      · subst h0; rw [dec1 0 (by omega)]; exact ⟨_, _, rfl⟩
      · obtain ⟨c, q, hq, _⟩ := dec_head k (by omega); exact ⟨c, q, hq⟩
    obtain ⟨c, q, hq⟩ := hne
    have hd := dig_not c (dec_dig k c (by rw [hq]; simp))
    have : numberF (Lib.decDigits k) = signF false (Lib.decDigits k) := by
      rw [hq]; show (if c.toNat = 45 then signF true q else if c.toNat = 43 then signF false q else signF false (c :: q)) = _; rw [if_neg hd.2.1, if_neg hd.2.2]
    rw [this, signF_ok f1 f2 (by have := h.2; simp; omega)]; rfl
def numE (n : Int) : Ex := .mk numO n [] .nil
def badE : Ex := .mk [61] 0 [120] (.cons (.mk [47] 0 [] (.cons (numE 1) (.cons (numE 0) .nil))) .nil)
def nE : Ex := .mk nameO 0 [110] .nil
def hf0 : Ex := .mk [38, 38] 0 [] (.cons nE (.cons badE .nil))
def hf1 : Ex := .mk [124, 124] 0 [] (.cons nE (.cons badE .nil))
def hf2 : Ex := .mk [63] 0 [] (.cons nE (.cons (numE 1) (.cons badE .nil)))
def hf3 : Ex := .mk [63] 0 [] (.cons nE (.cons badE (.cons (numE 2) .nil)))
def hf4 : Ex := .mk [61] 0 [120] (.cons (numE 1) .nil)
theorem hp0 {r : Except (Nat × Int) Ex} (h : ParseOut [110, 38, 38, 40, 120, 61, 49, 47, 48, 41] r) : r = .ok hf0 :=
  h.at_ok (by decide) 100 (t := ⟨0, [110], 0, 2⟩) (t' := ⟨10, [], 0, 0⟩) (by rfl) (by decide) (by kernel_rfl) rfl
theorem hp1 {r : Except (Nat × Int) Ex} (h : ParseOut [110, 124, 124, 40, 120, 61, 49, 47, 48, 41] r) : r = .ok hf1 :=
  h.at_ok (by decide) 100 (t := ⟨0, [110], 0, 2⟩) (t' := ⟨10, [], 0, 0⟩) (by rfl) (by decide) (by kernel_rfl) rfl
theorem hp2 {r : Except (Nat × Int) Ex} (h : ParseOut [110, 63, 49, 58, 40, 120, 61, 49, 47, 48, 41] r) : r = .ok hf2 :=
  h.at_ok (by decide) 100 (t := ⟨0, [110], 0, 2⟩) (t' := ⟨11, [], 0, 0⟩) (by rfl) (by decide) (by kernel_rfl) rfl
theorem hp3 {r : Except (Nat × Int) Ex} (h : ParseOut [110, 63, 40, 120, 61, 49, 47, 48, 41, 58, 50] r) : r = .ok hf3 :=
  h.at_ok (by decide) 100 (t := ⟨0, [110], 0, 2⟩) (t' := ⟨11, [], 0, 0⟩) (by rfl) (by decide) (by kernel_rfl) rfl
theorem hp4 {r : Except (Nat × Int) Ex} (h : ParseOut [120, 61, 49] r) : r = .ok hf4 :=
  h.at_ok (by decide) 100 (t := ⟨0, [120], 0, 2⟩) (t' := ⟨3, [], 0, 0⟩) (by rfl) (by decide) (by kernel_rfl) rfl
def tabH (n : Int) (v : List UInt8) : Tab := [([110], Lib.itoa n, false), ([120], v, true)]
theorem nameH (n : Int) (v : List UInt8) (h : I64 n) : nameV (tabH n v) [110] = .ok n := by
  have h1 := number_itoa n h
  have : getF (tabH n v) [110] = (Lib.itoa n, true) := by simp [tabH, getF]
  unfold nameV
  rw [this]
  dsimp only
  rw [h1]; rfl
theorem badV_ (T : Tab) : valF badE T = (.error 24, T) := by
  show thenV (twoV [47] 1 0, T) (fun n T1 => storeV [120] n T1) = _
  rfl
theorem nV (n : Int) (v : List UInt8) (h : I64 n) : valF nE (tabH n v) = (.ok n, tabH n v) := by
  show (nameV (tabH n v) [110], tabH n v) = _
  rw [nameH n v h]
theorem hv0 (n : Int) (v : List UInt8) (h : I64 n) : valueF hf0 (tabH n v) = if n = 0 then (0, 0, tabH n v) else (0, 24, tabH n v) := by
  have e : valF hf0 (tabH n v) = thenV (valF nE (tabH n v)) (fun a T1 => if a = 0 then (.ok 0, T1) else thenV (valF badE T1) fun b T2 => (.ok (if b = 0 then 0 else 1), T2)) := rfl
  unfold valueF
  rw [if_neg (by decide), e, nV n v h, thenV_ok]
  by_cases h0 : n = 0
  · rw [if_pos h0, if_pos h0]
  · rw [if_neg h0, if_neg h0, badV_]; rfl
theorem hv1 (n : Int) (v : List UInt8) (h : I64 n) : valueF hf1 (tabH n v) = if n = 0 then (0, 24, tabH n v) else (1, 0, tabH n v) := by
  have e : valF hf1 (tabH n v) = thenV (valF nE (tabH n v)) (fun a T1 => if a = 0 then thenV (valF badE T1) (fun b T2 => (.ok (if b = 0 then 0 else 1), T2)) else (.ok 1, T1)) := rfl
  unfold valueF
  rw [if_neg (by decide), e, nV n v h, thenV_ok]
  by_cases h0 : n = 0
  · rw [if_pos h0, if_pos h0, badV_]; rfl
  · rw [if_neg h0, if_neg h0]
theorem hv2 (n : Int) (v : List UInt8) (h : I64 n) : valueF hf2 (tabH n v) = if n = 0 then (0, 24, tabH n v) else (1, 0, tabH n v) := by
  have e : valF hf2 (tabH n v) = thenV (valF nE (tabH n v)) (fun a T1 => if a = 0 then valF badE T1 else valF (numE 1) T1) := rfl
  unfold valueF
  rw [if_neg (by decide), e, nV n v h, thenV_ok]
  by_cases h0 : n = 0
  · rw [if_pos h0, if_pos h0, badV_]
  · rw [if_neg h0, if_neg h0]; rfl
theorem hv3 (n : Int) (v : List UInt8) (h : I64 n) : valueF hf3 (tabH n v) = if n = 0 then (2, 0, tabH n v) else (0, 24, tabH n v) := by
  have e : valF hf3 (tabH n v) = thenV (valF nE (tabH n v)) (fun a T1 => if a = 0 then valF (numE 2) T1 else valF badE T1) := rfl
  unfold valueF
  rw [if_neg (by decide), e, nV n v h, thenV_ok]
  by_cases h0 : n = 0
  · rw [if_pos h0, if_pos h0]; rfl
  · rw [if_neg h0, if_neg h0, badV_]
theorem hv4 (n : Int) (v : List UInt8) : valueF hf4 (tabH n v) = (0, 26, tabH n v) := by
  have hp : putF (tabH n v) [120] (Lib.itoa 1) = (26, tabH n v) := by simp [tabH, putF]
  have e : valF hf4 (tabH n v) = storeV [120] 1 (tabH n v) := rfl
  unfold valueF
  rw [if_neg (by decide), e]
  unfold storeV
  rw [hp]; rfl
end Go.Proofs.YtadmmmehphhecaaDoor
/- Plain: the texts of SumsWrap, what they are parsed as, and what they are worth. Numbers of 64 bits. -/
namespace Go.Proofs.YtadmmmehphhecaaDoor
open Go.RowKit
def vE (c : UInt8) : Ex := .mk nameO 0 [c] .nil
def wtL : Nat → List UInt8
  | 0 => [97, 43, 98]
  | 1 => [97, 42, 98]
  | 2 => [40, 97, 43, 98, 41, 43, 99]
  | 3 => [97, 42, 98, 42, 99]
  | 4 => [97, 42, 40, 98, 43, 99, 41]
  | 5 => [97, 45, 98, 43, 98]
  | 6 => [126, 97]
  | 7 => [97, 94, 98, 94, 98]
  | 8 => [40, 97, 38, 98, 41, 43, 40, 97, 124, 98, 41]
  | 9 => [33, 97]
  | 10 => [97, 60, 98]
  | 11 => [97, 60, 61, 98]
  | 12 => [97, 60, 60, 49]
  | 13 => [97, 60, 60, 98]
  | 14 => [97, 63, 98, 58, 99]
  | 15 => [97, 38, 38, 98]
  | 16 => [97, 124, 124, 98]
  | _ => []
def wtR : Nat → List UInt8
  | 0 => [98, 43, 97]
  | 1 => [98, 42, 97]
  | 2 => [97, 43, 40, 98, 43, 99, 41]
  | 3 => [97, 42, 40, 98, 42, 99, 41]
  | 4 => [97, 42, 98, 43, 97, 42, 99]
  | 5 => [97]
  | 6 => [45, 97, 45, 49]
  | 7 => [97]
  | 8 => [97, 43, 98]
  | 9 => [97, 61, 61, 48]
  | 10 => [98, 62, 97]
  | 11 => [33, 40, 97, 62, 98, 41]
  | 12 => [97, 43, 97]
  | 13 => [97, 60, 60, 40, 98, 38, 54, 51, 41]
  | 14 => [40, 97, 33, 61, 48, 41, 42, 98, 43, 40, 97, 61, 61, 48, 41, 42, 99]
  | 15 => [40, 97, 33, 61, 48, 41, 38, 40, 98, 33, 61, 48, 41]
  | 16 => [33, 40, 33, 97, 38, 33, 98, 41]
  | _ => []
def weL : Nat → Ex
  | 0 => (.mk [43] 0 [] (.cons (vE 97) (.cons (vE 98) .nil)))
  | 1 => (.mk [42] 0 [] (.cons (vE 97) (.cons (vE 98) .nil)))
  | 2 => (.mk [43] 0 [] (.cons (.mk [43] 0 [] (.cons (vE 97) (.cons (vE 98) .nil))) (.cons (vE 99) .nil)))
  | 3 => (.mk [42] 0 [] (.cons (.mk [42] 0 [] (.cons (vE 97) (.cons (vE 98) .nil))) (.cons (vE 99) .nil)))
  | 4 => (.mk [42] 0 [] (.cons (vE 97) (.cons (.mk [43] 0 [] (.cons (vE 98) (.cons (vE 99) .nil))) .nil)))
  | 5 => (.mk [43] 0 [] (.cons (.mk [45] 0 [] (.cons (vE 97) (.cons (vE 98) .nil))) (.cons (vE 98) .nil)))
  | 6 => (.mk [99, 111, 109] 0 [] (.cons (vE 97) .nil))
  | 7 => (.mk [94] 0 [] (.cons (.mk [94] 0 [] (.cons (vE 97) (.cons (vE 98) .nil))) (.cons (vE 98) .nil)))
  | 8 => (.mk [43] 0 [] (.cons (.mk [38] 0 [] (.cons (vE 97) (.cons (vE 98) .nil))) (.cons (.mk [124] 0 [] (.cons (vE 97) (.cons (vE 98) .nil))) .nil)))
  | 9 => (.mk [110, 111, 116] 0 [] (.cons (vE 97) .nil))
  | 10 => (.mk [60] 0 [] (.cons (vE 97) (.cons (vE 98) .nil)))
  | 11 => (.mk [60, 61] 0 [] (.cons (vE 97) (.cons (vE 98) .nil)))
  | 12 => (.mk [60, 60] 0 [] (.cons (vE 97) (.cons (numE 1) .nil)))
  | 13 => (.mk [60, 60] 0 [] (.cons (vE 97) (.cons (vE 98) .nil)))
  | 14 => (.mk [63] 0 [] (.cons (vE 97) (.cons (vE 98) (.cons (vE 99) .nil))))
  | 15 => (.mk [38, 38] 0 [] (.cons (vE 97) (.cons (vE 98) .nil)))
  | 16 => (.mk [124, 124] 0 [] (.cons (vE 97) (.cons (vE 98) .nil)))
  | _ => numE 0
def weR : Nat → Ex
  | 0 => (.mk [43] 0 [] (.cons (vE 98) (.cons (vE 97) .nil)))
  | 1 => (.mk [42] 0 [] (.cons (vE 98) (.cons (vE 97) .nil)))
  | 2 => (.mk [43] 0 [] (.cons (vE 97) (.cons (.mk [43] 0 [] (.cons (vE 98) (.cons (vE 99) .nil))) .nil)))
  | 3 => (.mk [42] 0 [] (.cons (vE 97) (.cons (.mk [42] 0 [] (.cons (vE 98) (.cons (vE 99) .nil))) .nil)))
  | 4 => (.mk [43] 0 [] (.cons (.mk [42] 0 [] (.cons (vE 97) (.cons (vE 98) .nil))) (.cons (.mk [42] 0 [] (.cons (vE 97) (.cons (vE 99) .nil))) .nil)))
  | 5 => (vE 97)
  | 6 => (.mk [45] 0 [] (.cons (.mk [110, 101, 103] 0 [] (.cons (vE 97) .nil)) (.cons (numE 1) .nil)))
  | 7 => (vE 97)
  | 8 => (.mk [43] 0 [] (.cons (vE 97) (.cons (vE 98) .nil)))
  | 9 => (.mk [61, 61] 0 [] (.cons (vE 97) (.cons (numE 0) .nil)))
  | 10 => (.mk [62] 0 [] (.cons (vE 98) (.cons (vE 97) .nil)))
  | 11 => (.mk [110, 111, 116] 0 [] (.cons (.mk [62] 0 [] (.cons (vE 97) (.cons (vE 98) .nil))) .nil))
  | 12 => (.mk [43] 0 [] (.cons (vE 97) (.cons (vE 97) .nil)))
  | 13 => (.mk [60, 60] 0 [] (.cons (vE 97) (.cons (.mk [38] 0 [] (.cons (vE 98) (.cons (numE 63) .nil))) .nil)))
  | 14 => (.mk [43] 0 [] (.cons (.mk [42] 0 [] (.cons (.mk [33, 61] 0 [] (.cons (vE 97) (.cons (numE 0) .nil))) (.cons (vE 98) .nil))) (.cons (.mk [42] 0 [] (.cons (.mk [61, 61] 0 [] (.cons (vE 97) (.cons (numE 0) .nil))) (.cons (vE 99) .nil))) .nil)))
  | 15 => (.mk [38] 0 [] (.cons (.mk [33, 61] 0 [] (.cons (vE 97) (.cons (numE 0) .nil))) (.cons (.mk [33, 61] 0 [] (.cons (vE 98) (.cons (numE 0) .nil))) .nil)))
  | 16 => (.mk [110, 111, 116] 0 [] (.cons (.mk [38] 0 [] (.cons (.mk [110, 111, 116] 0 [] (.cons (vE 97) .nil)) (.cons (.mk [110, 111, 116] 0 [] (.cons (vE 98) .nil)) .nil))) .nil))
  | _ => numE 0
def wtZ : List UInt8 := [97, 47, 98, 42, 98, 43, 97, 37, 98]
def weZ : Ex := (.mk [43] 0 [] (.cons (.mk [42] 0 [] (.cons (.mk [47] 0 [] (.cons (vE 97) (.cons (vE 98) .nil))) (.cons (vE 98) .nil))) (.cons (.mk [37] 0 [] (.cons (vE 97) (.cons (vE 98) .nil))) .nil)))
theorem wpL0 {r : Except (Nat × Int) Ex} (h : ParseOut [97, 43, 98] r) : r = .ok (.mk [43] 0 [] (.cons (vE 97) (.cons (vE 98) .nil))) :=
  h.at_ok (by decide) 100 (t := ⟨0, [97], 0, 2⟩) (t' := ⟨3, [], 0, 0⟩) (by rfl) (by decide) (by kernel_rfl) rfl
theorem wpR0 {r : Except (Nat × Int) Ex} (h : ParseOut [98, 43, 97] r) : r = .ok (.mk [43] 0 [] (.cons (vE 98) (.cons (vE 97) .nil))) :=
  h.at_ok (by decide) 100 (t := ⟨0, [98], 0, 2⟩) (t' := ⟨3, [], 0, 0⟩) (by rfl) (by decide) (by kernel_rfl) rfl
theorem wpL1 {r : Except (Nat × Int) Ex} (h : ParseOut [97, 42, 98] r) : r = .ok (.mk [42] 0 [] (.cons (vE 97) (.cons (vE 98) .nil))) :=
  h.at_ok (by decide) 100 (t := ⟨0, [97], 0, 2⟩) (t' := ⟨3, [], 0, 0⟩) (by rfl) (by decide) (by kernel_rfl) rfl
theorem wpR1 {r : Except (Nat × Int) Ex} (h : ParseOut [98, 42, 97] r) : r = .ok (.mk [42] 0 [] (.cons (vE 98) (.cons (vE 97) .nil))) :=
  h.at_ok (by decide) 100 (t := ⟨0, [98], 0, 2⟩) (t' := ⟨3, [], 0, 0⟩) (by rfl) (by decide) (by kernel_rfl) rfl
theorem wpL2 {r : Except (Nat × Int) Ex} (h : ParseOut [40, 97, 43, 98, 41, 43, 99] r) : r = .ok (.mk [43] 0 [] (.cons (.mk [43] 0 [] (.cons (vE 97) (.cons (vE 98) .nil))) (.cons (vE 99) .nil))) :=
  h.at_ok (by decide) 100 (t := ⟨0, [40], 0, 0⟩) (t' := ⟨7, [], 0, 0⟩) (by rfl) (by decide) (by kernel_rfl) rfl
theorem wpR2 {r : Except (Nat × Int) Ex} (h : ParseOut [97, 43, 40, 98, 43, 99, 41] r) : r = .ok (.mk [43] 0 [] (.cons (vE 97) (.cons (.mk [43] 0 [] (.cons (vE 98) (.cons (vE 99) .nil))) .nil))) :=
  h.at_ok (by decide) 100 (t := ⟨0, [97], 0, 2⟩) (t' := ⟨7, [], 0, 0⟩) (by rfl) (by decide) (by kernel_rfl) rfl
theorem wpL3 {r : Except (Nat × Int) Ex} (h : ParseOut [97, 42, 98, 42, 99] r) : r = .ok (.mk [42] 0 [] (.cons (.mk [42] 0 [] (.cons (vE 97) (.cons (vE 98) .nil))) (.cons (vE 99) .nil))) :=
  h.at_ok (by decide) 100 (t := ⟨0, [97], 0, 2⟩) (t' := ⟨5, [], 0, 0⟩) (by rfl) (by decide) (by kernel_rfl) rfl
theorem wpR3 {r : Except (Nat × Int) Ex} (h : ParseOut [97, 42, 40, 98, 42, 99, 41] r) : r = .ok (.mk [42] 0 [] (.cons (vE 97) (.cons (.mk [42] 0 [] (.cons (vE 98) (.cons (vE 99) .nil))) .nil))) :=
  h.at_ok (by decide) 100 (t := ⟨0, [97], 0, 2⟩) (t' := ⟨7, [], 0, 0⟩) (by rfl) (by decide) (by kernel_rfl) rfl
theorem wpL4 {r : Except (Nat × Int) Ex} (h : ParseOut [97, 42, 40, 98, 43, 99, 41] r) : r = .ok (.mk [42] 0 [] (.cons (vE 97) (.cons (.mk [43] 0 [] (.cons (vE 98) (.cons (vE 99) .nil))) .nil))) :=
  h.at_ok (by decide) 100 (t := ⟨0, [97], 0, 2⟩) (t' := ⟨7, [], 0, 0⟩) (by rfl) (by decide) (by kernel_rfl) rfl
theorem wpR4 {r : Except (Nat × Int) Ex} (h : ParseOut [97, 42, 98, 43, 97, 42, 99] r) : r = .ok (.mk [43] 0 [] (.cons (.mk [42] 0 [] (.cons (vE 97) (.cons (vE 98) .nil))) (.cons (.mk [42] 0 [] (.cons (vE 97) (.cons (vE 99) .nil))) .nil))) :=
  h.at_ok (by decide) 100 (t := ⟨0, [97], 0, 2⟩) (t' := ⟨7, [], 0, 0⟩) (by rfl) (by decide) (by kernel_rfl) rfl
theorem wpL5 {r : Except (Nat × Int) Ex} (h : ParseOut [97, 45, 98, 43, 98] r) : r = .ok (.mk [43] 0 [] (.cons (.mk [45] 0 [] (.cons (vE 97) (.cons (vE 98) .nil))) (.cons (vE 98) .nil))) :=
  h.at_ok (by decide) 100 (t := ⟨0, [97], 0, 2⟩) (t' := ⟨5, [], 0, 0⟩) (by rfl) (by decide) (by kernel_rfl) rfl
theorem wpR5 {r : Except (Nat × Int) Ex} (h : ParseOut [97] r) : r = .ok (vE 97) :=
  h.at_ok (by decide) 100 (t := ⟨0, [97], 0, 2⟩) (t' := ⟨1, [], 0, 0⟩) (by rfl) (by decide) (by kernel_rfl) rfl
theorem wpL6 {r : Except (Nat × Int) Ex} (h : ParseOut [126, 97] r) : r = .ok (.mk [99, 111, 109] 0 [] (.cons (vE 97) .nil)) :=
  h.at_ok (by decide) 100 (t := ⟨0, [126], 0, 0⟩) (t' := ⟨2, [], 0, 0⟩) (by rfl) (by decide) (by kernel_rfl) rfl
theorem wpR6 {r : Except (Nat × Int) Ex} (h : ParseOut [45, 97, 45, 49] r) : r = .ok (.mk [45] 0 [] (.cons (.mk [110, 101, 103] 0 [] (.cons (vE 97) .nil)) (.cons (numE 1) .nil))) :=
  h.at_ok (by decide) 100 (t := ⟨0, [45], 0, 0⟩) (t' := ⟨4, [], 0, 0⟩) (by rfl) (by decide) (by kernel_rfl) rfl
theorem wpL7 {r : Except (Nat × Int) Ex} (h : ParseOut [97, 94, 98, 94, 98] r) : r = .ok (.mk [94] 0 [] (.cons (.mk [94] 0 [] (.cons (vE 97) (.cons (vE 98) .nil))) (.cons (vE 98) .nil))) :=
  h.at_ok (by decide) 100 (t := ⟨0, [97], 0, 2⟩) (t' := ⟨5, [], 0, 0⟩) (by rfl) (by decide) (by kernel_rfl) rfl
theorem wpR7 {r : Except (Nat × Int) Ex} (h : ParseOut [97] r) : r = .ok (vE 97) :=
  h.at_ok (by decide) 100 (t := ⟨0, [97], 0, 2⟩) (t' := ⟨1, [], 0, 0⟩) (by rfl) (by decide) (by kernel_rfl) rfl
theorem wpL8 {r : Except (Nat × Int) Ex} (h : ParseOut [40, 97, 38, 98, 41, 43, 40, 97, 124, 98, 41] r) : r = .ok (.mk [43] 0 [] (.cons (.mk [38] 0 [] (.cons (vE 97) (.cons (vE 98) .nil))) (.cons (.mk [124] 0 [] (.cons (vE 97) (.cons (vE 98) .nil))) .nil))) :=
  h.at_ok (by decide) 100 (t := ⟨0, [40], 0, 0⟩) (t' := ⟨11, [], 0, 0⟩) (by rfl) (by decide) (by kernel_rfl) rfl
theorem wpR8 {r : Except (Nat × Int) Ex} (h : ParseOut [97, 43, 98] r) : r = .ok (.mk [43] 0 [] (.cons (vE 97) (.cons (vE 98) .nil))) :=
  h.at_ok (by decide) 100 (t := ⟨0, [97], 0, 2⟩) (t' := ⟨3, [], 0, 0⟩) (by rfl) (by decide) (by kernel_rfl) rfl
theorem wpL9 {r : Except (Nat × Int) Ex} (h : ParseOut [33, 97] r) : r = .ok (.mk [110, 111, 116] 0 [] (.cons (vE 97) .nil)) :=
  h.at_ok (by decide) 100 (t := ⟨0, [33], 0, 0⟩) (t' := ⟨2, [], 0, 0⟩) (by rfl) (by decide) (by kernel_rfl) rfl
theorem wpR9 {r : Except (Nat × Int) Ex} (h : ParseOut [97, 61, 61, 48] r) : r = .ok (.mk [61, 61] 0 [] (.cons (vE 97) (.cons (numE 0) .nil))) :=
  h.at_ok (by decide) 100 (t := ⟨0, [97], 0, 2⟩) (t' := ⟨4, [], 0, 0⟩) (by rfl) (by decide) (by kernel_rfl) rfl
theorem wpL10 {r : Except (Nat × Int) Ex} (h : ParseOut [97, 60, 98] r) : r = .ok (.mk [60] 0 [] (.cons (vE 97) (.cons (vE 98) .nil))) :=
  h.at_ok (by decide) 100 (t := ⟨0, [97], 0, 2⟩) (t' := ⟨3, [], 0, 0⟩) (by rfl) (by decide) (by kernel_rfl) rfl
theorem wpR10 {r : Except (Nat × Int) Ex} (h : ParseOut [98, 62, 97] r) : r = .ok (.mk [62] 0 [] (.cons (vE 98) (.cons (vE 97) .nil))) :=
  h.at_ok (by decide) 100 (t := ⟨0, [98], 0, 2⟩) (t' := ⟨3, [], 0, 0⟩) (by rfl) (by decide) (by kernel_rfl) rfl
theorem wpL11 {r : Except (Nat × Int) Ex} (h : ParseOut [97, 60, 61, 98] r) : r = .ok (.mk [60, 61] 0 [] (.cons (vE 97) (.cons (vE 98) .nil))) :=
  h.at_ok (by decide) 100 (t := ⟨0, [97], 0, 2⟩) (t' := ⟨4, [], 0, 0⟩) (by rfl) (by decide) (by kernel_rfl) rfl
theorem wpR11 {r : Except (Nat × Int) Ex} (h : ParseOut [33, 40, 97, 62, 98, 41] r) : r = .ok (.mk [110, 111, 116] 0 [] (.cons (.mk [62] 0 [] (.cons (vE 97) (.cons (vE 98) .nil))) .nil)) :=
  h.at_ok (by decide) 100 (t := ⟨0, [33], 0, 0⟩) (t' := ⟨6, [], 0, 0⟩) (by rfl) (by decide) (by kernel_rfl) rfl
theorem wpL12 {r : Except (Nat × Int) Ex} (h : ParseOut [97, 60, 60, 49] r) : r = .ok (.mk [60, 60] 0 [] (.cons (vE 97) (.cons (numE 1) .nil))) :=
  h.at_ok (by decide) 100 (t := ⟨0, [97], 0, 2⟩) (t' := ⟨4, [], 0, 0⟩) (by rfl) (by decide) (by kernel_rfl) rfl
theorem wpR12 {r : Except (Nat × Int) Ex} (h : ParseOut [97, 43, 97] r) : r = .ok (.mk [43] 0 [] (.cons (vE 97) (.cons (vE 97) .nil))) :=
  h.at_ok (by decide) 100 (t := ⟨0, [97], 0, 2⟩) (t' := ⟨3, [], 0, 0⟩) (by rfl) (by decide) (by kernel_rfl) rfl
theorem wpL13 {r : Except (Nat × Int) Ex} (h : ParseOut [97, 60, 60, 98] r) : r = .ok (.mk [60, 60] 0 [] (.cons (vE 97) (.cons (vE 98) .nil))) :=
  h.at_ok (by decide) 100 (t := ⟨0, [97], 0, 2⟩) (t' := ⟨4, [], 0, 0⟩) (by rfl) (by decide) (by kernel_rfl) rfl
theorem wpR13 {r : Except (Nat × Int) Ex} (h : ParseOut [97, 60, 60, 40, 98, 38, 54, 51, 41] r) : r = .ok (.mk [60, 60] 0 [] (.cons (vE 97) (.cons (.mk [38] 0 [] (.cons (vE 98) (.cons (numE 63) .nil))) .nil))) :=
  h.at_ok (by decide) 100 (t := ⟨0, [97], 0, 2⟩) (t' := ⟨9, [], 0, 0⟩) (by rfl) (by decide) (by kernel_rfl) rfl
theorem wpL14 {r : Except (Nat × Int) Ex} (h : ParseOut [97, 63, 98, 58, 99] r) : r = .ok (.mk [63] 0 [] (.cons (vE 97) (.cons (vE 98) (.cons (vE 99) .nil)))) :=
  h.at_ok (by decide) 100 (t := ⟨0, [97], 0, 2⟩) (t' := ⟨5, [], 0, 0⟩) (by rfl) (by decide) (by kernel_rfl) rfl
theorem wpR14 {r : Except (Nat × Int) Ex} (h : ParseOut [40, 97, 33, 61, 48, 41, 42, 98, 43, 40, 97, 61, 61, 48, 41, 42, 99] r) : r = .ok (.mk [43] 0 [] (.cons (.mk [42] 0 [] (.cons (.mk [33, 61] 0 [] (.cons (vE 97) (.cons (numE 0) .nil))) (.cons (vE 98) .nil))) (.cons (.mk [42] 0 [] (.cons (.mk [61, 61] 0 [] (.cons (vE 97) (.cons (numE 0) .nil))) (.cons (vE 99) .nil))) .nil))) :=
  h.at_ok (by decide) 100 (t := ⟨0, [40], 0, 0⟩) (t' := ⟨17, [], 0, 0⟩) (by rfl) (by decide) (by kernel_rfl) rfl
theorem wpL15 {r : Except (Nat × Int) Ex} (h : ParseOut [97, 38, 38, 98] r) : r = .ok (.mk [38, 38] 0 [] (.cons (vE 97) (.cons (vE 98) .nil))) :=
  h.at_ok (by decide) 100 (t := ⟨0, [97], 0, 2⟩) (t' := ⟨4, [], 0, 0⟩) (by rfl) (by decide) (by kernel_rfl) rfl
theorem wpR15 {r : Except (Nat × Int) Ex} (h : ParseOut [40, 97, 33, 61, 48, 41, 38, 40, 98, 33, 61, 48, 41] r) : r = .ok (.mk [38] 0 [] (.cons (.mk [33, 61] 0 [] (.cons (vE 97) (.cons (numE 0) .nil))) (.cons (.mk [33, 61] 0 [] (.cons (vE 98) (.cons (numE 0) .nil))) .nil))) :=
  h.at_ok (by decide) 100 (t := ⟨0, [40], 0, 0⟩) (t' := ⟨13, [], 0, 0⟩) (by rfl) (by decide) (by kernel_rfl) rfl
theorem wpL16 {r : Except (Nat × Int) Ex} (h : ParseOut [97, 124, 124, 98] r) : r = .ok (.mk [124, 124] 0 [] (.cons (vE 97) (.cons (vE 98) .nil))) :=
  h.at_ok (by decide) 100 (t := ⟨0, [97], 0, 2⟩) (t' := ⟨4, [], 0, 0⟩) (by rfl) (by decide) (by kernel_rfl) rfl
theorem wpR16 {r : Except (Nat × Int) Ex} (h : ParseOut [33, 40, 33, 97, 38, 33, 98, 41] r) : r = .ok (.mk [110, 111, 116] 0 [] (.cons (.mk [38] 0 [] (.cons (.mk [110, 111, 116] 0 [] (.cons (vE 97) .nil)) (.cons (.mk [110, 111, 116] 0 [] (.cons (vE 98) .nil)) .nil))) .nil)) :=
  h.at_ok (by decide) 100 (t := ⟨0, [33], 0, 0⟩) (t' := ⟨8, [], 0, 0⟩) (by rfl) (by decide) (by kernel_rfl) rfl
theorem wpZ {r : Except (Nat × Int) Ex} (h : ParseOut [97, 47, 98, 42, 98, 43, 97, 37, 98] r) : r = .ok (.mk [43] 0 [] (.cons (.mk [42] 0 [] (.cons (.mk [47] 0 [] (.cons (vE 97) (.cons (vE 98) .nil))) (.cons (vE 98) .nil))) (.cons (.mk [37] 0 [] (.cons (vE 97) (.cons (vE 98) .nil))) .nil))) :=
  h.at_ok (by decide) 100 (t := ⟨0, [97], 0, 2⟩) (t' := ⟨9, [], 0, 0⟩) (by rfl) (by decide) (by kernel_rfl) rfl
theorem wpL (k : Nat) (hk : k < 17) {r : Except (Nat × Int) Ex} (h : ParseOut (wtL k) r) : r = .ok (weL k) := by
  match k, hk with
  | 0, _ => exact wpL0 h
  | 1, _ => exact wpL1 h
  | 2, _ => exact wpL2 h
  | 3, _ => exact wpL3 h
  | 4, _ => exact wpL4 h
  | 5, _ => exact wpL5 h
  | 6, _ => exact wpL6 h
  | 7, _ => exact wpL7 h
  | 8, _ => exact wpL8 h
  | 9, _ => exact wpL9 h
  | 10, _ => exact wpL10 h
  | 11, _ => exact wpL11 h
  | 12, _ => exact wpL12 h
  | 13, _ => exact wpL13 h
  | 14, _ => exact wpL14 h
  | 15, _ => exact wpL15 h
  | 16, _ => exact wpL16 h
  | n + 17, hk => omega
theorem wpR (k : Nat) (hk : k < 17) {r : Except (Nat × Int) Ex} (h : ParseOut (wtR k) r) : r = .ok (weR k) := by
  match k, hk with
  | 0, _ => exact wpR0 h
  | 1, _ => exact wpR1 h
  | 2, _ => exact wpR2 h
  | 3, _ => exact wpR3 h
  | 4, _ => exact wpR4 h
  | 5, _ => exact wpR5 h
  | 6, _ => exact wpR6 h
  | 7, _ => exact wpR7 h
  | 8, _ => exact wpR8 h
  | 9, _ => exact wpR9 h
  | 10, _ => exact wpR10 h
  | 11, _ => exact wpR11 h
  | 12, _ => exact wpR12 h
  | 13, _ => exact wpR13 h
  | 14, _ => exact wpR14 h
  | 15, _ => exact wpR15 h
  | 16, _ => exact wpR16 h
  | n + 17, hk => omega
def tabW (a b c : Int) : Tab := [([97], Lib.itoa a, false), ([98], Lib.itoa b, false), ([99], Lib.itoa c, false)]
def I3 (a b c : Int) : Prop := I64 a ∧ I64 b ∧ I64 c
section
variable {a b c : Int}
theorem name_w {T : Tab} {x : List UInt8} {n : Int} (hn : I64 n) (h : getF T x = (Lib.itoa n, true)) : nameV T x = .ok n := by
  unfold nameV; rw [h]; dsimp only; rw [number_itoa n hn]; rfl
theorem wA (h : I3 a b c) : valF (vE 97) (tabW a b c) = (.ok a, tabW a b c) := by
  show (nameV (tabW a b c) [97], tabW a b c) = _
  rw [name_w h.1 (by simp [tabW, getF])]
theorem wB (h : I3 a b c) : valF (vE 98) (tabW a b c) = (.ok b, tabW a b c) := by
  show (nameV (tabW a b c) [98], tabW a b c) = _
  rw [name_w h.2.1 (by simp [tabW, getF])]
theorem wC (h : I3 a b c) : valF (vE 99) (tabW a b c) = (.ok c, tabW a b c) := by
  show (nameV (tabW a b c) [99], tabW a b c) = _
  rw [name_w h.2.2 (by simp [tabW, getF])]
end
theorem wNum (n : Int) (T : Tab) : valF (numE n) T = (.ok n, T) := rfl
section
variable {T : Tab} {x y z : Ex} {p q r : Int}
theorem w_neg (hx : valF x T = (.ok p, T)) : valF (.mk [110, 101, 103] 0 [] (.cons x .nil)) T = (.ok (wrap64 (-p)), T) := by
  show thenV (valF x T) (fun a T1 => (.ok (wrap64 (-a)), T1)) = _
  rw [hx]; rfl
theorem w_com (hx : valF x T = (.ok p, T)) : valF (.mk [99, 111, 109] 0 [] (.cons x .nil)) T = (.ok (-1 - p), T) := by
  show thenV (valF x T) (fun a T1 => (.ok (-1 - a), T1)) = _
  rw [hx]; rfl
theorem w_not (hx : valF x T = (.ok p, T)) : valF (.mk [110, 111, 116] 0 [] (.cons x .nil)) T = (.ok (if p = 0 then 1 else 0), T) := by
  show thenV (valF x T) (fun a T1 => (.ok (if a = 0 then 1 else 0), T1)) = _
  rw [hx]; rfl
theorem w_if (hx : valF x T = (.ok p, T)) (hy : valF y T = (.ok q, T)) (hz : valF z T = (.ok r, T)) : valF (.mk [63] 0 [] (.cons x (.cons y (.cons z .nil)))) T = (.ok (if p = 0 then r else q), T) := by
  show thenV (valF x T) (fun a T1 => if a = 0 then valF z T1 else valF y T1) = _
  rw [hx, thenV_ok, hy, hz]; split <;> rfl
theorem w_and (hx : valF x T = (.ok p, T)) (hy : valF y T = (.ok q, T)) : valF (.mk [38, 38] 0 [] (.cons x (.cons y .nil))) T = (.ok (if p = 0 then 0 else if q = 0 then 0 else 1), T) := by
  show thenV (valF x T) (fun a T1 => if a = 0 then (.ok 0, T1) else thenV (valF y T1) fun b T2 => (.ok (if b = 0 then 0 else 1), T2)) = _
  rw [hx, thenV_ok, hy]
  by_cases h : p = 0
  · rw [if_pos h, if_pos h]
  · rw [if_neg h, if_neg h]; rfl
theorem w_or (hx : valF x T = (.ok p, T)) (hy : valF y T = (.ok q, T)) : valF (.mk [124, 124] 0 [] (.cons x (.cons y .nil))) T = (.ok (if p = 0 then (if q = 0 then 0 else 1) else 1), T) := by
  show thenV (valF x T) (fun a T1 => if a = 0 then thenV (valF y T1) (fun b T2 => (.ok (if b = 0 then 0 else 1), T2)) else (.ok 1, T1)) = _
  rw [hx, thenV_ok, hy]
  by_cases h : p = 0
  · rw [if_pos h, if_pos h]; rfl
  · rw [if_neg h, if_neg h]
theorem w_two {op : List UInt8} (h : 0 < levF op ∧ setF op = false ∧ kidsF op = 2 ∧ op ≠ [38, 38] ∧ op ≠ [124, 124]) (hx : valF x T = (.ok p, T)) (hy : valF y T = (.ok q, T)) (h2 : twoV op p q = .ok r) : valF (.mk op 0 [] (.cons x (.cons y .nil))) T = (.ok r, T) := by
  obtain ⟨h, hs, hk, h1, h3⟩ := h
  have e1 : op ≠ numO := by rintro rfl; revert h; decide
  have e2 : op ≠ nameO := by rintro rfl; revert h; decide
  have e3 : op ≠ [110, 101, 103] := by rintro rfl; revert h; decide
  have e4 : op ≠ [112, 111, 115] := by rintro rfl; revert h; decide
  have e5 : op ≠ [110, 111, 116] := by rintro rfl; revert h; decide
  have e6 : op ≠ [99, 111, 109] := by rintro rfl; revert h; decide
  have e7 : op ≠ [63] := by rintro rfl; revert h; decide
  show combV op 0 [] (valL (.cons x (.cons y .nil))) T = _
  unfold combV
  rw [if_neg (by simp [valL, hk]), if_neg (by rw [hs]; decide), if_neg e1, if_neg e2, if_neg e3, if_neg e4, if_neg e5, if_neg e6, if_neg h1, if_neg h3, if_neg e7]
  show thenV (valF x T) (fun a T1 => thenV (valF y T1) fun b T2 => (twoV op a b, T2)) = _
  rw [hx, thenV_ok, hy, thenV_ok, h2]
end
theorem value_w {e : Ex} {T : Tab} {n : Int} (hd : deepF 200 e ≤ 200) (h : valF e T = (.ok n, T)) : valueF e T = (n, 0, T) := by
  unfold valueF; rw [if_neg (by omega), h]
theorem wvL0 {a b c : Int} (h : I3 a b c) : valueF (weL 0) (tabW a b c) = ((wrap64 (a + b)), 0, tabW a b c) := value_w (by decide) (w_two (op := [43]) (p := a) (q := b) (r := (wrap64 (a + b))) (by decide) (wA h) (wB h) (by simp [twoV]))
theorem wvR0 {a b c : Int} (h : I3 a b c) : valueF (weR 0) (tabW a b c) = ((wrap64 (b + a)), 0, tabW a b c) := value_w (by decide) (w_two (op := [43]) (p := b) (q := a) (r := (wrap64 (b + a))) (by decide) (wB h) (wA h) (by simp [twoV]))
theorem wvL1 {a b c : Int} (h : I3 a b c) : valueF (weL 1) (tabW a b c) = ((wrap64 (a * b)), 0, tabW a b c) := value_w (by decide) (w_two (op := [42]) (p := a) (q := b) (r := (wrap64 (a * b))) (by decide) (wA h) (wB h) (by simp [twoV]))
theorem wvR1 {a b c : Int} (h : I3 a b c) : valueF (weR 1) (tabW a b c) = ((wrap64 (b * a)), 0, tabW a b c) := value_w (by decide) (w_two (op := [42]) (p := b) (q := a) (r := (wrap64 (b * a))) (by decide) (wB h) (wA h) (by simp [twoV]))
theorem wvL2 {a b c : Int} (h : I3 a b c) : valueF (weL 2) (tabW a b c) = ((wrap64 ((wrap64 (a + b)) + c)), 0, tabW a b c) := value_w (by decide) (w_two (op := [43]) (p := (wrap64 (a + b))) (q := c) (r := (wrap64 ((wrap64 (a + b)) + c))) (by decide) (w_two (op := [43]) (p := a) (q := b) (r := (wrap64 (a + b))) (by decide) (wA h) (wB h) (by simp [twoV])) (wC h) (by simp [twoV]))
theorem wvR2 {a b c : Int} (h : I3 a b c) : valueF (weR 2) (tabW a b c) = ((wrap64 (a + (wrap64 (b + c)))), 0, tabW a b c) := value_w (by decide) (w_two (op := [43]) (p := a) (q := (wrap64 (b + c))) (r := (wrap64 (a + (wrap64 (b + c))))) (by decide) (wA h) (w_two (op := [43]) (p := b) (q := c) (r := (wrap64 (b + c))) (by decide) (wB h) (wC h) (by simp [twoV])) (by simp [twoV]))
theorem wvL3 {a b c : Int} (h : I3 a b c) : valueF (weL 3) (tabW a b c) = ((wrap64 ((wrap64 (a * b)) * c)), 0, tabW a b c) := value_w (by decide) (w_two (op := [42]) (p := (wrap64 (a * b))) (q := c) (r := (wrap64 ((wrap64 (a * b)) * c))) (by decide) (w_two (op := [42]) (p := a) (q := b) (r := (wrap64 (a * b))) (by decide) (wA h) (wB h) (by simp [twoV])) (wC h) (by simp [twoV]))
theorem wvR3 {a b c : Int} (h : I3 a b c) : valueF (weR 3) (tabW a b c) = ((wrap64 (a * (wrap64 (b * c)))), 0, tabW a b c) := value_w (by decide) (w_two (op := [42]) (p := a) (q := (wrap64 (b * c))) (r := (wrap64 (a * (wrap64 (b * c))))) (by decide) (wA h) (w_two (op := [42]) (p := b) (q := c) (r := (wrap64 (b * c))) (by decide) (wB h) (wC h) (by simp [twoV])) (by simp [twoV]))
theorem wvL4 {a b c : Int} (h : I3 a b c) : valueF (weL 4) (tabW a b c) = ((wrap64 (a * (wrap64 (b + c)))), 0, tabW a b c) := value_w (by decide) (w_two (op := [42]) (p := a) (q := (wrap64 (b + c))) (r := (wrap64 (a * (wrap64 (b + c))))) (by decide) (wA h) (w_two (op := [43]) (p := b) (q := c) (r := (wrap64 (b + c))) (by decide) (wB h) (wC h) (by simp [twoV])) (by simp [twoV]))
theorem wvR4 {a b c : Int} (h : I3 a b c) : valueF (weR 4) (tabW a b c) = ((wrap64 ((wrap64 (a * b)) + (wrap64 (a * c)))), 0, tabW a b c) := value_w (by decide) (w_two (op := [43]) (p := (wrap64 (a * b))) (q := (wrap64 (a * c))) (r := (wrap64 ((wrap64 (a * b)) + (wrap64 (a * c))))) (by decide) (w_two (op := [42]) (p := a) (q := b) (r := (wrap64 (a * b))) (by decide) (wA h) (wB h) (by simp [twoV])) (w_two (op := [42]) (p := a) (q := c) (r := (wrap64 (a * c))) (by decide) (wA h) (wC h) (by simp [twoV])) (by simp [twoV]))
theorem wvL5 {a b c : Int} (h : I3 a b c) : valueF (weL 5) (tabW a b c) = ((wrap64 ((wrap64 (a - b)) + b)), 0, tabW a b c) := value_w (by decide) (w_two (op := [43]) (p := (wrap64 (a - b))) (q := b) (r := (wrap64 ((wrap64 (a - b)) + b))) (by decide) (w_two (op := [45]) (p := a) (q := b) (r := (wrap64 (a - b))) (by decide) (wA h) (wB h) (by simp [twoV])) (wB h) (by simp [twoV]))
theorem wvR5 {a b c : Int} (h : I3 a b c) : valueF (weR 5) (tabW a b c) = (a, 0, tabW a b c) := value_w (by decide) (wA h)
theorem wvL6 {a b c : Int} (h : I3 a b c) : valueF (weL 6) (tabW a b c) = ((-1 - a), 0, tabW a b c) := value_w (by decide) (w_com (p := a) (wA h))
theorem wvR6 {a b c : Int} (h : I3 a b c) : valueF (weR 6) (tabW a b c) = ((wrap64 ((wrap64 (-a)) - (1 : Int))), 0, tabW a b c) := value_w (by decide) (w_two (op := [45]) (p := (wrap64 (-a))) (q := (1 : Int)) (r := (wrap64 ((wrap64 (-a)) - (1 : Int)))) (by decide) (w_neg (p := a) (wA h)) (wNum 1 _) (by simp [twoV]))
theorem wvL7 {a b c : Int} (h : I3 a b c) : valueF (weL 7) (tabW a b c) = ((bits .xor .i64 ((bits .xor .i64 (a) (b))) (b)), 0, tabW a b c) := value_w (by decide) (w_two (op := [94]) (p := (bits .xor .i64 (a) (b))) (q := b) (r := (bits .xor .i64 ((bits .xor .i64 (a) (b))) (b))) (by decide) (w_two (op := [94]) (p := a) (q := b) (r := (bits .xor .i64 (a) (b))) (by decide) (wA h) (wB h) (by simp [twoV])) (wB h) (by simp [twoV]))
theorem wvR7 {a b c : Int} (h : I3 a b c) : valueF (weR 7) (tabW a b c) = (a, 0, tabW a b c) := value_w (by decide) (wA h)
theorem wvL8 {a b c : Int} (h : I3 a b c) : valueF (weL 8) (tabW a b c) = ((wrap64 ((bits .and .i64 (a) (b)) + (bits .or .i64 (a) (b)))), 0, tabW a b c) := value_w (by decide) (w_two (op := [43]) (p := (bits .and .i64 (a) (b))) (q := (bits .or .i64 (a) (b))) (r := (wrap64 ((bits .and .i64 (a) (b)) + (bits .or .i64 (a) (b))))) (by decide) (w_two (op := [38]) (p := a) (q := b) (r := (bits .and .i64 (a) (b))) (by decide) (wA h) (wB h) (by simp [twoV])) (w_two (op := [124]) (p := a) (q := b) (r := (bits .or .i64 (a) (b))) (by decide) (wA h) (wB h) (by simp [twoV])) (by simp [twoV]))
theorem wvR8 {a b c : Int} (h : I3 a b c) : valueF (weR 8) (tabW a b c) = ((wrap64 (a + b)), 0, tabW a b c) := value_w (by decide) (w_two (op := [43]) (p := a) (q := b) (r := (wrap64 (a + b))) (by decide) (wA h) (wB h) (by simp [twoV]))
theorem wvL9 {a b c : Int} (h : I3 a b c) : valueF (weL 9) (tabW a b c) = ((if a = 0 then (1 : Int) else 0), 0, tabW a b c) := value_w (by decide) (w_not (p := a) (wA h))
theorem wvR9 {a b c : Int} (h : I3 a b c) : valueF (weR 9) (tabW a b c) = ((if a = (0 : Int) then (1 : Int) else 0), 0, tabW a b c) := value_w (by decide) (w_two (op := [61, 61]) (p := a) (q := (0 : Int)) (r := (if a = (0 : Int) then (1 : Int) else 0)) (by decide) (wA h) (wNum 0 _) (by simp [twoV]))
theorem wvL10 {a b c : Int} (h : I3 a b c) : valueF (weL 10) (tabW a b c) = ((if a < b then (1 : Int) else 0), 0, tabW a b c) := value_w (by decide) (w_two (op := [60]) (p := a) (q := b) (r := (if a < b then (1 : Int) else 0)) (by decide) (wA h) (wB h) (by simp [twoV]))
theorem wvR10 {a b c : Int} (h : I3 a b c) : valueF (weR 10) (tabW a b c) = ((if a < b then (1 : Int) else 0), 0, tabW a b c) := value_w (by decide) (w_two (op := [62]) (p := b) (q := a) (r := (if a < b then (1 : Int) else 0)) (by decide) (wB h) (wA h) (by simp [twoV]))
theorem wvL11 {a b c : Int} (h : I3 a b c) : valueF (weL 11) (tabW a b c) = ((if a ≤ b then (1 : Int) else 0), 0, tabW a b c) := value_w (by decide) (w_two (op := [60, 61]) (p := a) (q := b) (r := (if a ≤ b then (1 : Int) else 0)) (by decide) (wA h) (wB h) (by simp [twoV]))
theorem wvR11 {a b c : Int} (h : I3 a b c) : valueF (weR 11) (tabW a b c) = ((if (if b < a then (1 : Int) else 0) = 0 then (1 : Int) else 0), 0, tabW a b c) := value_w (by decide) (w_not (p := (if b < a then (1 : Int) else 0)) (w_two (op := [62]) (p := a) (q := b) (r := (if b < a then (1 : Int) else 0)) (by decide) (wA h) (wB h) (by simp [twoV])))
theorem wvL12 {a b c : Int} (h : I3 a b c) : valueF (weL 12) (tabW a b c) = ((wrap64 (a * 2 ^ (((1 : Int)) % 64).toNat)), 0, tabW a b c) := value_w (by decide) (w_two (op := [60, 60]) (p := a) (q := (1 : Int)) (r := (wrap64 (a * 2 ^ (((1 : Int)) % 64).toNat))) (by decide) (wA h) (wNum 1 _) (by simp [twoV]))
theorem wvR12 {a b c : Int} (h : I3 a b c) : valueF (weR 12) (tabW a b c) = ((wrap64 (a + a)), 0, tabW a b c) := value_w (by decide) (w_two (op := [43]) (p := a) (q := a) (r := (wrap64 (a + a))) (by decide) (wA h) (wA h) (by simp [twoV]))
theorem wvL13 {a b c : Int} (h : I3 a b c) : valueF (weL 13) (tabW a b c) = ((wrap64 (a * 2 ^ ((b) % 64).toNat)), 0, tabW a b c) := value_w (by decide) (w_two (op := [60, 60]) (p := a) (q := b) (r := (wrap64 (a * 2 ^ ((b) % 64).toNat))) (by decide) (wA h) (wB h) (by simp [twoV]))
theorem wvR13 {a b c : Int} (h : I3 a b c) : valueF (weR 13) (tabW a b c) = ((wrap64 (a * 2 ^ (((bits .and .i64 (b) ((63 : Int)))) % 64).toNat)), 0, tabW a b c) := value_w (by decide) (w_two (op := [60, 60]) (p := a) (q := (bits .and .i64 (b) ((63 : Int)))) (r := (wrap64 (a * 2 ^ (((bits .and .i64 (b) ((63 : Int)))) % 64).toNat))) (by decide) (wA h) (w_two (op := [38]) (p := b) (q := (63 : Int)) (r := (bits .and .i64 (b) ((63 : Int)))) (by decide) (wB h) (wNum 63 _) (by simp [twoV])) (by simp [twoV]))
theorem wvL14 {a b c : Int} (h : I3 a b c) : valueF (weL 14) (tabW a b c) = ((if a = 0 then c else b), 0, tabW a b c) := value_w (by decide) (w_if (p := a) (q := b) (r := c) (wA h) (wB h) (wC h))
theorem wvR14 {a b c : Int} (h : I3 a b c) : valueF (weR 14) (tabW a b c) = ((wrap64 ((wrap64 ((if a = (0 : Int) then (0 : Int) else 1) * b)) + (wrap64 ((if a = (0 : Int) then (1 : Int) else 0) * c)))), 0, tabW a b c) := value_w (by decide) (w_two (op := [43]) (p := (wrap64 ((if a = (0 : Int) then (0 : Int) else 1) * b))) (q := (wrap64 ((if a = (0 : Int) then (1 : Int) else 0) * c))) (r := (wrap64 ((wrap64 ((if a = (0 : Int) then (0 : Int) else 1) * b)) + (wrap64 ((if a = (0 : Int) then (1 : Int) else 0) * c))))) (by decide) (w_two (op := [42]) (p := (if a = (0 : Int) then (0 : Int) else 1)) (q := b) (r := (wrap64 ((if a = (0 : Int) then (0 : Int) else 1) * b))) (by decide) (w_two (op := [33, 61]) (p := a) (q := (0 : Int)) (r := (if a = (0 : Int) then (0 : Int) else 1)) (by decide) (wA h) (wNum 0 _) (by simp [twoV])) (wB h) (by simp [twoV])) (w_two (op := [42]) (p := (if a = (0 : Int) then (1 : Int) else 0)) (q := c) (r := (wrap64 ((if a = (0 : Int) then (1 : Int) else 0) * c))) (by decide) (w_two (op := [61, 61]) (p := a) (q := (0 : Int)) (r := (if a = (0 : Int) then (1 : Int) else 0)) (by decide) (wA h) (wNum 0 _) (by simp [twoV])) (wC h) (by simp [twoV])) (by simp [twoV]))
theorem wvL15 {a b c : Int} (h : I3 a b c) : valueF (weL 15) (tabW a b c) = ((if a = 0 then (0 : Int) else if b = 0 then (0 : Int) else 1), 0, tabW a b c) := value_w (by decide) (w_and (p := a) (q := b) (wA h) (wB h))
theorem wvR15 {a b c : Int} (h : I3 a b c) : valueF (weR 15) (tabW a b c) = ((bits .and .i64 ((if a = (0 : Int) then (0 : Int) else 1)) ((if b = (0 : Int) then (0 : Int) else 1))), 0, tabW a b c) := value_w (by decide) (w_two (op := [38]) (p := (if a = (0 : Int) then (0 : Int) else 1)) (q := (if b = (0 : Int) then (0 : Int) else 1)) (r := (bits .and .i64 ((if a = (0 : Int) then (0 : Int) else 1)) ((if b = (0 : Int) then (0 : Int) else 1)))) (by decide) (w_two (op := [33, 61]) (p := a) (q := (0 : Int)) (r := (if a = (0 : Int) then (0 : Int) else 1)) (by decide) (wA h) (wNum 0 _) (by simp [twoV])) (w_two (op := [33, 61]) (p := b) (q := (0 : Int)) (r := (if b = (0 : Int) then (0 : Int) else 1)) (by decide) (wB h) (wNum 0 _) (by simp [twoV])) (by simp [twoV]))
theorem wvL16 {a b c : Int} (h : I3 a b c) : valueF (weL 16) (tabW a b c) = ((if a = 0 then (if b = 0 then (0 : Int) else 1) else 1), 0, tabW a b c) := value_w (by decide) (w_or (p := a) (q := b) (wA h) (wB h))
theorem wvR16 {a b c : Int} (h : I3 a b c) : valueF (weR 16) (tabW a b c) = ((if (bits .and .i64 ((if a = 0 then (1 : Int) else 0)) ((if b = 0 then (1 : Int) else 0))) = 0 then (1 : Int) else 0), 0, tabW a b c) := value_w (by decide) (w_not (p := (bits .and .i64 ((if a = 0 then (1 : Int) else 0)) ((if b = 0 then (1 : Int) else 0)))) (w_two (op := [38]) (p := (if a = 0 then (1 : Int) else 0)) (q := (if b = 0 then (1 : Int) else 0)) (r := (bits .and .i64 ((if a = 0 then (1 : Int) else 0)) ((if b = 0 then (1 : Int) else 0)))) (by decide) (w_not (p := a) (wA h)) (w_not (p := b) (wB h)) (by simp [twoV])))
end Go.Proofs.YtadmmmehphhecaaDoor
/- Plain: what the pairs of texts of SumsWrap are worth is the same. Numbers of 64 bits. -/
namespace Go.Proofs.YtadmmmehphhecaaDoor
open Go.RowKit
theorem wrap64_mod (n : Int) : ∃ k : Int, wrap64 n = n + 18446744073709551616 * k := by
  unfold wrap64; exact ⟨-((n + 9223372036854775808) / 18446744073709551616), by omega⟩
theorem wrap64_congr {x y : Int} (k : Int) (h : x = y + 18446744073709551616 * k) : wrap64 x = wrap64 y := by
  subst h; unfold wrap64; omega
theorem wrap64_mul_l (x y : Int) : wrap64 (wrap64 x * y) = wrap64 (x * y) := by
  obtain ⟨k, hk⟩ := wrap64_mod x
  exact wrap64_congr (k * y) (by rw [hk, Int.add_mul, Int.mul_assoc])
theorem wrap64_mul_r (x y : Int) : wrap64 (x * wrap64 y) = wrap64 (x * y) := by rw [Int.mul_comm, wrap64_mul_l, Int.mul_comm]
theorem bv_wrap (x : BitVec 64) : IntKind.i64.wrap (x.toNat : Int) = x.toInt := by
  rw [IntWalk.i64_left, BitVec.toInt_eq_toNat_cond]; unfold wrap64; have := x.isLt; split <;> omega
theorem and_bv (a b : Int) : bits .and .i64 a b = (BitVec.ofInt 64 a &&& BitVec.ofInt 64 b).toInt := bv_wrap _
theorem or_bv (a b : Int) : bits .or .i64 a b = (BitVec.ofInt 64 a ||| BitVec.ofInt 64 b).toInt := bv_wrap _
theorem xor_bv (a b : Int) : bits .xor .i64 a b = (BitVec.ofInt 64 a ^^^ BitVec.ofInt 64 b).toInt := bv_wrap _
theorem ofInt_self (x : BitVec 64) : BitVec.ofInt 64 x.toInt = x := BitVec.ofInt_toInt
theorem toInt_self {a : Int} (h : I64 a) : (BitVec.ofInt 64 a).toInt = a := by
  rw [BitVec.toInt_ofInt]; unfold I64 at h; rw [Int.bmod_def]; omega
theorem wrap_bv (a : Int) : wrap64 a = (BitVec.ofInt 64 a).toInt := by
  rw [BitVec.toInt_ofInt]; unfold wrap64; rw [Int.bmod_def]; omega
section
variable {a b c : Int}
theorem q2 : wrap64 (wrap64 (a + b) + c) = wrap64 (a + wrap64 (b + c)) := by unfold wrap64; omega
theorem q3 : wrap64 (wrap64 (a * b) * c) = wrap64 (a * wrap64 (b * c)) := by rw [wrap64_mul_l, wrap64_mul_r, Int.mul_assoc]
theorem q4 : wrap64 (a * wrap64 (b + c)) = wrap64 (wrap64 (a * b) + wrap64 (a * c)) := by
  rw [wrap64_mul_r, Int.mul_add]; generalize a * b = x; generalize a * c = y; unfold wrap64; omega
theorem q5 (h : I64 a) : wrap64 (wrap64 (a - b) + b) = a := by unfold wrap64 I64 at *; omega
theorem q6 (h : I64 a) : -1 - a = wrap64 (wrap64 (-a) - 1) := by unfold wrap64 I64 at *; omega
theorem q7 (h : I64 a) : bits .xor .i64 (bits .xor .i64 a b) b = a := by
  rw [xor_bv, xor_bv, ofInt_self, BitVec.xor_assoc, BitVec.xor_self, BitVec.xor_zero, toInt_self h]
theorem bv_and_or (x y : BitVec 64) : (x &&& y) + (x ||| y) = x + y := by
  have e1 : x ||| y = x + (~~~x &&& y) := by
    rw [BitVec.add_eq_or_of_and_eq_zero]
    · ext i hi; simp; cases x[i] <;> simp
    · ext i hi; simp; cases x[i] <;> simp
  have e2 : (x &&& y) + (~~~x &&& y) = y := by
    rw [BitVec.add_eq_or_of_and_eq_zero]
    · ext i hi; simp; cases x[i] <;> simp
    · ext i hi; simp; cases x[i] <;> simp
  rw [e1, ← BitVec.add_assoc, BitVec.add_comm (x &&& y) x, BitVec.add_assoc, e2]
theorem q8 : wrap64 (bits .and .i64 a b + bits .or .i64 a b) = wrap64 (a + b) := by
  rw [and_bv, or_bv, wrap_bv, wrap_bv, BitVec.ofInt_add, BitVec.ofInt_add, ofInt_self, ofInt_self, bv_and_or]
theorem q11 : (if a ≤ b then (1 : Int) else 0) = if (if b < a then (1 : Int) else 0) = 0 then 1 else 0 := by
  repeat' split
  all_goals omega
theorem q14 (hb : I64 b) (hc : I64 c) : (if a = 0 then c else b) = wrap64 (wrap64 ((if a = 0 then 0 else 1) * b) + wrap64 ((if a = 0 then 1 else 0) * c)) := by
  by_cases h : a = 0
  · simp only [if_pos h]; unfold wrap64 I64 at *; omega
  · simp only [if_neg h]; unfold wrap64 I64 at *; omega
theorem q15 : (if a = 0 then (0 : Int) else if b = 0 then 0 else 1) = bits .and .i64 (if a = 0 then 0 else 1) (if b = 0 then 0 else 1) := by
  by_cases h : a = 0 <;> by_cases k : b = 0 <;> simp only [if_pos, if_neg, h, k, not_false_eq_true] <;> decide
theorem q16 : (if a = 0 then (if b = 0 then (0 : Int) else 1) else 1) = if bits .and .i64 (if a = 0 then 1 else 0) (if b = 0 then 1 else 0) = 0 then 1 else 0 := by
  by_cases h : a = 0 <;> by_cases k : b = 0 <;> simp only [if_pos, if_neg, h, k, not_false_eq_true] <;> decide
theorem qZ1 (h : I64 a) : wrap64 (wrap64 (wrap64 (-a) * -1) + 0) = a := by unfold wrap64 I64 at *; omega
theorem qZ2 (h : I64 a) : wrap64 (wrap64 (wrap64 (a.tdiv b) * b) + a.tmod b) = a := by
  rw [wrap64_mul_l]
  have := Int.tmod_add_tdiv_mul a b
  generalize a.tdiv b * b = x at *
  generalize a.tmod b = y at *
  unfold wrap64 I64 at *; omega
theorem q13 : wrap64 (a * 2 ^ ((b) % 64).toNat) = wrap64 (a * 2 ^ ((bits .and .i64 b 63) % 64).toNat) := by
  rw [and63 b, Int.emod_emod]
end
/-- the two texts of a pair are worth the same -/
theorem wrap_same {a b c : Int} (h : I3 a b c) (k : Nat) (hk : k < 17) : ∃ v, valueF (weL k) (tabW a b c) = (v, 0, tabW a b c) ∧ valueF (weR k) (tabW a b c) = (v, 0, tabW a b c) := by
  obtain ⟨ha, hb, hc⟩ := id h
  match k, hk with
  | 0, _ => exact ⟨_, wvL0 h, by rw [wvR0 h, Int.add_comm]⟩
  | 1, _ => exact ⟨_, wvL1 h, by rw [wvR1 h, Int.mul_comm]⟩
  | 2, _ => exact ⟨_, wvL2 h, by rw [wvR2 h, q2]⟩
  | 3, _ => exact ⟨_, wvL3 h, by rw [wvR3 h, q3]⟩
  | 4, _ => exact ⟨_, wvL4 h, by rw [wvR4 h, q4]⟩
  | 5, _ => exact ⟨_, wvL5 h, by rw [wvR5 h, q5 ha]⟩
  | 6, _ => exact ⟨_, wvL6 h, by rw [wvR6 h, q6 ha]⟩
  | 7, _ => exact ⟨_, wvL7 h, by rw [wvR7 h, q7 ha]⟩
  | 8, _ => exact ⟨_, wvL8 h, by rw [wvR8 h, q8]⟩
  | 9, _ => exact ⟨_, wvL9 h, wvR9 h⟩
  | 10, _ => exact ⟨_, wvL10 h, wvR10 h⟩
  | 11, _ => exact ⟨_, wvL11 h, by rw [wvR11 h, q11]⟩
  | 12, _ => exact ⟨_, wvL12 h, by
      rw [wvR12 h]
      show (wrap64 (a + a), (0 : Int), tabW a b c) = (wrap64 (a * 2 ^ 1), 0, tabW a b c)
      rw [Int.pow_succ, Int.pow_zero, Int.one_mul, show a * 2 = a + a by omega]⟩
  | 13, _ => exact ⟨_, wvL13 h, by rw [wvR13 h, ← q13]⟩
  | 14, _ => exact ⟨_, wvL14 h, by rw [wvR14 h, q14 hb hc]⟩
  | 15, _ => exact ⟨_, wvL15 h, by rw [wvR15 h, q15]⟩
  | 16, _ => exact ⟨_, wvL16 h, by rw [wvR16 h, q16]⟩
  | n + 17, hk => omega
/-- a quotient and what is left -/
theorem wrap_last {a b c : Int} (h : I3 a b c) : valueF weZ (tabW a b c) = if b = 0 then (0, 24, tabW a b c) else (a, 0, tabW a b c) := by
  obtain ⟨ha, hb, hc⟩ := id h
  by_cases h0 : b = 0
  · subst h0
    rw [if_pos rfl]
    have hq : valF (.mk [47] 0 [] (.cons (vE 97) (.cons (vE 98) .nil))) (tabW a 0 c) = (.error 24, tabW a 0 c) := by
      show thenV (valF (vE 97) (tabW a 0 c)) (fun a T1 => thenV (valF (vE 98) T1) fun b T2 => (twoV [47] a b, T2)) = _
      rw [wA h, thenV_ok, wB h, thenV_ok]; rfl
    unfold valueF
    rw [if_neg (by decide)]
    have : valF weZ (tabW a 0 c) = (.error 24, tabW a 0 c) := by
      show thenV (thenV (valF (.mk [47] 0 [] (.cons (vE 97) (.cons (vE 98) .nil))) (tabW a 0 c)) (fun a T1 => thenV (valF (vE 98) T1) fun b T2 => (twoV [42] a b, T2))) _ = _
      rw [hq]; rfl
    rw [this]
  · rw [if_neg h0]
    by_cases h1 : b = -1
    · subst h1
      rw [show (a, (0 : Int), tabW a (-1) c) = (wrap64 (wrap64 (wrap64 (-a) * -1) + 0), 0, tabW a (-1) c) by rw [qZ1 ha]]
      exact value_w (by decide) (w_two (op := [43]) (p := wrap64 (wrap64 (-a) * -1)) (q := 0) (by decide) (w_two (op := [42]) (p := wrap64 (-a)) (q := -1) (by decide) (w_two (op := [47]) (p := a) (q := -1) (by decide) (wA h) (wB h) (by simp [twoV])) (wB h) (by simp [twoV])) (w_two (op := [37]) (p := a) (q := -1) (by decide) (wA h) (wB h) (by simp [twoV])) (by simp [twoV]))
    · rw [show (a, (0 : Int), tabW a b c) = (wrap64 (wrap64 (wrap64 (a.tdiv b) * b) + a.tmod b), 0, tabW a b c) by rw [qZ2 ha]]
      exact value_w (by decide) (w_two (op := [43]) (p := wrap64 (wrap64 (a.tdiv b) * b)) (q := a.tmod b) (by decide) (w_two (op := [42]) (p := wrap64 (a.tdiv b)) (q := b) (by decide) (w_two (op := [47]) (p := a) (q := b) (by decide) (wA h) (wB h) (by simp [twoV, h0, h1])) (wB h) (by simp [twoV])) (w_two (op := [37]) (p := a) (q := b) (by decide) (wA h) (wB h) (by simp [twoV, h0, h1])) (by simp [twoV]))
/-- what else a walk wants of these expressions -/
def fitE (e : Ex) : Bool := okF e && decide (szF e ≤ 1000) && decide (deepF 200 e ≤ 200)
theorem fitL (k : Nat) (hk : k < 17) : fitE (weL k) = true := by
  match k, hk with
  | 0, _ => exact rfl
  | 1, _ => exact rfl
  | 2, _ => exact rfl
  | 3, _ => exact rfl
  | 4, _ => exact rfl
  | 5, _ => exact rfl
  | 6, _ => exact rfl
  | 7, _ => exact rfl
  | 8, _ => exact rfl
  | 9, _ => exact rfl
  | 10, _ => exact rfl
  | 11, _ => exact rfl
  | 12, _ => exact rfl
  | 13, _ => exact rfl
  | 14, _ => exact rfl
  | 15, _ => exact rfl
  | 16, _ => exact rfl
  | n + 17, hk => omega
theorem fitR (k : Nat) (hk : k < 17) : fitE (weR k) = true := by
  match k, hk with
  | 0, _ => exact rfl
  | 1, _ => exact rfl
  | 2, _ => exact rfl
  | 3, _ => exact rfl
  | 4, _ => exact rfl
  | 5, _ => exact rfl
  | 6, _ => exact rfl
  | 7, _ => exact rfl
  | 8, _ => exact rfl
  | 9, _ => exact rfl
  | 10, _ => exact rfl
  | 11, _ => exact rfl
  | 12, _ => exact rfl
  | 13, _ => exact rfl
  | 14, _ => exact rfl
  | 15, _ => exact rfl
  | 16, _ => exact rfl
  | n + 17, hk => omega
theorem fitZ : fitE weZ = true := by decide
end Go.Proofs.YtadmmmehphhecaaDoor
/- The walk of val of SumsWrap. Numbers of 64 bits. -/
namespace Go.Proofs.YtadmmmehphhecaaDoor
open Go.RowKit
theorem shortW {a b c : Int} (h : I3 a b c) : Short (tabW a b c) := by
  have h1 := itoa_len a h.1.1 h.1.2
  have h2 := itoa_len b h.2.1.1 h.2.1.2
  have h3 := itoa_len c h.2.2.1 h.2.2.2
  intro p hp
  simp [tabW] at hp
  rcases hp with rfl | rfl | rfl <;> (simp only; omega)
theorem fit_parts {e : Ex} (h : fitE e = true) : okF e = true ∧ szF e ≤ 1000 ∧ deepF 200 e ≤ 200 := by
  simp [fitE] at h; exact ⟨h.1.1, h.1.2, h.2⟩
theorem rdx_old {w W : World} {P : Nat → Prop} {g : Nat} {u : Value} {e : Ex} {v : Value} (h : RdX w P e v) (hb : Below w.heap.size w W) (hg : w.heap.size ≤ g) (hu : ∀ b, u.ownBlock = some b → w.heap.size ≤ b) : RdX W (Free W g u) e v :=
  RdX.keep (fun b off x hp hx => by
    have hlt := World.block_lt_of_cell? w _ hx
    dsimp only at hlt
    exact ⟨⟨by omega, fun he => by have := hu b he.symm; omega, Nat.lt_of_lt_of_le hlt hb.size⟩, bel_cell hb hx⟩) e v h
def ParsesAs (s : List UInt8) (e : Ex) : Prop := ∀ r, ParseOut s r → r = .ok e
set_option maxRecDepth 100000 in
set_option maxHeartbeats 8000000 in
theorem wval_any (s : List UInt8) (e : Ex) (hp : ParsesAs s e) (hf : fitE e = true) (a b c : Int) (h3 : I3 a b c) (w : World) (hL : Laid w) :
    Calls Tryd.prog 13 #[.string ⟨s.toArray⟩, .agg #[.int .i64 a, .int .i64 b, .int .i64 c]] w fun x w' => x = .returned (.tuple #[.int .i64 (valueF e (tabW a b c)).1, .int .i64 (valueF e (tabW a b c)).2.1]) ∧ Below w.heap.size w w' := by
  obtain ⟨⟨n5, f5, T5⟩, hv5⟩ : ∃ p, p = valueF e (tabW a b c) := ⟨_, rfl⟩
  have HV5 := hid hv5.symm
  rw [← hv5]
  dsimp only
  clear hv5
  have HL := hid hL
  have HP := hid hp
  have HF := hid (fit_parts hf)
  have H3 := hid h3
  have kB := Bk.new w 39 #[.int .i64 a, .int .i64 b, .int .i64 c]
  have hB0 : Below w.heap.size w (w.alloc (.cells #[.int .i64 a, .int .i64 b, .int .i64 c] 39)) := (Below.refl _ _).alloc (Nat.le_refl _) _
  clear hL hp hf h3
  go_enter Tryd.func13, Tryd.ntmps13
  go_wp2_with fail
  obtain ⟨W0, hW0⟩ : ∃ W0, W0 = w.alloc (.cells #[.int .i64 a, .int .i64 b, .int .i64 c] 39) := ⟨_, rfl⟩
  rw [← hW0] at kB hB0
  rw [← hW0]
  clear hW0
  have KB := hid kB
  have HB0 := hid hB0
  clear kB hB0
  ((with_reducible refine (parse_any ⟨s.toArray⟩ _ (HL.out.below HB0.out) (HL.out.below HB0.out).big).mono ?_); rintro e2 w2 ⟨r, hpo, hg2, hres⟩)
  obtain rfl := HP.out r (by simpa using hpo)
  obtain ⟨v2, rfl, hx⟩ := hres
  obtain ⟨A1, cap1, rfl, _, _⟩ := hx.form
  have HBP := hid (below_of_none hg2)
  have HX := hid hx
  clear hg2 hpo hx
  go_wp2_with fail
  -- printed by genWc
  have HIA : Hid (I64 a) := hid H3.out.1
  have HIB : Hid (I64 b) := hid H3.out.2.1
  have HIC : Hid (I64 c) := hid H3.out.2.2
  obtain ⟨W3, hW3⟩ : ∃ W3, W3 = w2.alloc (.cells #[.string ⟨e.op.toArray⟩, .int .i64 e.num, .string ⟨e.name.toArray⟩, .slice A1 e.kids.len cap1] 24) := ⟨_, rfl⟩
  have kE : Bk W3 w2.heap.size 24 #[.string ⟨e.op.toArray⟩, .int .i64 e.num, .string ⟨e.name.toArray⟩, .slice A1 e.kids.len cap1] := by rw [hW3]; exact Bk.new w2 _ _
  have hb3 : Below w2.heap.size w2 W3 := by rw [hW3]; exact (Below.refl _ _).alloc (Nat.le_refl _) _
  rw [← hW3]
  clear hW3
  have HW2 := hid HBP.out.size
  have HB3 := hid (HB0.out.trans ((HBP.out.trans (hb3.mono HBP.out.size)).mono HB0.out.size))
  have HL3 := hid (HL.out.below HB3.out)
  have HX3 := hid hb3
  have hla := KB.out.lt
  have c0 := bel_cell hb3 (bel_cell HBP.out (KB.out.cell 0 _ rfl))
  have c1 := bel_cell hb3 (bel_cell HBP.out (KB.out.cell 1 _ rfl))
  have c2 := bel_cell hb3 (bel_cell HBP.out (KB.out.cell 2 _ rfl))
  obtain ⟨d0, d1, d2, d3⟩ := kE.cells4
  have HDD := hid (Below.refl W3.heap.size W3).drew
  clear hb3 kE
  have hd3L := hid d3
  refine wp_region_held_drew (S := (fun w' => w'.cell? ⟨w.heap.size, 0, none⟩ = some (.int .i64 a) ∧ w'.cell? ⟨w.heap.size, 1, none⟩ = some (.int .i64 b) ∧ w'.cell? ⟨w.heap.size, 2, none⟩ = some (.int .i64 c) ∧ w'.cell? ⟨w2.heap.size, 0, none⟩ = some (.string ⟨e.op.toArray⟩) ∧ w'.cell? ⟨w2.heap.size, 1, none⟩ = some (.int .i64 e.num) ∧ w'.cell? ⟨w2.heap.size, 2, none⟩ = some (.string ⟨e.name.toArray⟩) ∧ w'.cell? ⟨w2.heap.size, 3, none⟩ = some (.slice A1 e.kids.len cap1))) (by kernel_rfl) ⟨c0, c1, c2, d0, d1, d2, d3⟩ (fun hHeld => ?_)
  refine takeYes (i := 0) (v := .agg #[.string ⟨e.op.toArray⟩, .int .i64 e.num, .string ⟨e.name.toArray⟩, .slice A1 e.kids.len cap1]) rfl (by kernel_rfl) (by kernel_rfl) (by kernel_rfl) (fun _ _ _ h => h) (by rfl) ?_ (by assumption) ?_
  · intro w hSw; obtain ⟨sq0, sq1, sq2, sq3, sq4, sq5, sq6⟩ := hSw; go_simp
  try simp only [Act.put, List.setIfInBounds_toArray, List.set_cons_zero, List.set_cons_succ]
  refine takeYes (i := 1) (v := .pointer (some ⟨w.heap.size, 0, none⟩)) rfl (by kernel_rfl) (by kernel_rfl) (by kernel_rfl) (fun _ _ _ h => h) (by rfl) ?_ (by assumption) ?_
  · intro w hSw; obtain ⟨sq0, sq1, sq2, sq3, sq4, sq5, sq6⟩ := hSw; go_simp
  try simp only [Act.put, List.setIfInBounds_toArray, List.set_cons_zero, List.set_cons_succ]
  refine takeYes (i := 2) (v := .int .i64 a) rfl (by kernel_rfl) (by kernel_rfl) (by kernel_rfl) (fun _ _ _ h => h) (by rfl) ?_ (by assumption) ?_
  · intro w hSw; obtain ⟨sq0, sq1, sq2, sq3, sq4, sq5, sq6⟩ := hSw; go_simp
  try simp only [Act.put, List.setIfInBounds_toArray, List.set_cons_zero, List.set_cons_succ]
  refine takeYes (i := 5) (v := .pointer (some ⟨w.heap.size, 1, none⟩)) rfl (by kernel_rfl) (by kernel_rfl) (by kernel_rfl) (fun _ _ _ h => h) (by rfl) ?_ (by assumption) ?_
  · intro w hSw; obtain ⟨sq0, sq1, sq2, sq3, sq4, sq5, sq6⟩ := hSw; go_simp
  try simp only [Act.put, List.setIfInBounds_toArray, List.set_cons_zero, List.set_cons_succ]
  refine takeYes (i := 6) (v := .int .i64 b) rfl (by kernel_rfl) (by kernel_rfl) (by kernel_rfl) (fun _ _ _ h => h) (by rfl) ?_ (by assumption) ?_
  · intro w hSw; obtain ⟨sq0, sq1, sq2, sq3, sq4, sq5, sq6⟩ := hSw; go_simp
  try simp only [Act.put, List.setIfInBounds_toArray, List.set_cons_zero, List.set_cons_succ]
  refine takeYes (i := 9) (v := .pointer (some ⟨w.heap.size, 2, none⟩)) rfl (by kernel_rfl) (by kernel_rfl) (by kernel_rfl) (fun _ _ _ h => h) (by rfl) ?_ (by assumption) ?_
  · intro w hSw; obtain ⟨sq0, sq1, sq2, sq3, sq4, sq5, sq6⟩ := hSw; go_simp
  try simp only [Act.put, List.setIfInBounds_toArray, List.set_cons_zero, List.set_cons_succ]
  refine takeYes (i := 10) (v := .int .i64 c) rfl (by kernel_rfl) (by kernel_rfl) (by kernel_rfl) (fun _ _ _ h => h) (by rfl) ?_ (by assumption) ?_
  · intro w hSw; obtain ⟨sq0, sq1, sq2, sq3, sq4, sq5, sq6⟩ := hSw; go_simp
  try simp only [Act.put, List.setIfInBounds_toArray, List.set_cons_zero, List.set_cons_succ]
  refine wpAnyH_ready (rs := [3]) (by kernel_rfl) (by simp) ?_
  refine AllReadyH.cons rfl (fun K hK => ?_) AllReadyH.nil
  go_simp
  ((with_reducible refine (text_any a HIA.out.lo HIA.out.hi _ (HL3.out.below HDD.out)).mono ?_); rintro e0t wt0 ⟨rfl, hbt⟩)
  have HDD := hid (bel_step HDD.out hbt)
  have c0 := bel_cell hbt c0
  have c1 := bel_cell hbt c1
  have c2 := bel_cell hbt c2
  have d0 := bel_cell hbt d0
  have d1 := bel_cell hbt d1
  have d2 := bel_cell hbt d2
  have d3 := bel_cell hbt d3
  clear hbt
  go_wp2_with fail
  refine hK.out _ _ ?_ (fun hHeld => ?_)
  · exact ⟨c0, c1, c2, d0, d1, d2, d3⟩
  clear hK K
  try simp only [Act.put, List.setIfInBounds_toArray, List.set_cons_zero, List.set_cons_succ]
  refine takeYes (i := 4) (v := .agg #[.string ⟨#[97]⟩, .string ⟨(Lib.itoa a).toArray⟩, .bool false]) rfl (by kernel_rfl) (by kernel_rfl) (by kernel_rfl) (fun _ _ _ h => h) (by rfl) ?_ (by assumption) ?_
  · intro w hSw; obtain ⟨sq0, sq1, sq2, sq3, sq4, sq5, sq6⟩ := hSw; go_simp
  try simp only [Act.put, List.setIfInBounds_toArray, List.set_cons_zero, List.set_cons_succ]
  refine wpAnyH_ready (rs := [7]) (by kernel_rfl) (by simp) ?_
  refine AllReadyH.cons rfl (fun K hK => ?_) AllReadyH.nil
  go_simp
  ((with_reducible refine (text_any b HIB.out.lo HIB.out.hi _ (HL3.out.below HDD.out)).mono ?_); rintro e1t wt1 ⟨rfl, hbt⟩)
  have HDD := hid (bel_step HDD.out hbt)
  have c0 := bel_cell hbt c0
  have c1 := bel_cell hbt c1
  have c2 := bel_cell hbt c2
  have d0 := bel_cell hbt d0
  have d1 := bel_cell hbt d1
  have d2 := bel_cell hbt d2
  have d3 := bel_cell hbt d3
  clear hbt
  go_wp2_with fail
  refine hK.out _ _ ?_ (fun hHeld => ?_)
  · exact ⟨c0, c1, c2, d0, d1, d2, d3⟩
  clear hK K
  try simp only [Act.put, List.setIfInBounds_toArray, List.set_cons_zero, List.set_cons_succ]
  refine takeYes (i := 8) (v := .agg #[.string ⟨#[98]⟩, .string ⟨(Lib.itoa b).toArray⟩, .bool false]) rfl (by kernel_rfl) (by kernel_rfl) (by kernel_rfl) (fun _ _ _ h => h) (by rfl) ?_ (by assumption) ?_
  · intro w hSw; obtain ⟨sq0, sq1, sq2, sq3, sq4, sq5, sq6⟩ := hSw; go_simp
  try simp only [Act.put, List.setIfInBounds_toArray, List.set_cons_zero, List.set_cons_succ]
  refine wpAnyH_ready (rs := [11]) (by kernel_rfl) (by simp) ?_
  refine AllReadyH.cons rfl (fun K hK => ?_) AllReadyH.nil
  go_simp
  ((with_reducible refine (text_any c HIC.out.lo HIC.out.hi _ (HL3.out.below HDD.out)).mono ?_); rintro e2t wt2 ⟨rfl, hbt⟩)
  have HDD := hid (bel_step HDD.out hbt)
  have c0 := bel_cell hbt c0
  have c1 := bel_cell hbt c1
  have c2 := bel_cell hbt c2
  have d0 := bel_cell hbt d0
  have d1 := bel_cell hbt d1
  have d2 := bel_cell hbt d2
  have d3 := bel_cell hbt d3
  clear hbt
  go_wp2_with fail
  refine hK.out _ _ ?_ (fun hHeld => ?_)
  · exact ⟨c0, c1, c2, d0, d1, d2, d3⟩
  clear hK K
  try simp only [Act.put, List.setIfInBounds_toArray, List.set_cons_zero, List.set_cons_succ]
  refine takeYes (i := 12) (v := .agg #[.string ⟨#[99]⟩, .string ⟨(Lib.itoa c).toArray⟩, .bool false]) rfl (by kernel_rfl) (by kernel_rfl) (by kernel_rfl) (fun _ _ _ h => h) (by rfl) ?_ (by assumption) ?_
  · intro w hSw; obtain ⟨sq0, sq1, sq2, sq3, sq4, sq5, sq6⟩ := hSw; go_simp
  try simp only [Act.put, List.setIfInBounds_toArray, List.set_cons_zero, List.set_cons_succ]
  have HTN : Hid (TabAt ((wt2.alloc (.cells #[.string ⟨#[97]⟩, .string ⟨(Lib.itoa a).toArray⟩, .bool false, .string ⟨#[98]⟩, .string ⟨(Lib.itoa b).toArray⟩, .bool false, .string ⟨#[99]⟩, .string ⟨(Lib.itoa c).toArray⟩, .bool false] TPr)).alloc (.cells #[.slice (some ⟨wt2.heap.size, 0, none⟩) 3 3] TT)) wt2.heap.size (wt2.heap.size + 1) (tabW a b c) (.slice (some ⟨wt2.heap.size, 0, none⟩) 3 3)) := hid (tab_new wt2 (tabW a b c) #[.string ⟨#[97]⟩, .string ⟨(Lib.itoa a).toArray⟩, .bool false, .string ⟨#[98]⟩, .string ⟨(Lib.itoa b).toArray⟩, .bool false, .string ⟨#[99]⟩, .string ⟨(Lib.itoa c).toArray⟩, .bool false] rfl (by simp [tabW]))
  have HWB := hid (((Below.refl wt2.heap.size wt2).alloc (Nat.le_refl _) (.cells #[.string ⟨#[97]⟩, .string ⟨(Lib.itoa a).toArray⟩, .bool false, .string ⟨#[98]⟩, .string ⟨(Lib.itoa b).toArray⟩, .bool false, .string ⟨#[99]⟩, .string ⟨(Lib.itoa c).toArray⟩, .bool false] TPr)).alloc (by simp) (.cells #[.slice (some ⟨wt2.heap.size, 0, none⟩) 3 3] TT))
  refine wpAnyH_ready (rs := [13]) (by kernel_rfl) (by simp) ?_
  refine AllReadyH.cons rfl (fun K hK => ?_) AllReadyH.nil
  go_simp
  have c0 := al (o := (.cells #[.string ⟨#[97]⟩, .string ⟨(Lib.itoa a).toArray⟩, .bool false, .string ⟨#[98]⟩, .string ⟨(Lib.itoa b).toArray⟩, .bool false, .string ⟨#[99]⟩, .string ⟨(Lib.itoa c).toArray⟩, .bool false] TPr)) c0
  have c1 := al (o := (.cells #[.string ⟨#[97]⟩, .string ⟨(Lib.itoa a).toArray⟩, .bool false, .string ⟨#[98]⟩, .string ⟨(Lib.itoa b).toArray⟩, .bool false, .string ⟨#[99]⟩, .string ⟨(Lib.itoa c).toArray⟩, .bool false] TPr)) c1
  have c2 := al (o := (.cells #[.string ⟨#[97]⟩, .string ⟨(Lib.itoa a).toArray⟩, .bool false, .string ⟨#[98]⟩, .string ⟨(Lib.itoa b).toArray⟩, .bool false, .string ⟨#[99]⟩, .string ⟨(Lib.itoa c).toArray⟩, .bool false] TPr)) c2
  have d0 := al (o := (.cells #[.string ⟨#[97]⟩, .string ⟨(Lib.itoa a).toArray⟩, .bool false, .string ⟨#[98]⟩, .string ⟨(Lib.itoa b).toArray⟩, .bool false, .string ⟨#[99]⟩, .string ⟨(Lib.itoa c).toArray⟩, .bool false] TPr)) d0
  have d1 := al (o := (.cells #[.string ⟨#[97]⟩, .string ⟨(Lib.itoa a).toArray⟩, .bool false, .string ⟨#[98]⟩, .string ⟨(Lib.itoa b).toArray⟩, .bool false, .string ⟨#[99]⟩, .string ⟨(Lib.itoa c).toArray⟩, .bool false] TPr)) d1
  have d2 := al (o := (.cells #[.string ⟨#[97]⟩, .string ⟨(Lib.itoa a).toArray⟩, .bool false, .string ⟨#[98]⟩, .string ⟨(Lib.itoa b).toArray⟩, .bool false, .string ⟨#[99]⟩, .string ⟨(Lib.itoa c).toArray⟩, .bool false] TPr)) d2
  have d3 := al (o := (.cells #[.string ⟨#[97]⟩, .string ⟨(Lib.itoa a).toArray⟩, .bool false, .string ⟨#[98]⟩, .string ⟨(Lib.itoa b).toArray⟩, .bool false, .string ⟨#[99]⟩, .string ⟨(Lib.itoa c).toArray⟩, .bool false] TPr)) d3
  refine hK.out _ _ ?_ (fun hHeld => ?_)
  · exact ⟨c0, c1, c2, d0, d1, d2, d3⟩
  clear hK K
  try simp only [Act.put, List.setIfInBounds_toArray, List.set_cons_zero, List.set_cons_succ]
  refine takeYes (i := 14) (v := .agg #[.slice (some ⟨wt2.heap.size, 0, none⟩) 3 3]) rfl (by kernel_rfl) (by kernel_rfl) (by kernel_rfl) (fun _ _ _ h => h) (by rfl) ?_ (by assumption) ?_
  · intro w hSw; obtain ⟨sq0, sq1, sq2, sq3, sq4, sq5, sq6⟩ := hSw; go_simp
  try simp only [Act.put, List.setIfInBounds_toArray, List.set_cons_zero, List.set_cons_succ]
  refine wpAnyH_ready (rs := [15]) (by kernel_rfl) (by simp) ?_
  refine AllReadyH.cons rfl (fun K hK => ?_) AllReadyH.nil
  go_simp
  have c0 := al (o := (.cells #[.slice (some ⟨wt2.heap.size, 0, none⟩) 3 3] TT)) c0
  have c1 := al (o := (.cells #[.slice (some ⟨wt2.heap.size, 0, none⟩) 3 3] TT)) c1
  have c2 := al (o := (.cells #[.slice (some ⟨wt2.heap.size, 0, none⟩) 3 3] TT)) c2
  have d0 := al (o := (.cells #[.slice (some ⟨wt2.heap.size, 0, none⟩) 3 3] TT)) d0
  have d1 := al (o := (.cells #[.slice (some ⟨wt2.heap.size, 0, none⟩) 3 3] TT)) d1
  have d2 := al (o := (.cells #[.slice (some ⟨wt2.heap.size, 0, none⟩) 3 3] TT)) d2
  have d3 := al (o := (.cells #[.slice (some ⟨wt2.heap.size, 0, none⟩) 3 3] TT)) d3
  refine hK.out _ _ ?_ (fun hHeld => ?_)
  · exact ⟨c0, c1, c2, d0, d1, d2, d3⟩
  clear hK K
  try simp only [Act.put, List.setIfInBounds_toArray, List.set_cons_zero, List.set_cons_succ]
  refine takeYes (i := 16) (v := .iface TSt (.pointer (some ⟨wt2.heap.size + 1, 0, none⟩))) rfl (by kernel_rfl) (by kernel_rfl) (by kernel_rfl) (fun _ _ _ h => h) (by rfl) ?_ (by assumption) ?_
  · intro w hSw; obtain ⟨sq0, sq1, sq2, sq3, sq4, sq5, sq6⟩ := hSw; go_simp
  try simp only [Act.put, List.setIfInBounds_toArray, List.set_cons_zero, List.set_cons_succ]
  refine wpAnyH_ready (rs := [17]) (by kernel_rfl) (by simp) ?_
  refine AllReadyH.cons rfl (fun K hK => ?_) AllReadyH.nil
  go_simp
  obtain ⟨W5, hW5⟩ : ∃ W5, W5 = (wt2.alloc (.cells #[.string ⟨#[97]⟩, .string ⟨(Lib.itoa a).toArray⟩, .bool false, .string ⟨#[98]⟩, .string ⟨(Lib.itoa b).toArray⟩, .bool false, .string ⟨#[99]⟩, .string ⟨(Lib.itoa c).toArray⟩, .bool false] TPr)).alloc (.cells #[.slice (some ⟨wt2.heap.size, 0, none⟩) 3 3] TT) := ⟨_, rfl⟩
  rw [← hW5] at HTN HWB c0 c1 c2 d0 d1 d2 d3 ⊢
  clear hW5
  have HW5 := hid (bel_step HDD.out HWB.out)
  have HTN : Hid (TabAt W5 wt2.heap.size (wt2.heap.size + 1) (tabW a b c) (.slice (some ⟨wt2.heap.size, 0, none⟩) 3 3)) := HTN
  have HGW := hid (HL3.out.below HDD.out).big
  have HVI : Hid (VIn W5 (wt2.heap.size + 1) wt2.heap.size (tabW a b c) (.slice (some ⟨wt2.heap.size, 0, none⟩) 3 3)) := hid ⟨HTN.out, HL3.out.below HW5.out, HGW.out, by have := HGW.out; unfold GBig at *; omega, shortW H3.out⟩
  have HOB : Hid (∀ b, (.slice (some ⟨wt2.heap.size, 0, none⟩) 3 3 : Value).ownBlock = some b → wt2.heap.size = b) := hid (fun b hb => by simpa [Value.ownBlock] using hb)
  have HXV := hid (rdx_old HX.out (bel_step HX3.out HW5.out) (by have := HX3.out.size; have := HDD.out.size; omega : w2.heap.size ≤ wt2.heap.size + 1) (u := .slice (some ⟨wt2.heap.size, 0, none⟩) 3 3) (fun b hb => by have := HOB.out b hb; have := HX3.out.size; have := HDD.out.size; omega))
  ((with_reducible refine (value_any e _ (wt2.heap.size + 1) wt2.heap.size (tabW a b c) _ _ HXV.out HVI.out (by have := HF.out.2.1; simp only [tabW, List.length_cons, List.length_nil]; omega) (deep_any 200 (by decide) e (by have := HF.out.2.1; omega)) (val_any e HF.out.1)).mono ?_); rintro e6 w6 ⟨u6, hst, htab, rfl⟩)
  rw [HV5.out]
  dsimp only
  have HF0 : ∀ r, r < wt2.heap.size → Free W5 (wt2.heap.size + 1) (.slice (some ⟨wt2.heap.size, 0, none⟩) 3 3) r := fun r hr => ⟨by omega, by simp [Value.ownBlock]; omega, by have := HWB.out.size; omega⟩
  have hsz := HDD.out.size
  have hs2 := HX3.out.size
  have c0 := cell_step hst (HF0 _ (by have := HW2.out; omega)) c0
  have c1 := cell_step hst (HF0 _ (by have := HW2.out; omega)) c1
  have c2 := cell_step hst (HF0 _ (by have := HW2.out; omega)) c2
  have d0 := cell_step hst (HF0 _ (by have := World.block_lt_of_cell? _ _ hd3L.out; dsimp only at this; omega)) d0
  have d1 := cell_step hst (HF0 _ (by have := World.block_lt_of_cell? _ _ hd3L.out; dsimp only at this; omega)) d1
  have d2 := cell_step hst (HF0 _ (by have := World.block_lt_of_cell? _ _ hd3L.out; dsimp only at this; omega)) d2
  have d3 := cell_step hst (HF0 _ (by have := World.block_lt_of_cell? _ _ hd3L.out; dsimp only at this; omega)) d3
  have HB6 := hid ((HB3.out.trans (HDD.out.mono HB3.out.size)).trans (((HWB.out).trans (hst.belowOf (B0 := wt2.heap.size) (by omega) (fun b hb => by have := HOB.out b hb; omega) HWB.out.size)).mono (Nat.le_trans HB3.out.size HDD.out.size)))
  clear hst htab HF0 hsz hs2
  go_wp2_with fail
  refine hK.out _ _ ?_ (fun hHeld => ?_)
  · exact ⟨c0, c1, c2, d0, d1, d2, d3⟩
  clear hK K
  try simp only [Act.put, List.setIfInBounds_toArray, List.set_cons_zero, List.set_cons_succ]
  refine takeYes (i := 18) (v := .int .i64 n5) rfl (by kernel_rfl) (by kernel_rfl) (by kernel_rfl) (fun _ _ _ h => h) (by rfl) ?_ (by assumption) ?_
  · intro w hSw; obtain ⟨sq0, sq1, sq2, sq3, sq4, sq5, sq6⟩ := hSw; go_simp
  try simp only [Act.put, List.setIfInBounds_toArray, List.set_cons_zero, List.set_cons_succ]
  refine takeYes (i := 19) (v := .int .i64 f5) rfl (by kernel_rfl) (by kernel_rfl) (by kernel_rfl) (fun _ _ _ h => h) (by rfl) ?_ (by assumption) ?_
  · intro w hSw; obtain ⟨sq0, sq1, sq2, sq3, sq4, sq5, sq6⟩ := hSw; go_simp
  try simp only [Act.put, List.setIfInBounds_toArray, List.set_cons_zero, List.set_cons_succ]
  refine takeYes (i := 20) (v := .int .i64 n5) rfl (by kernel_rfl) (by kernel_rfl) (by kernel_rfl) (fun _ _ _ h => h) (by rfl) ?_ (by assumption) ?_
  · intro w hSw; obtain ⟨sq0, sq1, sq2, sq3, sq4, sq5, sq6⟩ := hSw; go_simp
  try simp only [Act.put, List.setIfInBounds_toArray, List.set_cons_zero, List.set_cons_succ]
  refine takeYes (i := 21) (v := .int .i64 f5) rfl (by kernel_rfl) (by kernel_rfl) (by kernel_rfl) (fun _ _ _ h => h) (by rfl) ?_ (by assumption) ?_
  · intro w hSw; obtain ⟨sq0, sq1, sq2, sq3, sq4, sq5, sq6⟩ := hSw; go_simp
  try simp only [Act.put, List.setIfInBounds_toArray, List.set_cons_zero, List.set_cons_succ]
  refine wpAnyH_done (by kernel_rfl) ?_ _
  go_wp2_with fail
  go_ret2
  exact ⟨rfl, HB6.out⟩
end Go.Proofs.YtadmmmehphhecaaDoor
/- The walk of SumsWrap. Numbers of 64 bits. -/
namespace Go.Proofs.YtadmmmehphhecaaDoor
open Go.RowKit
theorem prL (k : Nat) (hk : k < 17) : ParsesAs (wtL k) (weL k) := fun r h => wpL k hk h
theorem prR (k : Nat) (hk : k < 17) : ParsesAs (wtR k) (weR k) := fun r h => wpR k hk h
theorem prZ : ParsesAs [97, 47, 98, 42, 98, 43, 97, 37, 98] weZ := fun r h => wpZ h
def AtW (w : World) (tb : Nat) : Prop := ∀ k, k < 17 → w.cell? ⟨tb, k * 2, none⟩ = some (.string ⟨(wtL k).toArray⟩) ∧ w.cell? ⟨tb, k * 2 + 1, none⟩ = some (.string ⟨(wtR k).toArray⟩)
theorem AtW.below {w w' : World} {tb : Nat} (h : AtW w tb) (hb : Below w.heap.size w w') : AtW w' tb := fun k hk => ⟨bel_cell hb (h k hk).1, bel_cell hb (h k hk).2⟩
theorem atW_of {w : World} {tb : Nat} {t : TypeId} (h : Bk w tb t #[.string ⟨#[97, 43, 98]⟩, .string ⟨#[98, 43, 97]⟩, .string ⟨#[97, 42, 98]⟩, .string ⟨#[98, 42, 97]⟩, .string ⟨#[40, 97, 43, 98, 41, 43, 99]⟩, .string ⟨#[97, 43, 40, 98, 43, 99, 41]⟩, .string ⟨#[97, 42, 98, 42, 99]⟩, .string ⟨#[97, 42, 40, 98, 42, 99, 41]⟩, .string ⟨#[97, 42, 40, 98, 43, 99, 41]⟩, .string ⟨#[97, 42, 98, 43, 97, 42, 99]⟩, .string ⟨#[97, 45, 98, 43, 98]⟩, .string ⟨#[97]⟩, .string ⟨#[126, 97]⟩, .string ⟨#[45, 97, 45, 49]⟩, .string ⟨#[97, 94, 98, 94, 98]⟩, .string ⟨#[97]⟩, .string ⟨#[40, 97, 38, 98, 41, 43, 40, 97, 124, 98, 41]⟩, .string ⟨#[97, 43, 98]⟩, .string ⟨#[33, 97]⟩, .string ⟨#[97, 61, 61, 48]⟩, .string ⟨#[97, 60, 98]⟩, .string ⟨#[98, 62, 97]⟩, .string ⟨#[97, 60, 61, 98]⟩, .string ⟨#[33, 40, 97, 62, 98, 41]⟩, .string ⟨#[97, 60, 60, 49]⟩, .string ⟨#[97, 43, 97]⟩, .string ⟨#[97, 60, 60, 98]⟩, .string ⟨#[97, 60, 60, 40, 98, 38, 54, 51, 41]⟩, .string ⟨#[97, 63, 98, 58, 99]⟩, .string ⟨#[40, 97, 33, 61, 48, 41, 42, 98, 43, 40, 97, 61, 61, 48, 41, 42, 99]⟩, .string ⟨#[97, 38, 38, 98]⟩, .string ⟨#[40, 97, 33, 61, 48, 41, 38, 40, 98, 33, 61, 48, 41]⟩, .string ⟨#[97, 124, 124, 98]⟩, .string ⟨#[33, 40, 33, 97, 38, 33, 98, 41]⟩]) : AtW w tb := by
  intro k hk
  match k, hk with
  | 0, _ => exact ⟨h.cell 0 _ rfl, h.cell 1 _ rfl⟩
  | 1, _ => exact ⟨h.cell 2 _ rfl, h.cell 3 _ rfl⟩
  | 2, _ => exact ⟨h.cell 4 _ rfl, h.cell 5 _ rfl⟩
  | 3, _ => exact ⟨h.cell 6 _ rfl, h.cell 7 _ rfl⟩
  | 4, _ => exact ⟨h.cell 8 _ rfl, h.cell 9 _ rfl⟩
  | 5, _ => exact ⟨h.cell 10 _ rfl, h.cell 11 _ rfl⟩
  | 6, _ => exact ⟨h.cell 12 _ rfl, h.cell 13 _ rfl⟩
  | 7, _ => exact ⟨h.cell 14 _ rfl, h.cell 15 _ rfl⟩
  | 8, _ => exact ⟨h.cell 16 _ rfl, h.cell 17 _ rfl⟩
  | 9, _ => exact ⟨h.cell 18 _ rfl, h.cell 19 _ rfl⟩
  | 10, _ => exact ⟨h.cell 20 _ rfl, h.cell 21 _ rfl⟩
  | 11, _ => exact ⟨h.cell 22 _ rfl, h.cell 23 _ rfl⟩
  | 12, _ => exact ⟨h.cell 24 _ rfl, h.cell 25 _ rfl⟩
  | 13, _ => exact ⟨h.cell 26 _ rfl, h.cell 27 _ rfl⟩
  | 14, _ => exact ⟨h.cell 28 _ rfl, h.cell 29 _ rfl⟩
  | 15, _ => exact ⟨h.cell 30 _ rfl, h.cell 31 _ rfl⟩
  | 16, _ => exact ⟨h.cell 32 _ rfl, h.cell 33 _ rfl⟩
  | n + 17, hk => omega
def Arr3 (w : World) (g : Nat) (a b c : Int) : Prop := w.cell? ⟨g, 0, none⟩ = some (.int .i64 a) ∧ w.cell? ⟨g, 1, none⟩ = some (.int .i64 b) ∧ w.cell? ⟨g, 2, none⟩ = some (.int .i64 c)
theorem Arr3.below {w w' : World} {g : Nat} {a b c : Int} (h : Arr3 w g a b c) (hb : Below w.heap.size w w') : Arr3 w' g a b c := ⟨bel_cell hb h.1, bel_cell hb h.2.1, bel_cell hb h.2.2⟩
set_option maxRecDepth 100000 in
set_option maxHeartbeats 8000000 in
theorem wrap_any (a b c : Int) (h3 : I3 a b c) (w : World) (hL : Laid w) : Calls Tryd.prog 4 #[.agg #[.int .i64 a, .int .i64 b, .int .i64 c]] w fun e w' => e = .returned (.bool true) ∧ Below w.heap.size w w' := by
  have HL := hid hL
  have H3 := hid h3
  clear hL h3
  go_enter Tryd.func4, Tryd.ntmps4
  go_wp2_with fail
  obtain ⟨W1, hW1⟩ : ∃ W1, W1 = w.alloc (.cells #[.int .i64 a, .int .i64 b, .int .i64 c] 39) := ⟨_, rfl⟩
  obtain ⟨W2, hW2⟩ : ∃ W2, W2 = W1.alloc (.cells #[.string ⟨#[97, 43, 98]⟩, .string ⟨#[98, 43, 97]⟩, .string ⟨#[97, 42, 98]⟩, .string ⟨#[98, 42, 97]⟩, .string ⟨#[40, 97, 43, 98, 41, 43, 99]⟩, .string ⟨#[97, 43, 40, 98, 43, 99, 41]⟩, .string ⟨#[97, 42, 98, 42, 99]⟩, .string ⟨#[97, 42, 40, 98, 42, 99, 41]⟩, .string ⟨#[97, 42, 40, 98, 43, 99, 41]⟩, .string ⟨#[97, 42, 98, 43, 97, 42, 99]⟩, .string ⟨#[97, 45, 98, 43, 98]⟩, .string ⟨#[97]⟩, .string ⟨#[126, 97]⟩, .string ⟨#[45, 97, 45, 49]⟩, .string ⟨#[97, 94, 98, 94, 98]⟩, .string ⟨#[97]⟩, .string ⟨#[40, 97, 38, 98, 41, 43, 40, 97, 124, 98, 41]⟩, .string ⟨#[97, 43, 98]⟩, .string ⟨#[33, 97]⟩, .string ⟨#[97, 61, 61, 48]⟩, .string ⟨#[97, 60, 98]⟩, .string ⟨#[98, 62, 97]⟩, .string ⟨#[97, 60, 61, 98]⟩, .string ⟨#[33, 40, 97, 62, 98, 41]⟩, .string ⟨#[97, 60, 60, 49]⟩, .string ⟨#[97, 43, 97]⟩, .string ⟨#[97, 60, 60, 98]⟩, .string ⟨#[97, 60, 60, 40, 98, 38, 54, 51, 41]⟩, .string ⟨#[97, 63, 98, 58, 99]⟩, .string ⟨#[40, 97, 33, 61, 48, 41, 42, 98, 43, 40, 97, 61, 61, 48, 41, 42, 99]⟩, .string ⟨#[97, 38, 38, 98]⟩, .string ⟨#[40, 97, 33, 61, 48, 41, 38, 40, 98, 33, 61, 48, 41]⟩, .string ⟨#[97, 124, 124, 98]⟩, .string ⟨#[33, 40, 33, 97, 38, 33, 98, 41]⟩] 40) := ⟨_, rfl⟩
  have k1 : Bk W1 w.heap.size 39 #[.int .i64 a, .int .i64 b, .int .i64 c] := by rw [hW1]; exact Bk.new w _ _
  have hs1 : W1.heap.size = w.heap.size + 1 := by rw [hW1]; simp
  have k2 : Bk W2 (w.heap.size + 1) 40 #[.string ⟨#[97, 43, 98]⟩, .string ⟨#[98, 43, 97]⟩, .string ⟨#[97, 42, 98]⟩, .string ⟨#[98, 42, 97]⟩, .string ⟨#[40, 97, 43, 98, 41, 43, 99]⟩, .string ⟨#[97, 43, 40, 98, 43, 99, 41]⟩, .string ⟨#[97, 42, 98, 42, 99]⟩, .string ⟨#[97, 42, 40, 98, 42, 99, 41]⟩, .string ⟨#[97, 42, 40, 98, 43, 99, 41]⟩, .string ⟨#[97, 42, 98, 43, 97, 42, 99]⟩, .string ⟨#[97, 45, 98, 43, 98]⟩, .string ⟨#[97]⟩, .string ⟨#[126, 97]⟩, .string ⟨#[45, 97, 45, 49]⟩, .string ⟨#[97, 94, 98, 94, 98]⟩, .string ⟨#[97]⟩, .string ⟨#[40, 97, 38, 98, 41, 43, 40, 97, 124, 98, 41]⟩, .string ⟨#[97, 43, 98]⟩, .string ⟨#[33, 97]⟩, .string ⟨#[97, 61, 61, 48]⟩, .string ⟨#[97, 60, 98]⟩, .string ⟨#[98, 62, 97]⟩, .string ⟨#[97, 60, 61, 98]⟩, .string ⟨#[33, 40, 97, 62, 98, 41]⟩, .string ⟨#[97, 60, 60, 49]⟩, .string ⟨#[97, 43, 97]⟩, .string ⟨#[97, 60, 60, 98]⟩, .string ⟨#[97, 60, 60, 40, 98, 38, 54, 51, 41]⟩, .string ⟨#[97, 63, 98, 58, 99]⟩, .string ⟨#[40, 97, 33, 61, 48, 41, 42, 98, 43, 40, 97, 61, 61, 48, 41, 42, 99]⟩, .string ⟨#[97, 38, 38, 98]⟩, .string ⟨#[40, 97, 33, 61, 48, 41, 38, 40, 98, 33, 61, 48, 41]⟩, .string ⟨#[97, 124, 124, 98]⟩, .string ⟨#[33, 40, 33, 97, 38, 33, 98, 41]⟩] := by rw [hW2, ← hs1]; exact Bk.new W1 _ _
  have hb1 : Below w.heap.size w W1 := by rw [hW1]; exact (Below.refl _ _).alloc (Nat.le_refl _) _
  have hb2 : Below W1.heap.size W1 W2 := by rw [hW2]; exact (Below.refl _ _).alloc (Nat.le_refl _) _
  rw [← hW1, ← hW2]
  clear hW1 hW2
  have HA0 : Hid (Arr3 W2 w.heap.size a b c) := hid ⟨bel_cell hb2 (k1.cell 0 _ rfl), bel_cell hb2 (k1.cell 1 _ rfl), bel_cell hb2 (k1.cell 2 _ rfl)⟩
  have HW0 : Hid (AtW W2 (w.heap.size + 1)) := hid (atW_of k2)
  have HB0 := hid (bel_step hb1 hb2)
  clear k1 k2 hb1 hb2 hs1
  go_loopw [4, 5, 6, 7, 8] (fun v4 v5 v6 v7 v8 wr => ∃ k : Nat, k ≤ 17 ∧ v4 = .int .i64 k ∧ Hid (Arr3 wr w.heap.size a b c) ∧ Hid (AtW wr (w.heap.size + 1)) ∧ Hid (Below w.heap.size w wr)) (fun v4 v5 v6 v7 v8 _ => 17 - (intOf v4).toNat)
  case atStart => exact ⟨0, by omega, rfl, HA0, HW0, HB0⟩
  case round =>
    obtain ⟨k, hk, rfl, HA, HW, HB⟩ := hrel
    clear HA0 HW0 HB0
    obtain ⟨c0, c1, c2⟩ := HA.out
    by_cases hlt : k < 17
    · obtain ⟨vv, hs1, hs2⟩ := wrap_same H3.out k hlt
      have HS1 := hid hs1
      have HS2 := hid hs2
      clear hs1 hs2
      obtain ⟨t1, t2⟩ := HW.out k hlt
      have HT2 := hid t2
      clear t2
      have hlti : (k : Int) < 17 := by omega
      have hk0 : (0 : Int) ≤ (k : Int) := by omega
      have HD1 := hid (Below.refl wr.heap.size wr).drew
      go_wp2_with fail
      refine wp_region_held_drew (S := (fun w' => w'.cell? ⟨w.heap.size, 0, none⟩ = some (.int .i64 a) ∧ w'.cell? ⟨w.heap.size, 1, none⟩ = some (.int .i64 b) ∧ w'.cell? ⟨w.heap.size, 2, none⟩ = some (.int .i64 c) ∧ w'.cell? ⟨w.heap.size + 1, k * 2, none⟩ = some (.string ⟨(wtL k).toArray⟩))) (by kernel_rfl) ⟨c0, c1, c2, t1⟩ (fun hHeld => ?_)
      refine takeYes (i := 0) (v := .slice (some ⟨w.heap.size + 1, 0, none⟩) 17 17) rfl (by kernel_rfl) (by kernel_rfl) (by kernel_rfl) (fun _ _ _ h => h) (by rfl) ?_ (by assumption) ?_
      · intro w hSw; obtain ⟨sq0, sq1, sq2, sq3⟩ := hSw; go_simp
      try simp only [Act.put, List.setIfInBounds_toArray, List.set_cons_zero, List.set_cons_succ]
      refine takeYes (i := 1) (v := .int .i64 (k : Int)) rfl (by kernel_rfl) (by kernel_rfl) (by kernel_rfl) (fun _ _ _ h => h) (by rfl) ?_ (by assumption) ?_
      · intro w hSw; obtain ⟨sq0, sq1, sq2, sq3⟩ := hSw; go_simp
      try simp only [Act.put, List.setIfInBounds_toArray, List.set_cons_zero, List.set_cons_succ]
      refine takeYes (i := 2) (v := .pointer (some ⟨w.heap.size + 1, k * 2, none⟩)) rfl (by kernel_rfl) (by kernel_rfl) (by kernel_rfl) (fun _ _ _ h => h) (by rfl) ?_ (by assumption) ?_
      · intro w hSw; obtain ⟨sq0, sq1, sq2, sq3⟩ := hSw; go_simp
      try simp only [Act.put, List.setIfInBounds_toArray, List.set_cons_zero, List.set_cons_succ]
      refine takeYes (i := 3) (v := .pointer (some ⟨w.heap.size + 1, k * 2, none⟩)) rfl (by kernel_rfl) (by kernel_rfl) (by kernel_rfl) (fun _ _ _ h => h) (by rfl) ?_ (by assumption) ?_
      · intro w hSw; obtain ⟨sq0, sq1, sq2, sq3⟩ := hSw; go_simp
      try simp only [Act.put, List.setIfInBounds_toArray, List.set_cons_zero, List.set_cons_succ]
      refine takeYes (i := 4) (v := .string ⟨(wtL k).toArray⟩) rfl (by kernel_rfl) (by kernel_rfl) (by kernel_rfl) (fun _ _ _ h => h) (by rfl) ?_ (by assumption) ?_
      · intro w hSw; obtain ⟨sq0, sq1, sq2, sq3⟩ := hSw; go_simp
      try simp only [Act.put, List.setIfInBounds_toArray, List.set_cons_zero, List.set_cons_succ]
      refine takeYes (i := 5) (v := .agg #[.int .i64 a, .int .i64 b, .int .i64 c]) rfl (by kernel_rfl) (by kernel_rfl) (by kernel_rfl) (fun _ _ _ h => h) (by rfl) ?_ (by assumption) ?_
      · intro w hSw; obtain ⟨sq0, sq1, sq2, sq3⟩ := hSw; go_simp
      try simp only [Act.put, List.setIfInBounds_toArray, List.set_cons_zero, List.set_cons_succ]
      refine wpAnyH_ready (rs := [6]) (by kernel_rfl) (by simp) ?_
      refine AllReadyH.cons rfl (fun K hK => ?_) AllReadyH.nil
      go_simp
      ((with_reducible refine (wval_any (wtL k) (weL k) (prL k hlt) (fitL k hlt) a b c H3.out _ (HL.out.below (HB.out.trans (HD1.out.mono HB.out.size)))).mono ?_); rintro e1 w1 ⟨rfl, hb1⟩)
      rw [HS1.out]
      dsimp only
      have c0 := bel_cell hb1 c0
      have c1 := bel_cell hb1 c1
      have c2 := bel_cell hb1 c2
      have t1 := bel_cell hb1 t1
      have HB1 := hid (bel_step HD1.out hb1)
      clear hb1
      go_wp2_with fail
      refine hK.out _ _ ?_ (fun hHeld => ?_)
      · exact ⟨c0, c1, c2, t1⟩
      clear hK K
      try simp only [Act.put, List.setIfInBounds_toArray, List.set_cons_zero, List.set_cons_succ]
      refine takeYes (i := 7) (v := .tuple #[.int .i64 vv, .int .i64 0]) rfl (by kernel_rfl) (by kernel_rfl) (by kernel_rfl) (fun _ _ _ h => h) (by rfl) ?_ (by assumption) ?_
      · intro w hSw; obtain ⟨sq0, sq1, sq2, sq3⟩ := hSw; go_simp
      try simp only [Act.put, List.setIfInBounds_toArray, List.set_cons_zero, List.set_cons_succ]
      refine takeYes (i := 8) (v := .int .i64 vv) rfl (by kernel_rfl) (by kernel_rfl) (by kernel_rfl) (fun _ _ _ h => h) (by rfl) ?_ (by assumption) ?_
      · intro w hSw; obtain ⟨sq0, sq1, sq2, sq3⟩ := hSw; go_simp
      try simp only [Act.put, List.setIfInBounds_toArray, List.set_cons_zero, List.set_cons_succ]
      refine takeYes (i := 9) (v := .int .i64 0) rfl (by kernel_rfl) (by kernel_rfl) (by kernel_rfl) (fun _ _ _ h => h) (by rfl) ?_ (by assumption) ?_
      · intro w hSw; obtain ⟨sq0, sq1, sq2, sq3⟩ := hSw; go_simp
      try simp only [Act.put, List.setIfInBounds_toArray, List.set_cons_zero, List.set_cons_succ]
      refine takeYes (i := 10) (v := .int .i64 vv) rfl (by kernel_rfl) (by kernel_rfl) (by kernel_rfl) (fun _ _ _ h => h) (by rfl) ?_ (by assumption) ?_
      · intro w hSw; obtain ⟨sq0, sq1, sq2, sq3⟩ := hSw; go_simp
      try simp only [Act.put, List.setIfInBounds_toArray, List.set_cons_zero, List.set_cons_succ]
      refine takeYes (i := 11) (v := .int .i64 0) rfl (by kernel_rfl) (by kernel_rfl) (by kernel_rfl) (fun _ _ _ h => h) (by rfl) ?_ (by assumption) ?_
      · intro w hSw; obtain ⟨sq0, sq1, sq2, sq3⟩ := hSw; go_simp
      try simp only [Act.put, List.setIfInBounds_toArray, List.set_cons_zero, List.set_cons_succ]
      refine wpAnyH_done (by kernel_rfl) ?_ _
      have HD2 := hid (HB1.out.drew)
      have t2 := bel_cell HB1.out HT2.out
      go_wp2_with fail
      refine wp_region_held_drew (S := (fun w' => w'.cell? ⟨w.heap.size, 0, none⟩ = some (.int .i64 a) ∧ w'.cell? ⟨w.heap.size, 1, none⟩ = some (.int .i64 b) ∧ w'.cell? ⟨w.heap.size, 2, none⟩ = some (.int .i64 c) ∧ w'.cell? ⟨w.heap.size + 1, k * 2 + 1, none⟩ = some (.string ⟨(wtR k).toArray⟩))) (by kernel_rfl) ⟨c0, c1, c2, t2⟩ (fun hHeld => ?_)
      refine takeYes (i := 0) (v := .slice (some ⟨w.heap.size + 1, 0, none⟩) 17 17) rfl (by kernel_rfl) (by kernel_rfl) (by kernel_rfl) (fun _ _ _ h => h) (by rfl) ?_ (by assumption) ?_
      · intro w hSw; obtain ⟨sq0, sq1, sq2, sq3⟩ := hSw; go_simp
      try simp only [Act.put, List.setIfInBounds_toArray, List.set_cons_zero, List.set_cons_succ]
      refine takeYes (i := 1) (v := .int .i64 (k : Int)) rfl (by kernel_rfl) (by kernel_rfl) (by kernel_rfl) (fun _ _ _ h => h) (by rfl) ?_ (by assumption) ?_
      · intro w hSw; obtain ⟨sq0, sq1, sq2, sq3⟩ := hSw; go_simp
      try simp only [Act.put, List.setIfInBounds_toArray, List.set_cons_zero, List.set_cons_succ]
      refine takeYes (i := 2) (v := .pointer (some ⟨w.heap.size + 1, k * 2, none⟩)) rfl (by kernel_rfl) (by kernel_rfl) (by kernel_rfl) (fun _ _ _ h => h) (by rfl) ?_ (by assumption) ?_
      · intro w hSw; obtain ⟨sq0, sq1, sq2, sq3⟩ := hSw; go_simp
      try simp only [Act.put, List.setIfInBounds_toArray, List.set_cons_zero, List.set_cons_succ]
      refine takeYes (i := 3) (v := .pointer (some ⟨w.heap.size + 1, k * 2 + 1, none⟩)) rfl (by kernel_rfl) (by kernel_rfl) (by kernel_rfl) (fun _ _ _ h => h) (by rfl) ?_ (by assumption) ?_
      · intro w hSw; obtain ⟨sq0, sq1, sq2, sq3⟩ := hSw; go_simp
      try simp only [Act.put, List.setIfInBounds_toArray, List.set_cons_zero, List.set_cons_succ]
      refine takeYes (i := 4) (v := .string ⟨(wtR k).toArray⟩) rfl (by kernel_rfl) (by kernel_rfl) (by kernel_rfl) (fun _ _ _ h => h) (by rfl) ?_ (by assumption) ?_
      · intro w hSw; obtain ⟨sq0, sq1, sq2, sq3⟩ := hSw; go_simp
      try simp only [Act.put, List.setIfInBounds_toArray, List.set_cons_zero, List.set_cons_succ]
      refine takeYes (i := 5) (v := .agg #[.int .i64 a, .int .i64 b, .int .i64 c]) rfl (by kernel_rfl) (by kernel_rfl) (by kernel_rfl) (fun _ _ _ h => h) (by rfl) ?_ (by assumption) ?_
      · intro w hSw; obtain ⟨sq0, sq1, sq2, sq3⟩ := hSw; go_simp
      try simp only [Act.put, List.setIfInBounds_toArray, List.set_cons_zero, List.set_cons_succ]
      refine wpAnyH_ready (rs := [6]) (by kernel_rfl) (by simp) ?_
      refine AllReadyH.cons rfl (fun K hK => ?_) AllReadyH.nil
      go_simp
      ((with_reducible refine (wval_any (wtR k) (weR k) (prR k hlt) (fitR k hlt) a b c H3.out _ (HL.out.below (HB.out.trans (HD2.out.mono HB.out.size)))).mono ?_); rintro e2 w2 ⟨rfl, hb2⟩)
      rw [HS2.out]
      dsimp only
      have c0 := bel_cell hb2 c0
      have c1 := bel_cell hb2 c1
      have c2 := bel_cell hb2 c2
      have t2 := bel_cell hb2 t2
      have HB2 := hid (bel_step HD2.out hb2)
      clear hb2
      go_wp2_with fail
      refine hK.out _ _ ?_ (fun hHeld => ?_)
      · exact ⟨c0, c1, c2, t2⟩
      clear hK K
      try simp only [Act.put, List.setIfInBounds_toArray, List.set_cons_zero, List.set_cons_succ]
      refine takeYes (i := 7) (v := .tuple #[.int .i64 vv, .int .i64 0]) rfl (by kernel_rfl) (by kernel_rfl) (by kernel_rfl) (fun _ _ _ h => h) (by rfl) ?_ (by assumption) ?_
      · intro w hSw; obtain ⟨sq0, sq1, sq2, sq3⟩ := hSw; go_simp
      try simp only [Act.put, List.setIfInBounds_toArray, List.set_cons_zero, List.set_cons_succ]
      refine takeYes (i := 8) (v := .int .i64 vv) rfl (by kernel_rfl) (by kernel_rfl) (by kernel_rfl) (fun _ _ _ h => h) (by rfl) ?_ (by assumption) ?_
      · intro w hSw; obtain ⟨sq0, sq1, sq2, sq3⟩ := hSw; go_simp
      try simp only [Act.put, List.setIfInBounds_toArray, List.set_cons_zero, List.set_cons_succ]
      refine takeYes (i := 9) (v := .int .i64 0) rfl (by kernel_rfl) (by kernel_rfl) (by kernel_rfl) (fun _ _ _ h => h) (by rfl) ?_ (by assumption) ?_
      · intro w hSw; obtain ⟨sq0, sq1, sq2, sq3⟩ := hSw; go_simp
      try simp only [Act.put, List.setIfInBounds_toArray, List.set_cons_zero, List.set_cons_succ]
      refine takeYes (i := 10) (v := .int .i64 vv) rfl (by kernel_rfl) (by kernel_rfl) (by kernel_rfl) (fun _ _ _ h => h) (by rfl) ?_ (by assumption) ?_
      · intro w hSw; obtain ⟨sq0, sq1, sq2, sq3⟩ := hSw; go_simp
      try simp only [Act.put, List.setIfInBounds_toArray, List.set_cons_zero, List.set_cons_succ]
      refine takeYes (i := 11) (v := .int .i64 0) rfl (by kernel_rfl) (by kernel_rfl) (by kernel_rfl) (fun _ _ _ h => h) (by rfl) ?_ (by assumption) ?_
      · intro w hSw; obtain ⟨sq0, sq1, sq2, sq3⟩ := hSw; go_simp
      try simp only [Act.put, List.setIfInBounds_toArray, List.set_cons_zero, List.set_cons_succ]
      refine wpAnyH_done (by kernel_rfl) ?_ _
      have HBE := hid (HB.out.trans (HB2.out.mono HB.out.size))
      have HAE : Hid (Arr3 w2 w.heap.size a b c) := hid ⟨c0, c1, c2⟩
      have HWE := hid (HW.out.below HB2.out)
      go_wp2_with fail
      go_roundw
      case rel => first | exact ⟨k + 1, by omega, rfl, HAE, HWE, HBE⟩ | ((repeat apply Exists.intro); exact ⟨⟨k + 1, by omega, rfl, HAE, HWE, HBE⟩, rfl⟩) | fail
      case measure => simp [intOf]; omega
    · obtain rfl : k = 17 := by omega
      have HLr := hid (HL.out.below HB.out)
      go_wp2_with fail
      ((with_reducible refine (wval_any [97, 47, 98, 42, 98, 43, 97, 37, 98] weZ prZ fitZ a b c H3.out _ HLr.out).mono ?_); rintro e1 w1 ⟨rfl, hb1⟩)
      rw [wrap_last H3.out]
      have c0 := bel_cell hb1 c0
      have c1 := bel_cell hb1 c1
      have c2 := bel_cell hb1 c2
      have HB1 := hid (bel_step HB.out hb1)
      clear hb1
      by_cases h0 : b = 0
      · rw [if_pos h0]
        dsimp only
        have hbq : (b == 0) = true := by simpa using h0
        clear h0
        go_wp2_with fail
        ((with_reducible refine (awake_any _ (HL.out.below HB1.out) (HL.out.below HB1.out).big).mono ?_); rintro e2 w2 ⟨rfl, hb2⟩)
        have HB2 := hid (bel_step HB1.out hb2)
        clear hb2
        go_wp2_with fail
        go_ret
        exact ⟨rfl, HB2.out⟩
      · rw [if_neg h0]
        dsimp only
        have hbq : (b == 0) = false := by simpa using h0
        clear h0
        go_wp2_with fail
        ((with_reducible refine (awake_any _ (HL.out.below HB1.out) (HL.out.below HB1.out).big).mono ?_); rintro e2 w2 ⟨rfl, hb2⟩)
        have HB2 := hid (bel_step HB1.out hb2)
        clear hb2
        go_wp2_with fail
        go_ret
        exact ⟨rfl, HB2.out⟩
end Go.Proofs.YtadmmmehphhecaaDoor
/- The last step of each law of this seat: from a walk that returns true and turns nothing below its blocks to the row; what the row lays of the library's variables. No condition. -/
namespace Go.Proofs.YtadmmmehphhecaaDoor
open Go.ChangeShapes Go.WideShapes Go.ChangeAt Go.RowKit
open Go.ChangeMaps (open_string shut_string)

theorem Tryd.own : ownKnob Tryd.prog.godebug = none := by kernel_rfl
theorem Tryd.laidOut : laidOutB Tryd.prog = true := by kernel_rfl
set_option maxRecDepth 100000 in
theorem err_var {W : World} {nm : String} {tn : String} {d : DataW Unit} {rest : List (String × DataW Unit)} {g t : Nat} (hg : Tryd.prog.globalNamed nm = some g) (hty : (Tryd.prog.globals[g]?).map (·.type) = some t) (ht : ∃ m, Tryd.prog.underlying t = some (.interface m))
    (h : laidMet Tryd.prog ((nm, .iface tn d) :: rest) W) : ∃ te pe, W.var? Tryd.prog nm = some #[.iface te pe] := by
  obtain ⟨ps, ⟨g', t', cs, fuel, p, q, hg', ht', hvar, hd, _, _⟩, _⟩ := h
  obtain rfl := Option.some.inj (hg.symm.trans hg')
  obtain rfl := Option.some.inj (hty.symm.trans ht')
  obtain ⟨m, hm⟩ := ht
  cases fuel with
  | zero => simp [DataW.trod] at hd
  | succ fuel =>
    have key : ∀ cl : List Value, DataW.trod (fun _ => ()) Tryd.prog W 0 (fun _ => true) false (fuel + 1) t cl = some (.iface tn d, p) → ∃ u v, cl = [.iface u v] := by
      intro cl hd
      unfold DataW.trod at hd
      rw [hm] at hd
      dsimp only at hd
      split at hd
      all_goals first
        | exact ⟨_, _, rfl⟩
        | (rename_i h; cases h; done)
        | (cases hd; done)
        | (injection hd with hd; injection hd with hd; cases hd; done)
        | skip
    obtain ⟨u, v, hc⟩ := key _ hd
    refine ⟨u, v, ?_⟩
    rw [hvar, ← hc]
theorem laid_all {W : World} {l : List (String × DataW Unit)} (h : laidMetH Tryd.prog l W) (h0 : (l.all fun x => x.2.handleName?.isNone) = true)
    (h1 : (l.filter fun x => x.1 == "strconv.ErrRange") = [("strconv.ErrRange", Rows.laid_strconv_ErrRange)]) (h2 : (l.filter fun x => x.1 == "strconv.ErrSyntax") = [("strconv.ErrSyntax", Rows.laid_strconv_ErrSyntax)])
    (h3 : (l.filter fun x => x.1 == "internal/strconv.uint64pow10") = [("internal/strconv.uint64pow10", Lib.tabData .u64 Lib.pow10Tab)]) : Laid W := by
  rw [MakeChecks.laidMetH_plain _ _ _ h0] at h
  refine ⟨?_, ?_, ?_⟩
  · have h4 := h.filter (fun x => x.1 == "strconv.ErrRange")
    rw [h1] at h4
    exact err_var (g := 2) (t := 87) (by kernel_rfl) (by kernel_rfl) ⟨_, Tryd.underlying87⟩ h4
  · have h4 := h.filter (fun x => x.1 == "strconv.ErrSyntax")
    rw [h2] at h4
    exact err_var (g := 1) (t := 87) (by kernel_rfl) (by kernel_rfl) ⟨_, Tryd.underlying87⟩ h4
  · have h4 := h.filter (fun x => x.1 == "internal/strconv.uint64pow10")
    rw [h3] at h4
    exact Lib.tabIs_of_head (g := 0) (t := 107) (e := 78) (n := 20) (by kernel_rfl) (by kernel_rfl) (by kernel_rfl) (by kernel_rfl) (by kernel_rfl) (by kernel_rfl) h4
section
variable {H : Type} {enc : TypeId × Value → H}
/-- arguments read behind the call as before it, where below their blocks nothing has turned -/
theorem args_stay {W W' : World} (hb : Below W.heap.size W W') : ∀ (ts : List TypeId) (vs : List Value) (ds : List (DataW H)) (ps : List MemPlace),
    (∀ t ∈ ts, Tryd.prog.readableRec t = true ∧ t < Tryd.prog.types.size) → DataW.TrodAll enc Tryd.prog W 0 (fun _ => true) true ts vs ds ps → (∀ x ∈ ps, x.block < W.heap.size) →
    DataW.TrodAll enc Tryd.prog W' 0 (fun b => decide (b < W.heap.size)) true ts vs ds ps
  | [], vs, ds, ps, _, h, _ => by
    obtain ⟨rfl, rfl, rfl⟩ := trodAll_nil h
    exact trodAll_mk0
  | t :: ts, vs, ds, ps, ht, h, hlt => by
    obtain ⟨v, vs', d, ds', p, q, rfl, rfl, rfl, h1, h2⟩ := trodAll_cons h
    have ht' := ht t (List.mem_cons_self ..)
    exact trodAll_cons_mk (Below.trod Tryd.laidOut ht'.1 ht'.2 h1 hb fun x hx => hlt x (List.mem_append_left _ hx))
      (args_stay hb ts vs' ds' q (fun t h => ht t (List.mem_cons_of_mem _ h)) h2 fun x hx => hlt x (List.mem_append_right _ hx))

/-- A LAW's POST: true comes back, the arguments read as they did -/
theorem law_post {f : Func} {s : ChangeSpec} {W W' : World} {args : Array Value} {ds : List (DataW H)} {before : List MemPlace}
    (hW : DataW.Whole enc Tryd.prog f.params.toList s.vars false W args.toList ds [] before) (hA : DataW.TrodAll enc Tryd.prog W 0 (fun _ => true) true f.params.toList args.toList ds before)
    (ht : ∀ t ∈ f.params.toList, Tryd.prog.readableRec t = true ∧ t < Tryd.prog.types.size) (hv : s.vars = []) (hrt : f.resultTypes = #[4])
    (hs : s.fn H (ds ++ []) = { results := [.lit (.bool true)], args := ds }) (hb : Below W.heap.size W W') :
    s.post enc Tryd.prog f false true false false W args (.bool true) W' := by
  refine ⟨ds, [], before, [], before, [], hW, ?_, ?_, ?_, hb.frame _, fun h => by cases h⟩
  · rw [hs, hrt]
    exact trodAll_mk1 (shut_bool Tryd.underlying4 true)
  · rw [hs]
    exact args_stay hb _ _ _ _ ht hA fun x hx => hW.lt x hx
  · rw [hs, hv]; rfl
end
end Go.Proofs.YtadmmmehphhecaaDoor
/- SumsWrap returns true at every input, and each argument reads behind the call as before it; its card, tied to the program's text. No condition but the row's own: the listed variables hold what the text lays. -/
namespace Go.Proofs.YtadmmmehphhecaaDoor
open Go.ChangeShapes Go.WideShapes Go.ChangeAt Go.RowKit

theorem i64_of {k : Int} (wk : (Lit.int .i64 k).wf = true) : I64 k := by
  have : -9223372036854775808 ≤ k ∧ k ≤ 9223372036854775807 := by simpa [Lit.wf, IntKind.min, IntKind.max, IntKind.signed, IntKind.bits] using wk
  exact this
set_option maxRecDepth 100000 in
/-- an argument that is three numbers -/
theorem open_arr3 {H : Type} {enc : TypeId × Value → H} {W : World} {b0 : Nat} {v : Value} {d : DataW H} {p : List MemPlace} (hv : Value.okWide Tryd.prog W .any b0 39 v)
    (h : DataW.Trod enc Tryd.prog W 0 (fun _ => true) true 39 v d p) : ∃ a b c, v = .agg #[.int .i64 a, .int .i64 b, .int .i64 c] ∧ I3 a b c := by
  have hu : Tryd.prog.underlying 39 = some (.array 3 2) := Tryd.underlying39
  simp only [Value.okWide, hu] at hv
  obtain ⟨cs, rfl, hsz, _⟩ := hv
  have hc3 : Tryd.prog.cellsOf 39 = 3 := by kernel_rfl
  rw [hc3] at hsz
  obtain ⟨x, y, z, hcs⟩ : ∃ x y z, cs.toList = [x, y, z] := by
    have hl : cs.toList.length = 3 := by simpa using hsz
    match hq : cs.toList, hl with
    | [x, y, z], _ => exact ⟨x, y, z, rfl⟩
  obtain ⟨fuel, hf⟩ := h
  have hf : DataW.trod enc Tryd.prog W 0 (fun _ => true) true fuel 39 cs.toList = some (d, p) := hf
  rw [hcs] at hf
  obtain ⟨y0, y1, y2, n, _, h0, h1, h2⟩ := trod_array3 hu (by kernel_rfl) hf
  obtain ⟨k0, e0, _, w0⟩ := DataW.trod_int Tryd.underlying2 h0
  obtain ⟨k1, e1, _, w1⟩ := DataW.trod_int Tryd.underlying2 h1
  obtain ⟨k2, e2, _, w2⟩ := DataW.trod_int Tryd.underlying2 h2
  injection e0 with e0 _
  injection e1 with e1 _
  injection e2 with e2 _
  subst e0 e1 e2
  refine ⟨k0, k1, k2, ?_, i64_of w0, i64_of w1, i64_of w2⟩
  have : cs = #[.int .i64 k0, .int .i64 k1, .int .i64 k2] := by
    apply Array.ext'
    rw [hcs]
  rw [this]
set_option maxRecDepth 100000 in
theorem wrap_lifted (os : Os) (started : os.Started) (H : Type) (enc : TypeId × Value → H) :
    ReturnsInHanded {} Tryd.checked os 4 .any (fun w args => (Rows.sumsWrapSpec.pre enc Tryd.prog Tryd.f4 Rows.sumsWrapRow.domain false w args ∧ laidMetH Tryd.prog Rows.sumsWrapRow.laid w) ∧ sizedMet enc Tryd.prog Tryd.f4 (OpenSpec.ofChange Rows.sumsWrapSpec) false w args)
      (Rows.sumsWrapSpec.post enc Tryd.prog Tryd.f4 false true false false) := by
  refine returnsInHanded_of_change_and (C := Tryd.checked) (X := fun w _ => laidMetH Tryd.prog Rows.sumsWrapRow.laid w) (fun _ _ _ hh h => h.of_heap hh) Tryd.own started (by kernel_rfl) Tryd.func4
    (ChangeSpec.witness_shaped (enc := enc) (C := Tryd.checked) (os := os) (X := fun w _ => laidMetH Tryd.prog Rows.sumsWrapRow.laid w) false (World.laidAll Tryd.prog os Rows.sumsWrapRow.laid) #[.agg #[.int .i64 0, .int .i64 0, .int .i64 0]] 8 (World.laidAll_os _ _ _)
      (World.shaped_of_ZipB (by kernel_rfl) (by kernel_rfl)) (by kernel_rfl) (by kernel_rfl) (by kernel_rfl)
      (by rw [MakeChecks.laidMetH_plain _ _ _ (by kernel_rfl)]; exact laidMet_laidAll _ (by kernel_rfl) (by kernel_rfl))) ?_
  intro W base args ds gs before hval0 hW hc _ hL _
  have hval : ∀ (j : Nat) t v, Tryd.f4.params[j]? = some t → args[j]? = some v → Value.okWide Tryd.prog W .any base t v := hval0
  have hW' := hW
  obtain ⟨p, q, hA0, hV, rfl, hfz, hnd⟩ := hW
  have hA : DataW.TrodAll enc Tryd.prog W 0 (fun _ => true) true Tryd.f4.params.toList args.toList ds p := hA0
  have hA1 := hA
  rw [Tryd.params4] at hA hval
  obtain ⟨v0, vs0, d0, ds0, p0, q0, hargs, rfl, rfl, h0, r0⟩ := trodAll_cons hA
  obtain ⟨rfl, rfl, rfl⟩ := trodAll_nil r0
  obtain rfl : args = #[v0] := by cases args; simp_all
  obtain ⟨rfl, rfl⟩ := trodVars_none hV
  obtain ⟨a, b, c, rfl, h3⟩ := open_arr3 (hval 0 39 v0 rfl rfl) h0
  have hLL : Laid W := laid_all hL (by kernel_rfl) (by kernel_rfl) (by kernel_rfl) (by kernel_rfl)
  simp only [List.append_nil] at hW'
  refine (wrap_any a b c h3 W hLL).mono fun e W' ⟨he, hb⟩ => ?_
  exact ⟨_, he, law_post hW' (by simpa using hA1) (by rw [Tryd.params4]; intro t ht; simp at ht; subst ht; exact ⟨by kernel_rfl, of_decide_eq_true (by kernel_rfl)⟩) rfl rfl rfl hb⟩

theorem wrap_row : Rows.SumsWrapSaid :=
  OpenClaim.holds_of_wide 4 Tryd.f4 rfl rfl rfl rfl rfl rfl rfl ⟨rfl, rfl, rfl, rfl, rfl⟩ rfl rfl rfl rfl rfl (by kernel_rfl) Tryd.func4 (by kernel_rfl)
    (of_decide_eq_true (by kernel_rfl)) (by unfold Func.isWrapper; first | (rw [if_pos (by decide +kernel)]; kernel_rfl) | (rw [if_neg (by decide +kernel)]; exact ⟨rfl, rfl⟩))
    (fun os started H enc _ => wrap_lifted os started H enc)
theorem wrap_holds : Rows.SumsWrapCardSaid :=
  Claim7.holds_tied_plain_at .later [] [.data, .data, .data, .data, .sentinel, .sentinel, .pinned] true (true, "0e1d71b5e299a2ae67257aaddcab9737230a14ae8013f52c5c7a82fa69353a36") true wrap_row (fun _ h => by cases h) (by kernel_rfl) (fun _ h => by cases h) sumsWrap_row_tie rfl ⟨rfl, rfl⟩ (by kernel_rfl) rfl
    (fun f fn hf hfn => by
      obtain rfl : f = 4 := Option.some.inj ((show Tryd.prog.funcNamed "whelk/whelklaw03.SumsWrap" = some 4 by kernel_rfl).symm.trans hf) |>.symm
      obtain rfl : fn = Tryd.f4 := (Option.some.inj (Tryd.func4.symm.trans hfn)).symm
      exact ⟨by kernel_rfl, fun j t ht => by
        rw [Tryd.params4] at ht
        have hm : t ∈ [39] := by simpa using Array.mem_of_getElem? ht
        have hall : ([39].all fun u => !Tryd.prog.wantsStandIn u) = true := by kernel_rfl
        exact (show Tryd.prog.wantsStandIn t = false by simpa using List.all_eq_true.1 hall t hm)⟩)
    (by kernel_rfl)
end Go.Proofs.YtadmmmehphhecaaDoor
