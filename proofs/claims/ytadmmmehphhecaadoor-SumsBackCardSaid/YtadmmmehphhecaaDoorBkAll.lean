/- SumsBack returns true at every input, and each argument reads behind the call as before it; its card, tied to the program's text. No condition but the row's own: the listed variables hold what the text lays. -/
import Derived.Test.YtadmmmehphhecaaDoorLr
import Derived.Defers
import Derived.Recover
import Derived.Test.YtadmmmehphhecaaDoorSa
import Derived.Test.YtadmmmehphhecaaDoorLu
import Derived.Test.YtadmmmehphhecaaDoorLf
import Derived.IntWalk
import Derived.Test.YtadmmmehphhecaaDoorLe
import Derived.Test.YtadmmmehphhecaaDoorLm
import Derived.Test.YtadmmmehphhecaaDoorO
import Derived.Deep.RegionLaw
import Derived.Deep.AppendLies
import Derived.Test.YtadmmmehphhecaaDoorF
import Derived.Test.YtadmmmehphhecaaDoorEa
import Derived.Test.YtadmmmehphhecaaDoorLh
import Derived.Test.YtadmmmehphhecaaDoorLi
import Derived.Test.YtadmmmehphhecaaDoorLj
import Derived.Test.YtadmmmehphhecaaDoorRows
import Derived.Test.YtadmmmehphhecaaDoorN
import Derived.ProofKit
import Derived.OpenShut
import Derived.LaidMore
import Derived.LaidSub
import Derived.Lib.LaidTab
import Derived.Lay
import Derived.Stop.Joined
import Derived.MakeChecks
import Derived.ChangeArms
import Derived.Test.YtadmmmehphhecaaDoorCards
import Derived.Test.YtadmmmehphhecaaDoorTie
import Derived.SevenTiedAt
set_option linter.unusedVariables false
set_option linter.unusedSimpArgs false
/- The walk of Value of sums. -/
namespace Go.Proofs.YtadmmmehphhecaaDoor
open Go.RowKit
abbrev T64 : TypeId := 2
theorem as_errno (v : Value) (w : World) : (Instr.typeAssert (.iface TEr v) 20 TEr false).run Tryd.prog w = .ok v w := by kernel_rfl
theorem vcatch_idle (r0 r1 : Addr) (w : World) :
    CallsD Tryd.prog 26 #[.pointer (some r0), .pointer (some r1)] .returning w fun e u' w' => e = .returned (.tuple #[]) ∧ u' = .returning ∧ w' = w := by
  refine callsD_of_wpS Tryd.func26 rfl fun c₀ cs hu => ?_
  simp only [Tryd.ntmps26, List.size_toArray, List.length_cons, List.length_nil, Nat.reduceAdd, Nat.reduceSub, Array.replicate_succ,
     Array.replicate_zero, List.push_toArray, List.append_toArray, List.nil_append, List.cons_append]
  apply wpS_seq
  apply wpS_region
  simp [wpOpsS, go_sem, recoverD, hu, Exit.thenS]
  refine wpS_of_wp ?_
  go_wp2_with fail
  cases c₀
  simp_all [bodyPostS, results, Tryd.results26]
set_option maxRecDepth 100000 in
set_option maxHeartbeats 2000000 in
theorem vcatch_bad (R1 R2 : Nat) (er : Int) (w : World) (x y : Value) (h1 : Bk w R1 T64 #[x]) (h2 : Bk w R2 TEr #[y]) (h12 : R1 ≠ R2) :
    CallsD Tryd.prog 26 #[.pointer (some ⟨R1, 0, none⟩), .pointer (some ⟨R2, 0, none⟩)] (.panicking (errV er)) w fun e u' w' =>
      e = .returned (.tuple #[]) ∧ settle u' = .returning ∧ w' = ((w.setCell ⟨R1, 0, none⟩ (.int .i64 0)).setCell ⟨R2, 0, none⟩ (.int .i64 er)).drew := by
  refine callsD_of_wpS Tryd.func26 rfl fun c₀ cs hu => ?_
  unfold errV at hu
  have d0 := h1.cell 0 x rfl
  have g0 := h1.free 0
  have e0 := h2.cell 0 y rfl
  have k0 := h2.free 0
  have hta := as_errno
  have l1 := h1.lt
  have l2 := h2.lt
  clear h1 h2
  simp only [Tryd.ntmps26, List.size_toArray, List.length_cons, List.length_nil, Nat.reduceAdd, Nat.reduceSub, Array.replicate_succ,
     Array.replicate_zero, List.push_toArray, List.append_toArray, List.nil_append, List.cons_append]
  apply wpS_seq
  apply wpS_region
  simp [wpOpsS, go_sem, recoverD, hu, Exit.thenS]
  refine wpS_of_wp ?_
  go_wp2_with fail
  go_region_with fail
  all_goals exact ⟨rfl, _, rfl, _, results_none rfl _ _ _, rfl, rfl, rfl⟩
/-- what Value answers: number, error, table -/
def valueF (e : Ex) (T : Tab) : Int × Int × Tab :=
  if 200 < deepF 200 e then (0, 32, T) else match valF e T with
    | (.ok n, T1) => (n, 0, T1)
    | (.error er, T1) => (0, er, T1)
def ValuePost (e : Ex) (g B : Nat) (T : Tab) (u : Value) (w : World) (x : Ending) (w' : World) : Prop :=
  ∃ u', TStep g w u w' u' ∧ TabAt w' B g (valueF e T).2.2 u' ∧ x = .returned (.tuple #[.int .i64 (valueF e T).1, .int .i64 (valueF e T).2.1])
theorem ValuePost.mk {e : Ex} {g B : Nat} {T T' : Tab} {u u' : Value} {w w' : World} {n f : Int} (hst : TStep g w u w' u') (ht : TabAt w' B g T' u') (hv : valueF e T = (n, f, T')) : ValuePost e g B T u w (.returned (.tuple #[.int .i64 n, .int .i64 f])) w' :=
  ⟨u', hst, by rw [hv]; exact ht, by rw [hv]⟩
def VRes (w : World) (R : Nat) (a b : Value) : Prop := Bk w (R + 1) T64 #[a] ∧ Bk w (R + 1 + 1) TEr #[b]
def VResRd (R : Nat) (tmps : Array Value) : Prop := ∀ (w : World) (a b : Value), VRes w R a b → (results Tryd.f15 tmps).run Tryd.prog w = .ok (.tuple #[a, b]) w
abbrev vcatchD (R : Nat) : Deferred := { target := .fn (.func 26) #[.pointer (some ⟨R + 1, 0, none⟩), .pointer (some ⟨R + 1 + 1, 0, none⟩)], args := #[] }
/-- a cell elsewhere is set -/
theorem TabAt.far {w : World} {B g : Nat} {T : Tab} {u : Value} (h : TabAt w B g T u) {r : Nat} (hr : r ≠ g) (hu : some r ≠ u.ownBlock) (v : Value) : TabAt (w.setCell ⟨r, 0, none⟩ v) B g T u := by
  refine ⟨h.1.far (p := ⟨r, 0, none⟩) (fun e => hr e.symm) v, ?_, by have := h.2.2; simp [World.setCell]; exact this⟩
  exact h.2.1.kept (row := some r) (grown_setCell (w := w) (p := ⟨r, 0, none⟩) rfl v) (by
    cases hb : u.ownBlock with
    | none => simp
    | some b => rw [hb] at hu; simp; intro e; exact hu (by rw [e]))
theorem TStep.far {w0 w : World} {g : Nat} {u0 u : Value} (h : TStep g w0 u0 w u) {r : Nat} (hr : w0.heap.size ≤ r) (v : Value) : TStep g w0 u0 (w.setCell ⟨r, 0, none⟩ v) u :=
  ⟨h.os, h.tape, h.output, by have := h.size; simp [World.setCell]; exact this, fun b hb => (Below.heap_setCell w ⟨r, 0, none⟩ v b (by have := hb.2.2; simp only; omega)).trans (h.block b hb), h.own⟩
/-- what holds when the deferred call is run -/
structure VMid (w : World) (g B : Nat) (u0 : Value) (wN : World) (T : Tab) (u : Value) : Prop where
  st : TStep g w u0 wN u
  tab : TabAt wN B g T u
  res : ∃ a b, VRes wN w.heap.size a b
  f1 : some (w.heap.size + 1) ≠ u.ownBlock
  f2 : some (w.heap.size + 1 + 1) ≠ u.ownBlock
  gl : g < w.heap.size
theorem VMid.put {w wN : World} {g B : Nat} {u0 u : Value} {T : Tab} (h : VMid w g B u0 wN T u) (a b : Value) :
    TStep g w u0 ((wN.setCell ⟨w.heap.size + 1, 0, none⟩ a).setCell ⟨w.heap.size + 1 + 1, 0, none⟩ b) u ∧
    TabAt ((wN.setCell ⟨w.heap.size + 1, 0, none⟩ a).setCell ⟨w.heap.size + 1 + 1, 0, none⟩ b) B g T u ∧
    VRes ((wN.setCell ⟨w.heap.size + 1, 0, none⟩ a).setCell ⟨w.heap.size + 1 + 1, 0, none⟩ b) w.heap.size a b := by
  obtain ⟨x, y, h1, h2⟩ := h.res
  have hg := h.gl
  refine ⟨(h.st.far (by omega) a).far (by omega) b, (h.tab.far (by omega) h.f1 a).far (by omega) h.f2 b, ?_, ?_⟩
  · exact (h1.set_ 0 a).far (p := ⟨w.heap.size + 1 + 1, 0, none⟩) (by simp) b
  · exact (h2.far (p := ⟨w.heap.size + 1, 0, none⟩) (by simp) a).set_ 0 b
theorem vleave_bad (e : Ex) (w wN : World) (g B : Nat) (T T' : Tab) (u u' : Value) (tmps : Array Value) (er : Int) (hr : VResRd w.heap.size tmps) (hm : VMid w g B u wN T' u') (hv : valueF e T = (0, er, T')) :
    Leaves Tryd.prog Tryd.f15 tmps (ValuePost e g B T u w) [vcatchD w.heap.size] (.panicking (errV er)) wN := by
  obtain ⟨x, y, h1, h2⟩ := hm.res
  refine leaves_cons (f := 26) (args := #[.pointer (some ⟨w.heap.size + 1, 0, none⟩), .pointer (some ⟨w.heap.size + 1 + 1, 0, none⟩)]) (by simp) (by simp [go_sem]) ?_
  refine (vcatch_bad (w.heap.size + 1) (w.heap.size + 1 + 1) er wN x y h1 h2 (by omega)).mono ?_
  rintro e1 u1 w' ⟨rfl, hs, rfl⟩
  show Leaves _ _ _ _ _ (settle u1) _
  rw [hs]
  obtain ⟨k1, k2, k3⟩ := hm.put (.int .i64 0) (.int .i64 er)
  exact ⟨_, hr _ _ _ k3, ValuePost.mk (k1.trans (TStep.below ((Below.refl _ _).drew))) (k2.below ((Below.refl _ _).drew)) hv⟩
theorem vleave_good (e : Ex) (w wN : World) (g B : Nat) (T T' : Tab) (u u' : Value) (tmps : Array Value) (n f : Int) (hr : VResRd w.heap.size tmps) (hst : TStep g w u wN u') (ht : TabAt wN B g T' u') (hk : VRes wN w.heap.size (.int .i64 n) (.int .i64 f)) (hv : valueF e T = (n, f, T')) :
    Leaves Tryd.prog Tryd.f15 tmps (ValuePost e g B T u w) [vcatchD w.heap.size] .returning wN := by
  refine leaves_cons (f := 26) (args := #[.pointer (some ⟨w.heap.size + 1, 0, none⟩), .pointer (some ⟨w.heap.size + 1 + 1, 0, none⟩)]) (by simp) (by simp [go_sem]) ?_
  refine (vcatch_idle ⟨w.heap.size + 1, 0, none⟩ ⟨w.heap.size + 1 + 1, 0, none⟩ wN).mono ?_
  rintro e1 u1 w' ⟨rfl, rfl, rfl⟩
  exact ⟨_, hr _ _ _ hk, ValuePost.mk hst ht hv⟩
theorem vstart (w : World) (a0 a1 a2 a3 b0 c0 : Value) :
    let w' := ((w.alloc (.cells #[a0, a1, a2, a3] 24)).alloc (.cells #[b0] T64)).alloc (.cells #[c0] TEr)
    Below w.heap.size w w' ∧ Bk w' w.heap.size 24 #[a0, a1, a2, a3] ∧ VRes w' w.heap.size b0 c0 := by
  refine ⟨(((Below.refl _ _).alloc (Nat.le_refl _) _).alloc (by simp) _).alloc (by simp; omega) _, ?_, ?_, ?_⟩
  · exact ((Bk.new w 24 #[a0, a1, a2, a3]).alloc (.cells #[b0] T64)).alloc (.cells #[c0] TEr)
  · have := ((Bk.new (w.alloc (.cells #[a0, a1, a2, a3] 24)) T64 #[b0])).alloc (.cells #[c0] TEr)
    simpa using this
  · have := Bk.new ((w.alloc (.cells #[a0, a1, a2, a3] 24)).alloc (.cells #[b0] T64)) TEr #[c0]
    simpa using this
set_option maxRecDepth 100000 in
set_option maxHeartbeats 4000000 in
theorem value_any (e : Ex) (w : World) (g B : Nat) (T : Tab) (u v : Value) (hr : RdX w (Free w g u) e v) (hV : VIn w g B T u) (hl : T.length + szF e ≤ 100000) (hD : DeepC 200 e) (hC : ValC e) :
    Calls Tryd.prog 15 #[v, .iface TSt (.pointer (some ⟨g, 0, none⟩))] w (ValuePost e g B T u w) := by
  have hmf : ∀ (fn : Fn) (first cap : Array Value) (w : World), (Instr.makeFunc fn first cap).run Tryd.prog w = .ok (.func fn first cap) w := fun _ _ _ _ => rfl
  obtain ⟨A, cap, rfl, hcap, hkids⟩ := hr.form
  obtain ⟨hb0, kE, kR⟩ := vstart w (.string ⟨e.op.toArray⟩) (.int .i64 e.num) (.string ⟨e.name.toArray⟩) (.slice A e.kids.len cap) (.int .i64 0) (.int .i64 0)
  have HV := hid hV
  have HX := hid hr
  have HD := hid hD
  have HC := hid hC
  have HGL := hid hV.tab.1.lt
  clear hkids hr hV hD hC hcap
  go_enter_defers Tryd.func15, Tryd.ntmps15
  go_wp2_with fail
  ((with_reducible refine (HD.out.call _ (Free w g u) _ 200 rfl (HX.out.below hb0)).mono ?_); rintro e1 w1 ⟨rfl, hb1⟩)
  have HB1 := hid (bel_step hb0 hb1)
  have lE := kE.lt
  have l1 := kR.1.lt
  have l2 := kR.2.lt
  have kE := kE.below hb1 lE
  have kR1 := kR.1.below hb1 l1
  have kR2 := kR.2.below hb1 l2
  have L1 := hid kR1.lt
  have L2 := hid kR2.lt
  obtain ⟨c0, c1, c2, c3⟩ := kE.cells4
  have u0 := kR1.cell 0 _ rfl
  have u1 := kR1.free 0
  have v0 := kR2.cell 0 _ rfl
  have v1 := kR2.free 0
  have V1 := hid (HV.out.below HB1.out)
  have HX1 := hid (HX.out.step (TStep.below (g := g) (u := u) HB1.out))
  have HM : Hid (VMid w g B u w1 T u) := hid ⟨TStep.below HB1.out, V1.out.tab, ⟨_, _, kR1, kR2⟩, fun e => by have := HV.out.tab.own_lt _ e.symm; omega, fun e => by have := HV.out.tab.own_lt _ e.symm; omega, HGL.out⟩
  have KR1 := hid kR1
  have KR2 := hid kR2
  clear hb0 hb1 kE kR kR1 kR2 lE l1 l2
  have HRD : ∀ tmps : Array Value, tmps[4]? = some (.pointer (some ⟨w.heap.size + 1, 0, none⟩)) → tmps[5]? = some (.pointer (some ⟨w.heap.size + 1 + 1, 0, none⟩)) → VResRd w.heap.size tmps := by
    intro tmps h4 h5 wz a b hk
    have d0 := hk.1.cell 0 a rfl
    have d1 := hk.2.cell 0 b rfl
    simp [results, Tryd.results15, go_sem, h4, h5, d0, d1]
  by_cases hd : 200 < deepF 200 e
  · have hdi : (200 : Int) < (deepF 200 e : Int) := by omega
    have HO : Hid (valueF e T = (0, 32, T)) := hid (by unfold valueF; rw [if_pos hd])
    clear hd
    go_wp2_with fail
    obtain ⟨k1, k2, k3⟩ := HM.out.put (.int .i64 0) (.int .i64 32)
    exact ⟨_, HRD _ (by rfl) (by rfl) _ _ _ k3, ValuePost.mk k1 k2 HO.out⟩
  · have hdi : ¬ (200 : Int) < (deepF 200 e : Int) := by omega
    have HO : Hid (valueF e T = match valF e T with
        | (.ok n, T1) => (n, 0, T1)
        | (.error er, T1) => (0, er, T1)) := hid (by unfold valueF; rw [if_neg hd])
    clear hd
    go_wp2_with fail
    ((with_reducible refine (HC.out.call _ g B T u _ HX1.out V1.out hl).mono ?_); rintro e2 w2 ⟨u2, hst, htab, hm⟩)
    obtain ⟨r2, T2, hv2⟩ : ∃ r T1, valF e T = (r, T1) := ⟨_, _, rfl⟩
    rw [hv2] at htab hm HO
    have F1 : Free w1 g u (w.heap.size + 1) := ⟨by have := HGL.out; omega, HM.out.f1, L1.out⟩
    have F2 : Free w1 g u (w.heap.size + 1 + 1) := ⟨by have := HGL.out; omega, HM.out.f2, L2.out⟩
    have kR1 : Bk w2 (w.heap.size + 1) T64 #[.int .i64 0] := (hst.block _ F1).trans KR1.out
    have kR2 : Bk w2 (w.heap.size + 1 + 1) TEr #[.int .i64 0] := (hst.block _ F2).trans KR2.out
    have HM2 : Hid (VMid w g B u w2 T2 u2) := hid ⟨HM.out.st.trans hst, htab, ⟨_, _, kR1, kR2⟩, hst.own _ F1, hst.own _ F2, HGL.out⟩
    rcases r2 with er | n
    · dsimp only at hm
      subst hm
      exact vleave_bad e w w2 g B T T2 u u2 _ er (HRD _ (by rfl) (by rfl)) HM2.out HO.out
    · dsimp only at hm
      subst hm
      have u0 := kR1.cell 0 _ rfl
      have u1 := kR1.free 0
      have v0 := kR2.cell 0 _ rfl
      have v1 := kR2.free 0
      obtain ⟨k1, k2, k3⟩ := HM2.out.put (.int .i64 n) (.int .i64 0)
      have K1 := hid k1
      have K2 := hid k2
      have K3 := hid k3
      clear k1 k2 k3 kR1 kR2 hst htab hv2 F1 F2
      go_wp2_with fail
      exact vleave_good e w _ g B T T2 u u2 _ n 0 (HRD _ (by rfl) (by rfl)) K1.out K2.out K3.out HO.out
end Go.Proofs.YtadmmmehphhecaaDoor
/- Plain: what fixed texts are parsed as. -/
namespace Go.Proofs.YtadmmmehphhecaaDoor
open Go.RowKit
theorem ParseOut.at_ok {s : List UInt8} {r : Except (Nat × Int) Ex} (h : ParseOut s r) (hl : s.length ≤ 4096) {t t' : PSt} {x : Ex} (n : Nat) (hn : nextF s ⟨0, [], 0, 0⟩ = .ok t) (ht : t.text ≠ []) (hF : F s n .whole 0 t = some (.ok (x, t'))) (ht' : t'.text = []) : r = .ok x := by
  have ho : Out s .whole 0 t (.ok (x, t')) := ⟨n, hF⟩
  cases h with
  | big h => omega
  | bad h hn' => rw [hn] at hn'; cases hn'
  | none h hn' h2 => rw [hn] at hn'; injection hn' with hn'; subst hn'; exact (ht h2).elim
  | err h hn' h2 h3 => rw [hn] at hn'; injection hn' with hn'; subst hn'; cases ho.same h3
  | left h hn' h2 h3 h4 => rw [hn] at hn'; injection hn' with hn'; subst hn'; have := ho.same h3; injection this with this; injection this with e1 e2; subst e2; exact (h4 ht').elim
  | good h hn' h2 h3 h4 => rw [hn] at hn'; injection hn' with hn'; subst hn'; have := ho.same h3; injection this with this; injection this with e1 e2; rw [e1]
theorem ParseOut.at_bad {s : List UInt8} {r : Except (Nat × Int) Ex} (h : ParseOut s r) (hl : s.length ≤ 4096) {t : PSt} {x : Nat × Int} (n : Nat) (hn : nextF s ⟨0, [], 0, 0⟩ = .ok t) (ht : t.text ≠ []) (hF : F s n .whole 0 t = some (.error x)) : r = .error x := by
  have ho : Out s .whole 0 t (.error x) := ⟨n, hF⟩
  cases h with
  | big h => omega
  | bad h hn' => rw [hn] at hn'; cases hn'
  | none h hn' h2 => rw [hn] at hn'; injection hn' with hn'; subst hn'; exact (ht h2).elim
  | err h hn' h2 h3 => rw [hn] at hn'; injection hn' with hn'; subst hn'; have := ho.same h3; injection this with this; rw [this]
  | left h hn' h2 h3 h4 => rw [hn] at hn'; injection hn' with hn'; subst hn'; cases ho.same h3
  | good h hn' h2 h3 h4 => rw [hn] at hn'; injection hn' with hn'; subst hn'; cases ho.same h3
theorem ParseOut.at_next {s : List UInt8} {r : Except (Nat × Int) Ex} (h : ParseOut s r) (hl : s.length ≤ 4096) {x : Nat × Int} (hn : nextF s ⟨0, [], 0, 0⟩ = .error x) : r = .error x := by
  cases h with
  | big h => omega
  | bad h hn' => rw [hn] at hn'; injection hn' with hn'; rw [hn']
  | none h hn' h2 => rw [hn] at hn'; cases hn'
  | err h hn' h2 h3 => rw [hn] at hn'; cases hn'
  | left h hn' h2 h3 h4 => rw [hn] at hn'; cases hn'
  | good h hn' h2 h3 h4 => rw [hn] at hn'; cases hn'
def tx1 : List UInt8 := [120, 61, 121, 43, 61, 50]
def ex1 : Ex := .mk [61] 0 [120] (.cons (.mk [43, 61] 0 [121] (.cons (.mk numO 2 [] .nil) .nil)) .nil)
def tx2 : List UInt8 := [48, 124, 124, 120, 61, 49]
def tx3 : List UInt8 := [48, 56]
def tx4 : List UInt8 := [97, 63, 45, 98, 58, 51]
def ex4 : Ex := .mk [63] 0 [] (.cons (.mk nameO 0 [97] .nil) (.cons (.mk [110, 101, 103] 0 [] (.cons (.mk nameO 0 [98] .nil) .nil)) (.cons (.mk numO 3 [] .nil) .nil)))
theorem parse1 {r : Except (Nat × Int) Ex} (h : ParseOut tx1 r) : r = .ok ex1 :=
  h.at_ok (by decide) 100 (t := ⟨0, [120], 0, 2⟩) (t' := ⟨6, [], 0, 0⟩) (by rfl) (by decide) (by kernel_rfl) rfl
theorem parse2 {r : Except (Nat × Int) Ex} (h : ParseOut tx2 r) : r = .error (4, 25) :=
  h.at_bad (by decide) 100 (t := ⟨0, [48], 0, 1⟩) (by rfl) (by decide) (by kernel_rfl)
theorem parse3 {r : Except (Nat × Int) Ex} (h : ParseOut tx3 r) : r = .error (0, 23) := h.at_next (by decide) (by rfl)
theorem parse4 {r : Except (Nat × Int) Ex} (h : ParseOut tx4 r) : r = .ok ex4 :=
  h.at_ok (by decide) 100 (t := ⟨0, [97], 0, 2⟩) (t' := ⟨6, [], 0, 0⟩) (by rfl) (by decide) (by kernel_rfl) rfl
theorem itoa_dig (k : Nat) (h : k < 10) : Lib.itoa (k : Int) = [UInt8.ofNat (48 + k)] := by rw [itoa_pos, dec1 k h]
theorem itoa7 : Lib.itoa 7 = [55] := itoa_dig 7 (by decide)
theorem itoa3 : Lib.itoa 3 = [51] := itoa_dig 3 (by decide)
def tab1 : Tab := [([121], [53], false)]
def tab2 : Tab := [([121], [55], false), ([120], [55], false)]
theorem val1 : valF ex1 tab1 = (.ok 7, tab2) := by
  have h2 : valF (.mk [43, 61] 0 [121] (.cons (.mk numO 2 [] .nil) .nil)) tab1 = (.ok 7, [([121], [55], false)]) := by
    show setV [43, 61] [121] (valF (.mk numO 2 [] .nil)) tab1 = _
    unfold setV
    rw [if_neg (by decide), show nameV tab1 [121] = .ok 5 by kernel_rfl]
    show thenV (valF (.mk numO 2 [] .nil) tab1) (fun b T1 => match twoV [43] 5 b with | .error e => (.error e, T1) | .ok n => storeV [121] n T1) = _
    rw [show valF (.mk numO 2 [] .nil) tab1 = (.ok 2, tab1) from rfl, thenV_ok, show twoV [43] 5 2 = .ok 7 by kernel_rfl]
    show storeV [121] 7 tab1 = _
    unfold storeV; rw [itoa7]; rfl
  show setV [61] [120] (valF (.mk [43, 61] 0 [121] (.cons (.mk numO 2 [] .nil) .nil))) tab1 = _
  unfold setV
  rw [if_pos rfl, h2]
  show storeV [120] 7 [([121], [55], false)] = _
  unfold storeV; rw [itoa7]; rfl
theorem show4 : showF ex4 = [40, 97, 63, 40, 45, 98, 41, 58, 51, 41] := by
  show [40] ++ [97] ++ [63] ++ ([40, 45] ++ [98] ++ [41]) ++ [58] ++ Lib.itoa 3 ++ [41] = _
  rw [itoa3]; rfl
theorem out4 : showOut ex4 = ([40, 97, 63, 40, 45, 98, 41, 58, 51, 41], 0) := by
  unfold showOut
  rw [if_neg (by decide), if_neg (by decide), show4, if_neg (by decide)]
end Go.Proofs.YtadmmmehphhecaaDoor
/- The walk of awake. The library's variables hold what is laid. -/
namespace Go.Proofs.YtadmmmehphhecaaDoor
open Go.RowKit
theorem RdX.free {w : World} {g H : Nat} {u : Value} {e : Ex} {v : Value} (h : RdX w (fun b => H ≤ b) e v) (hg : g < H) (hu : ∀ b, u.ownBlock = some b → b < H) : RdX w (Free w g u) e v :=
  RdX.keep (fun b off x hp hx => ⟨⟨by omega, fun he => by have := hu b he.symm; omega, World.block_lt_of_cell? w _ hx⟩, hx⟩) e v h
theorem TStep.belowOf {g B0 : Nat} {w w' : World} {u u' : Value} (h : TStep g w u w' u') (hg : B0 ≤ g) (hu : ∀ b, u.ownBlock = some b → B0 ≤ b) (hB : B0 ≤ w.heap.size) : Below B0 w w' :=
  ⟨h.os, h.tape, h.output, h.size, fun k hk => h.block k ⟨by omega, fun he => by have := hu k he.symm; omega, by omega⟩⟩
theorem below_of_none {w w' : World} (h : w.grownBy w' none) : Below w.heap.size w w' := ⟨h.os, h.tape, h.output, h.size, fun k hk => h.block k hk (by simp)⟩
theorem TabAt.own_ge {w : World} {B g : Nat} {T : Tab} {u : Value} (h : TabAt w B g T u) : ∀ b, u.ownBlock = some b → B ≤ b := by
  intro b hb
  rcases h.2.1.2 with ⟨rfl, _⟩ | ⟨g', cap, cur, rfl, hge, _⟩
  · simp [Value.ownBlock] at hb
  · have : g' = b := by simpa [Value.ownBlock] using hb
    omega
theorem short1 : Short tab1 := by intro p hp; simp [tab1] at hp; subst hp; decide
theorem short2 : Short tab2 := by intro p hp; simp [tab2] at hp; rcases hp with rfl | rfl <;> decide
theorem value1 : valueF ex1 tab1 = (7, 0, tab2) := by
  unfold valueF
  rw [if_neg (by decide), val1]
theorem get2 : getF tab2 [120] = ([55], true) := by decide
/-- a row of pairs and a table, new -/
theorem tab_new (w : World) (T : Tab) (cs : Array Value) (h : cs.toList = tabC T) (hl : T.length ≤ 1000) :
    TabAt ((w.alloc (.cells cs TPr)).alloc (.cells #[.slice (some ⟨w.heap.size, 0, none⟩) T.length T.length] TT)) w.heap.size (w.heap.size + 1) T (.slice (some ⟨w.heap.size, 0, none⟩) T.length T.length) := by
  have hc := tabC_len T
  refine ⟨by have := Bk.new (w.alloc (.cells cs TPr)) TT #[.slice (some ⟨w.heap.size, 0, none⟩) T.length T.length]; simpa using this, ⟨tabC_len T, .inr ⟨w.heap.size, T.length, cs, rfl, Nat.le_refl _, (Bk.new w TPr cs).alloc _, Nat.le_refl _, by unfold maxLen; omega, ?_, ?_⟩⟩, by simp; omega⟩
  · rw [← hc, ← h]; simp
  · rw [h, ← hc, List.take_length]
set_option maxRecDepth 100000 in
set_option maxHeartbeats 4000000 in
theorem awake_any (w : World) (hL : Laid w) (hG : GBig w.heap.size) : Calls Tryd.prog 7 #[] w fun e w' => e = .returned (.bool true) ∧ Below w.heap.size w w' := by
  have hwx : GBig w.heap.size := hG
  have HL := hid hL
  have HG := hid hG
  clear hL hG hwx
  have hT1 := tab_new w tab1 #[.string ⟨#[121]⟩, .string ⟨#[53]⟩, .bool false] rfl (by decide)
  have hb1 : Below w.heap.size w ((w.alloc (.cells #[.string ⟨#[121]⟩, .string ⟨#[53]⟩, .bool false] TPr)).alloc (.cells #[.slice (some ⟨w.heap.size, 0, none⟩) 1 1] TT)) := ((Below.refl _ _).alloc (Nat.le_refl _) _).alloc (by simp) _
  go_enter Tryd.func7, Tryd.ntmps7
  go_wp2_with fail
  obtain ⟨W1, hW1⟩ : ∃ W1, W1 = (w.alloc (.cells #[.string ⟨#[121]⟩, .string ⟨#[53]⟩, .bool false] TPr)).alloc (.cells #[.slice (some ⟨w.heap.size, 0, none⟩) 1 1] TT) := ⟨_, rfl⟩
  rw [← hW1] at hb1
  rw [← hW1]
  have hT1 : TabAt W1 w.heap.size (w.heap.size + 1) tab1 (.slice (some ⟨w.heap.size, 0, none⟩) 1 1) := by rw [hW1]; exact hT1
  clear hW1
  have hs1 := hb1.size
  have HB1 := hid hb1
  have HT1 := hid hT1
  ((with_reducible refine (parse_any ⟨#[120, 61, 121, 43, 61, 50]⟩ _ (HL.out.below hb1) (by have := HG.out; unfold GBig at *; omega)).mono ?_); rintro e1 w2 ⟨r, hpo, hg2, hres⟩)
  obtain rfl := parse1 hpo
  obtain ⟨v, rfl, hx⟩ := hres
  obtain ⟨A1, cap1, rfl, _, _⟩ := hx.form
  dsimp only [ex1, Ex.op, Ex.num, Ex.name, Ex.kids, Exs.len, Nat.zero_add] at *
  have HP2 := hid (below_of_none hg2)
  clear hg2 hpo
  have HX2 := hid hx
  have hg1 : w.heap.size + 1 < W1.heap.size := hT1.1.lt
  have hBa : Below W1.heap.size W1 (w2.alloc (.cells #[.string ⟨#[61]⟩, .int .i64 0, .string ⟨#[120]⟩, .slice A1 1 cap1] 24)) := HP2.out.alloc HP2.out.size _
  have hVI : VIn (w2.alloc (.cells #[.string ⟨#[61]⟩, .int .i64 0, .string ⟨#[120]⟩, .slice A1 1 cap1] 24)) (w.heap.size + 1) w.heap.size tab1 (.slice (some ⟨w.heap.size, 0, none⟩) 1 1) := ⟨HT1.out.below hBa, (HL.out.below HB1.out).below hBa, HG.out, by have := HG.out; unfold GBig at *; omega, short1⟩
  have HVI := hid hVI
  have HXV := hid ((hx.alloc_ (.cells #[.string ⟨#[61]⟩, .int .i64 0, .string ⟨#[120]⟩, .slice A1 1 cap1] 24)).free hg1 (fun b hb => HT1.out.own_lt b hb))
  have HBA := hid hBa
  clear hVI hx hT1 hb1 hBa
  go_wp2_with fail
  ((with_reducible refine (value_any ex1 _ (w.heap.size + 1) w.heap.size tab1 _ _ HXV.out HVI.out (by decide) (deep_any 200 (by decide) ex1 (by decide)) (val_any ex1 (by decide))).mono ?_); rintro e2 w3 ⟨u3, hst, htab, rfl⟩)
  rw [value1] at htab ⊢
  dsimp only at htab ⊢
  have hbb := hst.belowOf (B0 := w.heap.size) (by omega) (fun b hb => HVI.out.tab.own_ge b hb) HVI.out.tab.2.2
  have HV3 := hid (HVI.out.step hst htab short2)
  have HB3 := hid ((HB1.out.trans (HBA.out.mono HB1.out.size)).trans hbb)
  have HT3 := hid htab
  clear hst htab hbb
  go_wp2_with fail
  ((with_reducible refine (Get_any tab2 [120] (w.heap.size + 1) w.heap.size u3 _ HT3.out (by decide)).mono ?_); rintro e3 w4 ⟨rfl, hb4⟩)
  rw [get2]
  dsimp only
  have HB4 := hid (bel_step HB3.out hb4)
  clear hb4
  go_wp2_with fail
  ((with_reducible refine (parse_any ⟨#[48, 124, 124, 120, 61, 49]⟩ _ (HL.out.below HB4.out) (by have := HG.out; have := HB4.out.size; unfold GBig at *; omega)).mono ?_); rintro e5 w5 ⟨r, hpo, hg2, hres⟩)
  obtain rfl := parse2 hpo
  dsimp only at hres
  subst hres
  have HB5 := hid ((bel_step HB4.out (below_of_none hg2)).alloc (bel_step HB4.out (below_of_none hg2)).size (.cells #[.string ⟨#[]⟩, .int .i64 0, .string ⟨#[]⟩, .slice none 0 0] 24))
  clear hg2 hpo
  go_wp2_with fail
  ((with_reducible refine (parse_any ⟨#[48, 56]⟩ _ (HL.out.below HB5.out) (by have := HG.out; have := HB5.out.size; unfold GBig at *; omega)).mono ?_); rintro e5 w6 ⟨r, hpo, hg2, hres⟩)
  obtain rfl := parse3 hpo
  dsimp only at hres
  subst hres
  have HB6 := hid ((bel_step HB5.out (below_of_none hg2)).alloc (bel_step HB5.out (below_of_none hg2)).size (.cells #[.string ⟨#[]⟩, .int .i64 0, .string ⟨#[]⟩, .slice none 0 0] 24))
  clear hg2 hpo
  go_wp2_with fail
  ((with_reducible refine (parse_any ⟨#[97, 63, 45, 98, 58, 51]⟩ _ (HL.out.below HB6.out) (by have := HG.out; have := HB6.out.size; unfold GBig at *; omega)).mono ?_); rintro e7 w7 ⟨r, hpo, hg2, hres⟩)
  obtain rfl := parse4 hpo
  obtain ⟨v, rfl, hx⟩ := hres
  obtain ⟨A4, cap4, rfl, _, _⟩ := hx.form
  dsimp only [ex4, Ex.op, Ex.num, Ex.name, Ex.kids, Exs.len, Nat.zero_add, Nat.reduceAdd] at *
  have HB7 := hid ((bel_step HB6.out (below_of_none hg2)).alloc (bel_step HB6.out (below_of_none hg2)).size (.cells #[.string ⟨#[63]⟩, .int .i64 0, .string ⟨#[]⟩, .slice A4 3 cap4] 24))
  have HX7 := hid (hx.alloc_ (.cells #[.string ⟨#[63]⟩, .int .i64 0, .string ⟨#[]⟩, .slice A4 3 cap4] 24))
  clear hg2 hpo hx
  go_wp2_with fail
  ((with_reducible refine (Show_any ex4 _ _ _ HX7.out (by decide) (by decide) (HL.out.below HB7.out)).mono ?_); rintro e8 w8 ⟨rfl, hb8⟩)
  rw [out4]
  dsimp only
  have HB8 := hid (bel_step HB7.out hb8)
  clear hb8
  go_wp2_with fail
  go_ret
  exact ⟨rfl, HB8.out⟩
end Go.Proofs.YtadmmmehphhecaaDoor
/- Plain: which expressions are few; what follows from it. No program in sight. -/
namespace Go.Proofs.YtadmmmehphhecaaDoor
open Go.RowKit
mutual
/-- numbers of 64 bits -/
def numsF : Ex → Bool
  | .mk _ n _ k => decide (-9223372036854775808 ≤ n) && decide (n ≤ 9223372036854775807) && numsL k
def numsL : Exs → Bool
  | .nil => true
  | .cons e r => numsF e && numsL r
end
mutual
/-- no row is longer than what a machine reaches -/
def wideF : Ex → Bool
  | .mk _ _ _ k => decide (k.len ≤ 140737488355328) && wideL k
def wideL : Exs → Bool
  | .nil => true
  | .cons e r => wideF e && wideL r
end
mutual
/-- the harness's few -/
def fewF : Ex → Bool
  | .mk _ _ nm k => decide (wrap64 ((szL k + 1 : Nat) : Int) ≤ 600) && decide (nm.length ≤ 100) && fewL k
def fewL : Exs → Bool
  | .nil => true
  | .cons e r => fewF e && fewL r
end
theorem fewL_all : ∀ l : Exs, fewL l = l.toL.all fewF
  | .nil => rfl
  | .cons e r => by simp [fewL, Exs.toL, fewL_all r]
theorem fewF_eq (e : Ex) : fewF e = (decide (wrap64 (szF e : Int) ≤ 600) && decide (e.name.length ≤ 100) && e.kids.toL.all fewF) := by
  cases e; simp only [fewF, fewL_all, szF]; rfl
theorem wide_len {e : Ex} (h : wideF e = true) : e.kids.len ≤ 140737488355328 := by
  cases e; simp only [wideF, Bool.and_eq_true, decide_eq_true_eq] at h; exact h.1
theorem wideL_at : ∀ (l : Exs) (k : Nat) (h : k < l.toL.length), wideL l = true → wideF l.toL[k] = true
  | .nil, k, h, _ => by simp [Exs.toL] at h
  | .cons e r, 0, h, ho => by simp only [wideL, Bool.and_eq_true] at ho; exact ho.1
  | .cons e r, k + 1, h, ho => by
    simp only [wideL, Bool.and_eq_true] at ho
    exact wideL_at r k (by simpa [Exs.toL] using h) ho.2
theorem wide_at {e : Ex} (h : wideF e = true) (k : Nat) (hk : k < e.kids.toL.length) : wideF e.kids.toL[k] = true := by
  apply wideL_at
  cases e; simp only [wideF, Bool.and_eq_true] at h; exact h.2
theorem wrap_small (n : Nat) (h : n < 9223372036854775808) : wrap64 (n : Int) = (n : Int) := by unfold wrap64; omega
mutual
theorem few_sz : ∀ e : Ex, wideF e = true → fewF e = true → szF e ≤ 600
  | .mk op n nm k, hw, hf => by
    simp only [wideF, Bool.and_eq_true, decide_eq_true_eq] at hw
    simp only [fewF, Bool.and_eq_true, decide_eq_true_eq] at hf
    have h1 := few_szL k hw.2 hf.2
    have h2 := hf.1.1
    have h3 : szL k ≤ 600 * 140737488355328 := Nat.le_trans h1 (Nat.mul_le_mul (Nat.le_refl _) hw.1)
    rw [wrap_small _ (by omega)] at h2
    simp only [szF]; omega
theorem few_szL : ∀ l : Exs, wideL l = true → fewL l = true → szL l ≤ 600 * l.len
  | .nil, _, _ => by simp [szL]
  | .cons e r, hw, hf => by
    simp only [wideL, Bool.and_eq_true] at hw
    simp only [fewL, Bool.and_eq_true] at hf
    have h1 := few_sz e hw.1 hf.1
    have h2 := few_szL r hw.2 hf.2
    simp only [szL, Exs.len]; omega
end
mutual
theorem few_ok : ∀ e : Ex, numsF e = true → fewF e = true → okF e = true
  | .mk op n nm k, hw, hf => by
    simp only [numsF, Bool.and_eq_true, decide_eq_true_eq] at hw
    simp only [fewF, Bool.and_eq_true, decide_eq_true_eq] at hf
    have := few_okL k hw.2 hf.2
    simp only [okF, Bool.and_eq_true, decide_eq_true_eq]
    exact ⟨⟨⟨hw.1.1, hw.1.2⟩, by omega⟩, this⟩
theorem few_okL : ∀ l : Exs, numsL l = true → fewL l = true → okL l = true
  | .nil, _, _ => rfl
  | .cons e r, hw, hf => by
    simp only [numsL, Bool.and_eq_true] at hw
    simp only [fewL, Bool.and_eq_true] at hf
    simp only [okL, Bool.and_eq_true]
    exact ⟨few_ok e hw.1 hf.1, few_okL r hw.2 hf.2⟩
end
/-- sizes, up to an index -/
def szT (l : Exs) (k : Nat) : Nat := ((l.toL.take k).map szF).sum
theorem szT_zero (l : Exs) : szT l 0 = 0 := by simp [szT]
theorem szT_step (l : Exs) (k : Nat) (h : k < l.toL.length) : szT l (k + 1) = szT l k + szF l.toL[k] := by
  unfold szT
  rw [List.take_add_one, List.getElem?_eq_getElem h]
  simp only [Option.toList, List.map_append, List.map_cons, List.map_nil, List.sum_append, List.sum_cons, List.sum_nil, Nat.add_zero]
theorem szT_all : ∀ l : Exs, (l.toL.map szF).sum = szL l
  | .nil => by simp [Exs.toL, szL]
  | .cons e r => by simp [Exs.toL, szL, szT_all r]
theorem szT_end (l : Exs) : szT l l.len = szL l := by unfold szT; rw [← Exs.toL_len, List.take_length]; exact szT_all l
theorem wrap_add (a b : Nat) : wrap64 (wrap64 (a : Int) + wrap64 (b : Int)) = wrap64 ((a + b : Nat) : Int) := by unfold wrap64; omega
/-- how deep, for the reference: no more than the size -/
theorem rdeep_le : ∀ e : Ex, rdeepF e ≤ szF e := by
  have key : ∀ n, (∀ e, szF e ≤ n → rdeepF e ≤ szF e) := by
    intro n
    induction n with
    | zero => intro e h; have := szF_pos e; omega
    | succ n ih =>
      intro e h
      have hl : ∀ l : Exs, szL l ≤ n → rdeepL l ≤ szL l := by
        intro l
        match l with
        | .nil => intro _; simp [rdeepL, szL]
        | .cons e r =>
          intro hl
          simp only [szL] at hl
          simp only [rdeepL, szL]
          have h1 := ih e (by omega)
          have h2 : ∀ r : Exs, szL r ≤ n → rdeepL r ≤ szL r := by
            intro r
            induction hr : r.len generalizing r with
            | zero => intro _; cases r with
              | nil => simp [rdeepL]
              | cons a b => simp [Exs.len] at hr
            | succ m ihm => intro hs; cases r with
              | nil => simp [rdeepL]
              | cons a b =>
                simp only [szL] at hs
                have := ih a (by omega)
                have := ihm b (by simp [Exs.len] at hr; omega) (by omega)
                simp only [rdeepL, szL]; omega
          have := h2 r (by omega)
          omega
      cases e with
      | mk op nn nm k =>
        simp only [szF] at h
        have := hl k (by omega)
        simp only [rdeepF, szF]; omega
  intro e
  exact key _ e (Nat.le_refl _)
end Go.Proofs.YtadmmmehphhecaaDoor
/- The walks of the harness's size and few. Rows no longer than what a machine reaches. -/
namespace Go.Proofs.YtadmmmehphhecaaDoor
open Go.RowKit
def SizeC (e : Ex) : Prop := ∀ (w : World) (P : Nat → Prop) (v : Value), RdX w P e v → Calls Tryd.prog 17 #[v] w fun x w' => x = .returned (.int .i64 (wrap64 (szF e : Int))) ∧ Below w.heap.size w w'
theorem SizeC.call {e : Ex} (h : SizeC e) (w : World) (P : Nat → Prop) (v : Value) (hr : RdX w P e v) : Calls Tryd.prog 17 #[v] w fun x w' => x = .returned (.int .i64 (wrap64 (szF e : Int))) ∧ Below w.heap.size w w' := h w P v hr
set_option maxRecDepth 100000 in
set_option maxHeartbeats 2000000 in
theorem size_step (e : Ex) (hn : e.kids.len ≤ 140737488355328) (hk : ∀ k (h : k < e.kids.toL.length), SizeC e.kids.toL[k]) : SizeC e := by
  intro w P v hr
  obtain ⟨A, cap, rfl, hcap, hkids⟩ := hr.form
  have HKI := hid hkids
  have HK := hid hk
  clear hk hkids hr
  go_enter Tryd.func17, Tryd.ntmps17
  go_wp2_with fail
  obtain ⟨W0, hW0⟩ : ∃ W0, W0 = w.alloc (.cells #[.string ⟨e.op.toArray⟩, .int .i64 e.num, .string ⟨e.name.toArray⟩, .slice A e.kids.len cap] 24) := ⟨_, rfl⟩
  have kB := Bk.new w 24 #[.string ⟨e.op.toArray⟩, .int .i64 e.num, .string ⟨e.name.toArray⟩, .slice A e.kids.len cap]
  have HW0 := hid (show Below w.heap.size w W0 by rw [hW0]; exact (Below.refl _ _).alloc (Nat.le_refl _) _)
  rw [← hW0] at kB
  rw [← hW0]
  clear hW0
  have KB := hid kB
  clear kB

  go_loopw [3, 4] (fun v2 v5 wr => ∃ k : Nat, k ≤ e.kids.len ∧ v5 = .int .i64 k ∧ v2 = .int .i64 (wrap64 ((1 + szT e.kids k : Nat) : Int)) ∧ Hid (Below W0.heap.size W0 wr)) (fun v2 v5 _ => e.kids.len - (intOf v5).toNat)
  case atStart => exact ⟨0, Nat.zero_le _, rfl, congrArg (Value.int .i64) (by rw [szT_zero]; unfold wrap64; omega), hid (Below.refl _ _)⟩
  case round =>
    obtain ⟨k, hk, rfl, rfl, HB⟩ := hrel
    obtain ⟨c0, c1, c2, c3⟩ := KB.out.cells4
    have c3 := bel_cell HB.out c3
    by_cases hlt : k < e.kids.len
    · have hkl : k < e.kids.toL.length := by rw [Exs.toL_len]; exact hlt
      obtain ⟨b, off, rfl⟩ := HKI.out.form_ (by omega)
      have HBB := hid (HW0.out.trans (HB.out.mono HW0.out.size))
      obtain ⟨A2, cap2, _, q0, q1, q2, q3, hx⟩ := RdL.kid e.kids b off k hkl HKI.out
      have q0 := bel_cell HBB.out q0
      have q1 := bel_cell HBB.out q1
      have q2 := bel_cell HBB.out q2
      have q3 := bel_cell HBB.out q3
      have HX := hid (hx.below HBB.out)
      have HST := hid (szT_step e.kids k hkl)
      clear hx
      go_wp2_with fail
      ((with_reducible refine ((HK.out k hkl).call _ P _ HX.out).mono ?_); rintro e1 w1 ⟨rfl, hb1⟩)
      have HB1 := hid (HB.out.trans (hb1.mono HB.out.size))
      go_wp2_with fail
      go_round
      case rel => exact ⟨k + 1, by omega, rfl, congrArg (Value.int .i64) (by rw [HST.out]; unfold wrap64; omega), HB1⟩
      case measure => simp [intOf]; omega
    · go_wp2_with fail
      go_ret
      refine ⟨ret_int ?_, HW0.out.trans (HB.out.mono HW0.out.size)⟩
      rw [show k = e.kids.len by omega, szT_end]
      have h9 := szF_kids e
      congr 1; omega
theorem size_any : ∀ e : Ex, wideF e = true → SizeC e := by
  intro e
  induction e using Ex.ind with
  | h e ih => exact fun hw => size_step e (wide_len hw) (fun k hk => ih k hk (wide_at hw k hk))
def FewC (e : Ex) : Prop := ∀ (w : World) (P : Nat → Prop) (v : Value), RdX w P e v → Calls Tryd.prog 6 #[v] w fun x w' => x = .returned (.bool (fewF e)) ∧ Below w.heap.size w w'
theorem FewC.call {e : Ex} (h : FewC e) (w : World) (P : Nat → Prop) (v : Value) (hr : RdX w P e v) : Calls Tryd.prog 6 #[v] w fun x w' => x = .returned (.bool (fewF e)) ∧ Below w.heap.size w w' := h w P v hr
set_option maxRecDepth 100000 in
set_option maxHeartbeats 2000000 in
theorem few_step (e : Ex) (hn : e.kids.len ≤ 140737488355328) (hs : SizeC e) (hk : ∀ k (h : k < e.kids.toL.length), FewC e.kids.toL[k]) : FewC e := by
  intro w P v hr
  obtain ⟨m, hm⟩ : ∃ m, m = wrap64 (szF e : Int) := ⟨_, rfl⟩
  have hE := fewF_eq e
  have hs2 : ∀ (w : World) (P : Nat → Prop) (v : Value), RdX w P e v → Calls Tryd.prog 17 #[v] w fun x w' => x = .returned (.int .i64 m) ∧ Below w.heap.size w w' := by rw [hm]; exact hs
  rw [← hm] at hE
  have HE := hid hE
  have HXE := hid hr
  have HS := hid hs2
  clear hE hs2 hm
  obtain ⟨A, cap, rfl, hcap, hkids⟩ := hr.form
  have HKI := hid hkids
  have HK := hid hk
  clear hk hkids hr hs
  have kB := Bk.new w 24 #[.string ⟨e.op.toArray⟩, .int .i64 e.num, .string ⟨e.name.toArray⟩, .slice A e.kids.len cap]
  have hB0 : Below w.heap.size w (w.alloc (.cells #[.string ⟨e.op.toArray⟩, .int .i64 e.num, .string ⟨e.name.toArray⟩, .slice A e.kids.len cap] 24)) := (Below.refl _ _).alloc (Nat.le_refl _) _
  go_enter Tryd.func6, Tryd.ntmps6
  go_wp2_with fail
  obtain ⟨W0, hW0⟩ : ∃ W0, W0 = w.alloc (.cells #[.string ⟨e.op.toArray⟩, .int .i64 e.num, .string ⟨e.name.toArray⟩, .slice A e.kids.len cap] 24) := ⟨_, rfl⟩
  rw [← hW0] at kB hB0
  try rw [← hW0]
  clear hW0
  have KB := hid kB
  have HB0 := hid hB0
  obtain ⟨c0, c1, c2, c3⟩ := kB.cells4
  clear kB hB0
  ((with_reducible refine (HS.out _ P _ (HXE.out.below HB0.out)).mono ?_); rintro e1 w1 ⟨rfl, hb1⟩)
  have c0 := bel_cell hb1 c0
  have c1 := bel_cell hb1 c1
  have c2 := bel_cell hb1 c2
  have c3 := bel_cell hb1 c3
  have HB1 := hid (HB0.out.trans (hb1.mono HB0.out.size))
  clear hb1
  by_cases hsz : 600 < m
  · have HF : Hid (fewF e = false) := hid (by rw [HE.out, decide_eq_false (p := m ≤ 600) (by omega)]; simp)
    go_wp2_with fail
    go_ret
    exact ⟨ret_bool HF.out.symm, HB1.out⟩
  by_cases hnl : 100 < e.name.length
  · have hnli : (100 : Int) < (e.name.length : Int) := by omega
    have HF : Hid (fewF e = false) := hid (by rw [HE.out, decide_eq_false (p := e.name.length ≤ 100) (by omega)]; simp)
    go_wp2_with fail
    go_ret
    exact ⟨ret_bool HF.out.symm, HB1.out⟩
  have hnli : ¬ (100 : Int) < (e.name.length : Int) := by omega
  have HE : Hid (fewF e = e.kids.toL.all fewF) := hid (by rw [HE.out, decide_eq_true (p := m ≤ 600) (by omega), decide_eq_true (p := e.name.length ≤ 100) (by omega)]; simp)
  have hcc : ∀ w2, Below w1.heap.size w1 w2 → w2.cell? ⟨w.heap.size, 3, none⟩ = some (.slice A e.kids.len cap) := fun w2 h => bel_cell h c3
  have HC := hid hcc
  clear hcc
  go_wp2_with fail
  clear c0 c1 c2 c3
  go_loopw [3] (fun v12 wr => ∃ k : Nat, k ≤ e.kids.len ∧ v12 = .int .i64 k ∧ Hid (∀ j (hj : j < e.kids.toL.length), j < k → fewF e.kids.toL[j] = true) ∧ Hid (Below w1.heap.size w1 wr)) (fun v12 _ => e.kids.len - (intOf v12).toNat)
  case atStart => exact ⟨0, Nat.zero_le _, rfl, hid (fun j hj h => by omega), hid (Below.refl _ _)⟩
  case round =>
    obtain ⟨k, hk, rfl, HA, HB⟩ := hrel
    have c3 := HC.out _ HB.out
    have HBB := hid (HB1.out.trans (HB.out.mono HB1.out.size))
    by_cases hlt : k < e.kids.len
    · have hkl : k < e.kids.toL.length := by rw [Exs.toL_len]; exact hlt
      obtain ⟨b, off, rfl⟩ := HKI.out.form_ (by omega)
      obtain ⟨A2, cap2, _, q0, q1, q2, q3, hx⟩ := RdL.kid e.kids b off k hkl HKI.out
      have q0 := bel_cell HBB.out q0
      have q1 := bel_cell HBB.out q1
      have q2 := bel_cell HBB.out q2
      have q3 := bel_cell HBB.out q3
      have HX := hid (hx.below HBB.out)
      clear hx
      go_wp2_with fail
      ((with_reducible refine ((HK.out k hkl).call _ P _ HX.out).mono ?_); rintro e1 w2 ⟨rfl, hb2⟩)
      have HB2 := hid (HB.out.trans (hb2.mono HB.out.size))
      cases hf : fewF e.kids.toL[k]
      · have HF : Hid (fewF e = false) := hid (by rw [HE.out]; simp; exact ⟨_, List.getElem_mem hkl, hf⟩)
        clear hf
        go_wp2_with fail
        go_ret
        exact ⟨ret_bool HF.out.symm, HB1.out.trans (HB2.out.mono HB1.out.size)⟩
      · have HA1 : Hid (∀ j (hj : j < e.kids.toL.length), j < k + 1 → fewF e.kids.toL[j] = true) := hid (fun j hj h => by
          by_cases he : j = k
          · subst he; exact hf
          · exact HA.out j hj (by omega))
        clear hf
        go_wp2_with fail
        go_round
        case rel => exact ⟨k + 1, by omega, rfl, HA1, HB2⟩
        case measure => simp [intOf]; omega
    · have HF : Hid (fewF e = true) := hid (by
        rw [HE.out, List.all_eq_true]
        intro x hx
        obtain ⟨j, hj, rfl⟩ := List.mem_iff_getElem.1 hx
        exact HA.out j hj (by rw [Exs.toL_len] at hj; omega))
      go_wp2_with fail
      go_ret
      exact ⟨ret_bool HF.out.symm, HBB.out⟩
theorem few_any : ∀ e : Ex, wideF e = true → FewC e := by
  intro e
  induction e using Ex.ind with
  | h e ih => exact fun hw => few_step e (wide_len hw) (size_any e hw) (fun k hk => ih k hk (wide_at hw k hk))
end Go.Proofs.YtadmmmehphhecaaDoor
/- The walk of the harness's Plain. Expressions of up to a hundred thousand ops. -/
namespace Go.Proofs.YtadmmmehphhecaaDoor
open Go.RowKit
abbrev TRE : TypeId := 35
theorem info_rex : (Tryd.prog.info? 35).map (fun i => (i.zero, i.size, i.bytes)) = some (some (.agg #[.string ⟨#[]⟩, .int .i64 0, .string ⟨#[]⟩, .slice none 0 0]), 4, 64) := by kernel_rfl
def PlainC (e : Ex) : Prop := ∀ (w : World) (P : Nat → Prop) (v : Value), RdX w P e v → Calls Tryd.prog 12 #[v] w fun x w' => ∃ u, x = .returned u ∧ RdX w' (fun b => w.heap.size ≤ b) e u ∧ Below w.heap.size w w'
theorem PlainC.call {e : Ex} (h : PlainC e) (w : World) (P : Nat → Prop) (v : Value) (hr : RdX w P e v) : Calls Tryd.prog 12 #[v] w fun x w' => ∃ u, x = .returned u ∧ RdX w' (fun b => w.heap.size ≤ b) e u ∧ Below w.heap.size w w' := h w P v hr
/-- the cells of the first kids -/
def KR (w : World) (P : Nat → Prop) (l : Exs) (k : Nat) (cs : List Value) : Prop := ∀ j (h : j < l.toL.length), j < k → ∃ c0 c1 c2 c3, cs[j * 4]? = some c0 ∧ cs[j * 4 + 1]? = some c1 ∧ cs[j * 4 + 2]? = some c2 ∧ cs[j * 4 + 3]? = some c3 ∧ RdX w P l.toL[j] (.agg #[c0, c1, c2, c3])
/-- not below H, neither the struct nor its row, and there -/
def FreeH (H : Nat) (w : World) (g : Nat) (u : Value) (b : Nat) : Prop := H ≤ b ∧ Free w g u b
theorem RdX.stepH {H g : Nat} {w w' : World} {u u' : Value} {e : Ex} {v : Value} (h : RdX w (FreeH H w g u) e v) (k : TStep g w u w' u') : RdX w' (FreeH H w' g u') e v :=
  RdX.keep (fun b off x hp hx => ⟨⟨hp.1, k.free hp.2⟩, (World.cell?_of_block (w := w) (w' := w') (a := ⟨b, off, none⟩) (k.block b hp.2)).trans hx⟩) e v h
theorem KR.stepH {H g : Nat} {w w' : World} {u u' : Value} {l : Exs} {n : Nat} {cs : List Value} (h : KR w (FreeH H w g u) l n cs) (k : TStep g w u w' u') : KR w' (FreeH H w' g u') l n cs := fun j hj hjk => by
  obtain ⟨c0, c1, c2, c3, h0, h1, h2, h3, h4⟩ := h j hj hjk
  exact ⟨c0, c1, c2, c3, h0, h1, h2, h3, h4.stepH k⟩
theorem RdX.freeH {w : World} {g H N : Nat} {u : Value} {e : Ex} {v : Value} (h : RdX w (fun b => N ≤ b) e v) (hH : H ≤ N) (hg : g < N) (hu : ∀ b, u.ownBlock = some b → b < N) : RdX w (FreeH H w g u) e v :=
  RdX.keep (fun b off x hp hx => ⟨⟨by omega, by omega, fun he => by have := hu b he.symm; omega, World.block_lt_of_cell? w _ hx⟩, hx⟩) e v h
theorem own_lt {w : World} {B e size n : Nat} {u : Value} {cs : List Value} (h : w.ownsRow B e size u n cs) : ∀ b, u.ownBlock = some b → b < w.heap.size ∧ B ≤ b := by
  intro b hb
  rcases h.2 with ⟨rfl, _⟩ | ⟨g', cap, cur, rfl, hB, hh, _⟩
  · simp [Value.ownBlock] at hb
  · have : g' = b := by simpa [Value.ownBlock] using hb
    subst this
    exact ⟨Bk.lt hh, hB⟩
theorem KR.push {w : World} {P : Nat → Prop} {l : Exs} {n : Nat} {cs : List Value} (h : KR w P l n cs) (hn : n < l.toL.length) (hl : cs.length = n * 4) {c0 c1 c2 c3 : Value} (hx : RdX w P l.toL[n] (.agg #[c0, c1, c2, c3])) : KR w P l (n + 1) (cs ++ [c0, c1, c2, c3]) := fun j hj hjk => by
  by_cases he : j = n
  · subst he
    refine ⟨c0, c1, c2, c3, ?_, ?_, ?_, ?_, hx⟩
    · rw [List.getElem?_append_right (by omega), hl, Nat.sub_self]; rfl
    · rw [List.getElem?_append_right (by omega), hl, show j * 4 + 1 - j * 4 = 1 by omega]; rfl
    · rw [List.getElem?_append_right (by omega), hl, show j * 4 + 2 - j * 4 = 2 by omega]; rfl
    · rw [List.getElem?_append_right (by omega), hl, show j * 4 + 3 - j * 4 = 3 by omega]; rfl
  · obtain ⟨d0, d1, d2, d3, h0, h1, h2, h3, h4⟩ := h j hj (by omega)
    refine ⟨d0, d1, d2, d3, ?_, ?_, ?_, ?_, h4⟩
    all_goals (rw [List.getElem?_append_left (by omega)]; assumption)
/-- a row whose cells lie in a block reads as the kids from a place on -/
theorem RdL.of_at {w : World} {P : Nat → Prop} {l : Exs} {cs : List Value} {b : Nat} (hP : P b) (hat : ∀ j u, cs[j]? = some u → w.cell? ⟨b, j, none⟩ = some u) (h : KR w P l l.len cs) : ∀ (r : Exs) (k : Nat), r.toL = l.toL.drop k → RdL w P r (some ⟨b, k * 4, none⟩)
  | .nil, k, _ => by unfold RdL; trivial
  | .cons e r, k, he => by
    have hk : k < l.toL.length := by
      rcases Nat.lt_or_ge k l.toL.length with h | h
      · exact h
      · rw [List.drop_eq_nil_of_le h] at he; cases he
    rw [List.drop_eq_getElem_cons hk] at he
    simp only [Exs.toL, List.cons.injEq] at he
    obtain ⟨c0, c1, c2, c3, h0, h1, h2, h3, h4⟩ := h k hk (by rw [← Exs.toL_len]; exact hk)
    unfold RdL
    refine ⟨b, k * 4, c0, c1, c2, c3, rfl, hP, hat _ _ h0, hat _ _ h1, hat _ _ h2, hat _ _ h3, by rw [he.1]; exact h4, ?_⟩
    have := RdL.of_at hP hat h r (k + 1) he.2
    rwa [show (k + 1) * 4 = k * 4 + 4 by omega] at this
/-- a struct with a row of its own in its last field takes a further element -/
theorem row_app {TS T g B ga capn k : Nat} {w w3 : World} {o : Obj} {u : Value} {cs ds : List Value} {x0 x1 x2 : Value} (hb : Bk w g TS #[x0, x1, x2, u]) (hB : g < B) (hBw : B ≤ w.heap.size) (hown : w.ownsRow B T 4 u k cs) (hown3 : w3.ownsRow B T 4 (.slice (some ⟨ga, 0, none⟩) (k + 1) capn) (k + 1) ds)
    (hg : (w.alloc o).grownBy w3 u.ownBlock) (hat : u.ownBlock = some ga ∨ ga = w.heap.size + 1) :
    TStep g w u (w3.setCell ⟨g, 3, none⟩ (.slice (some ⟨ga, 0, none⟩) (k + 1) capn)) (.slice (some ⟨ga, 0, none⟩) (k + 1) capn) ∧ Bk (w3.setCell ⟨g, 3, none⟩ (.slice (some ⟨ga, 0, none⟩) (k + 1) capn)) g TS #[x0, x1, x2, .slice (some ⟨ga, 0, none⟩) (k + 1) capn]
      ∧ (w3.setCell ⟨g, 3, none⟩ (.slice (some ⟨ga, 0, none⟩) (k + 1) capn)).ownsRow B T 4 (.slice (some ⟨ga, 0, none⟩) (k + 1) capn) (k + 1) ds := by
  have hgl := hb.lt
  have hB0 : Below w.heap.size w (w.alloc o) := (Below.refl _ _).alloc (Nat.le_refl _) _
  have hsz := hg.size
  simp at hsz
  have hgu : some g ≠ u.ownBlock := fun e => by have := (own_lt hown g e.symm).2; omega
  have k1 := (hb.alloc o).grown hg hgu
  have hne : g ≠ ga := by
    rcases hat with he | he
    · intro e; exact hgu (by rw [e, he])
    · omega
  refine ⟨⟨hg.os, hg.tape, hg.output, by simp [World.setCell]; omega, fun c hc => ?_, fun c hc => ?_⟩, k1.set_ 3 _, hown3.kept (row := some g) (grown_setCell (w := w3) (p := ⟨g, 3, none⟩) rfl _) (by simp [Value.ownBlock]; omega)⟩
  · rw [Below.heap_setCell _ _ _ _ (by simpa using hc.1)]
    rw [hg.block c (by have := hc.2.2; simp; omega) hc.2.1]
    exact Below.heap_alloc w o c hc.2.2
  · intro e
    have e : c = ga := by simpa [Value.ownBlock] using e
    rcases hat with he | he
    · exact hc.2.1 (by rw [e, he])
    · have := hc.2.2; omega
theorem rdx_row {w : World} {B T cap : Nat} {Q : Nat → Prop} {A : Option Addr} {e : Ex} {cs : List Value} (hown : w.ownsRow B T 4 (.slice A e.kids.len cap) e.kids.len cs) (hk : KR w Q e.kids e.kids.len cs) (hQ : ∀ b, B ≤ b → Q b) : RdX w Q e (.agg #[.string ⟨e.op.toArray⟩, .int .i64 e.num, .string ⟨e.name.toArray⟩, .slice A e.kids.len cap]) := by
  obtain ⟨op, n, nm, kk⟩ := e
  dsimp only [Ex.op, Ex.num, Ex.name, Ex.kids] at *
  unfold RdX
  rcases hown.2 with ⟨h1, h2⟩ | ⟨g, cap', cur, h1, hB, _, hc, _⟩
  · injection h1 with e1 e2 e3
    have : kk = .nil := by cases kk with
      | nil => rfl
      | cons a b => simp [Exs.len] at h2
    subst this
    exact ⟨A, cap, rfl, by simp [Exs.len], by unfold RdL; trivial⟩
  · injection h1 with e1 e2 e3
    subst e1 e3
    refine ⟨_, _, rfl, hc, ?_⟩
    have := RdL.of_at (w := w) (P := Q) (hQ g hB) (fun j u hu => by have := At.of_own hown j u hu; rwa [Nat.zero_add] at this) hk kk 0 (by simp)
    rwa [Nat.zero_mul] at this
theorem TStep.belowH {g B0 : Nat} {w w' : World} {u u' : Value} (h : TStep g w u w' u') (hg : B0 ≤ g) (hu : ∀ b, u.ownBlock = some b → B0 ≤ b) (hB : B0 ≤ w.heap.size) : Below B0 w w' :=
  ⟨h.os, h.tape, h.output, h.size, fun k hk => h.block k ⟨by omega, fun he => by have := hu k he.symm; omega, by omega⟩⟩
set_option maxRecDepth 100000 in
set_option maxHeartbeats 4000000 in
theorem plain_step (e : Ex) (hn : e.kids.len ≤ 100000) (hk : ∀ k (h : k < e.kids.toL.length), PlainC e.kids.toL[k]) : PlainC e := by
  intro w P v hr
  obtain ⟨i0, hi0, hz0, hz1, hz2⟩ := info_parts info_rex
  obtain ⟨A, cap, rfl, hcap, hkids⟩ := hr.form
  have HKI := hid hkids
  have HK := hid hk
  clear hk hkids hr
  go_enter Tryd.func12, Tryd.ntmps12
  go_wp2_with fail
  obtain ⟨W1, hW1⟩ : ∃ W1, W1 = (w.alloc (.cells #[.string ⟨e.op.toArray⟩, .int .i64 e.num, .string ⟨e.name.toArray⟩, .slice A e.kids.len cap] 24)).alloc (.cells #[.string ⟨#[]⟩, .int .i64 0, .string ⟨#[]⟩, .slice none 0 0] 35) := ⟨_, rfl⟩
  obtain ⟨W0, hW0⟩ : ∃ W0, W0 = W1.alloc (.cells #[.string ⟨e.op.toArray⟩, .int .i64 e.num, .string ⟨e.name.toArray⟩, .slice none 0 0] 35) := ⟨_, rfl⟩
  have hs1 : W1.heap.size = w.heap.size + 1 + 1 := by rw [hW1]; simp
  have hs0 : W0.heap.size = w.heap.size + 1 + 1 + 1 := by rw [hW0]; simp [hs1]
  have kB : Bk W0 w.heap.size 24 #[.string ⟨e.op.toArray⟩, .int .i64 e.num, .string ⟨e.name.toArray⟩, .slice A e.kids.len cap] := by rw [hW0, hW1]; exact ((Bk.new w _ _).alloc _).alloc _
  have kG : Bk W0 (w.heap.size + 1 + 1) 35 #[.string ⟨e.op.toArray⟩, .int .i64 e.num, .string ⟨e.name.toArray⟩, .slice none 0 0] := by rw [hW0, ← hs1]; exact Bk.new W1 _ _
  have hB0 : Below w.heap.size w W0 := by rw [hW0, hW1]; exact (((Below.refl _ _).alloc (Nat.le_refl _) _).alloc (by simp) _).alloc (by simp; omega) _
  have hkz : Bk W1 (w.heap.size + 1) 35 #[.string ⟨#[]⟩, .int .i64 0, .string ⟨#[]⟩, .slice none 0 0] := by rw [hW1]; have := Bk.new (w.alloc (.cells #[.string ⟨e.op.toArray⟩, .int .i64 e.num, .string ⟨e.name.toArray⟩, .slice A e.kids.len cap] 24)) 35 #[.string ⟨#[]⟩, .int .i64 0, .string ⟨#[]⟩, .slice none 0 0]; simpa using this
  have hKZ := hW0
  rw [← hW1, ← hW0]
  clear hW0 hW1
  have kZ : Bk W0 (w.heap.size + 1) 35 #[.string ⟨#[]⟩, .int .i64 0, .string ⟨#[]⟩, .slice none 0 0] := by rw [hKZ]; exact hkz.alloc _
  have KB := hid kB
  have KG := hid kG
  have KZ := hid kZ
  clear hkz hKZ kZ
  have HB0 := hid hB0
  clear kB kG hB0
  go_loopw [4] (fun v4 wr => ∃ (k : Nat) (u : Value) (cs : List Value), k ≤ e.kids.len ∧ v4 = .int .i64 k ∧ Hid (TStep (w.heap.size + 1 + 1) W0 (.slice none 0 0) wr u) ∧ Hid (wr.ownsRow W0.heap.size 35 4 u k cs) ∧ Hid (Bk wr (w.heap.size + 1 + 1) 35 #[.string ⟨e.op.toArray⟩, .int .i64 e.num, .string ⟨e.name.toArray⟩, u]) ∧ Hid (KR wr (FreeH W0.heap.size wr (w.heap.size + 1 + 1) u) e.kids k cs)) (fun v4 _ => e.kids.len - (intOf v4).toNat)
  case atStart => exact ⟨0, _, [], Nat.zero_le _, rfl, hid (TStep.refl _ _ _), hid ⟨rfl, .inl ⟨rfl, rfl⟩⟩, KG, hid (fun j hj h => by omega)⟩
  case round =>
    obtain ⟨k, u, cs, hk, rfl, HST, HOW, HBK, HKR⟩ := hrel
    obtain ⟨A', cap', rfl⟩ := own_slice HOW.out
    have hszr := HST.out.size
    obtain ⟨p0, p1, p2, p3⟩ := KB.out.cells4
    obtain ⟨g0, g1, g2, g3⟩ := HBK.out.cells4
    have p3 := cell_step HST.out ⟨by omega, by simp [Value.ownBlock], by omega⟩ p3
    have f3 := HBK.out.free 3
    have hglt := HBK.out.lt
    clear p0 p1 p2
    by_cases hlt : k < e.kids.len
    · have hkl : k < e.kids.toL.length := by rw [Exs.toL_len]; exact hlt
      obtain ⟨b, off, rfl⟩ := HKI.out.form_ (by omega)
      obtain ⟨A2, cap2, _, q0, q1, q2, q3, hx⟩ := RdL.kid e.kids b off k hkl HKI.out
      have hbr : Below w.heap.size w wr := HB0.out.trans (HST.out.belowH (by omega) (by simp [Value.ownBlock]) HB0.out.size)
      have q0 := bel_cell hbr q0
      have q1 := bel_cell hbr q1
      have q2 := bel_cell hbr q2
      have q3 := bel_cell hbr q3
      have HX := hid (hx.below hbr)
      have HBR := hid hbr
      clear hx hbr
      go_wp2_with fail
      have HXD := hid (show RdX wr.drew P e.kids.toL[k] _ from HX.out.below (Below.refl wr.heap.size wr).drew)
      have HGN : Hid (∀ {w1 : World}, w1.ownsRow W0.heap.size 35 4 (.slice A' k cap') k cs → some (w.heap.size + 1 + 1) ≠ (Value.slice A' k cap').ownBlock) := hid (fun h he => by have := (own_lt h _ he.symm).2; omega)
      have hnews : ∀ (w1 : World) (c0 c1 c2 c3 : Value), ∀ j u, [c0, c1, c2, c3][j]? = some u → (w1.alloc (.cells #[c0, c1, c2, c3] 35)).cell? ((⟨w1.heap.size, 0, none⟩ : Addr).add j) = some u := fun w1 c0 c1 c2 c3 => World.news_of_block (cs := #[c0, c1, c2, c3]) (t := 35) (fr := (0, 0)) (heap_alloc_new w1 _)
      have HNW := hid hnews
      have h63 : k + 1 ≤ maxLen := by unfold maxLen; omega
      have hbytes : (k + 1) * 64 ≤ 140737488355328 := by omega
      have hwr0 : W0.heap.size ≤ wr.heap.size := hszr
      clear hnews
      go_region_law (first
        | (refine step_append_lies _ rfl (.tmp 20) (.tmp 27) 33 rfl W0.heap.size 35 i0 _ 4 64 Tryd.underlying33 hi0 hz0 hz1 hz2 rfl (by decide) (.slice A' k cap') k cs (by simp [Act.eval, Act.put]) HOWA.out ⟨w1.heap.size, 0, none⟩ 1 1 [.string ⟨e.kids.toL[k].op.toArray⟩, .int .i64 e.kids.toL[k].num, .string ⟨e.kids.toL[k].name.toArray⟩, .slice A1 e.kids.toL[k].kids.len cap1] (by simp [Act.eval, Act.put]) rfl (HNW.out w1 _ _ _ _) (by simp [Value.oneCell']) (by omega) h63 hbytes (by simp; omega) (w1.heap.size + 1) (by simp) ?_; intro ga capn w3 hown3 hgrow hat hlt3; have kb3 := (HBK1.out.alloc _).grown hgrow hgne; have g3 := kb3.cell 3 _ rfl; have f3 := kb3.free 3; have HOW3 := hid hown3; have HGR := hid hgrow; have HAT := hid hat; clear hown3 hgrow hat kb3)
        | (go_simp; go_at_call 12; (with_reducible refine ((HK.out k hkl).call _ P _ HXD.out).mono ?_); rintro e1 w1 ⟨u1, rfl, hx1, hb1⟩; obtain ⟨A1, cap1, rfl, hc1, _⟩ := hx1.form; have hb1 := ((Below.refl wr.heap.size wr).drew).trans hb1; have hs3 := hb1.size; have HOWA := hid (own_below (own_below HOW.out hb1) ((Below.refl _ _).alloc (Nat.le_refl _) (.cells #[.string ⟨e.kids.toL[k].op.toArray⟩, .int .i64 e.kids.toL[k].num, .string ⟨e.kids.toL[k].name.toArray⟩, .slice A1 e.kids.toL[k].kids.len cap1] 35))); have HOW1 := hid (own_below HOW.out hb1); have kb1 := HBK.out.below hb1 hglt; have HBK1 := hid kb1; have hgne := HGN.out HOW1.out; have hlt1 := kb1.lt; have hne1 := Nat.ne_of_lt hlt1; have g3 := kb1.cell 3 _ rfl; have f3 := kb1.free 3; have HRX := hid hx1; have HB1 := hid hb1; clear hx1 hb1 kb1)
        | fail)
      all_goals
        have hbw1 : W0.heap.size ≤ w1.heap.size := Nat.le_trans hwr0 hs3
        have HP := row_app HBK1.out (show w.heap.size + 1 + 1 < W0.heap.size by omega) hbw1 HOW1.out HOW3.out HGR.out HAT.out
        have HS1 := (TStep.below HB1.out : TStep (w.heap.size + 1 + 1) wr (.slice A' k cap') w1 (.slice A' k cap'))
        have HST3 := hid (HST.out.trans (HS1.trans HP.1))
        have hxf : RdX w1 (FreeH W0.heap.size w1 (w.heap.size + 1 + 1) (.slice A' k cap')) e.kids.toL[k] (.agg #[.string ⟨e.kids.toL[k].op.toArray⟩, .int .i64 e.kids.toL[k].num, .string ⟨e.kids.toL[k].name.toArray⟩, .slice A1 e.kids.toL[k].kids.len cap1]) := HRX.out.freeH hwr0 (show w.heap.size + 1 + 1 < wr.heap.size by omega) (fun b hb => (own_lt HOW.out b hb).1)
        have HKR3 := hid ((((HKR.out.stepH HS1).push hkl HOW.out.1 hxf)).stepH HP.1)
        have HBK3 := hid HP.2.1
        have HOW4 := hid HP.2.2
        clear HP HS1 hxf HKR HRX
        go_wp2_with fail
        go_round
        case rel => exact ⟨k + 1, _, _, by omega, rfl, HST3, HOW4, HBK3, HKR3⟩
        case measure => simp [intOf]; omega
    · obtain ⟨z0, z1, z2, z3⟩ := KZ.out.cells4
      have fz : Free W0 (w.heap.size + 1 + 1) (.slice none 0 0) (w.heap.size + 1) := ⟨by omega, by simp [Value.ownBlock], by omega⟩
      have z0 := cell_step HST.out fz z0
      have z1 := cell_step HST.out fz z1
      have z2 := cell_step HST.out fz z2
      have z3 := cell_step HST.out fz z3
      have KZr := hid (show Bk wr (w.heap.size + 1) 35 _ from (HST.out.block _ fz).trans KZ.out)
      have zf0 := KZr.out.free 0
      have zf1 := KZr.out.free 1
      have zf2 := KZr.out.free 2
      have zf3 := KZr.out.free 3
      clear f3 fz
      obtain rfl : k = e.kids.len := by omega
      have hbel : Below w.heap.size w wr := HB0.out.trans (HST.out.belowH (by omega) (by simp [Value.ownBlock]) HB0.out.size)
      have hrdx : RdX wr (fun b => W0.heap.size ≤ b) e (.agg #[.string ⟨e.op.toArray⟩, .int .i64 e.num, .string ⟨e.name.toArray⟩, .slice A' e.kids.len cap']) := rdx_row HOW.out (fun j hj hjk => by
        obtain ⟨c0, c1, c2, c3, h0, h1, h2, h3, h4⟩ := HKR.out j hj hjk
        exact ⟨c0, c1, c2, c3, h0, h1, h2, h3, h4.low (fun b hb => hb.1)⟩) (fun b hb => hb)
      have HF := hid (show RdX _ (fun b => w.heap.size ≤ b) e _ from (put4_rd (b := w.heap.size + 1) (.string ⟨e.op.toArray⟩) (.int .i64 e.num) (.string ⟨e.name.toArray⟩) (.slice A' e.kids.len cap') hrdx (fun b hb => by omega)).low (fun b hb => by omega))
      have HBF := hid ((((hbel.setCell (p := ⟨w.heap.size + 1, 0, none⟩) (by simp) (.string ⟨e.op.toArray⟩)).setCell (p := ⟨w.heap.size + 1, 1, none⟩) (by simp) (.int .i64 e.num)).setCell (p := ⟨w.heap.size + 1, 2, none⟩) (by simp) (.string ⟨e.name.toArray⟩)).setCell (p := ⟨w.heap.size + 1, 3, none⟩) (by simp) (.slice A' e.kids.len cap'))
      obtain ⟨y0, y1, y2, y3⟩ := (KZr.out.put4 (.string ⟨e.op.toArray⟩) (.int .i64 e.num) (.string ⟨e.name.toArray⟩) (.slice A' e.kids.len cap')).cells4
      clear hbel hrdx
      go_wp2_with fail
      refine bodyPost_ret (v := .agg #[.string ⟨e.op.toArray⟩, .int .i64 e.num, .string ⟨e.name.toArray⟩, .slice A' e.kids.len cap']) (by simp [results, Tryd.results12, go_sem, y0, y1, y2, y3]) rfl ?_
      exact ⟨_, rfl, HF.out, HBF.out⟩
theorem plain_any : ∀ e : Ex, szF e ≤ 100000 → PlainC e := by
  intro e
  induction e using Ex.ind with
  | h e ih => exact fun hs => plain_step e (by have := szF_len e; omega) (fun k hk => ih k hk (by have := szF_at e k hk; omega))
end Go.Proofs.YtadmmmehphhecaaDoor
/- Plain: the things of a shown expression. -/
namespace Go.Proofs.YtadmmmehphhecaaDoor
open Go.RowKit
/-- what may stand behind an operand, so that a name or a number ends there -/
def EndB (r : List UInt8) : Prop := ∀ c ∈ r.head?, wrdB c = false
theorem takeWhile_end {r : List UInt8} (h : EndB r) : r.takeWhile wrdB = [] := by
  cases r with
  | nil => rfl
  | cons c q => simp [h c (by simp)]
theorem wrd_of_dig {c : UInt8} (h : digB c = true) : wrdB c = true := by simp [wrdB, h]
theorem dig_of_oct {c : UInt8} (h : octB c = true) : digB c = true := by simp [octB, digB] at *; omega
theorem takeWhile_end2 {f : UInt8 → Bool} (hf : ∀ c, f c = true → wrdB c = true) {r : List UInt8} (h : EndB r) : r.takeWhile f = [] := by
  cases r with
  | nil => rfl
  | cons c q =>
    have := h c (by simp)
    have h2 : f c = false := by
      cases hc : f c with
      | false => rfl
      | true => rw [hf c hc] at this; cases this
    simp [h2]
theorem tok_name (p : Nat) (nm r : List UInt8) (hn : nameB nm = true) (hr : EndB r) : tokF p (nm ++ r) = .ok ⟨p, nm, 0, 2⟩ := by
  match nm, hn with
  | b :: q, hn =>
    simp only [nameB, Bool.and_eq_true, Bool.not_eq_true'] at hn
    obtain ⟨hd, ha⟩ := hn
    have hw : wrdB b = true := List.all_eq_true.1 ha b (by simp)
    have hl : letB b = true := by simpa [wrdB, hd] using hw
    have ht : (b :: (q ++ r)).takeWhile wrdB = b :: q := by
      rw [show b :: (q ++ r) = (b :: q) ++ r by simp, List.takeWhile_append_of_pos (fun c hc => List.all_eq_true.1 ha c hc), takeWhile_end hr]; simp
    simp only [List.cons_append, tokF, hd, hl, ht]
    simp
theorem dv_dec (k : Nat) (h : k < 10) : dv (UInt8.ofNat (48 + k)) = k ∧ digB (UInt8.ofNat (48 + k)) = true := by
  have hc : k = 0 ∨ k = 1 ∨ k = 2 ∨ k = 3 ∨ k = 4 ∨ k = 5 ∨ k = 6 ∨ k = 7 ∨ k = 8 ∨ k = 9 := by omega
  rcases hc with rfl | rfl | rfl | rfl | rfl | rfl | rfl | rfl | rfl | rfl <;> decide
theorem dec_dig (n : Nat) : ∀ c ∈ Lib.decDigits n, digB c = true := by
  induction n using Nat.strongRecOn with
  | _ n ih =>
    by_cases h : n < 10
    · rw [dec1 n h]; intro c hc; obtain rfl := List.mem_singleton.1 hc; exact (dv_dec n h).2
    · rw [dec2 n (by omega)]
      intro c hc
      rw [List.mem_append] at hc
      rcases hc with hc | hc
      · exact ih (n / 10) (by omega) c hc
      · obtain rfl := List.mem_singleton.1 hc; exact (dv_dec _ (by omega)).2
theorem dec_parse (n : Nat) (h : n < 18446744073709551616) : parseB 10 0 (Lib.decDigits n) = some n := by
  induction n using Nat.strongRecOn with
  | _ n ih =>
    by_cases h1 : n < 10
    · rw [dec1 n h1]
      simp only [parseB, (dv_dec n h1).1]
      rw [if_neg (by omega)]; simp
    · rw [dec2 n (by omega), parseB_snoc, ih (n / 10) (by omega) (by omega)]
      simp only [(dv_dec (n % 10) (by omega)).1]
      rw [if_neg (by omega)]; congr 1; omega
theorem dec_head (n : Nat) (h : 0 < n) : ∃ c q, Lib.decDigits n = c :: q ∧ c.toNat ≠ 48 := by
  induction n using Nat.strongRecOn with
  | _ n ih =>
    by_cases h1 : n < 10
    · rw [dec1 n h1]
      refine ⟨_, _, rfl, ?_⟩
      rw [UInt8.toNat_ofNat_of_lt' (by show 48 + n < 256; omega)]; omega
    · obtain ⟨c, q, hq, hc⟩ := ih (n / 10) (by omega) (by omega)
      rw [dec2 n (by omega), hq]
      exact ⟨c, _, rfl, hc⟩
theorem tok_num (p : Nat) (n : Nat) (r : List UInt8) (hn : n ≤ 9223372036854775807) (hr : EndB r) : tokF p (Lib.itoa (n : Int) ++ r) = .ok ⟨p, Lib.itoa (n : Int), (n : Int), 1⟩ := by
  rw [itoa_pos]
  have hany : ∀ l : List UInt8, l.length = (Lib.decDigits n).length → ((Lib.decDigits n ++ r)[l.length]?.any wrdB) = false := by
    intro l hl
    rw [hl, List.getElem?_append_right (Nat.le_refl _), Nat.sub_self]
    cases r with
    | nil => rfl
    | cons c q => simpa using hr c (by simp)
  by_cases h0 : n = 0
  · subst h0
    have hd : Lib.decDigits 0 = [48] := dec1 0 (by omega)
    rw [hd] at hany ⊢
    have hk : kindF (48 :: r) = 1 := by
      match r, hr with
      | [], _ => rfl
      | [b], _ => rfl
      | b :: c :: q, hr =>
        have hb := hr b (by simp)
        have hx : (b.toNat == 120 || b.toNat == 88) = false := by
          have hb2 : letB b = false := by simp [wrdB] at hb; exact hb.1
          cases hx : (b.toNat == 120 || b.toNat == 88) with
          | false => rfl
          | true => simp at hx; simp [letB] at hb2; omega
        simp only [kindF]
        rw [if_pos (by decide), if_neg (by simp [hx])]
    have hdg : digsF (48 :: r) = [48] := by
      unfold digsF
      rw [hk]
      simp only [fromF, isF]
      simp only [show ¬ (1 = 2) by omega, if_false, List.drop_zero, if_true]
      rw [List.takeWhile_cons, if_pos (by decide), takeWhile_end2 (fun c h => wrd_of_dig (dig_of_oct h)) hr]
    have he : endF (48 :: r) = 1 := by unfold endF; rw [hdg, hk]; rfl
    have hnum : numF (48 :: r) = some 0 := by unfold numF; rw [hdg, hk]; rfl
    have ha := hany [48] rfl
    simp only [List.cons_append, List.nil_append, List.length_cons, List.length_nil, Nat.zero_add] at ha
    simp only [List.cons_append, List.nil_append, tokF]
    rw [if_pos (by decide), hnum]
    simp only [he, ha]
    simp
  · obtain ⟨c, q, hq, hc⟩ := dec_head n (by omega)
    have hall := dec_dig n
    have hpar := dec_parse n (by omega)
    rw [hq] at hany hall hpar ⊢
    have hcd := hall c (by simp)
    have hk : kindF (c :: (q ++ r)) = 0 := by
      unfold kindF
      split
      · rename_i h; injection h with h1 h2; subst h1; rw [if_neg hc]
      · rename_i h; injection h with h1 h2; subst h1; rw [if_neg hc]
      · rfl
    have hdg : digsF (c :: (q ++ r)) = c :: q := by
      unfold digsF
      rw [hk]
      show ((c :: (q ++ r)).drop 0).takeWhile digB = c :: q
      rw [List.drop_zero, show c :: (q ++ r) = (c :: q) ++ r by simp, List.takeWhile_append_of_pos hall, takeWhile_end2 (fun c h => wrd_of_dig h) hr]; simp
    have he : endF (c :: (q ++ r)) = (c :: q).length := by unfold endF; rw [hdg, hk]; simp [fromF]
    have hnum : numF (c :: (q ++ r)) = some n := by unfold numF; rw [hdg, hk]; rw [if_neg (by simp)]; exact hpar
    have ha := hany (c :: q) rfl
    simp only [List.cons_append] at ha
    simp only [List.cons_append, tokF]
    rw [if_pos hcd, hnum]
    simp only [he, ha]
    rw [if_neg (by simp; omega)]
    congr 1
    rw [show c :: (q ++ r) = (c :: q) ++ r by simp, List.take_left]
/-- marks, and what may stand behind them -/
def brkM : List (List UInt8) := [[40], [41], [63], [58]]
def midM : List (List UInt8) := rowsF.flatten ++ setL ++ [[45], [43], [33], [126]]
theorem tok_brk (p : Nat) (c : UInt8) (r : List UInt8) (h : [c] ∈ brkM) : tokF p (c :: r) = .ok ⟨p, [c], 0, 0⟩ := by
  simp [brkM] at h
  rcases h with rfl | rfl | rfl | rfl
  all_goals
    simp only [tokF]
    rw [if_neg (by decide), if_neg (by decide)]
    match r with
    | [] => rfl
    | [b] => simp [markF, bigM, oneM]
    | b :: d :: q => simp [markF, bigM, oneM]
/-- what begins an operand -/
def BegB (x : UInt8) : Prop := x = 40 ∨ wrdB x = true
theorem BegB.ne {x : UInt8} (h : BegB x) : x ≠ 60 ∧ x ≠ 61 ∧ x ≠ 62 ∧ x ≠ 38 ∧ x ≠ 124 := by
  rcases h with rfl | h
  · decide
  · refine ⟨?_, ?_, ?_, ?_, ?_⟩ <;> (rintro rfl; revert h; decide)
theorem tok_mid (p : Nat) (m : List UInt8) (x : UInt8) (r : List UInt8) (hm : m ∈ midM) (hx : BegB x) : tokF p (m ++ x :: r) = .ok ⟨p, m, 0, 0⟩ := by
  obtain ⟨h1, h2, h3, h4, h5⟩ := hx.ne
  simp [midM, rowsF, setL] at hm
  rcases hm with rfl | rfl | rfl | rfl | rfl | rfl | rfl | rfl | rfl | rfl | rfl | rfl | rfl | rfl | rfl | rfl | rfl | rfl | rfl | rfl | rfl | rfl | rfl | rfl | rfl | rfl | rfl | rfl | rfl | rfl | rfl | rfl | rfl | rfl | rfl
  all_goals
    simp only [tokF, List.cons_append, List.nil_append]
    rw [if_neg (by decide), if_neg (by decide)]
    match r with
    | [] => simp [markF, bigM, oneM, h1, h2, h3, h4, h5]
    | b :: q => simp [markF, bigM, oneM, h1, h2, h3, h4, h5]
end Go.Proofs.YtadmmmehphhecaaDoor
/- Plain: a shown expression is parsed as the same, without what its ops do not have. No program in sight. -/
namespace Go.Proofs.YtadmmmehphhecaaDoor
open Go.RowKit
/-- does an op keep its name -/
def keepN (op : List UInt8) (len : Nat) : Bool := decide (op = nameO) || (decide (len = 1) && !decide (op = [110, 101, 103]) && !decide (op = [112, 111, 115]) && !decide (op = [110, 111, 116]) && !decide (op = [99, 111, 109]))
mutual
/-- an expression without what its op does not have -/
def stripF : Ex → Ex
  | .mk op n nm k => .mk op (if op = numO then n else 0) (if keepN op k.len = true then nm else []) (stripL k)
def stripL : Exs → Exs
  | .nil => .nil
  | .cons e r => .cons (stripF e) (stripL r)
end
/-- a thing begins here, no blank ahead of it -/
def Tk (s : List UInt8) (p : Nat) (t : PSt) : Prop := longN blkB (s.drop p) = 0 ∧ tokF p (s.drop p) = .ok t
section
variable {s : List UInt8} {p d : Nat}
theorem Tk.next {t u : PSt} (h : Tk s p t) (hu : u.at_ + u.text.length = p) : nextF s u = .ok t := by
  unfold nextF; rw [hu, h.1, Nat.add_zero]; exact h.2
theorem Tk.same {t u : PSt} (h : Tk s p t) (k : Tk s p u) : t = u := by
  have := h.2.symm.trans k.2; injection this
theorem at_drop {a r : List UInt8} (h : s.drop p = a ++ r) : s.drop (p + a.length) = r := by
  rw [← List.drop_drop, h, List.drop_left]
theorem long_zero {c : UInt8} (r : List UInt8) (h : blkB c = false) : longN blkB (c :: r) = 0 := by simp [longN, h]
theorem wrd_blk {c : UInt8} (h : wrdB c = true) : blkB c = false := by
  simp [wrdB, letB, digB] at h; simp [blkB]; omega
theorem BegB.blk {c : UInt8} (h : BegB c) : blkB c = false := by
  rcases h with rfl | h
  · decide
  · exact wrd_blk h
theorem tk_brk {c : UInt8} {r : List UInt8} (h : s.drop p = c :: r) (hc : [c] ∈ brkM) : Tk s p ⟨p, [c], 0, 0⟩ := by
  refine ⟨?_, by rw [h]; exact tok_brk p c r hc⟩
  rw [h]
  apply long_zero
  simp [brkM] at hc
  rcases hc with rfl | rfl | rfl | rfl <;> decide
theorem mid_blk {m : List UInt8} (hm : m ∈ midM) : ∃ c q, m = c :: q ∧ blkB c = false ∧ wrdB c = false := by
  simp [midM, rowsF, setL] at hm
  rcases hm with rfl | rfl | rfl | rfl | rfl | rfl | rfl | rfl | rfl | rfl | rfl | rfl | rfl | rfl | rfl | rfl | rfl | rfl | rfl | rfl | rfl | rfl | rfl | rfl | rfl | rfl | rfl | rfl | rfl | rfl | rfl | rfl | rfl | rfl | rfl
  all_goals exact ⟨_, _, rfl, by decide, by decide⟩
theorem tk_mid {m : List UInt8} {x : UInt8} {r : List UInt8} (h : s.drop p = m ++ x :: r) (hm : m ∈ midM) (hx : BegB x) : Tk s p ⟨p, m, 0, 0⟩ := by
  obtain ⟨c, q, rfl, hb, _⟩ := mid_blk hm
  refine ⟨?_, by rw [h]; exact tok_mid p _ x r hm hx⟩
  rw [h, List.cons_append]
  exact long_zero _ hb
theorem name_head {nm : List UInt8} (h : nameB nm = true) : ∃ c q, nm = c :: q ∧ wrdB c = true := by
  match nm, h with
  | b :: q, h =>
    simp only [nameB, Bool.and_eq_true] at h
    exact ⟨b, q, rfl, List.all_eq_true.1 h.2 b (by simp)⟩
theorem tk_name {nm r : List UInt8} (h : s.drop p = nm ++ r) (hn : nameB nm = true) (hr : EndB r) : Tk s p ⟨p, nm, 0, 2⟩ := by
  refine ⟨?_, by rw [h]; exact tok_name p nm r hn hr⟩
  obtain ⟨c, q, rfl, hc⟩ := name_head hn
  rw [h, List.cons_append]
  exact long_zero _ (wrd_blk hc)
theorem dec_ne (n : Nat) : ∃ c q, Lib.decDigits n = c :: q ∧ wrdB c = true := by
  have h1 : Lib.decDigits n ≠ [] := by
    by_cases h0 : n < 10
    · rw [dec1 n h0]; simp
    · rw [dec2 n (by omega)]; simp
  match hd : Lib.decDigits n, h1 with
  | c :: q, _ => exact ⟨c, q, rfl, wrd_of_dig (dec_dig n c (by rw [hd]; simp))⟩
theorem tk_num {n : Nat} {r : List UInt8} (h : s.drop p = Lib.itoa (n : Int) ++ r) (hn : n ≤ 9223372036854775807) (hr : EndB r) : Tk s p ⟨p, Lib.itoa (n : Int), (n : Int), 1⟩ := by
  refine ⟨?_, by rw [h]; exact tok_num p n r hn hr⟩
  obtain ⟨c, q, hq, hc⟩ := dec_ne n
  rw [h, itoa_pos, hq, List.cons_append]
  exact long_zero _ (wrd_blk hc)
theorem tk_end (h : s.drop p = []) : Tk s p ⟨p, [], 0, 0⟩ := by
  refine ⟨by rw [h]; rfl, by rw [h]; rfl⟩
/-- from an operand up to a row -/
theorem two_up {t t2 : PSt} {x : Ex} (h : Out s .one d t (.ok (x, t2))) : ∀ (i : Nat), i ≤ 10 → (∀ j, 10 - i ≤ j → j < 10 → t2.text ∉ rowsF.getD j []) → Out s (.two (10 - i)) d t (.ok (x, t2)) := by
  intro i
  induction i with
  | zero => intro _ _; exact two_one h
  | succ i ih =>
    intro hi hn
    have h1 := ih (by omega) (fun j h1 h2 => hn j (by omega) h2)
    have e : 10 - i = 10 - (i + 1) + 1 := by omega
    rw [e] at h1
    exact two_loop (by omega) h1 (loop_end (fun hh => hn (10 - (i + 1)) (Nat.le_refl _) (by omega) hh.2.2))
def NoRow (m : List UInt8) : Prop := ∀ j, j < 10 → m ∉ rowsF.getD j []
theorem two_zero {t t2 : PSt} {x : Ex} (h : Out s .one d t (.ok (x, t2))) (hn : NoRow t2.text) : Out s (.two 0) d t (.ok (x, t2)) := two_up h 10 (Nat.le_refl _) (fun j _ h2 => hn j h2)
def closeT (m : List UInt8) : Prop := m = [41] ∨ m = [58] ∨ m = []
theorem closeT.row {m : List UInt8} (h : closeT m) : NoRow m := by
  intro j hj
  rcases h with rfl | rfl | rfl <;> (revert j; decide)
theorem quest_row : NoRow [63] := by intro j hj; revert j; decide
theorem closeT.rest {m : List UInt8} (h : closeT m) : m ≠ [63] ∧ setF m = false := by rcases h with rfl | rfl | rfl <;> decide
theorem choice_up {t t2 : PSt} {x : Ex} (h : Out s (.two 0) d t (.ok (x, t2))) (hc : closeT t2.text) : Out s .choice d t (.ok (x, t2)) := choice_same h (fun hh => hc.rest.1 hh.2)
theorem whole_up {t t2 : PSt} {x : Ex} (h : Out s .choice d t (.ok (x, t2))) (hc : closeT t2.text) : Out s .whole d t (.ok (x, t2)) := whole_same h (fun hh => by have := hc.rest.2; simp [this] at hh)
theorem bracket {x : Ex} {t1 t2 : PSt} {pc : Nat} (hd : d < 40) (h1 : Tk s (p + 1) t1) (hw : Out s .whole (d + 1) t1 (.ok (x, ⟨pc, [41], 0, 0⟩))) (h2 : Tk s (pc + 1) t2) : Out s .one d ⟨p, [40], 0, 0⟩ (.ok (x, t2)) := by
  have h1' : nextF s ⟨p, [40], 0, 0⟩ = .ok t1 := h1.next rfl
  have hy : takesF s (x, (⟨pc, [41], 0, 0⟩ : PSt)).2 [41] = .ok t2 := by unfold takesF; rw [if_pos ⟨rfl, rfl⟩]; exact h2.next rfl
  exact one_in rfl rfl (by omega) h1' hw hy
end
theorem set_facts {op : List UInt8} (h : setF op = true) : op ∈ midM ∧ NoRow op ∧ op ≠ [63] ∧ op ≠ numO ∧ keepN op 1 = true ∧ op ≠ [] := by
  simp [setF, setL] at h
  rcases h with rfl | rfl | rfl | rfl | rfl | rfl | rfl | rfl | rfl | rfl | rfl
  all_goals exact ⟨by decide, by intro j hj; revert j; decide, by decide, by decide, by decide, by decide⟩
theorem lev_row {op : List UInt8} (h : 0 < levF op) : op ∈ midM ∧ (∃ i, i < 10 ∧ op ∈ rowsF.getD i [] ∧ ∀ j, j < 10 → i < j → op ∉ rowsF.getD j []) ∧ op ≠ numO ∧ op ≠ nameO ∧ op ≠ [] ∧ keepN op 2 = false := by
  have hm : op = [124, 124] ∨ op = [38, 38] ∨ op = [124] ∨ op = [94] ∨ op = [38] ∨ (op = [61, 61] ∨ op = [33, 61]) ∨ (op = [60] ∨ op = [60, 61] ∨ op = [62] ∨ op = [62, 61]) ∨ (op = [60, 60] ∨ op = [62, 62]) ∨ (op = [43] ∨ op = [45]) ∨ (op = [42] ∨ op = [47] ∨ op = [37]) := by
    unfold levF at h
    repeat' split at h
    all_goals first
      | (simp_all; done)
      | omega
  have fin : ∀ i, i < 10 → op ∈ rowsF.getD i [] → (∀ j, j < 10 → i < j → op ∉ rowsF.getD j []) → (∃ i, i < 10 ∧ op ∈ rowsF.getD i [] ∧ ∀ j, j < 10 → i < j → op ∉ rowsF.getD j []) := fun i a b c => ⟨i, a, b, c⟩
  rcases hm with rfl | rfl | rfl | rfl | rfl | (rfl | rfl) | (rfl | rfl | rfl | rfl) | (rfl | rfl) | (rfl | rfl) | (rfl | rfl | rfl)
  all_goals (refine ⟨by decide, ?_, by decide, by decide, by decide, by decide⟩)
  · exact fin 0 (by decide) (by decide) (by decide)
  · exact fin 1 (by decide) (by decide) (by decide)
  · exact fin 2 (by decide) (by decide) (by decide)
  · exact fin 3 (by decide) (by decide) (by decide)
  · exact fin 4 (by decide) (by decide) (by decide)
  · exact fin 5 (by decide) (by decide) (by decide)
  · exact fin 5 (by decide) (by decide) (by decide)
  · exact fin 6 (by decide) (by decide) (by decide)
  · exact fin 6 (by decide) (by decide) (by decide)
  · exact fin 6 (by decide) (by decide) (by decide)
  · exact fin 6 (by decide) (by decide) (by decide)
  · exact fin 7 (by decide) (by decide) (by decide)
  · exact fin 7 (by decide) (by decide) (by decide)
  · exact fin 8 (by decide) (by decide) (by decide)
  · exact fin 8 (by decide) (by decide) (by decide)
  · exact fin 9 (by decide) (by decide) (by decide)
  · exact fin 9 (by decide) (by decide) (by decide)
  · exact fin 9 (by decide) (by decide) (by decide)
end Go.Proofs.YtadmmmehphhecaaDoor
/- Plain: a shown expression is parsed as the same, without what its ops do not have: the induction. No program in sight. -/
namespace Go.Proofs.YtadmmmehphhecaaDoor
open Go.RowKit
def OneC (e : Ex) : Prop := ∀ (s : List UInt8) (p d : Nat) (r : List UInt8) (t t2 : PSt), s.drop p = showF e ++ r → EndB r → Tk s p t → Tk s (p + (showF e).length) t2 → d + 2 * (rdeepF e - 1) ≤ 40 → Out s .one d t (.ok (stripF e, t2))
theorem glue_una {op : List UInt8} (n : Int) (nm : List UInt8) (ks : List (List UInt8)) (h : op = [110, 101, 103] ∨ op = [112, 111, 115] ∨ op = [110, 111, 116] ∨ op = [99, 111, 109]) : ∃ m, [m] ∈ midM ∧ aheadF [m] = op ∧ m ≠ 40 ∧ glueF op n nm ks = [40, m] ++ ks.getD 0 [] ++ [41] := by
  rcases h with rfl | rfl | rfl | rfl
  · exact ⟨45, by decide, by decide, by decide, rfl⟩
  · exact ⟨43, by decide, by decide, by decide, rfl⟩
  · exact ⟨33, by decide, by decide, by decide, rfl⟩
  · exact ⟨126, by decide, by decide, by decide, rfl⟩
theorem una_strip {op : List UInt8} (h : op = [110, 101, 103] ∨ op = [112, 111, 115] ∨ op = [110, 111, 116] ∨ op = [99, 111, 109]) : op ≠ numO ∧ keepN op 1 = false := by rcases h with rfl | rfl | rfl | rfl <;> decide
theorem glue_set {op : List UInt8} (n : Int) (nm : List UInt8) (ks : List (List UInt8)) (h : setF op = true) : glueF op n nm ks = [40] ++ nm ++ op ++ ks.getD 0 [] ++ [41] := by
  have hs := h
  simp [setF, setL] at h
  rcases h with rfl | rfl | rfl | rfl | rfl | rfl | rfl | rfl | rfl | rfl | rfl <;> rfl
theorem glue_two {op : List UInt8} (n : Int) (nm : List UInt8) (ks : List (List UInt8)) (h : 0 < levF op) (hs : setF op = false) : glueF op n nm ks = [40] ++ ks.getD 0 [] ++ op ++ ks.getD 1 [] ++ [41] := by
  obtain ⟨_, _, h1, h2, _, _⟩ := lev_row h
  unfold glueF
  rw [if_neg h1, if_neg h2, if_neg (by rintro rfl; revert h; decide), if_neg (by rintro rfl; revert h; decide), if_neg (by rintro rfl; revert h; decide), if_neg (by rintro rfl; revert h; decide), if_neg (by rintro rfl; revert h; decide), if_neg (by rw [hs]; decide)]
/-- what a shown expression begins with -/
theorem show_beg : ∀ e : Ex, rightF e = true → okF e = true → (∃ q, showF e = 40 :: q) ∨ (∃ n : Nat, e.op = numO ∧ e.num = (n : Int) ∧ n ≤ 9223372036854775807 ∧ e.kids = .nil ∧ showF e = Lib.itoa (n : Int)) ∨ (e.op = nameO ∧ nameB e.name = true ∧ e.kids = .nil ∧ showF e = e.name)
  | .mk op n nm k, hr, ho => by
    simp only [rightF, Bool.and_eq_true] at hr
    simp only [okF, Bool.and_eq_true, decide_eq_true_eq] at ho
    have hh := hr.1
    have hl := kids_len hh
    simp only [headB, Bool.and_eq_true, Bool.not_eq_true', decide_eq_true_eq] at hh
    rcases op_kinds (headB_op hr.1) with rfl | rfl | h | rfl | h | ⟨h, h', h''⟩
    · have hk : k = .nil := by
        rw [show kidsF numO = 0 by decide] at hl
        cases k with
        | nil => rfl
        | cons a b => simp [Exs.len] at hl; omega
      subst hk
      have hn : ¬ n < 0 := by have := hh.1.2; simpa using this
      obtain ⟨j, rfl⟩ := Int.eq_ofNat_of_zero_le (show 0 ≤ n by omega)
      exact .inr (.inl ⟨j, rfl, rfl, by omega, rfl, rfl⟩)
    · have hk : k = .nil := by
        rw [show kidsF nameO = 0 by decide] at hl
        cases k with
        | nil => rfl
        | cons a b => simp [Exs.len] at hl; omega
      subst hk
      refine .inr (.inr ⟨rfl, ?_, rfl, rfl⟩)
      show nameB nm = true
      have := hh.2
      simpa [show decide (nameO = nameO) = true by decide] using this
    · obtain ⟨m, _, _, _, hg⟩ := glue_una n nm (showL k) h
      exact .inl ⟨_, by rw [showF, hg]; rfl⟩
    · exact .inl ⟨_, rfl⟩
    · exact .inl ⟨_, by rw [showF, glue_set n nm _ h]; rfl⟩
    · exact .inl ⟨_, by rw [showF, glue_two n nm _ h h']; rfl⟩
theorem show_cons (e : Ex) (hr : rightF e = true) (ho : okF e = true) : ∃ x q, showF e = x :: q ∧ BegB x := by
  rcases show_beg e hr ho with ⟨q, hq⟩ | ⟨n, _, _, _, _, hq⟩ | ⟨_, hn, _, hq⟩
  · exact ⟨_, _, hq, .inl rfl⟩
  · obtain ⟨c, q, h1, h2⟩ := dec_ne n
    exact ⟨c, q, by rw [hq, itoa_pos, h1], .inr h2⟩
  · obtain ⟨c, q, h1, h2⟩ := name_head hn
    exact ⟨c, q, by rw [hq, h1], .inr h2⟩
theorem tk_beg {s : List UInt8} {p : Nat} {r : List UInt8} (e : Ex) (hr : rightF e = true) (ho : okF e = true) (h : s.drop p = showF e ++ r) (hE : EndB r) : ∃ t, Tk s p t ∧ t.text ≠ [] := by
  rcases show_beg e hr ho with ⟨q, hq⟩ | ⟨n, _, _, h3, _, hq⟩ | ⟨_, hn, _, hq⟩
  · rw [hq] at h; exact ⟨_, tk_brk h (by decide), by simp⟩
  · rw [hq] at h
    obtain ⟨c, q, h1, _⟩ := dec_ne n
    exact ⟨_, tk_num h h3 hE, by simp [itoa_pos, h1]⟩
  · rw [hq] at h
    obtain ⟨c, q, h1, _⟩ := name_head hn
    exact ⟨_, tk_name h hn hE, by simp [h1]⟩
theorem endB_cons {c : UInt8} (r : List UInt8) (h : wrdB c = false) : EndB (c :: r) := by intro x hx; simp at hx; subst hx; exact h
theorem endB_mid {m r : List UInt8} (h : m ∈ midM) : EndB (m ++ r) := by
  obtain ⟨c, q, rfl, _, h2⟩ := mid_blk h
  exact endB_cons _ h2
theorem one_leaf_num (n : Nat) (nm : List UInt8) (h : n ≤ 9223372036854775807) : OneC (.mk numO (n : Int) nm .nil) := by
  intro s p d r t t2 h1 h2 h3 h4 h5
  have e : showF (.mk numO (n : Int) nm .nil) = Lib.itoa (n : Int) := rfl
  rw [e] at h1 h4
  obtain rfl := h3.same (tk_num h1 h h2)
  have := one_num (d := d) (show (⟨p, Lib.itoa (n : Int), (n : Int), 1⟩ : PSt).kd = 1 from rfl) (h4.next (u := ⟨p, Lib.itoa (n : Int), (n : Int), 1⟩) rfl)
  simpa [stripF, stripL, keepN, numO, nameO, Exs.len] using this
theorem one_leaf_name (n : Int) (nm : List UInt8) (h : nameB nm = true) : OneC (.mk nameO n nm .nil) := by
  intro s p d r t t2 h1 h2 h3 h4 h5
  have e : showF (.mk nameO n nm .nil) = nm := rfl
  rw [e] at h1 h4
  obtain rfl := h3.same (tk_name h1 h h2)
  have := one_name (d := d) (t := ⟨p, nm, 0, 2⟩) (show ¬ (2 : Nat) = 1 by decide) (show (2 : Nat) ≠ 0 by decide) (h4.next (u := ⟨p, nm, 0, 2⟩) rfl)
  simpa [stripF, stripL, keepN, numO, nameO, Exs.len] using this
theorem len_pos {x : Ex} : 1 ≤ rdeepF x := by cases x; simp [rdeepF]
theorem one_una (op : List UInt8) (n : Int) (nm : List UInt8) (x : Ex) (hop : op = [110, 101, 103] ∨ op = [112, 111, 115] ∨ op = [110, 111, 116] ∨ op = [99, 111, 109]) (hx : OneC x) (hr : rightF x = true) (ho : okF x = true) : OneC (.mk op n nm (.cons x .nil)) := by
  intro s p d r t t2 h1 h2 h3 h4 h5
  obtain ⟨m, hm, ha, hm4, hg⟩ := glue_una n nm [showF x] hop
  have e : showF (.mk op n nm (.cons x .nil)) = [40, m] ++ showF x ++ [41] := hg
  rw [e] at h1 h4
  obtain ⟨x0, q0, hb, hbx⟩ := show_cons x hr ho
  have g0 : s.drop p = 40 :: (m :: (showF x ++ 41 :: r)) := by rw [h1]; simp
  have g1 : s.drop (p + 1) = m :: (showF x ++ 41 :: r) := at_drop (a := [40]) g0
  have g2 : s.drop (p + 1 + 1) = showF x ++ 41 :: r := at_drop (a := [m]) g1
  have g3 : s.drop (p + 1 + 1 + (showF x).length) = 41 :: r := at_drop g2
  obtain rfl := h3.same (tk_brk g0 (by decide))
  obtain ⟨tx, htx, _⟩ := tk_beg x hr ho g2 (endB_cons _ (by decide))
  have hc := tk_brk g3 (by decide)
  have hdx : rdeepF (.mk op n nm (.cons x .nil)) = rdeepF x + 1 := by simp [rdeepF, rdeepL]
  have hp := @len_pos x
  rw [hdx] at h5
  have o1 := hx s _ (d + 1 + 1) _ tx _ g2 (endB_cons _ (by decide)) htx hc (by omega)
  have hmk : Tk s (p + 1) ⟨p + 1, [m], 0, 0⟩ := by
    rw [hb] at g1; exact tk_mid (m := [m]) (x := x0) g1 hm hbx
  have o2 := ah_in (d := d + 1) (t := ⟨p + 1, [m], 0, 0⟩) rfl (by simpa using hm4) (by rw [ha]; rcases hop with rfl | rfl | rfl | rfl <;> decide) (by omega) (htx.next rfl) o1
  dsimp only at o2
  rw [ha] at o2
  have o3 := bracket (by omega) hmk (whole_up (choice_up (two_zero o2 (closeT.row (.inl rfl))) (.inl rfl)) (.inl rfl)) (pc := p + 1 + 1 + (showF x).length) (t2 := t2) (by
    have : p + ([40, m] ++ showF x ++ [41]).length = p + 1 + 1 + (showF x).length + 1 := by simp; omega
    rw [← this]; exact h4)
  obtain ⟨k1, k2⟩ := una_strip hop
  simpa [stripF, stripL, k1, k2, Exs.len] using o3
theorem one_set (op : List UInt8) (n : Int) (nm : List UInt8) (x : Ex) (hop : setF op = true) (hn : nameB nm = true) (hx : OneC x) (hr : rightF x = true) (ho : okF x = true) : OneC (.mk op n nm (.cons x .nil)) := by
  intro s p d r t t2 h1 h2 h3 h4 h5
  obtain ⟨hm, hnr, hq, hnum, hkp, hne⟩ := set_facts hop
  have e : showF (.mk op n nm (.cons x .nil)) = [40] ++ nm ++ op ++ showF x ++ [41] := glue_set n nm [showF x] hop
  rw [e] at h1 h4
  obtain ⟨x0, q0, hb, hbx⟩ := show_cons x hr ho
  have g0 : s.drop p = 40 :: (nm ++ (op ++ (showF x ++ 41 :: r))) := by rw [h1]; simp
  have g1 : s.drop (p + 1) = nm ++ (op ++ (showF x ++ 41 :: r)) := at_drop (a := [40]) g0
  have g2 : s.drop (p + 1 + nm.length) = op ++ (showF x ++ 41 :: r) := at_drop g1
  have g3 : s.drop (p + 1 + nm.length + op.length) = showF x ++ 41 :: r := at_drop g2
  have g4 : s.drop (p + 1 + nm.length + op.length + (showF x).length) = 41 :: r := at_drop g3
  obtain rfl := h3.same (tk_brk g0 (by decide))
  obtain ⟨tx, htx, _⟩ := tk_beg x hr ho g3 (endB_cons _ (by decide))
  have hc := tk_brk g4 (by decide)
  have hdx : rdeepF (.mk op n nm (.cons x .nil)) = rdeepF x + 1 := by simp [rdeepF, rdeepL]
  have hp := @len_pos x
  rw [hdx] at h5
  have o1 := hx s _ (d + 1 + 1) _ tx _ g3 (endB_cons _ (by decide)) htx hc (by omega)
  have hnm : Tk s (p + 1) ⟨p + 1, nm, 0, 2⟩ := tk_name g1 hn (endB_mid hm)
  have hmk : Tk s (p + 1 + nm.length) ⟨p + 1 + nm.length, op, 0, 0⟩ := by
    rw [hb] at g2; exact tk_mid (m := op) (x := x0) g2 hm hbx
  have o2 := one_name (d := d + 1) (t := ⟨p + 1, nm, 0, 2⟩) (show ¬ (2 : Nat) = 1 by decide) (show (2 : Nat) ≠ 0 by decide) (hmk.next (u := ⟨p + 1, nm, 0, 2⟩) rfl)
  dsimp only at o2
  have o3 := choice_same (two_zero o2 hnr) (fun hh => hq hh.2)
  have o4 := whole_in o3 ⟨rfl, hop⟩ ⟨rfl, rfl⟩ (by omega) (htx.next rfl) (whole_up (choice_up (two_zero o1 (closeT.row (.inl rfl))) (.inl rfl)) (.inl rfl))
  dsimp only [Ex.name] at o4
  have o5 := bracket (by omega) hnm o4 (pc := p + 1 + nm.length + op.length + (showF x).length) (t2 := t2) (by
    have : p + ([40] ++ nm ++ op ++ showF x ++ [41]).length = p + 1 + nm.length + op.length + (showF x).length + 1 := by simp; omega
    rw [← this]; exact h4)
  simpa [stripF, stripL, hnum, hkp, Exs.len] using o5
theorem one_twos (op : List UInt8) (n : Int) (nm : List UInt8) (x y : Ex) (hop : 0 < levF op) (hs : setF op = false) (hx : OneC x) (hr : rightF x = true) (ho : okF x = true) (hy : OneC y) (hry : rightF y = true) (hoy : okF y = true) : OneC (.mk op n nm (.cons x (.cons y .nil))) := by
  intro s p d r t t2 h1 h2 h3 h4 h5
  obtain ⟨hm, ⟨i, hi, hin, hnot⟩, hnum, hnam, hne, hkp⟩ := lev_row hop
  have e : showF (.mk op n nm (.cons x (.cons y .nil))) = [40] ++ showF x ++ op ++ showF y ++ [41] := glue_two n nm [showF x, showF y] hop hs
  rw [e] at h1 h4
  obtain ⟨y0, q0, hb, hbx⟩ := show_cons y hry hoy
  have g0 : s.drop p = 40 :: (showF x ++ (op ++ (showF y ++ 41 :: r))) := by rw [h1]; simp
  have g1 : s.drop (p + 1) = showF x ++ (op ++ (showF y ++ 41 :: r)) := at_drop (a := [40]) g0
  have g2 : s.drop (p + 1 + (showF x).length) = op ++ (showF y ++ 41 :: r) := at_drop g1
  have g3 : s.drop (p + 1 + (showF x).length + op.length) = showF y ++ 41 :: r := at_drop g2
  have g4 : s.drop (p + 1 + (showF x).length + op.length + (showF y).length) = 41 :: r := at_drop g3
  obtain rfl := h3.same (tk_brk g0 (by decide))
  obtain ⟨tx, htx, _⟩ := tk_beg x hr ho g1 (endB_mid hm)
  obtain ⟨ty, hty, _⟩ := tk_beg y hry hoy g3 (endB_cons _ (by decide))
  have hc := tk_brk g4 (by decide)
  have hdx : rdeepF (.mk op n nm (.cons x (.cons y .nil))) = max (rdeepF x) (rdeepF y) + 1 := by simp [rdeepF, rdeepL]
  have hp := @len_pos x
  have hp2 := @len_pos y
  rw [hdx] at h5
  have hmk : Tk s (p + 1 + (showF x).length) ⟨p + 1 + (showF x).length, op, 0, 0⟩ := by
    rw [hb] at g2; exact tk_mid (m := op) (x := y0) g2 hm hbx
  have o1 := hx s _ (d + 1) _ tx _ g1 (endB_mid hm) htx hmk (by omega)
  have o2 := hy s _ (d + 1) _ ty _ g3 (endB_cons _ (by decide)) hty hc (by omega)
  have up1 := two_up o1 (10 - (i + 1)) (by omega) (fun j h1 h2 => hnot j h2 (by omega))
  have up2 := two_up o2 (10 - (i + 1)) (by omega) (fun j h1 h2 => closeT.row (.inl rfl) j h2)
  have ei : 10 - (10 - (i + 1)) = i + 1 := by omega
  rw [ei] at up1 up2
  have o3 := two_loop (row := i) (by omega) up1 (loop_in ⟨rfl, hne, hin⟩ (hty.next rfl) up2 (loop_end (fun hh => closeT.row (.inl rfl) i hi hh.2.2)))
  dsimp only at o3
  have key : ∀ j, j ≤ i → Out s (.two (i - j)) (d + 1) tx (.ok (.mk op 0 [] (.cons (stripF x) (.cons (stripF y) .nil)), ⟨p + 1 + (showF x).length + op.length + (showF y).length, [41], 0, 0⟩)) := by
    intro j
    induction j with
    | zero => intro _; exact o3
    | succ j ih =>
      intro hj
      have h8 := ih (by omega)
      have e8 : i - j = i - (j + 1) + 1 := by omega
      rw [e8] at h8
      exact two_loop (by omega) h8 (loop_end (fun hh => closeT.row (.inl rfl) _ (by omega) hh.2.2))
  have o4 := key i (Nat.le_refl _)
  rw [Nat.sub_self] at o4
  have o5 := bracket (by omega) htx (whole_up (choice_up o4 (.inl rfl)) (.inl rfl)) (pc := p + 1 + (showF x).length + op.length + (showF y).length) (t2 := t2) (by
    have : p + ([40] ++ showF x ++ op ++ showF y ++ [41]).length = p + 1 + (showF x).length + op.length + (showF y).length + 1 := by simp; omega
    rw [← this]; exact h4)
  simpa [stripF, stripL, hnum, hkp, Exs.len] using o5
theorem one_three (n : Int) (nm : List UInt8) (x y z : Ex) (hx : OneC x) (hr : rightF x = true) (ho : okF x = true) (hy : OneC y) (hry : rightF y = true) (hoy : okF y = true) (hz : OneC z) (hrz : rightF z = true) (hoz : okF z = true) : OneC (.mk [63] n nm (.cons x (.cons y (.cons z .nil)))) := by
  intro s p d r t t2 h1 h2 h3 h4 h5
  have e : showF (.mk [63] n nm (.cons x (.cons y (.cons z .nil)))) = [40] ++ showF x ++ [63] ++ showF y ++ [58] ++ showF z ++ [41] := rfl
  rw [e] at h1 h4
  have g0 : s.drop p = 40 :: (showF x ++ (63 :: (showF y ++ (58 :: (showF z ++ 41 :: r))))) := by rw [h1]; simp
  have g1 : s.drop (p + 1) = showF x ++ (63 :: (showF y ++ (58 :: (showF z ++ 41 :: r)))) := at_drop (a := [40]) g0
  have g2 : s.drop (p + 1 + (showF x).length) = 63 :: (showF y ++ (58 :: (showF z ++ 41 :: r))) := at_drop g1
  have g3 : s.drop (p + 1 + (showF x).length + 1) = showF y ++ (58 :: (showF z ++ 41 :: r)) := at_drop (a := [63]) g2
  have g4 : s.drop (p + 1 + (showF x).length + 1 + (showF y).length) = 58 :: (showF z ++ 41 :: r) := at_drop g3
  have g5 : s.drop (p + 1 + (showF x).length + 1 + (showF y).length + 1) = showF z ++ 41 :: r := at_drop (a := [58]) g4
  have g6 : s.drop (p + 1 + (showF x).length + 1 + (showF y).length + 1 + (showF z).length) = 41 :: r := at_drop g5
  obtain rfl := h3.same (tk_brk g0 (by decide))
  obtain ⟨tx, htx, _⟩ := tk_beg x hr ho g1 (endB_cons _ (by decide))
  obtain ⟨ty, hty, _⟩ := tk_beg y hry hoy g3 (endB_cons _ (by decide))
  obtain ⟨tz, htz, _⟩ := tk_beg z hrz hoz g5 (endB_cons _ (by decide))
  have hq := tk_brk g2 (by decide)
  have hco := tk_brk g4 (by decide)
  have hc := tk_brk g6 (by decide)
  have hdx : rdeepF (.mk [63] n nm (.cons x (.cons y (.cons z .nil)))) = max (rdeepF x) (max (rdeepF y) (rdeepF z)) + 1 := by simp [rdeepF, rdeepL]
  have hp := @len_pos x
  have hp2 := @len_pos y
  have hp3 := @len_pos z
  rw [hdx] at h5
  have o1 := hx s _ (d + 1) _ tx _ g1 (endB_cons _ (by decide)) htx hq (by omega)
  have o2 := hy s _ (d + 1 + 1) _ ty _ g3 (endB_cons _ (by decide)) hty hco (by omega)
  have o3 := hz s _ (d + 1 + 1) _ tz _ g5 (endB_cons _ (by decide)) htz hc (by omega)
  have c1 := two_zero o1 quest_row
  have c2 := whole_up (choice_up (two_zero o2 (closeT.row (.inr (.inl rfl)))) (.inr (.inl rfl))) (.inr (.inl rfl))
  have c3 := choice_up (two_zero o3 (closeT.row (.inl rfl))) (.inl rfl)
  have o4 := choice_in c1 ⟨rfl, rfl⟩ (by omega) (hty.next rfl) c2 (t4 := tz) (by unfold takesF; rw [if_pos ⟨rfl, rfl⟩]; exact htz.next rfl) c3
  dsimp only at o4
  have o5 := bracket (by omega) htx (whole_up o4 (.inl rfl)) (pc := p + 1 + (showF x).length + 1 + (showF y).length + 1 + (showF z).length) (t2 := t2) (by
    have : p + ([40] ++ showF x ++ [63] ++ showF y ++ [58] ++ showF z ++ [41]).length = p + 1 + (showF x).length + 1 + (showF y).length + 1 + (showF z).length + 1 := by simp; omega
    rw [← this]; exact h4)
  simpa [stripF, stripL, keepN, numO, nameO, Exs.len] using o5
theorem one_show : ∀ e : Ex, rightF e = true → okF e = true → OneC e := by
  intro e
  induction hn : szF e using Nat.strongRecOn generalizing e with
  | _ m ih =>
    subst hn
    intro hr ho
    have hb := show_beg e hr ho
    obtain ⟨op, n, nm, k⟩ := e
    simp only [okF, Bool.and_eq_true, decide_eq_true_eq] at ho
    obtain ⟨⟨⟨o1, o2⟩, o3⟩, o4⟩ := ho
    simp only [rightF, Bool.and_eq_true] at hr
    obtain ⟨r1, r2⟩ := hr
    have hl := kids_len r1
    have key : ∀ x : Ex, szF x < szF (.mk op n nm k) → rightF x = true → okF x = true → OneC x := fun x hx hr ho => ih _ hx x rfl hr ho
    rcases op_kinds (headB_op r1) with rfl | rfl | h | rfl | h | ⟨h, h', h''⟩
    · rcases hb with ⟨q, hq⟩ | ⟨j, _, h1, h2, h3, _⟩ | ⟨h1, _⟩
      · exfalso
        have hk : showF (.mk numO n nm k) = Lib.itoa n := rfl
        rw [hk] at hq
        simp only [headB, Bool.and_eq_true, Bool.not_eq_true', decide_eq_true_eq] at r1
        have hn : ¬ n < 0 := by have := r1.1.2; simpa using this
        obtain ⟨j, rfl⟩ := Int.eq_ofNat_of_zero_le (show 0 ≤ n by omega)
        obtain ⟨c, q, h1, h2⟩ := dec_ne j
        rw [itoa_pos, h1] at hq
        injection hq with hq
        subst hq; revert h2; decide
      · dsimp only [Ex.num, Ex.kids] at h1 h3
        subst h1 h3
        exact one_leaf_num j nm h2
      · exact absurd (show numO = nameO from h1) (by decide)
    · simp only [headB, Bool.and_eq_true, Bool.not_eq_true', decide_eq_true_eq] at r1
      have hnm : nameB nm = true := by have := r1.2; simpa [show decide (nameO = nameO) = true by decide] using this
      have hk : k = .nil := by
        rw [show kidsF nameO = 0 by decide] at hl
        cases k with
        | nil => rfl
        | cons a b => simp [Exs.len] at hl; omega
      subst hk
      exact one_leaf_name n nm hnm
    · rw [kidsF_una h] at hl
      obtain ⟨x, rfl⟩ := Exs.one (k := k) (by omega)
      simp only [rightL, okL, Bool.and_eq_true] at r2 o4
      exact one_una op n nm x h (key x (by simp only [szF, szL]; omega) r2.1 o4.1) r2.1 o4.1
    · rw [show kidsF [63] = 3 by decide] at hl
      obtain ⟨x, y, z, rfl⟩ := Exs.three (k := k) (by omega)
      simp only [rightL, okL, Bool.and_eq_true] at r2 o4
      exact one_three n nm x y z (key x (by simp only [szF, szL]; omega) r2.1 o4.1) r2.1 o4.1 (key y (by simp only [szF, szL]; omega) r2.2.1 o4.2.1) r2.2.1 o4.2.1 (key z (by simp only [szF, szL]; omega) r2.2.2.1 o4.2.2.1) r2.2.2.1 o4.2.2.1
    · rw [setF_kids h] at hl
      obtain ⟨x, rfl⟩ := Exs.one (k := k) (by omega)
      have hnm : nameB nm = true := by
        simp only [headB, Bool.and_eq_true, Bool.not_eq_true', decide_eq_true_eq] at r1
        have := r1.2; simpa [h] using this
      simp only [rightL, okL, Bool.and_eq_true] at r2 o4
      exact one_set op n nm x h hnm (key x (by simp only [szF, szL]; omega) r2.1 o4.1) r2.1 o4.1
    · rw [h''] at hl
      obtain ⟨x, y, rfl⟩ := Exs.two (k := k) (by omega)
      simp only [rightL, okL, Bool.and_eq_true] at r2 o4
      exact one_twos op n nm x y h h' (key x (by simp only [szF, szL]; omega) r2.1 o4.1) r2.1 o4.1 (key y (by simp only [szF, szL]; omega) r2.2.1 o4.2.1) r2.2.1 o4.2.1
/-- A SHOWN EXPRESSION IS PARSED AS THE SAME, without what its ops do not have -/
theorem parse_show {e : Ex} {r : Except (Nat × Int) Ex} (h : ParseOut (showF e) r) (hr : rightF e = true) (ho : okF e = true) (hd : rdeepF e ≤ 20) (hl : (showF e).length ≤ 4096) : r = .ok (stripF e) := by
  have g0 : (showF e).drop 0 = showF e ++ [] := by simp
  have hE : EndB [] := by intro c hc; cases hc
  obtain ⟨t, ht, hne⟩ := tk_beg e hr ho g0 hE
  have hend : Tk (showF e) (0 + (showF e).length) ⟨0 + (showF e).length, [], 0, 0⟩ := tk_end (by simp)
  have o1 := one_show e hr ho (showF e) 0 0 [] t _ g0 hE ht hend (by omega)
  have o2 := whole_up (choice_up (two_zero o1 (closeT.row (.inr (.inr rfl)))) (.inr (.inr rfl))) (.inr (.inr rfl))
  have hn : nextF (showF e) ⟨0, [], 0, 0⟩ = .ok t := ht.next rfl
  cases h with
  | big h => omega
  | bad h hn' => rw [hn] at hn'; cases hn'
  | none h hn' h2 => rw [hn] at hn'; injection hn' with hn'; subst hn'; exact (hne h2).elim
  | err h hn' h2 h3 => rw [hn] at hn'; injection hn' with hn'; subst hn'; cases o2.same h3
  | left h hn' h2 h3 h4 => rw [hn] at hn'; injection hn' with hn'; subst hn'; have := o2.same h3; injection this with this; injection this with e1 e2; subst e2; exact (h4 rfl).elim
  | good h hn' h2 h3 h4 => rw [hn] at hn'; injection hn' with hn'; subst hn'; have := o2.same h3; injection this with this; injection this with e1 e2; rw [e1]
end Go.Proofs.YtadmmmehphhecaaDoor
/- Plain: what is parsed may be shown, has nothing that its ops do not have, and is no longer than its text. No program in sight. -/
namespace Go.Proofs.YtadmmmehphhecaaDoor
open Go.RowKit
/-- a good thing -/
def TokG (t : PSt) : Prop := (t.kd = 1 → 0 ≤ t.num ∧ t.num ≤ 9223372036854775807 ∧ t.text ≠ []) ∧ (t.kd ≠ 0 → t.kd ≠ 1 → nameB t.text = true)
theorem tok_good (p : Nat) (l : List UInt8) (t : PSt) (h : tokF p l = .ok t) : TokG t := by
  unfold tokF at h
  cases l with
  | nil => simp at h; subst h; exact ⟨by simp, by simp⟩
  | cons c r =>
    dsimp only at h
    split at h
    · rename_i hd
      split at h
      · cases h
      · rename_i n hnum
        split at h
        · cases h
        · rename_i hb
          injection h with h; subst h
          refine ⟨fun _ => ⟨by simp, ?_, ?_⟩, fun _ h => absurd rfl h⟩
          · simp only [not_or, Nat.not_lt] at hb
            dsimp only; omega
          · intro he
            have he : (c :: r).take (endF (c :: r)) = [] := he
            have h0 : endF (c :: r) = 0 := by
              cases hx : endF (c :: r) with
              | zero => rfl
              | succ m => rw [hx] at he; simp at he
            have := hb
            rw [h0] at this
            simp [wrd_of_dig hd] at this
    · rename_i hd
      split at h
      · rename_i hl
        injection h with h; subst h
        refine ⟨by simp, fun _ _ => ?_⟩
        have hw : wrdB c = true := by simp [wrdB, hl]
        simp only [List.takeWhile_cons, hw, if_true, nameB, Bool.and_eq_true]
        refine ⟨by simpa using hd, List.all_eq_true.2 fun b hb => ?_⟩
        rcases List.mem_cons.1 hb with rfl | hb
        · exact hw
        · exact List.all_eq_true.1 List.all_takeWhile b hb
      · split at h
        · cases h
        · injection h with h; subst h; exact ⟨by simp, by simp⟩
theorem next_good {s : List UInt8} {t t' : PSt} (h : nextF s t = .ok t') : TokG t' := tok_good _ _ _ h
theorem takes_good {s : List UInt8} {t t' : PSt} {m : List UInt8} (h : takesF s t m = .ok t') : TokG t' ∧ nextF s t = .ok t' ∧ t.text = m := by
  unfold takesF at h
  split at h
  · rename_i hc; exact ⟨next_good h, h, hc.2⟩
  · cases h
/-- a good expression: it may be shown, and has nothing that its ops do not have; its numbers and names are of a text of a length -/
def ExG (L : Nat) (e : Ex) : Prop := rightF e = true ∧ stripF e = e ∧ (L ≤ 4096 → okF e = true) ∧ e.name.length ≤ L
theorem ahead_kids {m : List UInt8} (h : aheadF m ≠ []) : (aheadF m = [110, 101, 103] ∨ aheadF m = [112, 111, 115] ∨ aheadF m = [110, 111, 116] ∨ aheadF m = [99, 111, 109]) ∧ m ≠ [] := by
  unfold aheadF at h ⊢
  repeat' split
  all_goals simp_all
theorem g_num {L : Nat} {n : Int} (h0 : 0 ≤ n) (h1 : n ≤ 9223372036854775807) : ExG L (.mk numO n [] .nil) := by
  refine ⟨?_, by simp [stripF, stripL, keepN, numO, nameO, Exs.len], fun _ => ?_, Nat.zero_le _⟩
  · simp only [rightF, rightL, Bool.and_true, headB, Bool.and_eq_true, Exs.len]
    refine ⟨⟨by decide, ?_⟩, by simp [show decide (numO = nameO) = false by decide, show setF numO = false by decide]⟩
    simp; omega
  · simp [okF, okL, h1]; omega
theorem g_name {L : Nat} {nm : List UInt8} (h : nameB nm = true) (hl : nm.length ≤ L) : ExG L (.mk nameO 0 nm .nil) := by
  refine ⟨?_, by simp [stripF, stripL, keepN, numO, nameO, Exs.len], fun hL => ?_, hl⟩
  · simp only [rightF, rightL, Bool.and_true, headB, Bool.and_eq_true, Exs.len]
    exact ⟨⟨by decide, by decide⟩, by simp [h]⟩
  · simp [okF, okL]; omega
theorem g_una {L : Nat} {op : List UInt8} {x : Ex} (h : op = [110, 101, 103] ∨ op = [112, 111, 115] ∨ op = [110, 111, 116] ∨ op = [99, 111, 109]) (hx : ExG L x) : ExG L (.mk op 0 [] (.cons x .nil)) := by
  obtain ⟨h1, h2, h3, _⟩ := hx
  refine ⟨?_, ?_, fun hL => by simp [okF, okL, h3 hL], Nat.zero_le _⟩
  · simp only [rightF, rightL, h1, Bool.and_true]
    rcases h with rfl | rfl | rfl | rfl <;> rfl
  · simp only [stripF, stripL, h2]
    rcases h with rfl | rfl | rfl | rfl <;> rfl
theorem g_set {L : Nat} {op nm : List UInt8} {x : Ex} (h : setF op = true) (hn : nameB nm = true) (hl : nm.length ≤ L) (hx : ExG L x) : ExG L (.mk op 0 nm (.cons x .nil)) := by
  obtain ⟨h1, h2, h3, _⟩ := hx
  obtain ⟨_, _, _, hnum, hkp, _⟩ := set_facts h
  refine ⟨?_, ?_, fun hL => by simp [okF, okL, h3 hL]; omega, hl⟩
  · simp only [rightF, rightL, h1, Bool.and_true, headB, Bool.and_eq_true, Exs.len]
    exact ⟨⟨by rw [setF_kids h]; rfl, by simp [hnum]⟩, by simp [hn]⟩
  · simp [stripF, stripL, h2, hnum, hkp, Exs.len]
theorem g_two {L : Nat} {op : List UInt8} {x y : Ex} (h : ∃ row, op ∈ rowsF.getD row []) (hx : ExG L x) (hy : ExG L y) : ExG L (.mk op 0 [] (.cons x (.cons y .nil))) := by
  obtain ⟨h1, h2, h3, _⟩ := hx
  obtain ⟨g1, g2, g3, _⟩ := hy
  have hm : op ∈ rowsF.flatten := by
    obtain ⟨row, h⟩ := h
    rw [List.getD_eq_getElem?_getD] at h
    cases hr : rowsF[row]? with
    | none => rw [hr] at h; cases h
    | some l => rw [hr] at h; exact List.mem_flatten.2 ⟨l, List.mem_of_getElem? hr, h⟩
  simp [rowsF] at hm
  refine ⟨?_, ?_, fun hL => by simp [okF, okL, h3 hL, g3 hL], Nat.zero_le _⟩
  · simp only [rightF, rightL, h1, g1, Bool.and_true]
    rcases hm with rfl | rfl | rfl | rfl | rfl | rfl | rfl | rfl | rfl | rfl | rfl | rfl | rfl | rfl | rfl | rfl | rfl | rfl <;> rfl
  · simp only [stripF, stripL, h2, g2]
    rcases hm with rfl | rfl | rfl | rfl | rfl | rfl | rfl | rfl | rfl | rfl | rfl | rfl | rfl | rfl | rfl | rfl | rfl | rfl <;> rfl
theorem g_three {L : Nat} {x y z : Ex} (hx : ExG L x) (hy : ExG L y) (hz : ExG L z) : ExG L (.mk [63] 0 [] (.cons x (.cons y (.cons z .nil)))) := by
  obtain ⟨h1, h2, h3, _⟩ := hx
  obtain ⟨g1, g2, g3, _⟩ := hy
  obtain ⟨k1, k2, k3, _⟩ := hz
  refine ⟨?_, ?_, fun hL => by simp [okF, okL, h3 hL, g3 hL, k3 hL], Nat.zero_le _⟩
  · simp only [rightF, rightL, h1, g1, k1, Bool.and_true]; rfl
  · simp only [stripF, stripL, h2, g2, k2]; rfl
/-- what is known of what comes out -/
structure Good (s : List UInt8) (b : Nat) (x : Ex) (t : PSt) : Prop where
  ex : ExG s.length x
  tok : TokG t
  size : szF x + b ≤ t.at_
  le : t.at_ + t.text.length ≤ s.length
def MdG (L : Nat) : Md → Prop
  | .loop _ e => ExG L e
  | _ => True
def mdSz : Md → Nat
  | .loop _ e => szF e
  | _ => 0
theorem ok_inj {α β : Type} {a b : β} (h : (some (Except.ok a) : Option (Except α β)) = some (.ok b)) : a = b := by injection h with h; injection h
theorem andT_inv {α β : Type} {a : Option (Except (Nat × Int) α)} {f : α → Option (Except (Nat × Int) β)} {v : β} (h : andT a f = some (.ok v)) : ∃ u, a = some (.ok u) ∧ f u = some (.ok v) := by
  unfold andT at h
  split at h
  · cases h
  · cases h
  · exact ⟨_, rfl, h⟩
theorem some_inj {α : Type} {a b : α} (h : some a = some b) : a = b := by injection h
theorem F_good (s : List UInt8) : ∀ (n : Nat) (m : Md) (d : Nat) (t : PSt) (x : Ex) (t' : PSt), F s n m d t = some (.ok (x, t')) → TokG t → MdG s.length m → t.at_ + t.text.length ≤ s.length → ∀ b, b + mdSz m ≤ t.at_ → Good s b x t' := by
  intro n
  induction n with
  | zero => intro m d t x t' h; cases h
  | succ n ih =>
    intro m d t x t' h hg hm hle b hb
    cases m with
    | whole =>
      obtain ⟨p, hp, h⟩ := andT_inv (show andT (F s n .choice d t) _ = _ from h)
      have G1 := ih .choice d t p.1 p.2 hp hg trivial hle b hb
      split at h
      · obtain rfl := ok_inj h; exact G1
      · rename_i hset
        simp only [Classical.not_not] at hset
        split at h
        · cases h
        · rename_i hpl
          simp only [Classical.not_not] at hpl
          split at h
          · cases h
          · obtain ⟨t2, ht2, h⟩ := andT_inv h
            have ht2 := some_inj ht2
            obtain ⟨q, hq, h⟩ := andT_inv h
            obtain h := ok_inj h
            injection h with h1 h2
            subst h1 h2
            obtain ⟨l1, l2, _⟩ := next_le s p.2 t2 ht2 G1.le
            have hne := (set_facts hset.2).2.2.2.2.2
            have hlen : 0 < p.2.text.length := List.length_pos_iff.2 hne
            have hsz := szF_pos p.1
            have G2 := ih .whole (d + 1) t2 q.1 q.2 hq (next_good ht2) trivial l2 (b + 1) (by have := G1.size; simp only [mdSz]; omega)
            obtain ⟨⟨po, pn, pnm, pk⟩, pt⟩ := p
            dsimp only [Ex.op, Ex.name] at *
            have hpo := hpl.2
            subst hpo
            have hr := G1.ex.1
            have hok := G1.ex.2.1
            simp only [rightF, Bool.and_eq_true, headB, Bool.not_eq_true'] at hr
            have hnm : nameB pnm = true := by have := hr.1.2; simpa [show decide (nameO = nameO) = true by decide] using this
            have hnl : pnm.length ≤ s.length := G1.ex.2.2.2
            exact ⟨g_set hset.2 hnm hnl G2.ex, G2.tok, by have := G2.size; simp only [szF, szL]; omega, G2.le⟩
    | choice =>
      obtain ⟨p, hp, h⟩ := andT_inv (show andT (F s n (.two 0) d t) _ = _ from h)
      have G1 := ih (.two 0) d t p.1 p.2 hp hg trivial hle b hb
      split at h
      · obtain rfl := ok_inj h; exact G1
      · rename_i hset
        simp only [Classical.not_not] at hset
        split at h
        · cases h
        · obtain ⟨t2, ht2, h⟩ := andT_inv h
          have ht2 := some_inj ht2
          obtain ⟨q, hq, h⟩ := andT_inv h
          obtain ⟨t4, ht4, h⟩ := andT_inv h
          have ht4 := some_inj ht4
          obtain ⟨u, hu, h⟩ := andT_inv h
          obtain h := ok_inj h
          injection h with h1 h2
          subst h1 h2
          obtain ⟨l1, l2, _⟩ := next_le s p.2 t2 ht2 G1.le
          have hlen : p.2.text.length = 1 := by rw [hset.2]; rfl
          have G2 := ih .whole (d + 1) t2 q.1 q.2 hq (next_good ht2) trivial l2 (szF p.1 + b + 1) (by have := G1.size; simp only [mdSz]; omega)
          obtain ⟨k1, k2, k3⟩ := takes_good ht4
          obtain ⟨l3, l4, _⟩ := next_le s q.2 t4 k2 G2.le
          have G3 := ih .choice (d + 1) t4 u.1 u.2 hu k1 trivial l4 (szF q.1 + (szF p.1 + b + 1)) (by have := G2.size; simp only [mdSz]; omega)
          exact ⟨g_three G1.ex G2.ex G3.ex, G3.tok, by have := G3.size; simp only [szF, szL]; omega, G3.le⟩
    | two row =>
      have h : (if row = 10 then F s n .one d t else andT (F s n (.two (row + 1)) d t) fun p => F s n (.loop row p.1) d p.2) = some (.ok (x, t')) := h
      split at h
      · exact ih .one d t x t' h hg trivial hle b hb
      · obtain ⟨p, hp, h⟩ := andT_inv h
        have G1 := ih (.two (row + 1)) d t p.1 p.2 hp hg trivial hle b hb
        exact ih (.loop row p.1) d p.2 x t' h G1.tok G1.ex G1.le b (by have := G1.size; simp only [mdSz]; omega)
    | loop row e =>
      have h : (if t.kd = 0 ∧ t.text ≠ [] ∧ t.text ∈ rowsF.getD row [] then andT (some (nextF s t)) fun t1 => andT (F s n (.two (row + 1)) d t1) fun q => F s n (.loop row (.mk t.text 0 [] (.cons e (.cons q.1 .nil)))) d q.2 else some (.ok (e, t))) = some (.ok (x, t')) := h
      have he : ExG s.length e := hm
      split at h
      · rename_i hc
        obtain ⟨t1, ht1, h⟩ := andT_inv h
        have ht1 := some_inj ht1
        obtain ⟨q, hq, h⟩ := andT_inv h
        obtain ⟨l1, l2, _⟩ := next_le s t t1 ht1 hle
        have hlen : 0 < t.text.length := List.length_pos_iff.2 hc.2.1
        simp only [mdSz] at hb
        have G1 := ih (.two (row + 1)) d t1 q.1 q.2 hq (next_good ht1) trivial l2 (b + szF e + 1) (by simp only [mdSz]; omega)
        refine ih (.loop row _) d q.2 x t' h G1.tok (g_two ⟨row, hc.2.2⟩ he G1.ex) G1.le b ?_
        have := G1.size
        simp only [mdSz, szF, szL]; omega
      · obtain h := ok_inj h
        injection h with h1 h2
        subst h1 h2
        exact ⟨he, hg, by simp only [mdSz] at hb; omega, hle⟩
    | one =>
      have h : (if t.kd = 1 then andT (some (nextF s t)) fun t1 => some (.ok (.mk numO t.num [] .nil, t1))
        else if t.kd ≠ 0 then andT (some (nextF s t)) fun t1 => some (.ok (.mk nameO 0 t.text .nil, t1))
        else if t.text = [40] then
          if d = 40 then some (.error (t.at_, 32))
          else andT (some (nextF s t)) fun t1 => andT (F s n .whole (d + 1) t1) fun q => andT (some (takesF s q.2 [41])) fun t3 => some (.ok (q.1, t3))
        else if aheadF t.text ≠ [] then
          if d = 40 then some (.error (t.at_, 32))
          else andT (some (nextF s t)) fun t1 => andT (F s n .one (d + 1) t1) fun q => some (.ok (.mk (aheadF t.text) 0 [] (.cons q.1 .nil), q.2))
        else some (.error (t.at_, 31))) = some (.ok (x, t')) := h
      simp only [mdSz, Nat.add_zero] at hb
      split at h
      · rename_i hk
        obtain ⟨t1, ht1, h⟩ := andT_inv h
        have ht1 := some_inj ht1
        obtain h := ok_inj h
        injection h with h1 h2
        subst h1 h2
        obtain ⟨l1, l2, _⟩ := next_le s t t1 ht1 hle
        obtain ⟨n0, n1, n2⟩ := hg.1 hk
        have hlen : 0 < t.text.length := List.length_pos_iff.2 n2
        exact ⟨g_num n0 n1, next_good ht1, by simp only [szF, szL]; omega, l2⟩
      · rename_i hk
        split at h
        · rename_i hk2
          obtain ⟨t1, ht1, h⟩ := andT_inv h
          have ht1 := some_inj ht1
          obtain h := ok_inj h
          injection h with h1 h2
          subst h1 h2
          obtain ⟨l1, l2, _⟩ := next_le s t t1 ht1 hle
          have hnm := hg.2 hk2 hk
          obtain ⟨c, q, hcq, _⟩ := name_head hnm
          have hlen : 0 < t.text.length := by rw [hcq]; simp
          exact ⟨g_name hnm (by omega), next_good ht1, by simp only [szF, szL]; omega, l2⟩
        · split at h
          · rename_i hbr
            split at h
            · cases h
            · obtain ⟨t1, ht1, h⟩ := andT_inv h
              have ht1 := some_inj ht1
              obtain ⟨q, hq, h⟩ := andT_inv h
              obtain ⟨t3, ht3, h⟩ := andT_inv h
              have ht3 := some_inj ht3
              obtain h := ok_inj h
              injection h with h1 h2
              subst h1 h2
              obtain ⟨l1, l2, _⟩ := next_le s t t1 ht1 hle
              have G1 := ih .whole (d + 1) t1 q.1 q.2 hq (next_good ht1) trivial l2 b (by simp only [mdSz]; omega)
              obtain ⟨k1, k2, k3⟩ := takes_good ht3
              obtain ⟨l3, l4, _⟩ := next_le s q.2 t3 k2 G1.le
              exact ⟨G1.ex, k1, by have := G1.size; omega, l4⟩
          · split at h
            · rename_i hah
              split at h
              · cases h
              · obtain ⟨t1, ht1, h⟩ := andT_inv h
                have ht1 := some_inj ht1
                obtain ⟨q, hq, h⟩ := andT_inv h
                obtain h := ok_inj h
                injection h with h1 h2
                subst h1 h2
                obtain ⟨ha, hne⟩ := ahead_kids hah
                have hlen : 0 < t.text.length := List.length_pos_iff.2 hne
                obtain ⟨l1, l2, _⟩ := next_le s t t1 ht1 hle
                have G1 := ih .one (d + 1) t1 q.1 q.2 hq (next_good ht1) trivial l2 (b + 1) (by simp only [mdSz]; omega)
                exact ⟨g_una ha G1.ex, G1.tok, by have := G1.size; simp only [szF, szL]; omega, G1.le⟩
            · cases h
/-- WHAT IS PARSED may be shown, has nothing that its ops do not have, and is not long -/
theorem parse_good {s : List UInt8} {x : Ex} (h : ParseOut s (.ok x)) : rightF x = true ∧ stripF x = x ∧ okF x = true ∧ szF x ≤ 4097 := by
  cases h with
  | none h hn ht => exact ⟨by decide, rfl, by decide, by decide⟩
  | good h hn ht ho hl =>
    rename_i t t'
    obtain ⟨n, ho⟩ := ho
    obtain ⟨l1, l2, _⟩ := next_le s ⟨0, [], 0, 0⟩ t hn (by simp)
    have G := F_good s n .whole 0 t x t' ho (next_good hn) trivial l2 0 (by simp [mdSz])
    have h1 := G.size
    have h2 := G.le
    exact ⟨G.ex.1, G.ex.2.1, G.ex.2.2.1 h, by omega⟩
end Go.Proofs.YtadmmmehphhecaaDoor
/- Plain: what is wrong is never 0. No program in sight. -/
namespace Go.Proofs.YtadmmmehphhecaaDoor
open Go.RowKit
theorem andT_bad {α β : Type} {a : Option (Except (Nat × Int) α)} {f : α → Option (Except (Nat × Int) β)} {x : Nat × Int} (h : andT a f = some (.error x)) : a = some (.error x) ∨ ∃ v, a = some (.ok v) ∧ f v = some (.error x) := by
  unfold andT at h
  split at h
  · cases h
  · injection h with h; injection h with h; subst h; exact .inl rfl
  · exact .inr ⟨_, rfl, h⟩
theorem tok_err {p : Nat} {l : List UInt8} {x : Nat × Int} (h : tokF p l = .error x) : x.2 ≠ 0 := by
  unfold tokF at h
  cases l with
  | nil => cases h
  | cons c r =>
    dsimp only at h
    split at h
    · split at h
      · injection h with h; subst h; simp
      · split at h
        · injection h with h; subst h; simp
        · cases h
    · split at h
      · cases h
      · split at h
        · injection h with h; subst h; simp
        · cases h
theorem err_inj {β : Type} {a b : Nat × Int} (h : (some (Except.error a) : Option (Except (Nat × Int) β)) = some (.error b)) : a = b := by injection h with h; injection h
theorem next_err {s : List UInt8} {t : PSt} {x : Nat × Int} (h : some (nextF s t) = some (.error x)) : x.2 ≠ 0 := tok_err (some_inj h)
theorem takes_err {s : List UInt8} {t : PSt} {m : List UInt8} {x : Nat × Int} (h : some (takesF s t m) = some (.error x)) : x.2 ≠ 0 := by
  have h := some_inj h
  unfold takesF at h
  split at h
  · exact tok_err h
  · injection h with h; subst h; simp
theorem F_err (s : List UInt8) : ∀ (n : Nat) (m : Md) (d : Nat) (t : PSt) (x : Nat × Int), F s n m d t = some (.error x) → x.2 ≠ 0 := by
  intro n
  induction n with
  | zero => intro m d t x h; cases h
  | succ n ih =>
    intro m d t x h
    cases m with
    | whole =>
      rcases andT_bad (show andT (F s n .choice d t) _ = _ from h) with h | ⟨p, _, h⟩
      · exact ih _ _ _ _ h
      · split at h
        · cases h
        · split at h
          · rw [← err_inj h]; simp
          · split at h
            · rw [← err_inj h]; simp
            · rcases andT_bad h with h | ⟨t2, _, h⟩
              · exact next_err h
              · rcases andT_bad h with h | ⟨q, _, h⟩
                · exact ih _ _ _ _ h
                · cases h
    | choice =>
      rcases andT_bad (show andT (F s n (.two 0) d t) _ = _ from h) with h | ⟨p, _, h⟩
      · exact ih _ _ _ _ h
      · split at h
        · cases h
        · split at h
          · rw [← err_inj h]; simp
          · rcases andT_bad h with h | ⟨t2, _, h⟩
            · exact next_err h
            · rcases andT_bad h with h | ⟨q, _, h⟩
              · exact ih _ _ _ _ h
              · rcases andT_bad h with h | ⟨t4, _, h⟩
                · exact takes_err h
                · rcases andT_bad h with h | ⟨u, _, h⟩
                  · exact ih _ _ _ _ h
                  · cases h
    | two row =>
      have h : (if row = 10 then F s n .one d t else andT (F s n (.two (row + 1)) d t) fun p => F s n (.loop row p.1) d p.2) = some (.error x) := h
      split at h
      · exact ih _ _ _ _ h
      · rcases andT_bad h with h | ⟨p, _, h⟩
        · exact ih _ _ _ _ h
        · exact ih _ _ _ _ h
    | loop row e =>
      have h : (if t.kd = 0 ∧ t.text ≠ [] ∧ t.text ∈ rowsF.getD row [] then andT (some (nextF s t)) fun t1 => andT (F s n (.two (row + 1)) d t1) fun q => F s n (.loop row (.mk t.text 0 [] (.cons e (.cons q.1 .nil)))) d q.2 else some (.ok (e, t))) = some (.error x) := h
      split at h
      · rcases andT_bad h with h | ⟨t1, _, h⟩
        · exact next_err h
        · rcases andT_bad h with h | ⟨q, _, h⟩
          · exact ih _ _ _ _ h
          · exact ih _ _ _ _ h
      · cases h
    | one =>
      have h : (if t.kd = 1 then andT (some (nextF s t)) fun t1 => some (.ok (.mk numO t.num [] .nil, t1))
        else if t.kd ≠ 0 then andT (some (nextF s t)) fun t1 => some (.ok (.mk nameO 0 t.text .nil, t1))
        else if t.text = [40] then
          if d = 40 then some (.error (t.at_, 32))
          else andT (some (nextF s t)) fun t1 => andT (F s n .whole (d + 1) t1) fun q => andT (some (takesF s q.2 [41])) fun t3 => some (.ok (q.1, t3))
        else if aheadF t.text ≠ [] then
          if d = 40 then some (.error (t.at_, 32))
          else andT (some (nextF s t)) fun t1 => andT (F s n .one (d + 1) t1) fun q => some (.ok (.mk (aheadF t.text) 0 [] (.cons q.1 .nil), q.2))
        else some (.error (t.at_, 31))) = some (.error x) := h
      split at h
      · rcases andT_bad h with h | ⟨t1, _, h⟩
        · exact next_err h
        · cases h
      · split at h
        · rcases andT_bad h with h | ⟨t1, _, h⟩
          · exact next_err h
          · cases h
        · split at h
          · split at h
            · rw [← err_inj h]; simp
            · rcases andT_bad h with h | ⟨t1, _, h⟩
              · exact next_err h
              · rcases andT_bad h with h | ⟨q, _, h⟩
                · exact ih _ _ _ _ h
                · rcases andT_bad h with h | ⟨t3, _, h⟩
                  · exact takes_err h
                  · cases h
          · split at h
            · split at h
              · rw [← err_inj h]; simp
              · rcases andT_bad h with h | ⟨t1, _, h⟩
                · exact next_err h
                · rcases andT_bad h with h | ⟨q, _, h⟩
                  · exact ih _ _ _ _ h
                  · cases h
            · rw [← err_inj h]; simp
theorem parse_err {s : List UInt8} {x : Nat × Int} (h : ParseOut s (.error x)) : x.2 ≠ 0 := by
  cases h with
  | big h => simp
  | bad h hn => exact tok_err hn
  | err h hn ht ho => obtain ⟨n, ho⟩ := ho; exact F_err s n _ _ _ _ ho
  | left h hn ht ho hl => simp
end Go.Proofs.YtadmmmehphhecaaDoor
/- The walk of the harness's strip. Expressions of up to a hundred thousand ops. -/
namespace Go.Proofs.YtadmmmehphhecaaDoor
open Go.RowKit
def StripC (e : Ex) : Prop := ∀ (w : World) (P : Nat → Prop) (v : Value), RdX w P e v → Calls Tryd.prog 11 #[v] w fun x w' => ∃ u, x = .returned u ∧ RdX w' (fun b => w.heap.size ≤ b) (stripF e) u ∧ Below w.heap.size w w'
theorem StripC.call {e : Ex} (h : StripC e) (w : World) (P : Nat → Prop) (v : Value) (hr : RdX w P e v) : Calls Tryd.prog 11 #[v] w fun x w' => ∃ u, x = .returned u ∧ RdX w' (fun b => w.heap.size ≤ b) (stripF e) u ∧ Below w.heap.size w w' := h w P v hr
theorem strip_toL : ∀ l : Exs, (stripL l).toL = l.toL.map stripF
  | .nil => rfl
  | .cons e r => by simp [stripL, Exs.toL, strip_toL r]
theorem strip_len (l : Exs) : (stripL l).len = l.len := by rw [← Exs.toL_len, strip_toL, List.length_map, Exs.toL_len]
theorem strip_row {w : World} {B T cap n : Nat} {Q : Nat → Prop} {A : Option Addr} {op nl : List UInt8} {num : Int} {N : ByteArray} {l : Exs} {cs : List Value} (hN : N = ⟨nl.toArray⟩) (hown : w.ownsRow B T 4 (.slice A n cap) n cs) (hk : KR w Q (stripL l) n cs) (hn : n = l.len) (hQ : ∀ b, B ≤ b → Q b) : RdX w Q (.mk op num nl (stripL l)) (.agg #[.string ⟨op.toArray⟩, .int .i64 num, .string N, .slice A n cap]) := by
  subst hN hn
  have h1 := strip_len l
  rw [← h1] at hown hk ⊢
  exact rdx_row (e := .mk op num nl (stripL l)) hown hk hQ
set_option maxRecDepth 100000 in
set_option maxHeartbeats 8000000 in
theorem strip_num (op nm : List UInt8) (n : Int) (kk : Exs) (hn : kk.len ≤ 100000) (hk : ∀ k (h : k < kk.toL.length), StripC kk.toL[k]) (a0 : (op == [110, 117, 109]) = true) (a1 : (op == [110, 97, 109, 101]) = false) (hl : ¬ (kk.len : Int) = 1) : StripC (.mk op n nm kk) := by
  intro w P v hr
  obtain ⟨i0, hi0, hz0, hz1, hz2⟩ := info_parts info_rex
  have HSE : Hid (stripF (.mk op n nm kk) = .mk op (n) ([]) (stripL kk)) := hid (by simp only [beq_iff_eq, beq_eq_false_iff_ne, ne_eq] at *; subst a0; simp [stripF, keepN, numO, nameO]; omega)
  obtain ⟨A, cap, rfl, hcap, hkids⟩ := hr.form
  have HKI := hid hkids
  have HK := hid hk
  clear hk hkids hr
  dsimp only [Ex.op, Ex.num, Ex.name, Ex.kids] at *
  go_enter Tryd.func11, Tryd.ntmps11
  go_wp2_with fail
  obtain ⟨W1, hW1⟩ : ∃ W1, W1 = (w.alloc (.cells #[.string ⟨op.toArray⟩, .int .i64 n, .string ⟨nm.toArray⟩, .slice A kk.len cap] 35)).alloc (.cells #[.string ⟨#[]⟩, .int .i64 0, .string ⟨#[]⟩, .slice none 0 0] 35) := ⟨_, rfl⟩
  obtain ⟨W0, hW0⟩ : ∃ W0, W0 = W1.alloc (.cells #[.string ⟨op.toArray⟩, .int .i64 n, .string ⟨#[]⟩, .slice none 0 0] 35) := ⟨_, rfl⟩
  have hs1 : W1.heap.size = w.heap.size + 1 + 1 := by rw [hW1]; simp
  have hs0 : W0.heap.size = w.heap.size + 1 + 1 + 1 := by rw [hW0]; simp [hs1]
  have kB : Bk W0 w.heap.size 35 #[.string ⟨op.toArray⟩, .int .i64 n, .string ⟨nm.toArray⟩, .slice A kk.len cap] := by rw [hW0, hW1]; exact ((Bk.new w _ _).alloc _).alloc _
  have kG : Bk W0 (w.heap.size + 1 + 1) 35 #[.string ⟨op.toArray⟩, .int .i64 n, .string ⟨#[]⟩, .slice none 0 0] := by rw [hW0, ← hs1]; exact Bk.new W1 _ _
  have hB0 : Below w.heap.size w W0 := by rw [hW0, hW1]; exact (((Below.refl _ _).alloc (Nat.le_refl _) _).alloc (by simp) _).alloc (by simp; omega) _
  have hkz : Bk W1 (w.heap.size + 1) 35 #[.string ⟨#[]⟩, .int .i64 0, .string ⟨#[]⟩, .slice none 0 0] := by rw [hW1]; have := Bk.new (w.alloc (.cells #[.string ⟨op.toArray⟩, .int .i64 n, .string ⟨nm.toArray⟩, .slice A kk.len cap] 35)) 35 #[.string ⟨#[]⟩, .int .i64 0, .string ⟨#[]⟩, .slice none 0 0]; simpa using this
  have hKZ := hW0
  rw [← hW1, ← hW0]
  clear hW0 hW1
  have kZ : Bk W0 (w.heap.size + 1) 35 #[.string ⟨#[]⟩, .int .i64 0, .string ⟨#[]⟩, .slice none 0 0] := by rw [hKZ]; exact hkz.alloc _
  have KB := hid kB
  have KG := hid kG
  have KZ := hid kZ
  clear hkz hKZ kZ
  have HB0 := hid hB0
  clear kB kG hB0
  go_loopw [4] (fun v4 wr => ∃ (k : Nat) (u : Value) (cs : List Value), k ≤ kk.len ∧ v4 = .int .i64 k ∧ Hid (TStep (w.heap.size + 1 + 1) W0 (.slice none 0 0) wr u) ∧ Hid (wr.ownsRow W0.heap.size 35 4 u k cs) ∧ Hid (Bk wr (w.heap.size + 1 + 1) 35 #[.string ⟨op.toArray⟩, .int .i64 n, .string ⟨#[]⟩, u]) ∧ Hid (KR wr (FreeH W0.heap.size wr (w.heap.size + 1 + 1) u) (stripL kk) k cs)) (fun v4 _ => kk.len - (intOf v4).toNat)
  case atStart => exact ⟨0, _, [], Nat.zero_le _, rfl, hid (TStep.refl _ _ _), hid ⟨rfl, .inl ⟨rfl, rfl⟩⟩, KG, hid (fun j hj h => by omega)⟩
  case round =>
    obtain ⟨k, u, cs, hk, rfl, HST, HOW, HBK, HKR⟩ := hrel
    obtain ⟨A', cap', rfl⟩ := own_slice HOW.out
    have hszr := HST.out.size
    obtain ⟨p0, p1, p2, p3⟩ := KB.out.cells4
    obtain ⟨g0, g1, g2, g3⟩ := HBK.out.cells4
    have p3 := cell_step HST.out ⟨by omega, by simp [Value.ownBlock], by omega⟩ p3
    have f3 := HBK.out.free 3
    have hglt := HBK.out.lt
    clear p0 p1 p2
    by_cases hlt : k < kk.len
    · have hkl : k < kk.toL.length := by rw [Exs.toL_len]; exact hlt
      obtain ⟨b, off, rfl⟩ := HKI.out.form_ (by omega)
      obtain ⟨A2, cap2, _, q0, q1, q2, q3, hx⟩ := RdL.kid kk b off k hkl HKI.out
      have hbr : Below w.heap.size w wr := HB0.out.trans (HST.out.belowH (by omega) (by simp [Value.ownBlock]) HB0.out.size)
      have q0 := bel_cell hbr q0
      have q1 := bel_cell hbr q1
      have q2 := bel_cell hbr q2
      have q3 := bel_cell hbr q3
      have HX := hid (hx.below hbr)
      have HBR := hid hbr
      clear hx hbr
      go_wp2_with fail
      have HXD := hid (show RdX wr.drew P kk.toL[k] _ from HX.out.below (Below.refl wr.heap.size wr).drew)
      have HGN : Hid (∀ {w1 : World}, w1.ownsRow W0.heap.size 35 4 (.slice A' k cap') k cs → some (w.heap.size + 1 + 1) ≠ (Value.slice A' k cap').ownBlock) := hid (fun h he => by have := (own_lt h _ he.symm).2; omega)
      have hnews : ∀ (w1 : World) (c0 c1 c2 c3 : Value), ∀ j u, [c0, c1, c2, c3][j]? = some u → (w1.alloc (.cells #[c0, c1, c2, c3] 35)).cell? ((⟨w1.heap.size, 0, none⟩ : Addr).add j) = some u := fun w1 c0 c1 c2 c3 => World.news_of_block (cs := #[c0, c1, c2, c3]) (t := 35) (fr := (0, 0)) (heap_alloc_new w1 _)
      have HNW := hid hnews
      have h63 : k + 1 ≤ maxLen := by unfold maxLen; omega
      have hbytes : (k + 1) * 64 ≤ 140737488355328 := by omega
      have hwr0 : W0.heap.size ≤ wr.heap.size := hszr
      clear hnews
      go_region_law (first
        | (refine step_append_lies _ rfl (.tmp 54) (.tmp 61) 33 rfl W0.heap.size 35 i0 _ 4 64 Tryd.underlying33 hi0 hz0 hz1 hz2 rfl (by decide) (.slice A' k cap') k cs (by simp [Act.eval, Act.put]) HOWA.out ⟨w1.heap.size, 0, none⟩ 1 1 [.string ⟨(stripF kk.toL[k]).op.toArray⟩, .int .i64 (stripF kk.toL[k]).num, .string ⟨(stripF kk.toL[k]).name.toArray⟩, .slice A1 (stripF kk.toL[k]).kids.len cap1] (by simp [Act.eval, Act.put]) rfl (HNW.out w1 _ _ _ _) (by simp [Value.oneCell']) (by omega) h63 hbytes (by simp; omega) (w1.heap.size + 1) (by simp) ?_; intro ga capn w3 hown3 hgrow hat hlt3; have kb3 := (HBK1.out.alloc _).grown hgrow hgne; have g3 := kb3.cell 3 _ rfl; have f3 := kb3.free 3; have HOW3 := hid hown3; have HGR := hid hgrow; have HAT := hid hat; clear hown3 hgrow hat kb3)
        | (go_simp; go_at_call 11; (with_reducible refine ((HK.out k hkl).call _ P _ HXD.out).mono ?_); rintro e1 w1 ⟨u1, rfl, hx1, hb1⟩; obtain ⟨A1, cap1, rfl, hc1, _⟩ := hx1.form; have hb1 := ((Below.refl wr.heap.size wr).drew).trans hb1; have hs3 := hb1.size; have HOWA := hid (own_below (own_below HOW.out hb1) ((Below.refl _ _).alloc (Nat.le_refl _) (.cells #[.string ⟨(stripF kk.toL[k]).op.toArray⟩, .int .i64 (stripF kk.toL[k]).num, .string ⟨(stripF kk.toL[k]).name.toArray⟩, .slice A1 (stripF kk.toL[k]).kids.len cap1] 35))); have HOW1 := hid (own_below HOW.out hb1); have kb1 := HBK.out.below hb1 hglt; have HBK1 := hid kb1; have hgne := HGN.out HOW1.out; have hlt1 := kb1.lt; have hne1 := Nat.ne_of_lt hlt1; have g3 := kb1.cell 3 _ rfl; have f3 := kb1.free 3; have HRX := hid hx1; have HB1 := hid hb1; clear hx1 hb1 kb1)
        | fail)
      all_goals
        have hbw1 : W0.heap.size ≤ w1.heap.size := Nat.le_trans hwr0 hs3
        have HP := row_app HBK1.out (show w.heap.size + 1 + 1 < W0.heap.size by omega) hbw1 HOW1.out HOW3.out HGR.out HAT.out
        have HS1 := (TStep.below HB1.out : TStep (w.heap.size + 1 + 1) wr (.slice A' k cap') w1 (.slice A' k cap'))
        have HST3 := hid (HST.out.trans (HS1.trans HP.1))
        have hxf : RdX w1 (FreeH W0.heap.size w1 (w.heap.size + 1 + 1) (.slice A' k cap')) (stripF kk.toL[k]) (.agg #[.string ⟨(stripF kk.toL[k]).op.toArray⟩, .int .i64 (stripF kk.toL[k]).num, .string ⟨(stripF kk.toL[k]).name.toArray⟩, .slice A1 (stripF kk.toL[k]).kids.len cap1]) := HRX.out.freeH hwr0 (show w.heap.size + 1 + 1 < wr.heap.size by omega) (fun b hb => (own_lt HOW.out b hb).1)
        have HKR3 := hid ((((HKR.out.stepH HS1).push (l := stripL kk) (by rw [strip_toL, List.length_map]; exact hkl) HOW.out.1 (by simp only [strip_toL, List.getElem_map]; exact hxf))).stepH HP.1)
        have HBK3 := hid HP.2.1
        have HOW4 := hid HP.2.2
        clear HP HS1 hxf HKR HRX
        go_wp2_with fail
        go_round
        case rel => exact ⟨k + 1, _, _, by omega, rfl, HST3, HOW4, HBK3, HKR3⟩
        case measure => simp [intOf]; omega
    · obtain ⟨z0, z1, z2, z3⟩ := KZ.out.cells4
      have fz : Free W0 (w.heap.size + 1 + 1) (.slice none 0 0) (w.heap.size + 1) := ⟨by omega, by simp [Value.ownBlock], by omega⟩
      have z0 := cell_step HST.out fz z0
      have z1 := cell_step HST.out fz z1
      have z2 := cell_step HST.out fz z2
      have z3 := cell_step HST.out fz z3
      have KZr := hid (show Bk wr (w.heap.size + 1) 35 _ from (HST.out.block _ fz).trans KZ.out)
      have zf0 := KZr.out.free 0
      have zf1 := KZr.out.free 1
      have zf2 := KZr.out.free 2
      have zf3 := KZr.out.free 3
      clear f3 fz
      obtain rfl : k = kk.len := by omega
      have hbel : Below w.heap.size w wr := HB0.out.trans (HST.out.belowH (by omega) (by simp [Value.ownBlock]) HB0.out.size)
      have hrdx : RdX wr (fun b => W0.heap.size ≤ b) (.mk op n ([]) (stripL kk)) (.agg #[.string ⟨op.toArray⟩, .int .i64 n, .string ⟨#[]⟩, .slice A' kk.len cap']) := strip_row (N := ⟨#[]⟩) (nl := ([])) rfl HOW.out (fun j hj hjk => by
        obtain ⟨c0, c1, c2, c3, h0, h1, h2, h3, h4⟩ := HKR.out j hj hjk
        exact ⟨c0, c1, c2, c3, h0, h1, h2, h3, h4.low (fun b hb => hb.1)⟩) rfl (fun b hb => hb)
      have HF := hid (show RdX _ (fun b => w.heap.size ≤ b) (.mk op n ([]) (stripL kk)) _ from (put4_rd (b := w.heap.size + 1) (.string ⟨op.toArray⟩) (.int .i64 n) (.string ⟨#[]⟩) (.slice A' kk.len cap') hrdx (fun b hb => by omega)).low (fun b hb => by omega))
      have HBF := hid ((((hbel.setCell (p := ⟨w.heap.size + 1, 0, none⟩) (by simp) (.string ⟨op.toArray⟩)).setCell (p := ⟨w.heap.size + 1, 1, none⟩) (by simp) (.int .i64 n)).setCell (p := ⟨w.heap.size + 1, 2, none⟩) (by simp) (.string ⟨#[]⟩)).setCell (p := ⟨w.heap.size + 1, 3, none⟩) (by simp) (.slice A' kk.len cap'))
      obtain ⟨y0, y1, y2, y3⟩ := (KZr.out.put4 (.string ⟨op.toArray⟩) (.int .i64 n) (.string ⟨#[]⟩) (.slice A' kk.len cap')).cells4
      clear hbel hrdx
      go_wp2_with fail
      refine bodyPost_ret (v := .agg #[.string ⟨op.toArray⟩, .int .i64 n, .string ⟨#[]⟩, .slice A' kk.len cap']) (by simp [results, Tryd.results11, go_sem, y0, y1, y2, y3]) rfl ?_
      rw [HSE.out]
      exact ⟨_, rfl, HF.out, HBF.out⟩
set_option maxRecDepth 100000 in
set_option maxHeartbeats 8000000 in
theorem strip_name (op nm : List UInt8) (n : Int) (kk : Exs) (hn : kk.len ≤ 100000) (hk : ∀ k (h : k < kk.toL.length), StripC kk.toL[k]) (a0 : (op == [110, 117, 109]) = false) (a1 : (op == [110, 97, 109, 101]) = true) : StripC (.mk op n nm kk) := by
  intro w P v hr
  obtain ⟨i0, hi0, hz0, hz1, hz2⟩ := info_parts info_rex
  have HSE : Hid (stripF (.mk op n nm kk) = .mk op (0) (nm) (stripL kk)) := hid (by simp only [beq_iff_eq, beq_eq_false_iff_ne, ne_eq] at *; subst a1; simp [stripF, keepN, numO, nameO])
  obtain ⟨A, cap, rfl, hcap, hkids⟩ := hr.form
  have HKI := hid hkids
  have HK := hid hk
  clear hk hkids hr
  dsimp only [Ex.op, Ex.num, Ex.name, Ex.kids] at *
  go_enter Tryd.func11, Tryd.ntmps11
  go_wp2_with fail
  obtain ⟨W1, hW1⟩ : ∃ W1, W1 = (w.alloc (.cells #[.string ⟨op.toArray⟩, .int .i64 n, .string ⟨nm.toArray⟩, .slice A kk.len cap] 35)).alloc (.cells #[.string ⟨#[]⟩, .int .i64 0, .string ⟨#[]⟩, .slice none 0 0] 35) := ⟨_, rfl⟩
  obtain ⟨W0, hW0⟩ : ∃ W0, W0 = W1.alloc (.cells #[.string ⟨op.toArray⟩, .int .i64 (0), .string ⟨nm.toArray⟩, .slice none 0 0] 35) := ⟨_, rfl⟩
  have hs1 : W1.heap.size = w.heap.size + 1 + 1 := by rw [hW1]; simp
  have hs0 : W0.heap.size = w.heap.size + 1 + 1 + 1 := by rw [hW0]; simp [hs1]
  have kB : Bk W0 w.heap.size 35 #[.string ⟨op.toArray⟩, .int .i64 n, .string ⟨nm.toArray⟩, .slice A kk.len cap] := by rw [hW0, hW1]; exact ((Bk.new w _ _).alloc _).alloc _
  have kG : Bk W0 (w.heap.size + 1 + 1) 35 #[.string ⟨op.toArray⟩, .int .i64 (0), .string ⟨nm.toArray⟩, .slice none 0 0] := by rw [hW0, ← hs1]; exact Bk.new W1 _ _
  have hB0 : Below w.heap.size w W0 := by rw [hW0, hW1]; exact (((Below.refl _ _).alloc (Nat.le_refl _) _).alloc (by simp) _).alloc (by simp; omega) _
  have hkz : Bk W1 (w.heap.size + 1) 35 #[.string ⟨#[]⟩, .int .i64 0, .string ⟨#[]⟩, .slice none 0 0] := by rw [hW1]; have := Bk.new (w.alloc (.cells #[.string ⟨op.toArray⟩, .int .i64 n, .string ⟨nm.toArray⟩, .slice A kk.len cap] 35)) 35 #[.string ⟨#[]⟩, .int .i64 0, .string ⟨#[]⟩, .slice none 0 0]; simpa using this
  have hKZ := hW0
  rw [← hW1, ← hW0]
  clear hW0 hW1
  have kZ : Bk W0 (w.heap.size + 1) 35 #[.string ⟨#[]⟩, .int .i64 0, .string ⟨#[]⟩, .slice none 0 0] := by rw [hKZ]; exact hkz.alloc _
  have KB := hid kB
  have KG := hid kG
  have KZ := hid kZ
  clear hkz hKZ kZ
  have HB0 := hid hB0
  clear kB kG hB0
  go_loopw [4] (fun v4 wr => ∃ (k : Nat) (u : Value) (cs : List Value), k ≤ kk.len ∧ v4 = .int .i64 k ∧ Hid (TStep (w.heap.size + 1 + 1) W0 (.slice none 0 0) wr u) ∧ Hid (wr.ownsRow W0.heap.size 35 4 u k cs) ∧ Hid (Bk wr (w.heap.size + 1 + 1) 35 #[.string ⟨op.toArray⟩, .int .i64 (0), .string ⟨nm.toArray⟩, u]) ∧ Hid (KR wr (FreeH W0.heap.size wr (w.heap.size + 1 + 1) u) (stripL kk) k cs)) (fun v4 _ => kk.len - (intOf v4).toNat)
  case atStart => exact ⟨0, _, [], Nat.zero_le _, rfl, hid (TStep.refl _ _ _), hid ⟨rfl, .inl ⟨rfl, rfl⟩⟩, KG, hid (fun j hj h => by omega)⟩
  case round =>
    obtain ⟨k, u, cs, hk, rfl, HST, HOW, HBK, HKR⟩ := hrel
    obtain ⟨A', cap', rfl⟩ := own_slice HOW.out
    have hszr := HST.out.size
    obtain ⟨p0, p1, p2, p3⟩ := KB.out.cells4
    obtain ⟨g0, g1, g2, g3⟩ := HBK.out.cells4
    have p3 := cell_step HST.out ⟨by omega, by simp [Value.ownBlock], by omega⟩ p3
    have f3 := HBK.out.free 3
    have hglt := HBK.out.lt
    clear p0 p1 p2
    by_cases hlt : k < kk.len
    · have hkl : k < kk.toL.length := by rw [Exs.toL_len]; exact hlt
      obtain ⟨b, off, rfl⟩ := HKI.out.form_ (by omega)
      obtain ⟨A2, cap2, _, q0, q1, q2, q3, hx⟩ := RdL.kid kk b off k hkl HKI.out
      have hbr : Below w.heap.size w wr := HB0.out.trans (HST.out.belowH (by omega) (by simp [Value.ownBlock]) HB0.out.size)
      have q0 := bel_cell hbr q0
      have q1 := bel_cell hbr q1
      have q2 := bel_cell hbr q2
      have q3 := bel_cell hbr q3
      have HX := hid (hx.below hbr)
      have HBR := hid hbr
      clear hx hbr
      go_wp2_with fail
      have HXD := hid (show RdX wr.drew P kk.toL[k] _ from HX.out.below (Below.refl wr.heap.size wr).drew)
      have HGN : Hid (∀ {w1 : World}, w1.ownsRow W0.heap.size 35 4 (.slice A' k cap') k cs → some (w.heap.size + 1 + 1) ≠ (Value.slice A' k cap').ownBlock) := hid (fun h he => by have := (own_lt h _ he.symm).2; omega)
      have hnews : ∀ (w1 : World) (c0 c1 c2 c3 : Value), ∀ j u, [c0, c1, c2, c3][j]? = some u → (w1.alloc (.cells #[c0, c1, c2, c3] 35)).cell? ((⟨w1.heap.size, 0, none⟩ : Addr).add j) = some u := fun w1 c0 c1 c2 c3 => World.news_of_block (cs := #[c0, c1, c2, c3]) (t := 35) (fr := (0, 0)) (heap_alloc_new w1 _)
      have HNW := hid hnews
      have h63 : k + 1 ≤ maxLen := by unfold maxLen; omega
      have hbytes : (k + 1) * 64 ≤ 140737488355328 := by omega
      have hwr0 : W0.heap.size ≤ wr.heap.size := hszr
      clear hnews
      go_region_law (first
        | (refine step_append_lies _ rfl (.tmp 54) (.tmp 61) 33 rfl W0.heap.size 35 i0 _ 4 64 Tryd.underlying33 hi0 hz0 hz1 hz2 rfl (by decide) (.slice A' k cap') k cs (by simp [Act.eval, Act.put]) HOWA.out ⟨w1.heap.size, 0, none⟩ 1 1 [.string ⟨(stripF kk.toL[k]).op.toArray⟩, .int .i64 (stripF kk.toL[k]).num, .string ⟨(stripF kk.toL[k]).name.toArray⟩, .slice A1 (stripF kk.toL[k]).kids.len cap1] (by simp [Act.eval, Act.put]) rfl (HNW.out w1 _ _ _ _) (by simp [Value.oneCell']) (by omega) h63 hbytes (by simp; omega) (w1.heap.size + 1) (by simp) ?_; intro ga capn w3 hown3 hgrow hat hlt3; have kb3 := (HBK1.out.alloc _).grown hgrow hgne; have g3 := kb3.cell 3 _ rfl; have f3 := kb3.free 3; have HOW3 := hid hown3; have HGR := hid hgrow; have HAT := hid hat; clear hown3 hgrow hat kb3)
        | (go_simp; go_at_call 11; (with_reducible refine ((HK.out k hkl).call _ P _ HXD.out).mono ?_); rintro e1 w1 ⟨u1, rfl, hx1, hb1⟩; obtain ⟨A1, cap1, rfl, hc1, _⟩ := hx1.form; have hb1 := ((Below.refl wr.heap.size wr).drew).trans hb1; have hs3 := hb1.size; have HOWA := hid (own_below (own_below HOW.out hb1) ((Below.refl _ _).alloc (Nat.le_refl _) (.cells #[.string ⟨(stripF kk.toL[k]).op.toArray⟩, .int .i64 (stripF kk.toL[k]).num, .string ⟨(stripF kk.toL[k]).name.toArray⟩, .slice A1 (stripF kk.toL[k]).kids.len cap1] 35))); have HOW1 := hid (own_below HOW.out hb1); have kb1 := HBK.out.below hb1 hglt; have HBK1 := hid kb1; have hgne := HGN.out HOW1.out; have hlt1 := kb1.lt; have hne1 := Nat.ne_of_lt hlt1; have g3 := kb1.cell 3 _ rfl; have f3 := kb1.free 3; have HRX := hid hx1; have HB1 := hid hb1; clear hx1 hb1 kb1)
        | fail)
      all_goals
        have hbw1 : W0.heap.size ≤ w1.heap.size := Nat.le_trans hwr0 hs3
        have HP := row_app HBK1.out (show w.heap.size + 1 + 1 < W0.heap.size by omega) hbw1 HOW1.out HOW3.out HGR.out HAT.out
        have HS1 := (TStep.below HB1.out : TStep (w.heap.size + 1 + 1) wr (.slice A' k cap') w1 (.slice A' k cap'))
        have HST3 := hid (HST.out.trans (HS1.trans HP.1))
        have hxf : RdX w1 (FreeH W0.heap.size w1 (w.heap.size + 1 + 1) (.slice A' k cap')) (stripF kk.toL[k]) (.agg #[.string ⟨(stripF kk.toL[k]).op.toArray⟩, .int .i64 (stripF kk.toL[k]).num, .string ⟨(stripF kk.toL[k]).name.toArray⟩, .slice A1 (stripF kk.toL[k]).kids.len cap1]) := HRX.out.freeH hwr0 (show w.heap.size + 1 + 1 < wr.heap.size by omega) (fun b hb => (own_lt HOW.out b hb).1)
        have HKR3 := hid ((((HKR.out.stepH HS1).push (l := stripL kk) (by rw [strip_toL, List.length_map]; exact hkl) HOW.out.1 (by simp only [strip_toL, List.getElem_map]; exact hxf))).stepH HP.1)
        have HBK3 := hid HP.2.1
        have HOW4 := hid HP.2.2
        clear HP HS1 hxf HKR HRX
        go_wp2_with fail
        go_round
        case rel => exact ⟨k + 1, _, _, by omega, rfl, HST3, HOW4, HBK3, HKR3⟩
        case measure => simp [intOf]; omega
    · obtain ⟨z0, z1, z2, z3⟩ := KZ.out.cells4
      have fz : Free W0 (w.heap.size + 1 + 1) (.slice none 0 0) (w.heap.size + 1) := ⟨by omega, by simp [Value.ownBlock], by omega⟩
      have z0 := cell_step HST.out fz z0
      have z1 := cell_step HST.out fz z1
      have z2 := cell_step HST.out fz z2
      have z3 := cell_step HST.out fz z3
      have KZr := hid (show Bk wr (w.heap.size + 1) 35 _ from (HST.out.block _ fz).trans KZ.out)
      have zf0 := KZr.out.free 0
      have zf1 := KZr.out.free 1
      have zf2 := KZr.out.free 2
      have zf3 := KZr.out.free 3
      clear f3 fz
      obtain rfl : k = kk.len := by omega
      have hbel : Below w.heap.size w wr := HB0.out.trans (HST.out.belowH (by omega) (by simp [Value.ownBlock]) HB0.out.size)
      have hrdx : RdX wr (fun b => W0.heap.size ≤ b) (.mk op (0) (nm) (stripL kk)) (.agg #[.string ⟨op.toArray⟩, .int .i64 (0), .string ⟨nm.toArray⟩, .slice A' kk.len cap']) := strip_row (N := ⟨nm.toArray⟩) (nl := (nm)) rfl HOW.out (fun j hj hjk => by
        obtain ⟨c0, c1, c2, c3, h0, h1, h2, h3, h4⟩ := HKR.out j hj hjk
        exact ⟨c0, c1, c2, c3, h0, h1, h2, h3, h4.low (fun b hb => hb.1)⟩) rfl (fun b hb => hb)
      have HF := hid (show RdX _ (fun b => w.heap.size ≤ b) (.mk op (0) (nm) (stripL kk)) _ from (put4_rd (b := w.heap.size + 1) (.string ⟨op.toArray⟩) (.int .i64 (0)) (.string ⟨nm.toArray⟩) (.slice A' kk.len cap') hrdx (fun b hb => by omega)).low (fun b hb => by omega))
      have HBF := hid ((((hbel.setCell (p := ⟨w.heap.size + 1, 0, none⟩) (by simp) (.string ⟨op.toArray⟩)).setCell (p := ⟨w.heap.size + 1, 1, none⟩) (by simp) (.int .i64 (0))).setCell (p := ⟨w.heap.size + 1, 2, none⟩) (by simp) (.string ⟨nm.toArray⟩)).setCell (p := ⟨w.heap.size + 1, 3, none⟩) (by simp) (.slice A' kk.len cap'))
      obtain ⟨y0, y1, y2, y3⟩ := (KZr.out.put4 (.string ⟨op.toArray⟩) (.int .i64 (0)) (.string ⟨nm.toArray⟩) (.slice A' kk.len cap')).cells4
      clear hbel hrdx
      go_wp2_with fail
      refine bodyPost_ret (v := .agg #[.string ⟨op.toArray⟩, .int .i64 (0), .string ⟨nm.toArray⟩, .slice A' kk.len cap']) (by simp [results, Tryd.results11, go_sem, y0, y1, y2, y3]) rfl ?_
      rw [HSE.out]
      exact ⟨_, rfl, HF.out, HBF.out⟩
set_option maxRecDepth 100000 in
set_option maxHeartbeats 8000000 in
theorem strip_many (op nm : List UInt8) (n : Int) (kk : Exs) (hn : kk.len ≤ 100000) (hk : ∀ k (h : k < kk.toL.length), StripC kk.toL[k]) (a0 : (op == [110, 117, 109]) = false) (a1 : (op == [110, 97, 109, 101]) = false) (hl : ¬ (kk.len : Int) = 1) : StripC (.mk op n nm kk) := by
  intro w P v hr
  obtain ⟨i0, hi0, hz0, hz1, hz2⟩ := info_parts info_rex
  have HSE : Hid (stripF (.mk op n nm kk) = .mk op (0) ([]) (stripL kk)) := hid (by simp only [beq_iff_eq, beq_eq_false_iff_ne, ne_eq] at *; simp [stripF, keepN, numO, nameO, a0, a1]; omega)
  obtain ⟨A, cap, rfl, hcap, hkids⟩ := hr.form
  have HKI := hid hkids
  have HK := hid hk
  clear hk hkids hr
  dsimp only [Ex.op, Ex.num, Ex.name, Ex.kids] at *
  go_enter Tryd.func11, Tryd.ntmps11
  go_wp2_with fail
  obtain ⟨W1, hW1⟩ : ∃ W1, W1 = (w.alloc (.cells #[.string ⟨op.toArray⟩, .int .i64 n, .string ⟨nm.toArray⟩, .slice A kk.len cap] 35)).alloc (.cells #[.string ⟨#[]⟩, .int .i64 0, .string ⟨#[]⟩, .slice none 0 0] 35) := ⟨_, rfl⟩
  obtain ⟨W0, hW0⟩ : ∃ W0, W0 = W1.alloc (.cells #[.string ⟨op.toArray⟩, .int .i64 (0), .string ⟨#[]⟩, .slice none 0 0] 35) := ⟨_, rfl⟩
  have hs1 : W1.heap.size = w.heap.size + 1 + 1 := by rw [hW1]; simp
  have hs0 : W0.heap.size = w.heap.size + 1 + 1 + 1 := by rw [hW0]; simp [hs1]
  have kB : Bk W0 w.heap.size 35 #[.string ⟨op.toArray⟩, .int .i64 n, .string ⟨nm.toArray⟩, .slice A kk.len cap] := by rw [hW0, hW1]; exact ((Bk.new w _ _).alloc _).alloc _
  have kG : Bk W0 (w.heap.size + 1 + 1) 35 #[.string ⟨op.toArray⟩, .int .i64 (0), .string ⟨#[]⟩, .slice none 0 0] := by rw [hW0, ← hs1]; exact Bk.new W1 _ _
  have hB0 : Below w.heap.size w W0 := by rw [hW0, hW1]; exact (((Below.refl _ _).alloc (Nat.le_refl _) _).alloc (by simp) _).alloc (by simp; omega) _
  have hkz : Bk W1 (w.heap.size + 1) 35 #[.string ⟨#[]⟩, .int .i64 0, .string ⟨#[]⟩, .slice none 0 0] := by rw [hW1]; have := Bk.new (w.alloc (.cells #[.string ⟨op.toArray⟩, .int .i64 n, .string ⟨nm.toArray⟩, .slice A kk.len cap] 35)) 35 #[.string ⟨#[]⟩, .int .i64 0, .string ⟨#[]⟩, .slice none 0 0]; simpa using this
  have hKZ := hW0
  rw [← hW1, ← hW0]
  clear hW0 hW1
  have kZ : Bk W0 (w.heap.size + 1) 35 #[.string ⟨#[]⟩, .int .i64 0, .string ⟨#[]⟩, .slice none 0 0] := by rw [hKZ]; exact hkz.alloc _
  have KB := hid kB
  have KG := hid kG
  have KZ := hid kZ
  clear hkz hKZ kZ
  have HB0 := hid hB0
  clear kB kG hB0
  go_loopw [4] (fun v4 wr => ∃ (k : Nat) (u : Value) (cs : List Value), k ≤ kk.len ∧ v4 = .int .i64 k ∧ Hid (TStep (w.heap.size + 1 + 1) W0 (.slice none 0 0) wr u) ∧ Hid (wr.ownsRow W0.heap.size 35 4 u k cs) ∧ Hid (Bk wr (w.heap.size + 1 + 1) 35 #[.string ⟨op.toArray⟩, .int .i64 (0), .string ⟨#[]⟩, u]) ∧ Hid (KR wr (FreeH W0.heap.size wr (w.heap.size + 1 + 1) u) (stripL kk) k cs)) (fun v4 _ => kk.len - (intOf v4).toNat)
  case atStart => exact ⟨0, _, [], Nat.zero_le _, rfl, hid (TStep.refl _ _ _), hid ⟨rfl, .inl ⟨rfl, rfl⟩⟩, KG, hid (fun j hj h => by omega)⟩
  case round =>
    obtain ⟨k, u, cs, hk, rfl, HST, HOW, HBK, HKR⟩ := hrel
    obtain ⟨A', cap', rfl⟩ := own_slice HOW.out
    have hszr := HST.out.size
    obtain ⟨p0, p1, p2, p3⟩ := KB.out.cells4
    obtain ⟨g0, g1, g2, g3⟩ := HBK.out.cells4
    have p3 := cell_step HST.out ⟨by omega, by simp [Value.ownBlock], by omega⟩ p3
    have f3 := HBK.out.free 3
    have hglt := HBK.out.lt
    clear p0 p1 p2
    by_cases hlt : k < kk.len
    · have hkl : k < kk.toL.length := by rw [Exs.toL_len]; exact hlt
      obtain ⟨b, off, rfl⟩ := HKI.out.form_ (by omega)
      obtain ⟨A2, cap2, _, q0, q1, q2, q3, hx⟩ := RdL.kid kk b off k hkl HKI.out
      have hbr : Below w.heap.size w wr := HB0.out.trans (HST.out.belowH (by omega) (by simp [Value.ownBlock]) HB0.out.size)
      have q0 := bel_cell hbr q0
      have q1 := bel_cell hbr q1
      have q2 := bel_cell hbr q2
      have q3 := bel_cell hbr q3
      have HX := hid (hx.below hbr)
      have HBR := hid hbr
      clear hx hbr
      go_wp2_with fail
      have HXD := hid (show RdX wr.drew P kk.toL[k] _ from HX.out.below (Below.refl wr.heap.size wr).drew)
      have HGN : Hid (∀ {w1 : World}, w1.ownsRow W0.heap.size 35 4 (.slice A' k cap') k cs → some (w.heap.size + 1 + 1) ≠ (Value.slice A' k cap').ownBlock) := hid (fun h he => by have := (own_lt h _ he.symm).2; omega)
      have hnews : ∀ (w1 : World) (c0 c1 c2 c3 : Value), ∀ j u, [c0, c1, c2, c3][j]? = some u → (w1.alloc (.cells #[c0, c1, c2, c3] 35)).cell? ((⟨w1.heap.size, 0, none⟩ : Addr).add j) = some u := fun w1 c0 c1 c2 c3 => World.news_of_block (cs := #[c0, c1, c2, c3]) (t := 35) (fr := (0, 0)) (heap_alloc_new w1 _)
      have HNW := hid hnews
      have h63 : k + 1 ≤ maxLen := by unfold maxLen; omega
      have hbytes : (k + 1) * 64 ≤ 140737488355328 := by omega
      have hwr0 : W0.heap.size ≤ wr.heap.size := hszr
      clear hnews
      go_region_law (first
        | (refine step_append_lies _ rfl (.tmp 54) (.tmp 61) 33 rfl W0.heap.size 35 i0 _ 4 64 Tryd.underlying33 hi0 hz0 hz1 hz2 rfl (by decide) (.slice A' k cap') k cs (by simp [Act.eval, Act.put]) HOWA.out ⟨w1.heap.size, 0, none⟩ 1 1 [.string ⟨(stripF kk.toL[k]).op.toArray⟩, .int .i64 (stripF kk.toL[k]).num, .string ⟨(stripF kk.toL[k]).name.toArray⟩, .slice A1 (stripF kk.toL[k]).kids.len cap1] (by simp [Act.eval, Act.put]) rfl (HNW.out w1 _ _ _ _) (by simp [Value.oneCell']) (by omega) h63 hbytes (by simp; omega) (w1.heap.size + 1) (by simp) ?_; intro ga capn w3 hown3 hgrow hat hlt3; have kb3 := (HBK1.out.alloc _).grown hgrow hgne; have g3 := kb3.cell 3 _ rfl; have f3 := kb3.free 3; have HOW3 := hid hown3; have HGR := hid hgrow; have HAT := hid hat; clear hown3 hgrow hat kb3)
        | (go_simp; go_at_call 11; (with_reducible refine ((HK.out k hkl).call _ P _ HXD.out).mono ?_); rintro e1 w1 ⟨u1, rfl, hx1, hb1⟩; obtain ⟨A1, cap1, rfl, hc1, _⟩ := hx1.form; have hb1 := ((Below.refl wr.heap.size wr).drew).trans hb1; have hs3 := hb1.size; have HOWA := hid (own_below (own_below HOW.out hb1) ((Below.refl _ _).alloc (Nat.le_refl _) (.cells #[.string ⟨(stripF kk.toL[k]).op.toArray⟩, .int .i64 (stripF kk.toL[k]).num, .string ⟨(stripF kk.toL[k]).name.toArray⟩, .slice A1 (stripF kk.toL[k]).kids.len cap1] 35))); have HOW1 := hid (own_below HOW.out hb1); have kb1 := HBK.out.below hb1 hglt; have HBK1 := hid kb1; have hgne := HGN.out HOW1.out; have hlt1 := kb1.lt; have hne1 := Nat.ne_of_lt hlt1; have g3 := kb1.cell 3 _ rfl; have f3 := kb1.free 3; have HRX := hid hx1; have HB1 := hid hb1; clear hx1 hb1 kb1)
        | fail)
      all_goals
        have hbw1 : W0.heap.size ≤ w1.heap.size := Nat.le_trans hwr0 hs3
        have HP := row_app HBK1.out (show w.heap.size + 1 + 1 < W0.heap.size by omega) hbw1 HOW1.out HOW3.out HGR.out HAT.out
        have HS1 := (TStep.below HB1.out : TStep (w.heap.size + 1 + 1) wr (.slice A' k cap') w1 (.slice A' k cap'))
        have HST3 := hid (HST.out.trans (HS1.trans HP.1))
        have hxf : RdX w1 (FreeH W0.heap.size w1 (w.heap.size + 1 + 1) (.slice A' k cap')) (stripF kk.toL[k]) (.agg #[.string ⟨(stripF kk.toL[k]).op.toArray⟩, .int .i64 (stripF kk.toL[k]).num, .string ⟨(stripF kk.toL[k]).name.toArray⟩, .slice A1 (stripF kk.toL[k]).kids.len cap1]) := HRX.out.freeH hwr0 (show w.heap.size + 1 + 1 < wr.heap.size by omega) (fun b hb => (own_lt HOW.out b hb).1)
        have HKR3 := hid ((((HKR.out.stepH HS1).push (l := stripL kk) (by rw [strip_toL, List.length_map]; exact hkl) HOW.out.1 (by simp only [strip_toL, List.getElem_map]; exact hxf))).stepH HP.1)
        have HBK3 := hid HP.2.1
        have HOW4 := hid HP.2.2
        clear HP HS1 hxf HKR HRX
        go_wp2_with fail
        go_round
        case rel => exact ⟨k + 1, _, _, by omega, rfl, HST3, HOW4, HBK3, HKR3⟩
        case measure => simp [intOf]; omega
    · obtain ⟨z0, z1, z2, z3⟩ := KZ.out.cells4
      have fz : Free W0 (w.heap.size + 1 + 1) (.slice none 0 0) (w.heap.size + 1) := ⟨by omega, by simp [Value.ownBlock], by omega⟩
      have z0 := cell_step HST.out fz z0
      have z1 := cell_step HST.out fz z1
      have z2 := cell_step HST.out fz z2
      have z3 := cell_step HST.out fz z3
      have KZr := hid (show Bk wr (w.heap.size + 1) 35 _ from (HST.out.block _ fz).trans KZ.out)
      have zf0 := KZr.out.free 0
      have zf1 := KZr.out.free 1
      have zf2 := KZr.out.free 2
      have zf3 := KZr.out.free 3
      clear f3 fz
      obtain rfl : k = kk.len := by omega
      have hbel : Below w.heap.size w wr := HB0.out.trans (HST.out.belowH (by omega) (by simp [Value.ownBlock]) HB0.out.size)
      have hrdx : RdX wr (fun b => W0.heap.size ≤ b) (.mk op (0) ([]) (stripL kk)) (.agg #[.string ⟨op.toArray⟩, .int .i64 (0), .string ⟨#[]⟩, .slice A' kk.len cap']) := strip_row (N := ⟨#[]⟩) (nl := ([])) rfl HOW.out (fun j hj hjk => by
        obtain ⟨c0, c1, c2, c3, h0, h1, h2, h3, h4⟩ := HKR.out j hj hjk
        exact ⟨c0, c1, c2, c3, h0, h1, h2, h3, h4.low (fun b hb => hb.1)⟩) rfl (fun b hb => hb)
      have HF := hid (show RdX _ (fun b => w.heap.size ≤ b) (.mk op (0) ([]) (stripL kk)) _ from (put4_rd (b := w.heap.size + 1) (.string ⟨op.toArray⟩) (.int .i64 (0)) (.string ⟨#[]⟩) (.slice A' kk.len cap') hrdx (fun b hb => by omega)).low (fun b hb => by omega))
      have HBF := hid ((((hbel.setCell (p := ⟨w.heap.size + 1, 0, none⟩) (by simp) (.string ⟨op.toArray⟩)).setCell (p := ⟨w.heap.size + 1, 1, none⟩) (by simp) (.int .i64 (0))).setCell (p := ⟨w.heap.size + 1, 2, none⟩) (by simp) (.string ⟨#[]⟩)).setCell (p := ⟨w.heap.size + 1, 3, none⟩) (by simp) (.slice A' kk.len cap'))
      obtain ⟨y0, y1, y2, y3⟩ := (KZr.out.put4 (.string ⟨op.toArray⟩) (.int .i64 (0)) (.string ⟨#[]⟩) (.slice A' kk.len cap')).cells4
      clear hbel hrdx
      go_wp2_with fail
      refine bodyPost_ret (v := .agg #[.string ⟨op.toArray⟩, .int .i64 (0), .string ⟨#[]⟩, .slice A' kk.len cap']) (by simp [results, Tryd.results11, go_sem, y0, y1, y2, y3]) rfl ?_
      rw [HSE.out]
      exact ⟨_, rfl, HF.out, HBF.out⟩
set_option maxRecDepth 100000 in
set_option maxHeartbeats 8000000 in
theorem strip_una0 (op nm : List UInt8) (n : Int) (kk : Exs) (hn : kk.len ≤ 100000) (hk : ∀ k (h : k < kk.toL.length), StripC kk.toL[k]) (a0 : (op == [110, 117, 109]) = false) (a1 : (op == [110, 97, 109, 101]) = false) (hl : (kk.len : Int) = 1) (b0 : (op == [110, 101, 103]) = true) : StripC (.mk op n nm kk) := by
  intro w P v hr
  obtain ⟨i0, hi0, hz0, hz1, hz2⟩ := info_parts info_rex
  have HSE : Hid (stripF (.mk op n nm kk) = .mk op (0) ([]) (stripL kk)) := hid (by simp only [beq_iff_eq, beq_eq_false_iff_ne, ne_eq] at *; subst b0; simp [stripF, keepN, numO, nameO])
  obtain ⟨A, cap, rfl, hcap, hkids⟩ := hr.form
  have HKI := hid hkids
  have HK := hid hk
  clear hk hkids hr
  dsimp only [Ex.op, Ex.num, Ex.name, Ex.kids] at *
  go_enter Tryd.func11, Tryd.ntmps11
  go_wp2_with fail
  obtain ⟨W1, hW1⟩ : ∃ W1, W1 = (w.alloc (.cells #[.string ⟨op.toArray⟩, .int .i64 n, .string ⟨nm.toArray⟩, .slice A kk.len cap] 35)).alloc (.cells #[.string ⟨#[]⟩, .int .i64 0, .string ⟨#[]⟩, .slice none 0 0] 35) := ⟨_, rfl⟩
  obtain ⟨W0, hW0⟩ : ∃ W0, W0 = W1.alloc (.cells #[.string ⟨op.toArray⟩, .int .i64 (0), .string ⟨#[]⟩, .slice none 0 0] 35) := ⟨_, rfl⟩
  have hs1 : W1.heap.size = w.heap.size + 1 + 1 := by rw [hW1]; simp
  have hs0 : W0.heap.size = w.heap.size + 1 + 1 + 1 := by rw [hW0]; simp [hs1]
  have kB : Bk W0 w.heap.size 35 #[.string ⟨op.toArray⟩, .int .i64 n, .string ⟨nm.toArray⟩, .slice A kk.len cap] := by rw [hW0, hW1]; exact ((Bk.new w _ _).alloc _).alloc _
  have kG : Bk W0 (w.heap.size + 1 + 1) 35 #[.string ⟨op.toArray⟩, .int .i64 (0), .string ⟨#[]⟩, .slice none 0 0] := by rw [hW0, ← hs1]; exact Bk.new W1 _ _
  have hB0 : Below w.heap.size w W0 := by rw [hW0, hW1]; exact (((Below.refl _ _).alloc (Nat.le_refl _) _).alloc (by simp) _).alloc (by simp; omega) _
  have hkz : Bk W1 (w.heap.size + 1) 35 #[.string ⟨#[]⟩, .int .i64 0, .string ⟨#[]⟩, .slice none 0 0] := by rw [hW1]; have := Bk.new (w.alloc (.cells #[.string ⟨op.toArray⟩, .int .i64 n, .string ⟨nm.toArray⟩, .slice A kk.len cap] 35)) 35 #[.string ⟨#[]⟩, .int .i64 0, .string ⟨#[]⟩, .slice none 0 0]; simpa using this
  have hKZ := hW0
  rw [← hW1, ← hW0]
  clear hW0 hW1
  have kZ : Bk W0 (w.heap.size + 1) 35 #[.string ⟨#[]⟩, .int .i64 0, .string ⟨#[]⟩, .slice none 0 0] := by rw [hKZ]; exact hkz.alloc _
  have KB := hid kB
  have KG := hid kG
  have KZ := hid kZ
  clear hkz hKZ kZ
  have HB0 := hid hB0
  clear kB kG hB0
  go_loopw [4] (fun v4 wr => ∃ (k : Nat) (u : Value) (cs : List Value), k ≤ kk.len ∧ v4 = .int .i64 k ∧ Hid (TStep (w.heap.size + 1 + 1) W0 (.slice none 0 0) wr u) ∧ Hid (wr.ownsRow W0.heap.size 35 4 u k cs) ∧ Hid (Bk wr (w.heap.size + 1 + 1) 35 #[.string ⟨op.toArray⟩, .int .i64 (0), .string ⟨#[]⟩, u]) ∧ Hid (KR wr (FreeH W0.heap.size wr (w.heap.size + 1 + 1) u) (stripL kk) k cs)) (fun v4 _ => kk.len - (intOf v4).toNat)
  case atStart => exact ⟨0, _, [], Nat.zero_le _, rfl, hid (TStep.refl _ _ _), hid ⟨rfl, .inl ⟨rfl, rfl⟩⟩, KG, hid (fun j hj h => by omega)⟩
  case round =>
    obtain ⟨k, u, cs, hk, rfl, HST, HOW, HBK, HKR⟩ := hrel
    obtain ⟨A', cap', rfl⟩ := own_slice HOW.out
    have hszr := HST.out.size
    obtain ⟨p0, p1, p2, p3⟩ := KB.out.cells4
    obtain ⟨g0, g1, g2, g3⟩ := HBK.out.cells4
    have p3 := cell_step HST.out ⟨by omega, by simp [Value.ownBlock], by omega⟩ p3
    have f3 := HBK.out.free 3
    have hglt := HBK.out.lt
    clear p0 p1 p2
    by_cases hlt : k < kk.len
    · have hkl : k < kk.toL.length := by rw [Exs.toL_len]; exact hlt
      obtain ⟨b, off, rfl⟩ := HKI.out.form_ (by omega)
      obtain ⟨A2, cap2, _, q0, q1, q2, q3, hx⟩ := RdL.kid kk b off k hkl HKI.out
      have hbr : Below w.heap.size w wr := HB0.out.trans (HST.out.belowH (by omega) (by simp [Value.ownBlock]) HB0.out.size)
      have q0 := bel_cell hbr q0
      have q1 := bel_cell hbr q1
      have q2 := bel_cell hbr q2
      have q3 := bel_cell hbr q3
      have HX := hid (hx.below hbr)
      have HBR := hid hbr
      clear hx hbr
      go_wp2_with fail
      have HXD := hid (show RdX wr.drew P kk.toL[k] _ from HX.out.below (Below.refl wr.heap.size wr).drew)
      have HGN : Hid (∀ {w1 : World}, w1.ownsRow W0.heap.size 35 4 (.slice A' k cap') k cs → some (w.heap.size + 1 + 1) ≠ (Value.slice A' k cap').ownBlock) := hid (fun h he => by have := (own_lt h _ he.symm).2; omega)
      have hnews : ∀ (w1 : World) (c0 c1 c2 c3 : Value), ∀ j u, [c0, c1, c2, c3][j]? = some u → (w1.alloc (.cells #[c0, c1, c2, c3] 35)).cell? ((⟨w1.heap.size, 0, none⟩ : Addr).add j) = some u := fun w1 c0 c1 c2 c3 => World.news_of_block (cs := #[c0, c1, c2, c3]) (t := 35) (fr := (0, 0)) (heap_alloc_new w1 _)
      have HNW := hid hnews
      have h63 : k + 1 ≤ maxLen := by unfold maxLen; omega
      have hbytes : (k + 1) * 64 ≤ 140737488355328 := by omega
      have hwr0 : W0.heap.size ≤ wr.heap.size := hszr
      clear hnews
      go_region_law (first
        | (refine step_append_lies _ rfl (.tmp 54) (.tmp 61) 33 rfl W0.heap.size 35 i0 _ 4 64 Tryd.underlying33 hi0 hz0 hz1 hz2 rfl (by decide) (.slice A' k cap') k cs (by simp [Act.eval, Act.put]) HOWA.out ⟨w1.heap.size, 0, none⟩ 1 1 [.string ⟨(stripF kk.toL[k]).op.toArray⟩, .int .i64 (stripF kk.toL[k]).num, .string ⟨(stripF kk.toL[k]).name.toArray⟩, .slice A1 (stripF kk.toL[k]).kids.len cap1] (by simp [Act.eval, Act.put]) rfl (HNW.out w1 _ _ _ _) (by simp [Value.oneCell']) (by omega) h63 hbytes (by simp; omega) (w1.heap.size + 1) (by simp) ?_; intro ga capn w3 hown3 hgrow hat hlt3; have kb3 := (HBK1.out.alloc _).grown hgrow hgne; have g3 := kb3.cell 3 _ rfl; have f3 := kb3.free 3; have HOW3 := hid hown3; have HGR := hid hgrow; have HAT := hid hat; clear hown3 hgrow hat kb3)
        | (go_simp; go_at_call 11; (with_reducible refine ((HK.out k hkl).call _ P _ HXD.out).mono ?_); rintro e1 w1 ⟨u1, rfl, hx1, hb1⟩; obtain ⟨A1, cap1, rfl, hc1, _⟩ := hx1.form; have hb1 := ((Below.refl wr.heap.size wr).drew).trans hb1; have hs3 := hb1.size; have HOWA := hid (own_below (own_below HOW.out hb1) ((Below.refl _ _).alloc (Nat.le_refl _) (.cells #[.string ⟨(stripF kk.toL[k]).op.toArray⟩, .int .i64 (stripF kk.toL[k]).num, .string ⟨(stripF kk.toL[k]).name.toArray⟩, .slice A1 (stripF kk.toL[k]).kids.len cap1] 35))); have HOW1 := hid (own_below HOW.out hb1); have kb1 := HBK.out.below hb1 hglt; have HBK1 := hid kb1; have hgne := HGN.out HOW1.out; have hlt1 := kb1.lt; have hne1 := Nat.ne_of_lt hlt1; have g3 := kb1.cell 3 _ rfl; have f3 := kb1.free 3; have HRX := hid hx1; have HB1 := hid hb1; clear hx1 hb1 kb1)
        | fail)
      all_goals
        have hbw1 : W0.heap.size ≤ w1.heap.size := Nat.le_trans hwr0 hs3
        have HP := row_app HBK1.out (show w.heap.size + 1 + 1 < W0.heap.size by omega) hbw1 HOW1.out HOW3.out HGR.out HAT.out
        have HS1 := (TStep.below HB1.out : TStep (w.heap.size + 1 + 1) wr (.slice A' k cap') w1 (.slice A' k cap'))
        have HST3 := hid (HST.out.trans (HS1.trans HP.1))
        have hxf : RdX w1 (FreeH W0.heap.size w1 (w.heap.size + 1 + 1) (.slice A' k cap')) (stripF kk.toL[k]) (.agg #[.string ⟨(stripF kk.toL[k]).op.toArray⟩, .int .i64 (stripF kk.toL[k]).num, .string ⟨(stripF kk.toL[k]).name.toArray⟩, .slice A1 (stripF kk.toL[k]).kids.len cap1]) := HRX.out.freeH hwr0 (show w.heap.size + 1 + 1 < wr.heap.size by omega) (fun b hb => (own_lt HOW.out b hb).1)
        have HKR3 := hid ((((HKR.out.stepH HS1).push (l := stripL kk) (by rw [strip_toL, List.length_map]; exact hkl) HOW.out.1 (by simp only [strip_toL, List.getElem_map]; exact hxf))).stepH HP.1)
        have HBK3 := hid HP.2.1
        have HOW4 := hid HP.2.2
        clear HP HS1 hxf HKR HRX
        go_wp2_with fail
        go_round
        case rel => exact ⟨k + 1, _, _, by omega, rfl, HST3, HOW4, HBK3, HKR3⟩
        case measure => simp [intOf]; omega
    · obtain ⟨z0, z1, z2, z3⟩ := KZ.out.cells4
      have fz : Free W0 (w.heap.size + 1 + 1) (.slice none 0 0) (w.heap.size + 1) := ⟨by omega, by simp [Value.ownBlock], by omega⟩
      have z0 := cell_step HST.out fz z0
      have z1 := cell_step HST.out fz z1
      have z2 := cell_step HST.out fz z2
      have z3 := cell_step HST.out fz z3
      have KZr := hid (show Bk wr (w.heap.size + 1) 35 _ from (HST.out.block _ fz).trans KZ.out)
      have zf0 := KZr.out.free 0
      have zf1 := KZr.out.free 1
      have zf2 := KZr.out.free 2
      have zf3 := KZr.out.free 3
      clear f3 fz
      obtain rfl : k = kk.len := by omega
      have hbel : Below w.heap.size w wr := HB0.out.trans (HST.out.belowH (by omega) (by simp [Value.ownBlock]) HB0.out.size)
      have hrdx : RdX wr (fun b => W0.heap.size ≤ b) (.mk op (0) ([]) (stripL kk)) (.agg #[.string ⟨op.toArray⟩, .int .i64 (0), .string ⟨#[]⟩, .slice A' kk.len cap']) := strip_row (N := ⟨#[]⟩) (nl := ([])) rfl HOW.out (fun j hj hjk => by
        obtain ⟨c0, c1, c2, c3, h0, h1, h2, h3, h4⟩ := HKR.out j hj hjk
        exact ⟨c0, c1, c2, c3, h0, h1, h2, h3, h4.low (fun b hb => hb.1)⟩) rfl (fun b hb => hb)
      have HF := hid (show RdX _ (fun b => w.heap.size ≤ b) (.mk op (0) ([]) (stripL kk)) _ from (put4_rd (b := w.heap.size + 1) (.string ⟨op.toArray⟩) (.int .i64 (0)) (.string ⟨#[]⟩) (.slice A' kk.len cap') hrdx (fun b hb => by omega)).low (fun b hb => by omega))
      have HBF := hid ((((hbel.setCell (p := ⟨w.heap.size + 1, 0, none⟩) (by simp) (.string ⟨op.toArray⟩)).setCell (p := ⟨w.heap.size + 1, 1, none⟩) (by simp) (.int .i64 (0))).setCell (p := ⟨w.heap.size + 1, 2, none⟩) (by simp) (.string ⟨#[]⟩)).setCell (p := ⟨w.heap.size + 1, 3, none⟩) (by simp) (.slice A' kk.len cap'))
      obtain ⟨y0, y1, y2, y3⟩ := (KZr.out.put4 (.string ⟨op.toArray⟩) (.int .i64 (0)) (.string ⟨#[]⟩) (.slice A' kk.len cap')).cells4
      clear hbel hrdx
      go_wp2_with fail
      refine bodyPost_ret (v := .agg #[.string ⟨op.toArray⟩, .int .i64 (0), .string ⟨#[]⟩, .slice A' kk.len cap']) (by simp [results, Tryd.results11, go_sem, y0, y1, y2, y3]) rfl ?_
      rw [HSE.out]
      exact ⟨_, rfl, HF.out, HBF.out⟩
set_option maxRecDepth 100000 in
set_option maxHeartbeats 8000000 in
theorem strip_una1 (op nm : List UInt8) (n : Int) (kk : Exs) (hn : kk.len ≤ 100000) (hk : ∀ k (h : k < kk.toL.length), StripC kk.toL[k]) (a0 : (op == [110, 117, 109]) = false) (a1 : (op == [110, 97, 109, 101]) = false) (hl : (kk.len : Int) = 1) (b0 : (op == [110, 101, 103]) = false) (b1 : (op == [112, 111, 115]) = true) : StripC (.mk op n nm kk) := by
  intro w P v hr
  obtain ⟨i0, hi0, hz0, hz1, hz2⟩ := info_parts info_rex
  have HSE : Hid (stripF (.mk op n nm kk) = .mk op (0) ([]) (stripL kk)) := hid (by simp only [beq_iff_eq, beq_eq_false_iff_ne, ne_eq] at *; subst b1; simp [stripF, keepN, numO, nameO])
  obtain ⟨A, cap, rfl, hcap, hkids⟩ := hr.form
  have HKI := hid hkids
  have HK := hid hk
  clear hk hkids hr
  dsimp only [Ex.op, Ex.num, Ex.name, Ex.kids] at *
  go_enter Tryd.func11, Tryd.ntmps11
  go_wp2_with fail
  obtain ⟨W1, hW1⟩ : ∃ W1, W1 = (w.alloc (.cells #[.string ⟨op.toArray⟩, .int .i64 n, .string ⟨nm.toArray⟩, .slice A kk.len cap] 35)).alloc (.cells #[.string ⟨#[]⟩, .int .i64 0, .string ⟨#[]⟩, .slice none 0 0] 35) := ⟨_, rfl⟩
  obtain ⟨W0, hW0⟩ : ∃ W0, W0 = W1.alloc (.cells #[.string ⟨op.toArray⟩, .int .i64 (0), .string ⟨#[]⟩, .slice none 0 0] 35) := ⟨_, rfl⟩
  have hs1 : W1.heap.size = w.heap.size + 1 + 1 := by rw [hW1]; simp
  have hs0 : W0.heap.size = w.heap.size + 1 + 1 + 1 := by rw [hW0]; simp [hs1]
  have kB : Bk W0 w.heap.size 35 #[.string ⟨op.toArray⟩, .int .i64 n, .string ⟨nm.toArray⟩, .slice A kk.len cap] := by rw [hW0, hW1]; exact ((Bk.new w _ _).alloc _).alloc _
  have kG : Bk W0 (w.heap.size + 1 + 1) 35 #[.string ⟨op.toArray⟩, .int .i64 (0), .string ⟨#[]⟩, .slice none 0 0] := by rw [hW0, ← hs1]; exact Bk.new W1 _ _
  have hB0 : Below w.heap.size w W0 := by rw [hW0, hW1]; exact (((Below.refl _ _).alloc (Nat.le_refl _) _).alloc (by simp) _).alloc (by simp; omega) _
  have hkz : Bk W1 (w.heap.size + 1) 35 #[.string ⟨#[]⟩, .int .i64 0, .string ⟨#[]⟩, .slice none 0 0] := by rw [hW1]; have := Bk.new (w.alloc (.cells #[.string ⟨op.toArray⟩, .int .i64 n, .string ⟨nm.toArray⟩, .slice A kk.len cap] 35)) 35 #[.string ⟨#[]⟩, .int .i64 0, .string ⟨#[]⟩, .slice none 0 0]; simpa using this
  have hKZ := hW0
  rw [← hW1, ← hW0]
  clear hW0 hW1
  have kZ : Bk W0 (w.heap.size + 1) 35 #[.string ⟨#[]⟩, .int .i64 0, .string ⟨#[]⟩, .slice none 0 0] := by rw [hKZ]; exact hkz.alloc _
  have KB := hid kB
  have KG := hid kG
  have KZ := hid kZ
  clear hkz hKZ kZ
  have HB0 := hid hB0
  clear kB kG hB0
  go_loopw [4] (fun v4 wr => ∃ (k : Nat) (u : Value) (cs : List Value), k ≤ kk.len ∧ v4 = .int .i64 k ∧ Hid (TStep (w.heap.size + 1 + 1) W0 (.slice none 0 0) wr u) ∧ Hid (wr.ownsRow W0.heap.size 35 4 u k cs) ∧ Hid (Bk wr (w.heap.size + 1 + 1) 35 #[.string ⟨op.toArray⟩, .int .i64 (0), .string ⟨#[]⟩, u]) ∧ Hid (KR wr (FreeH W0.heap.size wr (w.heap.size + 1 + 1) u) (stripL kk) k cs)) (fun v4 _ => kk.len - (intOf v4).toNat)
  case atStart => exact ⟨0, _, [], Nat.zero_le _, rfl, hid (TStep.refl _ _ _), hid ⟨rfl, .inl ⟨rfl, rfl⟩⟩, KG, hid (fun j hj h => by omega)⟩
  case round =>
    obtain ⟨k, u, cs, hk, rfl, HST, HOW, HBK, HKR⟩ := hrel
    obtain ⟨A', cap', rfl⟩ := own_slice HOW.out
    have hszr := HST.out.size
    obtain ⟨p0, p1, p2, p3⟩ := KB.out.cells4
    obtain ⟨g0, g1, g2, g3⟩ := HBK.out.cells4
    have p3 := cell_step HST.out ⟨by omega, by simp [Value.ownBlock], by omega⟩ p3
    have f3 := HBK.out.free 3
    have hglt := HBK.out.lt
    clear p0 p1 p2
    by_cases hlt : k < kk.len
    · have hkl : k < kk.toL.length := by rw [Exs.toL_len]; exact hlt
      obtain ⟨b, off, rfl⟩ := HKI.out.form_ (by omega)
      obtain ⟨A2, cap2, _, q0, q1, q2, q3, hx⟩ := RdL.kid kk b off k hkl HKI.out
      have hbr : Below w.heap.size w wr := HB0.out.trans (HST.out.belowH (by omega) (by simp [Value.ownBlock]) HB0.out.size)
      have q0 := bel_cell hbr q0
      have q1 := bel_cell hbr q1
      have q2 := bel_cell hbr q2
      have q3 := bel_cell hbr q3
      have HX := hid (hx.below hbr)
      have HBR := hid hbr
      clear hx hbr
      go_wp2_with fail
      have HXD := hid (show RdX wr.drew P kk.toL[k] _ from HX.out.below (Below.refl wr.heap.size wr).drew)
      have HGN : Hid (∀ {w1 : World}, w1.ownsRow W0.heap.size 35 4 (.slice A' k cap') k cs → some (w.heap.size + 1 + 1) ≠ (Value.slice A' k cap').ownBlock) := hid (fun h he => by have := (own_lt h _ he.symm).2; omega)
      have hnews : ∀ (w1 : World) (c0 c1 c2 c3 : Value), ∀ j u, [c0, c1, c2, c3][j]? = some u → (w1.alloc (.cells #[c0, c1, c2, c3] 35)).cell? ((⟨w1.heap.size, 0, none⟩ : Addr).add j) = some u := fun w1 c0 c1 c2 c3 => World.news_of_block (cs := #[c0, c1, c2, c3]) (t := 35) (fr := (0, 0)) (heap_alloc_new w1 _)
      have HNW := hid hnews
      have h63 : k + 1 ≤ maxLen := by unfold maxLen; omega
      have hbytes : (k + 1) * 64 ≤ 140737488355328 := by omega
      have hwr0 : W0.heap.size ≤ wr.heap.size := hszr
      clear hnews
      go_region_law (first
        | (refine step_append_lies _ rfl (.tmp 54) (.tmp 61) 33 rfl W0.heap.size 35 i0 _ 4 64 Tryd.underlying33 hi0 hz0 hz1 hz2 rfl (by decide) (.slice A' k cap') k cs (by simp [Act.eval, Act.put]) HOWA.out ⟨w1.heap.size, 0, none⟩ 1 1 [.string ⟨(stripF kk.toL[k]).op.toArray⟩, .int .i64 (stripF kk.toL[k]).num, .string ⟨(stripF kk.toL[k]).name.toArray⟩, .slice A1 (stripF kk.toL[k]).kids.len cap1] (by simp [Act.eval, Act.put]) rfl (HNW.out w1 _ _ _ _) (by simp [Value.oneCell']) (by omega) h63 hbytes (by simp; omega) (w1.heap.size + 1) (by simp) ?_; intro ga capn w3 hown3 hgrow hat hlt3; have kb3 := (HBK1.out.alloc _).grown hgrow hgne; have g3 := kb3.cell 3 _ rfl; have f3 := kb3.free 3; have HOW3 := hid hown3; have HGR := hid hgrow; have HAT := hid hat; clear hown3 hgrow hat kb3)
        | (go_simp; go_at_call 11; (with_reducible refine ((HK.out k hkl).call _ P _ HXD.out).mono ?_); rintro e1 w1 ⟨u1, rfl, hx1, hb1⟩; obtain ⟨A1, cap1, rfl, hc1, _⟩ := hx1.form; have hb1 := ((Below.refl wr.heap.size wr).drew).trans hb1; have hs3 := hb1.size; have HOWA := hid (own_below (own_below HOW.out hb1) ((Below.refl _ _).alloc (Nat.le_refl _) (.cells #[.string ⟨(stripF kk.toL[k]).op.toArray⟩, .int .i64 (stripF kk.toL[k]).num, .string ⟨(stripF kk.toL[k]).name.toArray⟩, .slice A1 (stripF kk.toL[k]).kids.len cap1] 35))); have HOW1 := hid (own_below HOW.out hb1); have kb1 := HBK.out.below hb1 hglt; have HBK1 := hid kb1; have hgne := HGN.out HOW1.out; have hlt1 := kb1.lt; have hne1 := Nat.ne_of_lt hlt1; have g3 := kb1.cell 3 _ rfl; have f3 := kb1.free 3; have HRX := hid hx1; have HB1 := hid hb1; clear hx1 hb1 kb1)
        | fail)
      all_goals
        have hbw1 : W0.heap.size ≤ w1.heap.size := Nat.le_trans hwr0 hs3
        have HP := row_app HBK1.out (show w.heap.size + 1 + 1 < W0.heap.size by omega) hbw1 HOW1.out HOW3.out HGR.out HAT.out
        have HS1 := (TStep.below HB1.out : TStep (w.heap.size + 1 + 1) wr (.slice A' k cap') w1 (.slice A' k cap'))
        have HST3 := hid (HST.out.trans (HS1.trans HP.1))
        have hxf : RdX w1 (FreeH W0.heap.size w1 (w.heap.size + 1 + 1) (.slice A' k cap')) (stripF kk.toL[k]) (.agg #[.string ⟨(stripF kk.toL[k]).op.toArray⟩, .int .i64 (stripF kk.toL[k]).num, .string ⟨(stripF kk.toL[k]).name.toArray⟩, .slice A1 (stripF kk.toL[k]).kids.len cap1]) := HRX.out.freeH hwr0 (show w.heap.size + 1 + 1 < wr.heap.size by omega) (fun b hb => (own_lt HOW.out b hb).1)
        have HKR3 := hid ((((HKR.out.stepH HS1).push (l := stripL kk) (by rw [strip_toL, List.length_map]; exact hkl) HOW.out.1 (by simp only [strip_toL, List.getElem_map]; exact hxf))).stepH HP.1)
        have HBK3 := hid HP.2.1
        have HOW4 := hid HP.2.2
        clear HP HS1 hxf HKR HRX
        go_wp2_with fail
        go_round
        case rel => exact ⟨k + 1, _, _, by omega, rfl, HST3, HOW4, HBK3, HKR3⟩
        case measure => simp [intOf]; omega
    · obtain ⟨z0, z1, z2, z3⟩ := KZ.out.cells4
      have fz : Free W0 (w.heap.size + 1 + 1) (.slice none 0 0) (w.heap.size + 1) := ⟨by omega, by simp [Value.ownBlock], by omega⟩
      have z0 := cell_step HST.out fz z0
      have z1 := cell_step HST.out fz z1
      have z2 := cell_step HST.out fz z2
      have z3 := cell_step HST.out fz z3
      have KZr := hid (show Bk wr (w.heap.size + 1) 35 _ from (HST.out.block _ fz).trans KZ.out)
      have zf0 := KZr.out.free 0
      have zf1 := KZr.out.free 1
      have zf2 := KZr.out.free 2
      have zf3 := KZr.out.free 3
      clear f3 fz
      obtain rfl : k = kk.len := by omega
      have hbel : Below w.heap.size w wr := HB0.out.trans (HST.out.belowH (by omega) (by simp [Value.ownBlock]) HB0.out.size)
      have hrdx : RdX wr (fun b => W0.heap.size ≤ b) (.mk op (0) ([]) (stripL kk)) (.agg #[.string ⟨op.toArray⟩, .int .i64 (0), .string ⟨#[]⟩, .slice A' kk.len cap']) := strip_row (N := ⟨#[]⟩) (nl := ([])) rfl HOW.out (fun j hj hjk => by
        obtain ⟨c0, c1, c2, c3, h0, h1, h2, h3, h4⟩ := HKR.out j hj hjk
        exact ⟨c0, c1, c2, c3, h0, h1, h2, h3, h4.low (fun b hb => hb.1)⟩) rfl (fun b hb => hb)
      have HF := hid (show RdX _ (fun b => w.heap.size ≤ b) (.mk op (0) ([]) (stripL kk)) _ from (put4_rd (b := w.heap.size + 1) (.string ⟨op.toArray⟩) (.int .i64 (0)) (.string ⟨#[]⟩) (.slice A' kk.len cap') hrdx (fun b hb => by omega)).low (fun b hb => by omega))
      have HBF := hid ((((hbel.setCell (p := ⟨w.heap.size + 1, 0, none⟩) (by simp) (.string ⟨op.toArray⟩)).setCell (p := ⟨w.heap.size + 1, 1, none⟩) (by simp) (.int .i64 (0))).setCell (p := ⟨w.heap.size + 1, 2, none⟩) (by simp) (.string ⟨#[]⟩)).setCell (p := ⟨w.heap.size + 1, 3, none⟩) (by simp) (.slice A' kk.len cap'))
      obtain ⟨y0, y1, y2, y3⟩ := (KZr.out.put4 (.string ⟨op.toArray⟩) (.int .i64 (0)) (.string ⟨#[]⟩) (.slice A' kk.len cap')).cells4
      clear hbel hrdx
      go_wp2_with fail
      refine bodyPost_ret (v := .agg #[.string ⟨op.toArray⟩, .int .i64 (0), .string ⟨#[]⟩, .slice A' kk.len cap']) (by simp [results, Tryd.results11, go_sem, y0, y1, y2, y3]) rfl ?_
      rw [HSE.out]
      exact ⟨_, rfl, HF.out, HBF.out⟩
set_option maxRecDepth 100000 in
set_option maxHeartbeats 8000000 in
theorem strip_una2 (op nm : List UInt8) (n : Int) (kk : Exs) (hn : kk.len ≤ 100000) (hk : ∀ k (h : k < kk.toL.length), StripC kk.toL[k]) (a0 : (op == [110, 117, 109]) = false) (a1 : (op == [110, 97, 109, 101]) = false) (hl : (kk.len : Int) = 1) (b0 : (op == [110, 101, 103]) = false) (b1 : (op == [112, 111, 115]) = false) (b2 : (op == [110, 111, 116]) = true) : StripC (.mk op n nm kk) := by
  intro w P v hr
  obtain ⟨i0, hi0, hz0, hz1, hz2⟩ := info_parts info_rex
  have HSE : Hid (stripF (.mk op n nm kk) = .mk op (0) ([]) (stripL kk)) := hid (by simp only [beq_iff_eq, beq_eq_false_iff_ne, ne_eq] at *; subst b2; simp [stripF, keepN, numO, nameO])
  obtain ⟨A, cap, rfl, hcap, hkids⟩ := hr.form
  have HKI := hid hkids
  have HK := hid hk
  clear hk hkids hr
  dsimp only [Ex.op, Ex.num, Ex.name, Ex.kids] at *
  go_enter Tryd.func11, Tryd.ntmps11
  go_wp2_with fail
  obtain ⟨W1, hW1⟩ : ∃ W1, W1 = (w.alloc (.cells #[.string ⟨op.toArray⟩, .int .i64 n, .string ⟨nm.toArray⟩, .slice A kk.len cap] 35)).alloc (.cells #[.string ⟨#[]⟩, .int .i64 0, .string ⟨#[]⟩, .slice none 0 0] 35) := ⟨_, rfl⟩
  obtain ⟨W0, hW0⟩ : ∃ W0, W0 = W1.alloc (.cells #[.string ⟨op.toArray⟩, .int .i64 (0), .string ⟨#[]⟩, .slice none 0 0] 35) := ⟨_, rfl⟩
  have hs1 : W1.heap.size = w.heap.size + 1 + 1 := by rw [hW1]; simp
  have hs0 : W0.heap.size = w.heap.size + 1 + 1 + 1 := by rw [hW0]; simp [hs1]
  have kB : Bk W0 w.heap.size 35 #[.string ⟨op.toArray⟩, .int .i64 n, .string ⟨nm.toArray⟩, .slice A kk.len cap] := by rw [hW0, hW1]; exact ((Bk.new w _ _).alloc _).alloc _
  have kG : Bk W0 (w.heap.size + 1 + 1) 35 #[.string ⟨op.toArray⟩, .int .i64 (0), .string ⟨#[]⟩, .slice none 0 0] := by rw [hW0, ← hs1]; exact Bk.new W1 _ _
  have hB0 : Below w.heap.size w W0 := by rw [hW0, hW1]; exact (((Below.refl _ _).alloc (Nat.le_refl _) _).alloc (by simp) _).alloc (by simp; omega) _
  have hkz : Bk W1 (w.heap.size + 1) 35 #[.string ⟨#[]⟩, .int .i64 0, .string ⟨#[]⟩, .slice none 0 0] := by rw [hW1]; have := Bk.new (w.alloc (.cells #[.string ⟨op.toArray⟩, .int .i64 n, .string ⟨nm.toArray⟩, .slice A kk.len cap] 35)) 35 #[.string ⟨#[]⟩, .int .i64 0, .string ⟨#[]⟩, .slice none 0 0]; simpa using this
  have hKZ := hW0
  rw [← hW1, ← hW0]
  clear hW0 hW1
  have kZ : Bk W0 (w.heap.size + 1) 35 #[.string ⟨#[]⟩, .int .i64 0, .string ⟨#[]⟩, .slice none 0 0] := by rw [hKZ]; exact hkz.alloc _
  have KB := hid kB
  have KG := hid kG
  have KZ := hid kZ
  clear hkz hKZ kZ
  have HB0 := hid hB0
  clear kB kG hB0
  go_loopw [4] (fun v4 wr => ∃ (k : Nat) (u : Value) (cs : List Value), k ≤ kk.len ∧ v4 = .int .i64 k ∧ Hid (TStep (w.heap.size + 1 + 1) W0 (.slice none 0 0) wr u) ∧ Hid (wr.ownsRow W0.heap.size 35 4 u k cs) ∧ Hid (Bk wr (w.heap.size + 1 + 1) 35 #[.string ⟨op.toArray⟩, .int .i64 (0), .string ⟨#[]⟩, u]) ∧ Hid (KR wr (FreeH W0.heap.size wr (w.heap.size + 1 + 1) u) (stripL kk) k cs)) (fun v4 _ => kk.len - (intOf v4).toNat)
  case atStart => exact ⟨0, _, [], Nat.zero_le _, rfl, hid (TStep.refl _ _ _), hid ⟨rfl, .inl ⟨rfl, rfl⟩⟩, KG, hid (fun j hj h => by omega)⟩
  case round =>
    obtain ⟨k, u, cs, hk, rfl, HST, HOW, HBK, HKR⟩ := hrel
    obtain ⟨A', cap', rfl⟩ := own_slice HOW.out
    have hszr := HST.out.size
    obtain ⟨p0, p1, p2, p3⟩ := KB.out.cells4
    obtain ⟨g0, g1, g2, g3⟩ := HBK.out.cells4
    have p3 := cell_step HST.out ⟨by omega, by simp [Value.ownBlock], by omega⟩ p3
    have f3 := HBK.out.free 3
    have hglt := HBK.out.lt
    clear p0 p1 p2
    by_cases hlt : k < kk.len
    · have hkl : k < kk.toL.length := by rw [Exs.toL_len]; exact hlt
      obtain ⟨b, off, rfl⟩ := HKI.out.form_ (by omega)
      obtain ⟨A2, cap2, _, q0, q1, q2, q3, hx⟩ := RdL.kid kk b off k hkl HKI.out
      have hbr : Below w.heap.size w wr := HB0.out.trans (HST.out.belowH (by omega) (by simp [Value.ownBlock]) HB0.out.size)
      have q0 := bel_cell hbr q0
      have q1 := bel_cell hbr q1
      have q2 := bel_cell hbr q2
      have q3 := bel_cell hbr q3
      have HX := hid (hx.below hbr)
      have HBR := hid hbr
      clear hx hbr
      go_wp2_with fail
      have HXD := hid (show RdX wr.drew P kk.toL[k] _ from HX.out.below (Below.refl wr.heap.size wr).drew)
      have HGN : Hid (∀ {w1 : World}, w1.ownsRow W0.heap.size 35 4 (.slice A' k cap') k cs → some (w.heap.size + 1 + 1) ≠ (Value.slice A' k cap').ownBlock) := hid (fun h he => by have := (own_lt h _ he.symm).2; omega)
      have hnews : ∀ (w1 : World) (c0 c1 c2 c3 : Value), ∀ j u, [c0, c1, c2, c3][j]? = some u → (w1.alloc (.cells #[c0, c1, c2, c3] 35)).cell? ((⟨w1.heap.size, 0, none⟩ : Addr).add j) = some u := fun w1 c0 c1 c2 c3 => World.news_of_block (cs := #[c0, c1, c2, c3]) (t := 35) (fr := (0, 0)) (heap_alloc_new w1 _)
      have HNW := hid hnews
      have h63 : k + 1 ≤ maxLen := by unfold maxLen; omega
      have hbytes : (k + 1) * 64 ≤ 140737488355328 := by omega
      have hwr0 : W0.heap.size ≤ wr.heap.size := hszr
      clear hnews
      go_region_law (first
        | (refine step_append_lies _ rfl (.tmp 54) (.tmp 61) 33 rfl W0.heap.size 35 i0 _ 4 64 Tryd.underlying33 hi0 hz0 hz1 hz2 rfl (by decide) (.slice A' k cap') k cs (by simp [Act.eval, Act.put]) HOWA.out ⟨w1.heap.size, 0, none⟩ 1 1 [.string ⟨(stripF kk.toL[k]).op.toArray⟩, .int .i64 (stripF kk.toL[k]).num, .string ⟨(stripF kk.toL[k]).name.toArray⟩, .slice A1 (stripF kk.toL[k]).kids.len cap1] (by simp [Act.eval, Act.put]) rfl (HNW.out w1 _ _ _ _) (by simp [Value.oneCell']) (by omega) h63 hbytes (by simp; omega) (w1.heap.size + 1) (by simp) ?_; intro ga capn w3 hown3 hgrow hat hlt3; have kb3 := (HBK1.out.alloc _).grown hgrow hgne; have g3 := kb3.cell 3 _ rfl; have f3 := kb3.free 3; have HOW3 := hid hown3; have HGR := hid hgrow; have HAT := hid hat; clear hown3 hgrow hat kb3)
        | (go_simp; go_at_call 11; (with_reducible refine ((HK.out k hkl).call _ P _ HXD.out).mono ?_); rintro e1 w1 ⟨u1, rfl, hx1, hb1⟩; obtain ⟨A1, cap1, rfl, hc1, _⟩ := hx1.form; have hb1 := ((Below.refl wr.heap.size wr).drew).trans hb1; have hs3 := hb1.size; have HOWA := hid (own_below (own_below HOW.out hb1) ((Below.refl _ _).alloc (Nat.le_refl _) (.cells #[.string ⟨(stripF kk.toL[k]).op.toArray⟩, .int .i64 (stripF kk.toL[k]).num, .string ⟨(stripF kk.toL[k]).name.toArray⟩, .slice A1 (stripF kk.toL[k]).kids.len cap1] 35))); have HOW1 := hid (own_below HOW.out hb1); have kb1 := HBK.out.below hb1 hglt; have HBK1 := hid kb1; have hgne := HGN.out HOW1.out; have hlt1 := kb1.lt; have hne1 := Nat.ne_of_lt hlt1; have g3 := kb1.cell 3 _ rfl; have f3 := kb1.free 3; have HRX := hid hx1; have HB1 := hid hb1; clear hx1 hb1 kb1)
        | fail)
      all_goals
        have hbw1 : W0.heap.size ≤ w1.heap.size := Nat.le_trans hwr0 hs3
        have HP := row_app HBK1.out (show w.heap.size + 1 + 1 < W0.heap.size by omega) hbw1 HOW1.out HOW3.out HGR.out HAT.out
        have HS1 := (TStep.below HB1.out : TStep (w.heap.size + 1 + 1) wr (.slice A' k cap') w1 (.slice A' k cap'))
        have HST3 := hid (HST.out.trans (HS1.trans HP.1))
        have hxf : RdX w1 (FreeH W0.heap.size w1 (w.heap.size + 1 + 1) (.slice A' k cap')) (stripF kk.toL[k]) (.agg #[.string ⟨(stripF kk.toL[k]).op.toArray⟩, .int .i64 (stripF kk.toL[k]).num, .string ⟨(stripF kk.toL[k]).name.toArray⟩, .slice A1 (stripF kk.toL[k]).kids.len cap1]) := HRX.out.freeH hwr0 (show w.heap.size + 1 + 1 < wr.heap.size by omega) (fun b hb => (own_lt HOW.out b hb).1)
        have HKR3 := hid ((((HKR.out.stepH HS1).push (l := stripL kk) (by rw [strip_toL, List.length_map]; exact hkl) HOW.out.1 (by simp only [strip_toL, List.getElem_map]; exact hxf))).stepH HP.1)
        have HBK3 := hid HP.2.1
        have HOW4 := hid HP.2.2
        clear HP HS1 hxf HKR HRX
        go_wp2_with fail
        go_round
        case rel => exact ⟨k + 1, _, _, by omega, rfl, HST3, HOW4, HBK3, HKR3⟩
        case measure => simp [intOf]; omega
    · obtain ⟨z0, z1, z2, z3⟩ := KZ.out.cells4
      have fz : Free W0 (w.heap.size + 1 + 1) (.slice none 0 0) (w.heap.size + 1) := ⟨by omega, by simp [Value.ownBlock], by omega⟩
      have z0 := cell_step HST.out fz z0
      have z1 := cell_step HST.out fz z1
      have z2 := cell_step HST.out fz z2
      have z3 := cell_step HST.out fz z3
      have KZr := hid (show Bk wr (w.heap.size + 1) 35 _ from (HST.out.block _ fz).trans KZ.out)
      have zf0 := KZr.out.free 0
      have zf1 := KZr.out.free 1
      have zf2 := KZr.out.free 2
      have zf3 := KZr.out.free 3
      clear f3 fz
      obtain rfl : k = kk.len := by omega
      have hbel : Below w.heap.size w wr := HB0.out.trans (HST.out.belowH (by omega) (by simp [Value.ownBlock]) HB0.out.size)
      have hrdx : RdX wr (fun b => W0.heap.size ≤ b) (.mk op (0) ([]) (stripL kk)) (.agg #[.string ⟨op.toArray⟩, .int .i64 (0), .string ⟨#[]⟩, .slice A' kk.len cap']) := strip_row (N := ⟨#[]⟩) (nl := ([])) rfl HOW.out (fun j hj hjk => by
        obtain ⟨c0, c1, c2, c3, h0, h1, h2, h3, h4⟩ := HKR.out j hj hjk
        exact ⟨c0, c1, c2, c3, h0, h1, h2, h3, h4.low (fun b hb => hb.1)⟩) rfl (fun b hb => hb)
      have HF := hid (show RdX _ (fun b => w.heap.size ≤ b) (.mk op (0) ([]) (stripL kk)) _ from (put4_rd (b := w.heap.size + 1) (.string ⟨op.toArray⟩) (.int .i64 (0)) (.string ⟨#[]⟩) (.slice A' kk.len cap') hrdx (fun b hb => by omega)).low (fun b hb => by omega))
      have HBF := hid ((((hbel.setCell (p := ⟨w.heap.size + 1, 0, none⟩) (by simp) (.string ⟨op.toArray⟩)).setCell (p := ⟨w.heap.size + 1, 1, none⟩) (by simp) (.int .i64 (0))).setCell (p := ⟨w.heap.size + 1, 2, none⟩) (by simp) (.string ⟨#[]⟩)).setCell (p := ⟨w.heap.size + 1, 3, none⟩) (by simp) (.slice A' kk.len cap'))
      obtain ⟨y0, y1, y2, y3⟩ := (KZr.out.put4 (.string ⟨op.toArray⟩) (.int .i64 (0)) (.string ⟨#[]⟩) (.slice A' kk.len cap')).cells4
      clear hbel hrdx
      go_wp2_with fail
      refine bodyPost_ret (v := .agg #[.string ⟨op.toArray⟩, .int .i64 (0), .string ⟨#[]⟩, .slice A' kk.len cap']) (by simp [results, Tryd.results11, go_sem, y0, y1, y2, y3]) rfl ?_
      rw [HSE.out]
      exact ⟨_, rfl, HF.out, HBF.out⟩
set_option maxRecDepth 100000 in
set_option maxHeartbeats 8000000 in
theorem strip_una3 (op nm : List UInt8) (n : Int) (kk : Exs) (hn : kk.len ≤ 100000) (hk : ∀ k (h : k < kk.toL.length), StripC kk.toL[k]) (a0 : (op == [110, 117, 109]) = false) (a1 : (op == [110, 97, 109, 101]) = false) (hl : (kk.len : Int) = 1) (b0 : (op == [110, 101, 103]) = false) (b1 : (op == [112, 111, 115]) = false) (b2 : (op == [110, 111, 116]) = false) (b3 : (op == [99, 111, 109]) = true) : StripC (.mk op n nm kk) := by
  intro w P v hr
  obtain ⟨i0, hi0, hz0, hz1, hz2⟩ := info_parts info_rex
  have HSE : Hid (stripF (.mk op n nm kk) = .mk op (0) ([]) (stripL kk)) := hid (by simp only [beq_iff_eq, beq_eq_false_iff_ne, ne_eq] at *; subst b3; simp [stripF, keepN, numO, nameO])
  obtain ⟨A, cap, rfl, hcap, hkids⟩ := hr.form
  have HKI := hid hkids
  have HK := hid hk
  clear hk hkids hr
  dsimp only [Ex.op, Ex.num, Ex.name, Ex.kids] at *
  go_enter Tryd.func11, Tryd.ntmps11
  go_wp2_with fail
  obtain ⟨W1, hW1⟩ : ∃ W1, W1 = (w.alloc (.cells #[.string ⟨op.toArray⟩, .int .i64 n, .string ⟨nm.toArray⟩, .slice A kk.len cap] 35)).alloc (.cells #[.string ⟨#[]⟩, .int .i64 0, .string ⟨#[]⟩, .slice none 0 0] 35) := ⟨_, rfl⟩
  obtain ⟨W0, hW0⟩ : ∃ W0, W0 = W1.alloc (.cells #[.string ⟨op.toArray⟩, .int .i64 (0), .string ⟨#[]⟩, .slice none 0 0] 35) := ⟨_, rfl⟩
  have hs1 : W1.heap.size = w.heap.size + 1 + 1 := by rw [hW1]; simp
  have hs0 : W0.heap.size = w.heap.size + 1 + 1 + 1 := by rw [hW0]; simp [hs1]
  have kB : Bk W0 w.heap.size 35 #[.string ⟨op.toArray⟩, .int .i64 n, .string ⟨nm.toArray⟩, .slice A kk.len cap] := by rw [hW0, hW1]; exact ((Bk.new w _ _).alloc _).alloc _
  have kG : Bk W0 (w.heap.size + 1 + 1) 35 #[.string ⟨op.toArray⟩, .int .i64 (0), .string ⟨#[]⟩, .slice none 0 0] := by rw [hW0, ← hs1]; exact Bk.new W1 _ _
  have hB0 : Below w.heap.size w W0 := by rw [hW0, hW1]; exact (((Below.refl _ _).alloc (Nat.le_refl _) _).alloc (by simp) _).alloc (by simp; omega) _
  have hkz : Bk W1 (w.heap.size + 1) 35 #[.string ⟨#[]⟩, .int .i64 0, .string ⟨#[]⟩, .slice none 0 0] := by rw [hW1]; have := Bk.new (w.alloc (.cells #[.string ⟨op.toArray⟩, .int .i64 n, .string ⟨nm.toArray⟩, .slice A kk.len cap] 35)) 35 #[.string ⟨#[]⟩, .int .i64 0, .string ⟨#[]⟩, .slice none 0 0]; simpa using this
  have hKZ := hW0
  rw [← hW1, ← hW0]
  clear hW0 hW1
  have kZ : Bk W0 (w.heap.size + 1) 35 #[.string ⟨#[]⟩, .int .i64 0, .string ⟨#[]⟩, .slice none 0 0] := by rw [hKZ]; exact hkz.alloc _
  have KB := hid kB
  have KG := hid kG
  have KZ := hid kZ
  clear hkz hKZ kZ
  have HB0 := hid hB0
  clear kB kG hB0
  go_loopw [4] (fun v4 wr => ∃ (k : Nat) (u : Value) (cs : List Value), k ≤ kk.len ∧ v4 = .int .i64 k ∧ Hid (TStep (w.heap.size + 1 + 1) W0 (.slice none 0 0) wr u) ∧ Hid (wr.ownsRow W0.heap.size 35 4 u k cs) ∧ Hid (Bk wr (w.heap.size + 1 + 1) 35 #[.string ⟨op.toArray⟩, .int .i64 (0), .string ⟨#[]⟩, u]) ∧ Hid (KR wr (FreeH W0.heap.size wr (w.heap.size + 1 + 1) u) (stripL kk) k cs)) (fun v4 _ => kk.len - (intOf v4).toNat)
  case atStart => exact ⟨0, _, [], Nat.zero_le _, rfl, hid (TStep.refl _ _ _), hid ⟨rfl, .inl ⟨rfl, rfl⟩⟩, KG, hid (fun j hj h => by omega)⟩
  case round =>
    obtain ⟨k, u, cs, hk, rfl, HST, HOW, HBK, HKR⟩ := hrel
    obtain ⟨A', cap', rfl⟩ := own_slice HOW.out
    have hszr := HST.out.size
    obtain ⟨p0, p1, p2, p3⟩ := KB.out.cells4
    obtain ⟨g0, g1, g2, g3⟩ := HBK.out.cells4
    have p3 := cell_step HST.out ⟨by omega, by simp [Value.ownBlock], by omega⟩ p3
    have f3 := HBK.out.free 3
    have hglt := HBK.out.lt
    clear p0 p1 p2
    by_cases hlt : k < kk.len
    · have hkl : k < kk.toL.length := by rw [Exs.toL_len]; exact hlt
      obtain ⟨b, off, rfl⟩ := HKI.out.form_ (by omega)
      obtain ⟨A2, cap2, _, q0, q1, q2, q3, hx⟩ := RdL.kid kk b off k hkl HKI.out
      have hbr : Below w.heap.size w wr := HB0.out.trans (HST.out.belowH (by omega) (by simp [Value.ownBlock]) HB0.out.size)
      have q0 := bel_cell hbr q0
      have q1 := bel_cell hbr q1
      have q2 := bel_cell hbr q2
      have q3 := bel_cell hbr q3
      have HX := hid (hx.below hbr)
      have HBR := hid hbr
      clear hx hbr
      go_wp2_with fail
      have HXD := hid (show RdX wr.drew P kk.toL[k] _ from HX.out.below (Below.refl wr.heap.size wr).drew)
      have HGN : Hid (∀ {w1 : World}, w1.ownsRow W0.heap.size 35 4 (.slice A' k cap') k cs → some (w.heap.size + 1 + 1) ≠ (Value.slice A' k cap').ownBlock) := hid (fun h he => by have := (own_lt h _ he.symm).2; omega)
      have hnews : ∀ (w1 : World) (c0 c1 c2 c3 : Value), ∀ j u, [c0, c1, c2, c3][j]? = some u → (w1.alloc (.cells #[c0, c1, c2, c3] 35)).cell? ((⟨w1.heap.size, 0, none⟩ : Addr).add j) = some u := fun w1 c0 c1 c2 c3 => World.news_of_block (cs := #[c0, c1, c2, c3]) (t := 35) (fr := (0, 0)) (heap_alloc_new w1 _)
      have HNW := hid hnews
      have h63 : k + 1 ≤ maxLen := by unfold maxLen; omega
      have hbytes : (k + 1) * 64 ≤ 140737488355328 := by omega
      have hwr0 : W0.heap.size ≤ wr.heap.size := hszr
      clear hnews
      go_region_law (first
        | (refine step_append_lies _ rfl (.tmp 54) (.tmp 61) 33 rfl W0.heap.size 35 i0 _ 4 64 Tryd.underlying33 hi0 hz0 hz1 hz2 rfl (by decide) (.slice A' k cap') k cs (by simp [Act.eval, Act.put]) HOWA.out ⟨w1.heap.size, 0, none⟩ 1 1 [.string ⟨(stripF kk.toL[k]).op.toArray⟩, .int .i64 (stripF kk.toL[k]).num, .string ⟨(stripF kk.toL[k]).name.toArray⟩, .slice A1 (stripF kk.toL[k]).kids.len cap1] (by simp [Act.eval, Act.put]) rfl (HNW.out w1 _ _ _ _) (by simp [Value.oneCell']) (by omega) h63 hbytes (by simp; omega) (w1.heap.size + 1) (by simp) ?_; intro ga capn w3 hown3 hgrow hat hlt3; have kb3 := (HBK1.out.alloc _).grown hgrow hgne; have g3 := kb3.cell 3 _ rfl; have f3 := kb3.free 3; have HOW3 := hid hown3; have HGR := hid hgrow; have HAT := hid hat; clear hown3 hgrow hat kb3)
        | (go_simp; go_at_call 11; (with_reducible refine ((HK.out k hkl).call _ P _ HXD.out).mono ?_); rintro e1 w1 ⟨u1, rfl, hx1, hb1⟩; obtain ⟨A1, cap1, rfl, hc1, _⟩ := hx1.form; have hb1 := ((Below.refl wr.heap.size wr).drew).trans hb1; have hs3 := hb1.size; have HOWA := hid (own_below (own_below HOW.out hb1) ((Below.refl _ _).alloc (Nat.le_refl _) (.cells #[.string ⟨(stripF kk.toL[k]).op.toArray⟩, .int .i64 (stripF kk.toL[k]).num, .string ⟨(stripF kk.toL[k]).name.toArray⟩, .slice A1 (stripF kk.toL[k]).kids.len cap1] 35))); have HOW1 := hid (own_below HOW.out hb1); have kb1 := HBK.out.below hb1 hglt; have HBK1 := hid kb1; have hgne := HGN.out HOW1.out; have hlt1 := kb1.lt; have hne1 := Nat.ne_of_lt hlt1; have g3 := kb1.cell 3 _ rfl; have f3 := kb1.free 3; have HRX := hid hx1; have HB1 := hid hb1; clear hx1 hb1 kb1)
        | fail)
      all_goals
        have hbw1 : W0.heap.size ≤ w1.heap.size := Nat.le_trans hwr0 hs3
        have HP := row_app HBK1.out (show w.heap.size + 1 + 1 < W0.heap.size by omega) hbw1 HOW1.out HOW3.out HGR.out HAT.out
        have HS1 := (TStep.below HB1.out : TStep (w.heap.size + 1 + 1) wr (.slice A' k cap') w1 (.slice A' k cap'))
        have HST3 := hid (HST.out.trans (HS1.trans HP.1))
        have hxf : RdX w1 (FreeH W0.heap.size w1 (w.heap.size + 1 + 1) (.slice A' k cap')) (stripF kk.toL[k]) (.agg #[.string ⟨(stripF kk.toL[k]).op.toArray⟩, .int .i64 (stripF kk.toL[k]).num, .string ⟨(stripF kk.toL[k]).name.toArray⟩, .slice A1 (stripF kk.toL[k]).kids.len cap1]) := HRX.out.freeH hwr0 (show w.heap.size + 1 + 1 < wr.heap.size by omega) (fun b hb => (own_lt HOW.out b hb).1)
        have HKR3 := hid ((((HKR.out.stepH HS1).push (l := stripL kk) (by rw [strip_toL, List.length_map]; exact hkl) HOW.out.1 (by simp only [strip_toL, List.getElem_map]; exact hxf))).stepH HP.1)
        have HBK3 := hid HP.2.1
        have HOW4 := hid HP.2.2
        clear HP HS1 hxf HKR HRX
        go_wp2_with fail
        go_round
        case rel => exact ⟨k + 1, _, _, by omega, rfl, HST3, HOW4, HBK3, HKR3⟩
        case measure => simp [intOf]; omega
    · obtain ⟨z0, z1, z2, z3⟩ := KZ.out.cells4
      have fz : Free W0 (w.heap.size + 1 + 1) (.slice none 0 0) (w.heap.size + 1) := ⟨by omega, by simp [Value.ownBlock], by omega⟩
      have z0 := cell_step HST.out fz z0
      have z1 := cell_step HST.out fz z1
      have z2 := cell_step HST.out fz z2
      have z3 := cell_step HST.out fz z3
      have KZr := hid (show Bk wr (w.heap.size + 1) 35 _ from (HST.out.block _ fz).trans KZ.out)
      have zf0 := KZr.out.free 0
      have zf1 := KZr.out.free 1
      have zf2 := KZr.out.free 2
      have zf3 := KZr.out.free 3
      clear f3 fz
      obtain rfl : k = kk.len := by omega
      have hbel : Below w.heap.size w wr := HB0.out.trans (HST.out.belowH (by omega) (by simp [Value.ownBlock]) HB0.out.size)
      have hrdx : RdX wr (fun b => W0.heap.size ≤ b) (.mk op (0) ([]) (stripL kk)) (.agg #[.string ⟨op.toArray⟩, .int .i64 (0), .string ⟨#[]⟩, .slice A' kk.len cap']) := strip_row (N := ⟨#[]⟩) (nl := ([])) rfl HOW.out (fun j hj hjk => by
        obtain ⟨c0, c1, c2, c3, h0, h1, h2, h3, h4⟩ := HKR.out j hj hjk
        exact ⟨c0, c1, c2, c3, h0, h1, h2, h3, h4.low (fun b hb => hb.1)⟩) rfl (fun b hb => hb)
      have HF := hid (show RdX _ (fun b => w.heap.size ≤ b) (.mk op (0) ([]) (stripL kk)) _ from (put4_rd (b := w.heap.size + 1) (.string ⟨op.toArray⟩) (.int .i64 (0)) (.string ⟨#[]⟩) (.slice A' kk.len cap') hrdx (fun b hb => by omega)).low (fun b hb => by omega))
      have HBF := hid ((((hbel.setCell (p := ⟨w.heap.size + 1, 0, none⟩) (by simp) (.string ⟨op.toArray⟩)).setCell (p := ⟨w.heap.size + 1, 1, none⟩) (by simp) (.int .i64 (0))).setCell (p := ⟨w.heap.size + 1, 2, none⟩) (by simp) (.string ⟨#[]⟩)).setCell (p := ⟨w.heap.size + 1, 3, none⟩) (by simp) (.slice A' kk.len cap'))
      obtain ⟨y0, y1, y2, y3⟩ := (KZr.out.put4 (.string ⟨op.toArray⟩) (.int .i64 (0)) (.string ⟨#[]⟩) (.slice A' kk.len cap')).cells4
      clear hbel hrdx
      go_wp2_with fail
      refine bodyPost_ret (v := .agg #[.string ⟨op.toArray⟩, .int .i64 (0), .string ⟨#[]⟩, .slice A' kk.len cap']) (by simp [results, Tryd.results11, go_sem, y0, y1, y2, y3]) rfl ?_
      rw [HSE.out]
      exact ⟨_, rfl, HF.out, HBF.out⟩
set_option maxRecDepth 100000 in
set_option maxHeartbeats 8000000 in
theorem strip_one (op nm : List UInt8) (n : Int) (kk : Exs) (hn : kk.len ≤ 100000) (hk : ∀ k (h : k < kk.toL.length), StripC kk.toL[k]) (a0 : (op == [110, 117, 109]) = false) (a1 : (op == [110, 97, 109, 101]) = false) (hl : (kk.len : Int) = 1) (b0 : (op == [110, 101, 103]) = false) (b1 : (op == [112, 111, 115]) = false) (b2 : (op == [110, 111, 116]) = false) (b3 : (op == [99, 111, 109]) = false) : StripC (.mk op n nm kk) := by
  intro w P v hr
  obtain ⟨i0, hi0, hz0, hz1, hz2⟩ := info_parts info_rex
  have HSE : Hid (stripF (.mk op n nm kk) = .mk op (0) (nm) (stripL kk)) := hid (by simp only [beq_iff_eq, beq_eq_false_iff_ne, ne_eq] at *; have hl2 : kk.len = 1 := (by omega); simp [stripF, keepN, numO, nameO, a0, a1, b0, b1, b2, b3, hl2])
  obtain ⟨A, cap, rfl, hcap, hkids⟩ := hr.form
  have HKI := hid hkids
  have HK := hid hk
  clear hk hkids hr
  dsimp only [Ex.op, Ex.num, Ex.name, Ex.kids] at *
  go_enter Tryd.func11, Tryd.ntmps11
  go_wp2_with fail
  obtain ⟨W1, hW1⟩ : ∃ W1, W1 = (w.alloc (.cells #[.string ⟨op.toArray⟩, .int .i64 n, .string ⟨nm.toArray⟩, .slice A kk.len cap] 35)).alloc (.cells #[.string ⟨#[]⟩, .int .i64 0, .string ⟨#[]⟩, .slice none 0 0] 35) := ⟨_, rfl⟩
  obtain ⟨W0, hW0⟩ : ∃ W0, W0 = W1.alloc (.cells #[.string ⟨op.toArray⟩, .int .i64 (0), .string ⟨nm.toArray⟩, .slice none 0 0] 35) := ⟨_, rfl⟩
  have hs1 : W1.heap.size = w.heap.size + 1 + 1 := by rw [hW1]; simp
  have hs0 : W0.heap.size = w.heap.size + 1 + 1 + 1 := by rw [hW0]; simp [hs1]
  have kB : Bk W0 w.heap.size 35 #[.string ⟨op.toArray⟩, .int .i64 n, .string ⟨nm.toArray⟩, .slice A kk.len cap] := by rw [hW0, hW1]; exact ((Bk.new w _ _).alloc _).alloc _
  have kG : Bk W0 (w.heap.size + 1 + 1) 35 #[.string ⟨op.toArray⟩, .int .i64 (0), .string ⟨nm.toArray⟩, .slice none 0 0] := by rw [hW0, ← hs1]; exact Bk.new W1 _ _
  have hB0 : Below w.heap.size w W0 := by rw [hW0, hW1]; exact (((Below.refl _ _).alloc (Nat.le_refl _) _).alloc (by simp) _).alloc (by simp; omega) _
  have hkz : Bk W1 (w.heap.size + 1) 35 #[.string ⟨#[]⟩, .int .i64 0, .string ⟨#[]⟩, .slice none 0 0] := by rw [hW1]; have := Bk.new (w.alloc (.cells #[.string ⟨op.toArray⟩, .int .i64 n, .string ⟨nm.toArray⟩, .slice A kk.len cap] 35)) 35 #[.string ⟨#[]⟩, .int .i64 0, .string ⟨#[]⟩, .slice none 0 0]; simpa using this
  have hKZ := hW0
  rw [← hW1, ← hW0]
  clear hW0 hW1
  have kZ : Bk W0 (w.heap.size + 1) 35 #[.string ⟨#[]⟩, .int .i64 0, .string ⟨#[]⟩, .slice none 0 0] := by rw [hKZ]; exact hkz.alloc _
  have KB := hid kB
  have KG := hid kG
  have KZ := hid kZ
  clear hkz hKZ kZ
  have HB0 := hid hB0
  clear kB kG hB0
  go_loopw [4] (fun v4 wr => ∃ (k : Nat) (u : Value) (cs : List Value), k ≤ kk.len ∧ v4 = .int .i64 k ∧ Hid (TStep (w.heap.size + 1 + 1) W0 (.slice none 0 0) wr u) ∧ Hid (wr.ownsRow W0.heap.size 35 4 u k cs) ∧ Hid (Bk wr (w.heap.size + 1 + 1) 35 #[.string ⟨op.toArray⟩, .int .i64 (0), .string ⟨nm.toArray⟩, u]) ∧ Hid (KR wr (FreeH W0.heap.size wr (w.heap.size + 1 + 1) u) (stripL kk) k cs)) (fun v4 _ => kk.len - (intOf v4).toNat)
  case atStart => exact ⟨0, _, [], Nat.zero_le _, rfl, hid (TStep.refl _ _ _), hid ⟨rfl, .inl ⟨rfl, rfl⟩⟩, KG, hid (fun j hj h => by omega)⟩
  case round =>
    obtain ⟨k, u, cs, hk, rfl, HST, HOW, HBK, HKR⟩ := hrel
    obtain ⟨A', cap', rfl⟩ := own_slice HOW.out
    have hszr := HST.out.size
    obtain ⟨p0, p1, p2, p3⟩ := KB.out.cells4
    obtain ⟨g0, g1, g2, g3⟩ := HBK.out.cells4
    have p3 := cell_step HST.out ⟨by omega, by simp [Value.ownBlock], by omega⟩ p3
    have f3 := HBK.out.free 3
    have hglt := HBK.out.lt
    clear p0 p1 p2
    by_cases hlt : k < kk.len
    · have hkl : k < kk.toL.length := by rw [Exs.toL_len]; exact hlt
      obtain ⟨b, off, rfl⟩ := HKI.out.form_ (by omega)
      obtain ⟨A2, cap2, _, q0, q1, q2, q3, hx⟩ := RdL.kid kk b off k hkl HKI.out
      have hbr : Below w.heap.size w wr := HB0.out.trans (HST.out.belowH (by omega) (by simp [Value.ownBlock]) HB0.out.size)
      have q0 := bel_cell hbr q0
      have q1 := bel_cell hbr q1
      have q2 := bel_cell hbr q2
      have q3 := bel_cell hbr q3
      have HX := hid (hx.below hbr)
      have HBR := hid hbr
      clear hx hbr
      go_wp2_with fail
      have HXD := hid (show RdX wr.drew P kk.toL[k] _ from HX.out.below (Below.refl wr.heap.size wr).drew)
      have HGN : Hid (∀ {w1 : World}, w1.ownsRow W0.heap.size 35 4 (.slice A' k cap') k cs → some (w.heap.size + 1 + 1) ≠ (Value.slice A' k cap').ownBlock) := hid (fun h he => by have := (own_lt h _ he.symm).2; omega)
      have hnews : ∀ (w1 : World) (c0 c1 c2 c3 : Value), ∀ j u, [c0, c1, c2, c3][j]? = some u → (w1.alloc (.cells #[c0, c1, c2, c3] 35)).cell? ((⟨w1.heap.size, 0, none⟩ : Addr).add j) = some u := fun w1 c0 c1 c2 c3 => World.news_of_block (cs := #[c0, c1, c2, c3]) (t := 35) (fr := (0, 0)) (heap_alloc_new w1 _)
      have HNW := hid hnews
      have h63 : k + 1 ≤ maxLen := by unfold maxLen; omega
      have hbytes : (k + 1) * 64 ≤ 140737488355328 := by omega
      have hwr0 : W0.heap.size ≤ wr.heap.size := hszr
      clear hnews
      go_region_law (first
        | (refine step_append_lies _ rfl (.tmp 54) (.tmp 61) 33 rfl W0.heap.size 35 i0 _ 4 64 Tryd.underlying33 hi0 hz0 hz1 hz2 rfl (by decide) (.slice A' k cap') k cs (by simp [Act.eval, Act.put]) HOWA.out ⟨w1.heap.size, 0, none⟩ 1 1 [.string ⟨(stripF kk.toL[k]).op.toArray⟩, .int .i64 (stripF kk.toL[k]).num, .string ⟨(stripF kk.toL[k]).name.toArray⟩, .slice A1 (stripF kk.toL[k]).kids.len cap1] (by simp [Act.eval, Act.put]) rfl (HNW.out w1 _ _ _ _) (by simp [Value.oneCell']) (by omega) h63 hbytes (by simp; omega) (w1.heap.size + 1) (by simp) ?_; intro ga capn w3 hown3 hgrow hat hlt3; have kb3 := (HBK1.out.alloc _).grown hgrow hgne; have g3 := kb3.cell 3 _ rfl; have f3 := kb3.free 3; have HOW3 := hid hown3; have HGR := hid hgrow; have HAT := hid hat; clear hown3 hgrow hat kb3)
        | (go_simp; go_at_call 11; (with_reducible refine ((HK.out k hkl).call _ P _ HXD.out).mono ?_); rintro e1 w1 ⟨u1, rfl, hx1, hb1⟩; obtain ⟨A1, cap1, rfl, hc1, _⟩ := hx1.form; have hb1 := ((Below.refl wr.heap.size wr).drew).trans hb1; have hs3 := hb1.size; have HOWA := hid (own_below (own_below HOW.out hb1) ((Below.refl _ _).alloc (Nat.le_refl _) (.cells #[.string ⟨(stripF kk.toL[k]).op.toArray⟩, .int .i64 (stripF kk.toL[k]).num, .string ⟨(stripF kk.toL[k]).name.toArray⟩, .slice A1 (stripF kk.toL[k]).kids.len cap1] 35))); have HOW1 := hid (own_below HOW.out hb1); have kb1 := HBK.out.below hb1 hglt; have HBK1 := hid kb1; have hgne := HGN.out HOW1.out; have hlt1 := kb1.lt; have hne1 := Nat.ne_of_lt hlt1; have g3 := kb1.cell 3 _ rfl; have f3 := kb1.free 3; have HRX := hid hx1; have HB1 := hid hb1; clear hx1 hb1 kb1)
        | fail)
      all_goals
        have hbw1 : W0.heap.size ≤ w1.heap.size := Nat.le_trans hwr0 hs3
        have HP := row_app HBK1.out (show w.heap.size + 1 + 1 < W0.heap.size by omega) hbw1 HOW1.out HOW3.out HGR.out HAT.out
        have HS1 := (TStep.below HB1.out : TStep (w.heap.size + 1 + 1) wr (.slice A' k cap') w1 (.slice A' k cap'))
        have HST3 := hid (HST.out.trans (HS1.trans HP.1))
        have hxf : RdX w1 (FreeH W0.heap.size w1 (w.heap.size + 1 + 1) (.slice A' k cap')) (stripF kk.toL[k]) (.agg #[.string ⟨(stripF kk.toL[k]).op.toArray⟩, .int .i64 (stripF kk.toL[k]).num, .string ⟨(stripF kk.toL[k]).name.toArray⟩, .slice A1 (stripF kk.toL[k]).kids.len cap1]) := HRX.out.freeH hwr0 (show w.heap.size + 1 + 1 < wr.heap.size by omega) (fun b hb => (own_lt HOW.out b hb).1)
        have HKR3 := hid ((((HKR.out.stepH HS1).push (l := stripL kk) (by rw [strip_toL, List.length_map]; exact hkl) HOW.out.1 (by simp only [strip_toL, List.getElem_map]; exact hxf))).stepH HP.1)
        have HBK3 := hid HP.2.1
        have HOW4 := hid HP.2.2
        clear HP HS1 hxf HKR HRX
        go_wp2_with fail
        go_round
        case rel => exact ⟨k + 1, _, _, by omega, rfl, HST3, HOW4, HBK3, HKR3⟩
        case measure => simp [intOf]; omega
    · obtain ⟨z0, z1, z2, z3⟩ := KZ.out.cells4
      have fz : Free W0 (w.heap.size + 1 + 1) (.slice none 0 0) (w.heap.size + 1) := ⟨by omega, by simp [Value.ownBlock], by omega⟩
      have z0 := cell_step HST.out fz z0
      have z1 := cell_step HST.out fz z1
      have z2 := cell_step HST.out fz z2
      have z3 := cell_step HST.out fz z3
      have KZr := hid (show Bk wr (w.heap.size + 1) 35 _ from (HST.out.block _ fz).trans KZ.out)
      have zf0 := KZr.out.free 0
      have zf1 := KZr.out.free 1
      have zf2 := KZr.out.free 2
      have zf3 := KZr.out.free 3
      clear f3 fz
      obtain rfl : k = kk.len := by omega
      have hbel : Below w.heap.size w wr := HB0.out.trans (HST.out.belowH (by omega) (by simp [Value.ownBlock]) HB0.out.size)
      have hrdx : RdX wr (fun b => W0.heap.size ≤ b) (.mk op (0) (nm) (stripL kk)) (.agg #[.string ⟨op.toArray⟩, .int .i64 (0), .string ⟨nm.toArray⟩, .slice A' kk.len cap']) := strip_row (N := ⟨nm.toArray⟩) (nl := (nm)) rfl HOW.out (fun j hj hjk => by
        obtain ⟨c0, c1, c2, c3, h0, h1, h2, h3, h4⟩ := HKR.out j hj hjk
        exact ⟨c0, c1, c2, c3, h0, h1, h2, h3, h4.low (fun b hb => hb.1)⟩) rfl (fun b hb => hb)
      have HF := hid (show RdX _ (fun b => w.heap.size ≤ b) (.mk op (0) (nm) (stripL kk)) _ from (put4_rd (b := w.heap.size + 1) (.string ⟨op.toArray⟩) (.int .i64 (0)) (.string ⟨nm.toArray⟩) (.slice A' kk.len cap') hrdx (fun b hb => by omega)).low (fun b hb => by omega))
      have HBF := hid ((((hbel.setCell (p := ⟨w.heap.size + 1, 0, none⟩) (by simp) (.string ⟨op.toArray⟩)).setCell (p := ⟨w.heap.size + 1, 1, none⟩) (by simp) (.int .i64 (0))).setCell (p := ⟨w.heap.size + 1, 2, none⟩) (by simp) (.string ⟨nm.toArray⟩)).setCell (p := ⟨w.heap.size + 1, 3, none⟩) (by simp) (.slice A' kk.len cap'))
      obtain ⟨y0, y1, y2, y3⟩ := (KZr.out.put4 (.string ⟨op.toArray⟩) (.int .i64 (0)) (.string ⟨nm.toArray⟩) (.slice A' kk.len cap')).cells4
      clear hbel hrdx
      go_wp2_with fail
      refine bodyPost_ret (v := .agg #[.string ⟨op.toArray⟩, .int .i64 (0), .string ⟨nm.toArray⟩, .slice A' kk.len cap']) (by simp [results, Tryd.results11, go_sem, y0, y1, y2, y3]) rfl ?_
      rw [HSE.out]
      exact ⟨_, rfl, HF.out, HBF.out⟩
theorem strip_any : ∀ e : Ex, rightF e = true → szF e ≤ 100000 → StripC e := by
  intro e
  induction hn : szF e using Nat.strongRecOn generalizing e with
  | _ m ih =>
    subst hn
    intro hr hs
    have hl := szF_len e
    have hr2 := hr
    rw [rightF_eq] at hr2
    simp only [Bool.and_eq_true, List.all_eq_true] at hr2
    have hk : ∀ i (hi : i < e.kids.toL.length), StripC e.kids.toL[i] := fun i hi => ih _ (szF_at e i hi) _ rfl (hr2.2 _ (List.getElem_mem hi)) (by have := szF_at e i hi; omega)
    obtain ⟨op, n, nm, kk⟩ := e
    dsimp only [Ex.op, Ex.num, Ex.name, Ex.kids] at *
    have hlen := kids_len hr2.1
    by_cases h0 : op = numO
    · subst h0
      rw [show kidsF numO = 0 by decide] at hlen
      exact strip_num _ nm n kk (by omega) hk rfl rfl (by omega)
    have a0 : (op == [110, 117, 109]) = false := by simpa [numO] using h0
    by_cases h1 : op = nameO
    · exact strip_name op nm n kk (by omega) hk a0 (by rw [h1]; rfl)
    have a1 : (op == [110, 97, 109, 101]) = false := by simpa [nameO] using h1
    by_cases hl1 : (kk.len : Int) = 1
    · cases b0 : op == [110, 101, 103]
      · cases b1 : op == [112, 111, 115]
        · cases b2 : op == [110, 111, 116]
          · cases b3 : op == [99, 111, 109]
            · exact strip_one op nm n kk (by omega) hk a0 a1 hl1 b0 b1 b2 b3
            · exact strip_una3 op nm n kk (by omega) hk a0 a1 hl1 b0 b1 b2 b3
          · exact strip_una2 op nm n kk (by omega) hk a0 a1 hl1 b0 b1 b2
        · exact strip_una1 op nm n kk (by omega) hk a0 a1 hl1 b0 b1
      · exact strip_una0 op nm n kk (by omega) hk a0 a1 hl1 b0
    · exact strip_many op nm n kk (by omega) hk a0 a1 hl1
end Go.Proofs.YtadmmmehphhecaaDoor
/- The walk of the reference's Same: an expression and itself, lying anywhere. Expressions of up to a hundred thousand ops. -/
namespace Go.Proofs.YtadmmmehphhecaaDoor
open Go.RowKit
def SameC (e : Ex) : Prop := ∀ (w : World) (P P' : Nat → Prop) (v v' : Value), RdX w P e v → RdX w P' e v' → Calls Tryd.prog 10 #[v, v'] w fun x w' => x = .returned (.bool true) ∧ Below w.heap.size w w'
theorem SameC.call {e : Ex} (h : SameC e) (w : World) (P P' : Nat → Prop) (v v' : Value) (hr : RdX w P e v) (hr' : RdX w P' e v') : Calls Tryd.prog 10 #[v, v'] w fun x w' => x = .returned (.bool true) ∧ Below w.heap.size w w' := h w P P' v v' hr hr'
set_option maxRecDepth 100000 in
set_option maxHeartbeats 2000000 in
theorem same_step (e : Ex) (hn : e.kids.len ≤ 100000) (hk : ∀ k (h : k < e.kids.toL.length), SameC e.kids.toL[k]) : SameC e := by
  intro w P P' v v' hr hr'
  obtain ⟨A, cap, rfl, hcap, hkids⟩ := hr.form
  obtain ⟨A', cap', rfl, hcap', hkids'⟩ := hr'.form
  have HKI := hid hkids
  have HKI' := hid hkids'
  have HK := hid hk
  clear hk hkids hr hkids' hr'
  have hl : e.kids.len ≤ 9223372036854775807 := by omega
  have hl : e.kids.len ≤ 9223372036854775807 := by omega
  go_enter Tryd.func10, Tryd.ntmps10
  go_wp2_with fail
  obtain ⟨W0, hW0⟩ : ∃ W0, W0 = (w.alloc (.cells #[.string ⟨e.op.toArray⟩, .int .i64 e.num, .string ⟨e.name.toArray⟩, .slice A e.kids.len cap] 35)).alloc (.cells #[.string ⟨e.op.toArray⟩, .int .i64 e.num, .string ⟨e.name.toArray⟩, .slice A' e.kids.len cap'] 35) := ⟨_, rfl⟩
  have kA : Bk W0 w.heap.size 35 #[.string ⟨e.op.toArray⟩, .int .i64 e.num, .string ⟨e.name.toArray⟩, .slice A e.kids.len cap] := by rw [hW0]; exact (Bk.new w _ _).alloc _
  have kB : Bk W0 (w.heap.size + 1) 35 #[.string ⟨e.op.toArray⟩, .int .i64 e.num, .string ⟨e.name.toArray⟩, .slice A' e.kids.len cap'] := by
    rw [hW0]
    have := Bk.new (w.alloc (.cells #[.string ⟨e.op.toArray⟩, .int .i64 e.num, .string ⟨e.name.toArray⟩, .slice A e.kids.len cap] 35)) 35 #[.string ⟨e.op.toArray⟩, .int .i64 e.num, .string ⟨e.name.toArray⟩, .slice A' e.kids.len cap']
    simpa using this
  have hB0 : Below w.heap.size w W0 := by rw [hW0]; exact ((Below.refl _ _).alloc (Nat.le_refl _) _).alloc (by simp) _
  rw [← hW0]
  clear hW0
  have KA := hid kA
  have KB := hid kB
  have HB0 := hid hB0
  clear kA kB hB0
  go_loopw [5] (fun v5 wr => ∃ k : Nat, k ≤ e.kids.len ∧ v5 = .int .i64 k ∧ Hid (Below W0.heap.size W0 wr)) (fun v5 _ => e.kids.len - (intOf v5).toNat)
  case atStart => exact ⟨0, Nat.zero_le _, rfl, hid (Below.refl _ _)⟩
  case round =>
    obtain ⟨k, hk, rfl, HB⟩ := hrel
    obtain ⟨c0, c1, c2, c3⟩ := KA.out.cells4
    obtain ⟨d0, d1, d2, d3⟩ := KB.out.cells4
    have c3 := bel_cell HB.out c3
    have d3 := bel_cell HB.out d3
    clear c0 c1 c2 d0 d1 d2
    by_cases hlt : k < e.kids.len
    · have hkl : k < e.kids.toL.length := by rw [Exs.toL_len]; exact hlt
      obtain ⟨b, off, rfl⟩ := HKI.out.form_ (by omega)
      obtain ⟨b', off', rfl⟩ := HKI'.out.form_ (by omega)
      have HBB := hid (HB0.out.trans (HB.out.mono HB0.out.size))
      obtain ⟨A2, cap2, _, q0, q1, q2, q3, hx⟩ := RdL.kid e.kids b off k hkl HKI.out
      obtain ⟨A3, cap3, _, r0, r1, r2, r3, hx'⟩ := RdL.kid e.kids b' off' k hkl HKI'.out
      have q0 := bel_cell HBB.out q0
      have q1 := bel_cell HBB.out q1
      have q2 := bel_cell HBB.out q2
      have q3 := bel_cell HBB.out q3
      have r0 := bel_cell HBB.out r0
      have r1 := bel_cell HBB.out r1
      have r2 := bel_cell HBB.out r2
      have r3 := bel_cell HBB.out r3
      have HX := hid (show RdX wr.drew P e.kids.toL[k] _ from (hx.below HBB.out).below (Below.refl wr.heap.size wr).drew)
      have HX' := hid (show RdX wr.drew P' e.kids.toL[k] _ from (hx'.below HBB.out).below (Below.refl wr.heap.size wr).drew)
      clear hx hx'
      go_wp2_with fail
      refine wp_region_held_drew (S := (fun w' => w'.cell? ⟨w.heap.size, 3, none⟩ = some (.slice (some ⟨b, off, none⟩) e.kids.len cap) ∧ w'.cell? ⟨w.heap.size + 1, 3, none⟩ = some (.slice (some ⟨b', off', none⟩) e.kids.len cap') ∧ w'.cell? ⟨b, off + k * 4, none⟩ = some (.string ⟨e.kids.toL[k].op.toArray⟩) ∧ w'.cell? ⟨b, off + k * 4 + 1, none⟩ = some (.int .i64 e.kids.toL[k].num) ∧ w'.cell? ⟨b, off + k * 4 + 2, none⟩ = some (.string ⟨e.kids.toL[k].name.toArray⟩) ∧ w'.cell? ⟨b, off + k * 4 + 3, none⟩ = some (.slice A2 e.kids.toL[k].kids.len cap2) ∧ w'.cell? ⟨b', off' + k * 4, none⟩ = some (.string ⟨e.kids.toL[k].op.toArray⟩) ∧ w'.cell? ⟨b', off' + k * 4 + 1, none⟩ = some (.int .i64 e.kids.toL[k].num) ∧ w'.cell? ⟨b', off' + k * 4 + 2, none⟩ = some (.string ⟨e.kids.toL[k].name.toArray⟩) ∧ w'.cell? ⟨b', off' + k * 4 + 3, none⟩ = some (.slice A3 e.kids.toL[k].kids.len cap3))) (by kernel_rfl) ⟨c3, d3, q0, q1, q2, q3, r0, r1, r2, r3⟩ (fun hHeld => ?_)
      refine takeYes (i := 0) (v := .pointer (some ⟨w.heap.size, 3, none⟩)) rfl (by kernel_rfl) (by kernel_rfl) (by kernel_rfl) (fun _ _ _ h => h) (by rfl) ?_ (by assumption) ?_
      · intro w hSw; obtain ⟨sq0, sq1, sq2, sq3, sq4, sq5, sq6, sq7, sq8, sq9⟩ := hSw; go_simp
      try simp only [Act.put, List.setIfInBounds_toArray, List.set_cons_zero, List.set_cons_succ]
      refine takeYes (i := 1) (v := .slice (some ⟨b, off, none⟩) e.kids.len cap) rfl (by kernel_rfl) (by kernel_rfl) (by kernel_rfl) (fun _ _ _ h => h) (by rfl) ?_ (by assumption) ?_
      · intro w hSw; obtain ⟨sq0, sq1, sq2, sq3, sq4, sq5, sq6, sq7, sq8, sq9⟩ := hSw; go_simp
      try simp only [Act.put, List.setIfInBounds_toArray, List.set_cons_zero, List.set_cons_succ]
      refine takeYes (i := 2) (v := .int .i64 (k : Int)) rfl (by kernel_rfl) (by kernel_rfl) (by kernel_rfl) (fun _ _ _ h => h) (by rfl) ?_ (by assumption) ?_
      · intro w hSw; obtain ⟨sq0, sq1, sq2, sq3, sq4, sq5, sq6, sq7, sq8, sq9⟩ := hSw; go_simp
      try simp only [Act.put, List.setIfInBounds_toArray, List.set_cons_zero, List.set_cons_succ]
      refine takeYes (i := 3) (v := .pointer (some ⟨b, off + k * 4, none⟩)) rfl (by kernel_rfl) (by kernel_rfl) (by kernel_rfl) (fun _ _ _ h => h) (by rfl) ?_ (by assumption) ?_
      · intro w hSw; obtain ⟨sq0, sq1, sq2, sq3, sq4, sq5, sq6, sq7, sq8, sq9⟩ := hSw; go_simp
      try simp only [Act.put, List.setIfInBounds_toArray, List.set_cons_zero, List.set_cons_succ]
      refine takeYes (i := 4) (v := .agg #[.string ⟨e.kids.toL[k].op.toArray⟩, .int .i64 e.kids.toL[k].num, .string ⟨e.kids.toL[k].name.toArray⟩, .slice A2 e.kids.toL[k].kids.len cap2]) rfl (by kernel_rfl) (by kernel_rfl) (by kernel_rfl) (fun _ _ _ h => h) (by rfl) ?_ (by assumption) ?_
      · intro w hSw; obtain ⟨sq0, sq1, sq2, sq3, sq4, sq5, sq6, sq7, sq8, sq9⟩ := hSw; go_simp
      try simp only [Act.put, List.setIfInBounds_toArray, List.set_cons_zero, List.set_cons_succ]
      refine takeYes (i := 5) (v := .pointer (some ⟨w.heap.size + 1, 3, none⟩)) rfl (by kernel_rfl) (by kernel_rfl) (by kernel_rfl) (fun _ _ _ h => h) (by rfl) ?_ (by assumption) ?_
      · intro w hSw; obtain ⟨sq0, sq1, sq2, sq3, sq4, sq5, sq6, sq7, sq8, sq9⟩ := hSw; go_simp
      try simp only [Act.put, List.setIfInBounds_toArray, List.set_cons_zero, List.set_cons_succ]
      refine takeYes (i := 6) (v := .slice (some ⟨b', off', none⟩) e.kids.len cap') rfl (by kernel_rfl) (by kernel_rfl) (by kernel_rfl) (fun _ _ _ h => h) (by rfl) ?_ (by assumption) ?_
      · intro w hSw; obtain ⟨sq0, sq1, sq2, sq3, sq4, sq5, sq6, sq7, sq8, sq9⟩ := hSw; go_simp
      try simp only [Act.put, List.setIfInBounds_toArray, List.set_cons_zero, List.set_cons_succ]
      refine takeYes (i := 7) (v := .int .i64 (k : Int)) rfl (by kernel_rfl) (by kernel_rfl) (by kernel_rfl) (fun _ _ _ h => h) (by rfl) ?_ (by assumption) ?_
      · intro w hSw; obtain ⟨sq0, sq1, sq2, sq3, sq4, sq5, sq6, sq7, sq8, sq9⟩ := hSw; go_simp
      try simp only [Act.put, List.setIfInBounds_toArray, List.set_cons_zero, List.set_cons_succ]
      refine takeYes (i := 8) (v := .pointer (some ⟨b', off' + k * 4, none⟩)) rfl (by kernel_rfl) (by kernel_rfl) (by kernel_rfl) (fun _ _ _ h => h) (by rfl) ?_ (by assumption) ?_
      · intro w hSw; obtain ⟨sq0, sq1, sq2, sq3, sq4, sq5, sq6, sq7, sq8, sq9⟩ := hSw; go_simp
      try simp only [Act.put, List.setIfInBounds_toArray, List.set_cons_zero, List.set_cons_succ]
      refine takeYes (i := 9) (v := .agg #[.string ⟨e.kids.toL[k].op.toArray⟩, .int .i64 e.kids.toL[k].num, .string ⟨e.kids.toL[k].name.toArray⟩, .slice A3 e.kids.toL[k].kids.len cap3]) rfl (by kernel_rfl) (by kernel_rfl) (by kernel_rfl) (fun _ _ _ h => h) (by rfl) ?_ (by assumption) ?_
      · intro w hSw; obtain ⟨sq0, sq1, sq2, sq3, sq4, sq5, sq6, sq7, sq8, sq9⟩ := hSw; go_simp
      try simp only [Act.put, List.setIfInBounds_toArray, List.set_cons_zero, List.set_cons_succ]
      refine wpAnyH_ready (rs := [10]) (by kernel_rfl) (by simp) ?_
      refine AllReadyH.cons rfl (fun K hK => ?_) AllReadyH.nil
      go_simp
      ((with_reducible refine ((HK.out k hkl).call _ P P' _ _ HX.out HX'.out).mono ?_); rintro e1 w2 ⟨rfl, hb2⟩)
      go_wp2_with fail
      refine hK.out _ _ ?_ (fun hHeld => ?_)
      · exact ⟨bel_cell hb2 c3, bel_cell hb2 d3, bel_cell hb2 q0, bel_cell hb2 q1, bel_cell hb2 q2, bel_cell hb2 q3, bel_cell hb2 r0, bel_cell hb2 r1, bel_cell hb2 r2, bel_cell hb2 r3⟩
      clear hK K
      try simp only [Act.put, List.setIfInBounds_toArray, List.set_cons_zero, List.set_cons_succ]
      refine takeYes (i := 11) (v := .bool false) rfl (by kernel_rfl) (by kernel_rfl) (by kernel_rfl) (fun _ _ _ h => h) (by rfl) ?_ (by assumption) ?_
      · intro w hSw; obtain ⟨sq0, sq1, sq2, sq3, sq4, sq5, sq6, sq7, sq8, sq9⟩ := hSw; go_simp
      try simp only [Act.put, List.setIfInBounds_toArray, List.set_cons_zero, List.set_cons_succ]
      refine wpAnyH_done (by kernel_rfl) ?_ _
      have HB2 := hid (HB.out.trans (((Below.refl wr.heap.size wr).drew.trans hb2).mono HB.out.size))
      clear hb2
      go_wp2_with fail
      go_round
      case rel => exact ⟨k + 1, by omega, rfl, HB2⟩
      case measure => simp [intOf]; omega
    · go_wp2_with fail
      go_ret
      exact ⟨rfl, HB0.out.trans (HB.out.mono HB0.out.size)⟩
theorem same_any : ∀ e : Ex, szF e ≤ 100000 → SameC e := by
  intro e
  induction e using Ex.ind with
  | h e ih => exact fun hs => same_step e (by have := szF_len e; omega) (fun k hk => ih k hk (by have := szF_at e k hk; omega))
end Go.Proofs.YtadmmmehphhecaaDoor
/- The walk of SumsBack. Rows no longer than what a machine reaches, numbers of 64 bits. -/
namespace Go.Proofs.YtadmmmehphhecaaDoor
open Go.RowKit
theorem showOut_ok {e : Ex} {so : List UInt8} (h : showOut e = (so, 0)) : rightF e = true ∧ rdeepF e ≤ 20 ∧ (showF e).length ≤ 4096 ∧ so = showF e := by
  unfold showOut at h
  split at h
  · injection h with _ h; cases h
  · rename_i h1
    split at h
    · injection h with _ h; cases h
    · rename_i h2
      split at h
      · injection h with _ h; cases h
      · rename_i h3
        injection h with h _
        rw [deep_same] at h2
        exact ⟨by simpa using h1, by omega, by omega, h.symm⟩
theorem showOut_er {e : Ex} (h : rightF e = true) : (showOut e).2 = 0 ∨ (showOut e).2 = 32 ∨ (showOut e).2 = 21 := by
  unfold showOut
  rw [if_neg (by rw [h]; decide)]
  split
  · exact .inr (.inl rfl)
  · split
    · exact .inr (.inr rfl)
    · exact .inl rfl
theorem leaf_num (w : World) (P : Nat → Prop) (n : Int) : RdX w P (.mk numO n [] .nil) (.agg #[.string ⟨#[110, 117, 109]⟩, .int .i64 n, .string ⟨#[]⟩, .slice none 0 0]) := by
  unfold RdX; exact ⟨none, 0, rfl, Nat.le_refl _, by unfold RdL; trivial⟩
theorem num_right {e : Ex} (h : rightF e = true) (hn : e.op = numO) : rightF (.mk numO e.num [] .nil) = true ∧ stripF (.mk numO e.num [] .nil) = stripF e := by
  obtain ⟨op, n, nm, k⟩ := e
  dsimp only [Ex.op, Ex.num] at *
  subst hn
  simp only [rightF, Bool.and_eq_true] at h
  have hl := kids_len h.1
  rw [show kidsF numO = 0 by decide] at hl
  have hk : k = .nil := by
    cases k with
    | nil => rfl
    | cons a b => simp [Exs.len] at hl; omega
  subst hk
  refine ⟨?_, ?_⟩
  · simp only [rightF, rightL, Bool.and_true]
    have h1 := h.1
    simp only [headB, Bool.and_eq_true] at h1 ⊢
    exact ⟨h1.1, by decide⟩
  · simp [stripF, stripL, keepN, numO, nameO, Exs.len]
set_option maxRecDepth 100000 in
set_option maxHeartbeats 16000000 in
theorem back_any (e : Ex) (s : ByteArray) (w : World) (P : Nat → Prop) (v : Value) (hr : RdX w P e v) (hn : numsF e = true) (hw : wideF e = true) (hs : s.size ≤ 9223372036854775807) (hL : Laid w) :
    Calls Tryd.prog 3 #[v, .string s] w fun x w' => x = .returned (.bool true) ∧ Below w.heap.size w w' := by
  have HF := hid (few_any e hw)
  have HX := hid hr
  have HL := hid hL
  have HSZ : Hid (fewF e = true → szF e ≤ 600 ∧ okF e = true) := hid (fun h => ⟨few_sz e hw h, few_ok e hn h⟩)
  obtain ⟨A, cap, rfl, hcap, _⟩ := hr.form
  clear hr hL
  have kB := Bk.new w 24 #[.string ⟨e.op.toArray⟩, .int .i64 e.num, .string ⟨e.name.toArray⟩, .slice A e.kids.len cap]
  have hB0 : Below w.heap.size w (w.alloc (.cells #[.string ⟨e.op.toArray⟩, .int .i64 e.num, .string ⟨e.name.toArray⟩, .slice A e.kids.len cap] 24)) := (Below.refl _ _).alloc (Nat.le_refl _) _
  go_enter Tryd.func3, Tryd.ntmps3
  go_wp2_with fail
  obtain ⟨W0, hW0⟩ : ∃ W0, W0 = w.alloc (.cells #[.string ⟨e.op.toArray⟩, .int .i64 e.num, .string ⟨e.name.toArray⟩, .slice A e.kids.len cap] 24) := ⟨_, rfl⟩
  rw [← hW0] at kB hB0
  rw [← hW0]
  clear hW0
  have KB := hid kB
  have HB0 := hid hB0
  clear kB hB0
  ((with_reducible refine (HF.out.call _ P _ (HX.out.below HB0.out)).mono ?_); rintro e1 w1 ⟨rfl, hb1⟩)
  obtain ⟨c0, c1, c2, c3⟩ := KB.out.cells4
  have c0 := bel_cell hb1 c0
  have c1 := bel_cell hb1 c1
  have c2 := bel_cell hb1 c2
  have c3 := bel_cell hb1 c3
  have HB1 := hid (bel_step HB0.out hb1)
  clear hb1
  cases hfw : fewF e
  · clear hfw
    go_wp2_with fail
    ((with_reducible refine (awake_any _ (HL.out.below HB1.out) (HL.out.below HB1.out).big).mono ?_); rintro e2 w2 ⟨rfl, hb2⟩)
    go_wp2_with fail
    go_ret
    exact ⟨rfl, bel_step HB1.out hb2⟩
  · have HSS := hid (HSZ.out hfw).1
    have HOK := hid (HSZ.out hfw).2
    clear hfw
    by_cases hs4 : 400 < s.size
    · have hs4i : (400 : Int) < (s.size : Int) := by omega
      go_wp2_with fail
      ((with_reducible refine (awake_any _ (HL.out.below HB1.out) (HL.out.below HB1.out).big).mono ?_); rintro e2 w2 ⟨rfl, hb2⟩)
      go_wp2_with fail
      go_ret
      exact ⟨rfl, bel_step HB1.out hb2⟩
    · have hs4i : ¬ (400 : Int) < (s.size : Int) := by omega
      go_wp2_with fail
      ((with_reducible refine (Show_any e _ P _ (HX.out.below HB1.out) HOK.out (by have := HSS.out; omega) (HL.out.below HB1.out)).mono ?_); rintro e2 w2 ⟨rfl, hb2⟩)
      have c0 := bel_cell hb2 c0
      have c1 := bel_cell hb2 c1
      have c2 := bel_cell hb2 c2
      have c3 := bel_cell hb2 c3
      have HB2 := hid (bel_step HB1.out hb2)
      clear hb2
      obtain ⟨⟨so, er⟩, hso⟩ : ∃ p, p = showOut e := ⟨_, rfl⟩
      have HSO := hid hso
      rw [← hso]
      clear hso
      dsimp only
      go_upto_if 32 with fail
      go_cut [6] (fun v6 wx => Below w.heap.size w wx)
      case first =>
        by_cases her : er = 0
        · have HOKS := hid (showOut_ok (e := e) (so := so) (by rw [← HSO.out, her]))
          have heb : (er == 0) = true := by simp [her]
          subst her
          go_wp2_with fail
          ((with_reducible refine (parse_any ⟨so.toArray⟩ _ (HL.out.below HB2.out) (HL.out.below HB2.out).big).mono ?_); rintro e3 w3 ⟨r, hpo, hg3, hres⟩)
          have hpo2 : ParseOut (showF e) r := by rw [← HOKS.out.2.2.2]; exact hpo
          obtain rfl := parse_show hpo2 HOKS.out.1 HOK.out HOKS.out.2.1 HOKS.out.2.2.1
          have HGD := hid (parse_good hpo2)
          obtain ⟨v3, rfl, hx3⟩ := hres
          obtain ⟨A3, cap3, rfl, _, _⟩ := hx3.form
          have hb3 := below_of_none hg3
          have c0 := bel_cell hb3 c0
          have c1 := bel_cell hb3 c1
          have c2 := bel_cell hb3 c2
          have c3 := bel_cell hb3 c3
          have hlt3 := World.block_lt_of_cell? _ _ c0
          dsimp only at hlt3
          have hne3 := Nat.ne_of_lt hlt3
          have HB3 := hid (bel_step HB2.out hb3)
          have HX3 := hid hx3
          clear hpo hpo2 hg3 hb3 hx3
          by_cases hnum : e.op = numO
          · have a0 : (e.op == [110, 117, 109]) = true := by rw [hnum]; rfl
            have HNUM := hid hnum
            clear hnum
            go_wp2_with fail
            obtain ⟨W3, hW3⟩ : ∃ W3, W3 = (w3.alloc (.cells #[.string ⟨(stripF e).op.toArray⟩, .int .i64 (stripF e).num, .string ⟨(stripF e).name.toArray⟩, .slice A3 (stripF e).kids.len cap3] 24)).alloc (.cells #[.string ⟨#[110, 117, 109]⟩, .int .i64 e.num, .string ⟨#[]⟩, .slice none 0 0] 24) := ⟨_, rfl⟩
            have kY : Bk W3 w3.heap.size 24 #[.string ⟨(stripF e).op.toArray⟩, .int .i64 (stripF e).num, .string ⟨(stripF e).name.toArray⟩, .slice A3 (stripF e).kids.len cap3] := by rw [hW3]; exact (Bk.new w3 _ _).alloc _
            have kC : Bk W3 (w3.heap.size + 1) 24 #[.string ⟨#[110, 117, 109]⟩, .int .i64 e.num, .string ⟨#[]⟩, .slice none 0 0] := by
              rw [hW3]
              have := Bk.new (w3.alloc (.cells #[.string ⟨(stripF e).op.toArray⟩, .int .i64 (stripF e).num, .string ⟨(stripF e).name.toArray⟩, .slice A3 (stripF e).kids.len cap3] 24)) 24 #[.string ⟨#[110, 117, 109]⟩, .int .i64 e.num, .string ⟨#[]⟩, .slice none 0 0]
              simpa using this
            have hB3 : Below w3.heap.size w3 W3 := by rw [hW3]; exact ((Below.refl _ _).alloc (Nat.le_refl _) _).alloc (by simp) _
            rw [← hW3]
            clear hW3
            have HBA := hid (bel_step HB3.out hB3.drew)
            have HXY := hid (show RdX W3.drew (fun b => w2.heap.size ≤ b) (stripF e) _ from HX3.out.below hB3.drew)
            have HGR := hid HGD.out.1
            have HGS := hid HGD.out.2.1
            have HGZ := hid (show szF (stripF e) ≤ 100000 by have := HGD.out.2.2.2; omega)
            have HXC := hid (leaf_num W3.drew (fun b => w2.heap.size ≤ b) e.num)
            have HCZ := hid (show szF (.mk numO e.num [] .nil) ≤ 100000 by simp [szF, szL])
            have HCR := hid (num_right HOKS.out.1 HNUM.out).1
            have HCS := hid (num_right HOKS.out.1 HNUM.out).2
            obtain ⟨y0, y1, y2, y3⟩ := kY.cells4
            obtain ⟨k0, k1, k2, k3⟩ := kC.cells4
            clear c0 c1 c2 c3 kY kC hB3 hlt3 hne3 a0
            refine wp_region_held_drew (S := (fun w' => w'.cell? ⟨w3.heap.size, 0, none⟩ = some (.string ⟨(stripF e).op.toArray⟩) ∧ w'.cell? ⟨w3.heap.size, 1, none⟩ = some (.int .i64 (stripF e).num) ∧ w'.cell? ⟨w3.heap.size, 2, none⟩ = some (.string ⟨(stripF e).name.toArray⟩) ∧ w'.cell? ⟨w3.heap.size, 3, none⟩ = some (.slice A3 (stripF e).kids.len cap3) ∧ w'.cell? ⟨w3.heap.size + 1, 0, none⟩ = some (.string ⟨#[110, 117, 109]⟩) ∧ w'.cell? ⟨w3.heap.size + 1, 1, none⟩ = some (.int .i64 e.num) ∧ w'.cell? ⟨w3.heap.size + 1, 2, none⟩ = some (.string ⟨#[]⟩) ∧ w'.cell? ⟨w3.heap.size + 1, 3, none⟩ = some (.slice none 0 0))) (by kernel_rfl) ⟨y0, y1, y2, y3, k0, k1, k2, k3⟩ (fun hHeld => ?_)
            refine takeYes (i := 0) (v := .int .i64 0) rfl (by kernel_rfl) (by kernel_rfl) (by kernel_rfl) (fun _ _ _ h => h) (by rfl) ?_ (by assumption) ?_
            · intro w hSw; obtain ⟨sq0, sq1, sq2, sq3, sq4, sq5, sq6, sq7⟩ := hSw; go_simp
            try simp only [Act.put, List.setIfInBounds_toArray, List.set_cons_zero, List.set_cons_succ]
            refine takeYes (i := 1) (v := .bool false) rfl (by kernel_rfl) (by kernel_rfl) (by kernel_rfl) (fun _ _ _ h => h) (by rfl) ?_ (by assumption) ?_
            · intro w hSw; obtain ⟨sq0, sq1, sq2, sq3, sq4, sq5, sq6, sq7⟩ := hSw; go_simp
            try simp only [Act.put, List.setIfInBounds_toArray, List.set_cons_zero, List.set_cons_succ]
            refine takeYes (i := 2) (v := .bool false) rfl (by kernel_rfl) (by kernel_rfl) (by kernel_rfl) (fun _ _ _ h => h) (by rfl) ?_ (by assumption) ?_
            · intro w hSw; obtain ⟨sq0, sq1, sq2, sq3, sq4, sq5, sq6, sq7⟩ := hSw; go_simp
            try simp only [Act.put, List.setIfInBounds_toArray, List.set_cons_zero, List.set_cons_succ]
            refine takeYes (i := 3) (v := .int .i64 0) rfl (by kernel_rfl) (by kernel_rfl) (by kernel_rfl) (fun _ _ _ h => h) (by rfl) ?_ (by assumption) ?_
            · intro w hSw; obtain ⟨sq0, sq1, sq2, sq3, sq4, sq5, sq6, sq7⟩ := hSw; go_simp
            try simp only [Act.put, List.setIfInBounds_toArray, List.set_cons_zero, List.set_cons_succ]
            refine takeYes (i := 4) (v := .bool false) rfl (by kernel_rfl) (by kernel_rfl) (by kernel_rfl) (fun _ _ _ h => h) (by rfl) ?_ (by assumption) ?_
            · intro w hSw; obtain ⟨sq0, sq1, sq2, sq3, sq4, sq5, sq6, sq7⟩ := hSw; go_simp
            try simp only [Act.put, List.setIfInBounds_toArray, List.set_cons_zero, List.set_cons_succ]
            refine takeYes (i := 5) (v := .bool false) rfl (by kernel_rfl) (by kernel_rfl) (by kernel_rfl) (fun _ _ _ h => h) (by rfl) ?_ (by assumption) ?_
            · intro w hSw; obtain ⟨sq0, sq1, sq2, sq3, sq4, sq5, sq6, sq7⟩ := hSw; go_simp
            try simp only [Act.put, List.setIfInBounds_toArray, List.set_cons_zero, List.set_cons_succ]
            refine takeYes (i := 6) (v := .bool false) rfl (by kernel_rfl) (by kernel_rfl) (by kernel_rfl) (fun _ _ _ h => h) (by rfl) ?_ (by assumption) ?_
            · intro w hSw; obtain ⟨sq0, sq1, sq2, sq3, sq4, sq5, sq6, sq7⟩ := hSw; go_simp
            try simp only [Act.put, List.setIfInBounds_toArray, List.set_cons_zero, List.set_cons_succ]
            refine takeYes (i := 7) (v := .agg #[.string ⟨(stripF e).op.toArray⟩, .int .i64 (stripF e).num, .string ⟨(stripF e).name.toArray⟩, .slice A3 (stripF e).kids.len cap3]) rfl (by kernel_rfl) (by kernel_rfl) (by kernel_rfl) (fun _ _ _ h => h) (by rfl) ?_ (by assumption) ?_
            · intro w hSw; obtain ⟨sq0, sq1, sq2, sq3, sq4, sq5, sq6, sq7⟩ := hSw; go_simp
            try simp only [Act.put, List.setIfInBounds_toArray, List.set_cons_zero, List.set_cons_succ]
            refine takeYes (i := 10) (v := .agg #[.string ⟨#[110, 117, 109]⟩, .int .i64 e.num, .string ⟨#[]⟩, .slice none 0 0]) rfl (by kernel_rfl) (by kernel_rfl) (by kernel_rfl) (fun _ _ _ h => h) (by rfl) ?_ (by assumption) ?_
            · intro w hSw; obtain ⟨sq0, sq1, sq2, sq3, sq4, sq5, sq6, sq7⟩ := hSw; go_simp
            try simp only [Act.put, List.setIfInBounds_toArray, List.set_cons_zero, List.set_cons_succ]
            refine wpAnyH_ready (rs := [8]) (by kernel_rfl) (by simp) ?_
            refine AllReadyH.cons rfl (fun K hK => ?_) AllReadyH.nil
            go_simp
            ((with_reducible refine ((plain_any (stripF e) HGZ.out).call _ _ _ HXY.out).mono ?_); rintro e4 w4 ⟨u4, rfl, hx4, hb4⟩)
            go_wp2_with fail
            refine hK.out _ _ ?_ (fun hHeld => ?_)
            · exact ⟨bel_cell hb4 y0, bel_cell hb4 y1, bel_cell hb4 y2, bel_cell hb4 y3, bel_cell hb4 k0, bel_cell hb4 k1, bel_cell hb4 k2, bel_cell hb4 k3⟩
            clear hK K
            try simp only [Act.put, List.setIfInBounds_toArray, List.set_cons_zero, List.set_cons_succ]
            refine wpAnyH_ready (rs := [9]) (by kernel_rfl) (by simp) ?_
            refine AllReadyH.cons rfl (fun K hK => ?_) AllReadyH.nil
            go_simp
            obtain ⟨y0, y1, y2, y3, k0, k1, k2, k3⟩ := hHeld
            ((with_reducible refine ((strip_any (stripF e) HGR.out HGZ.out).call _ _ _ hx4).mono ?_); rintro e5 w5 ⟨u5, rfl, hx5, hb5⟩)
            go_wp2_with fail
            refine hK.out _ _ ?_ (fun hHeld => ?_)
            · exact ⟨bel_cell hb5 y0, bel_cell hb5 y1, bel_cell hb5 y2, bel_cell hb5 y3, bel_cell hb5 k0, bel_cell hb5 k1, bel_cell hb5 k2, bel_cell hb5 k3⟩
            clear hK K
            try simp only [Act.put, List.setIfInBounds_toArray, List.set_cons_zero, List.set_cons_succ]
            refine wpAnyH_ready (rs := [11]) (by kernel_rfl) (by simp) ?_
            refine AllReadyH.cons rfl (fun K hK => ?_) AllReadyH.nil
            go_simp
            obtain ⟨y0, y1, y2, y3, k0, k1, k2, k3⟩ := hHeld
            ((with_reducible refine ((plain_any (.mk numO e.num [] .nil) HCZ.out).call _ _ _ ((HXC.out.below hb4).below hb5)).mono ?_); rintro e6 w6 ⟨u6, rfl, hx6, hb6⟩)
            go_wp2_with fail
            refine hK.out _ _ ?_ (fun hHeld => ?_)
            · exact ⟨bel_cell hb6 y0, bel_cell hb6 y1, bel_cell hb6 y2, bel_cell hb6 y3, bel_cell hb6 k0, bel_cell hb6 k1, bel_cell hb6 k2, bel_cell hb6 k3⟩
            clear hK K
            try simp only [Act.put, List.setIfInBounds_toArray, List.set_cons_zero, List.set_cons_succ]
            refine wpAnyH_ready (rs := [12]) (by kernel_rfl) (by simp) ?_
            refine AllReadyH.cons rfl (fun K hK => ?_) AllReadyH.nil
            go_simp
            obtain ⟨y0, y1, y2, y3, k0, k1, k2, k3⟩ := hHeld
            ((with_reducible refine ((strip_any (.mk numO e.num [] .nil) HCR.out HCZ.out).call _ _ _ hx6).mono ?_); rintro e7 w7 ⟨u7, rfl, hx7, hb7⟩)
            go_wp2_with fail
            refine hK.out _ _ ?_ (fun hHeld => ?_)
            · exact ⟨bel_cell hb7 y0, bel_cell hb7 y1, bel_cell hb7 y2, bel_cell hb7 y3, bel_cell hb7 k0, bel_cell hb7 k1, bel_cell hb7 k2, bel_cell hb7 k3⟩
            clear hK K
            try simp only [Act.put, List.setIfInBounds_toArray, List.set_cons_zero, List.set_cons_succ]
            refine wpAnyH_ready (rs := [13]) (by kernel_rfl) (by simp) ?_
            refine AllReadyH.cons rfl (fun K hK => ?_) AllReadyH.nil
            go_simp
            obtain ⟨y0, y1, y2, y3, k0, k1, k2, k3⟩ := hHeld
            rw [HGS.out] at hx5
            rw [HCS.out] at hx7
            ((with_reducible refine ((same_any (stripF e) HGZ.out).call _ _ _ _ _ ((hx5.below hb6).below hb7) hx7).mono ?_); rintro e8 w8 ⟨rfl, hb8⟩)
            go_wp2_with fail
            refine hK.out _ _ ?_ (fun hHeld => ?_)
            · exact ⟨bel_cell hb8 y0, bel_cell hb8 y1, bel_cell hb8 y2, bel_cell hb8 y3, bel_cell hb8 k0, bel_cell hb8 k1, bel_cell hb8 k2, bel_cell hb8 k3⟩
            clear hK K
            try simp only [Act.put, List.setIfInBounds_toArray, List.set_cons_zero, List.set_cons_succ]
            refine takeYes (i := 14) (v := .bool false) rfl (by kernel_rfl) (by kernel_rfl) (by kernel_rfl) (fun _ _ _ h => h) (by rfl) ?_ (by assumption) ?_
            · intro w hSw; obtain ⟨sq0, sq1, sq2, sq3, sq4, sq5, sq6, sq7⟩ := hSw; go_simp
            try simp only [Act.put, List.setIfInBounds_toArray, List.set_cons_zero, List.set_cons_succ]
            refine takeYes (i := 15) (v := .bool false) rfl (by kernel_rfl) (by kernel_rfl) (by kernel_rfl) (fun _ _ _ h => h) (by rfl) ?_ (by assumption) ?_
            · intro w hSw; obtain ⟨sq0, sq1, sq2, sq3, sq4, sq5, sq6, sq7⟩ := hSw; go_simp
            try simp only [Act.put, List.setIfInBounds_toArray, List.set_cons_zero, List.set_cons_succ]
            refine wpAnyH_done (by kernel_rfl) ?_ _
            go_wp2_with fail
            go_meet
            exact bel_step (bel_step (bel_step (bel_step (bel_step HBA.out hb4) hb5) hb6) hb7) hb8
          · have a0 : (e.op == [110, 117, 109]) = false := by simpa [numO] using hnum
            clear hnum
            go_wp2_with fail
            obtain ⟨W3, hW3⟩ : ∃ W3, W3 = (w3.alloc (.cells #[.string ⟨(stripF e).op.toArray⟩, .int .i64 (stripF e).num, .string ⟨(stripF e).name.toArray⟩, .slice A3 (stripF e).kids.len cap3] 24)).alloc (.cells #[.string ⟨e.op.toArray⟩, .int .i64 e.num, .string ⟨e.name.toArray⟩, .slice A e.kids.len cap] 24) := ⟨_, rfl⟩
            have kY : Bk W3 w3.heap.size 24 #[.string ⟨(stripF e).op.toArray⟩, .int .i64 (stripF e).num, .string ⟨(stripF e).name.toArray⟩, .slice A3 (stripF e).kids.len cap3] := by rw [hW3]; exact (Bk.new w3 _ _).alloc _
            have kC : Bk W3 (w3.heap.size + 1) 24 #[.string ⟨e.op.toArray⟩, .int .i64 e.num, .string ⟨e.name.toArray⟩, .slice A e.kids.len cap] := by
              rw [hW3]
              have := Bk.new (w3.alloc (.cells #[.string ⟨(stripF e).op.toArray⟩, .int .i64 (stripF e).num, .string ⟨(stripF e).name.toArray⟩, .slice A3 (stripF e).kids.len cap3] 24)) 24 #[.string ⟨e.op.toArray⟩, .int .i64 e.num, .string ⟨e.name.toArray⟩, .slice A e.kids.len cap]
              simpa using this
            have hB3 : Below w3.heap.size w3 W3 := by rw [hW3]; exact ((Below.refl _ _).alloc (Nat.le_refl _) _).alloc (by simp) _
            rw [← hW3]
            clear hW3
            have HBA := hid (bel_step HB3.out hB3.drew)
            have HXY := hid (show RdX W3.drew (fun b => w2.heap.size ≤ b) (stripF e) _ from HX3.out.below hB3.drew)
            have HGR := hid HGD.out.1
            have HGS := hid HGD.out.2.1
            have HGZ := hid (show szF (stripF e) ≤ 100000 by have := HGD.out.2.2.2; omega)
            have HXC := hid (show RdX W3.drew P e _ from (HX.out.below HB3.out).below hB3.drew)
            have HCZ := hid (show szF e ≤ 100000 by have := HSS.out; omega)
            have HCR := hid HOKS.out.1
            obtain ⟨y0, y1, y2, y3⟩ := kY.cells4
            obtain ⟨k0, k1, k2, k3⟩ := kC.cells4
            clear c0 c1 c2 c3 kY kC hB3 hlt3 hne3 a0
            refine wp_region_held_drew (S := (fun w' => w'.cell? ⟨w3.heap.size, 0, none⟩ = some (.string ⟨(stripF e).op.toArray⟩) ∧ w'.cell? ⟨w3.heap.size, 1, none⟩ = some (.int .i64 (stripF e).num) ∧ w'.cell? ⟨w3.heap.size, 2, none⟩ = some (.string ⟨(stripF e).name.toArray⟩) ∧ w'.cell? ⟨w3.heap.size, 3, none⟩ = some (.slice A3 (stripF e).kids.len cap3) ∧ w'.cell? ⟨w3.heap.size + 1, 0, none⟩ = some (.string ⟨e.op.toArray⟩) ∧ w'.cell? ⟨w3.heap.size + 1, 1, none⟩ = some (.int .i64 e.num) ∧ w'.cell? ⟨w3.heap.size + 1, 2, none⟩ = some (.string ⟨e.name.toArray⟩) ∧ w'.cell? ⟨w3.heap.size + 1, 3, none⟩ = some (.slice A e.kids.len cap))) (by kernel_rfl) ⟨y0, y1, y2, y3, k0, k1, k2, k3⟩ (fun hHeld => ?_)
            refine takeYes (i := 0) (v := .int .i64 0) rfl (by kernel_rfl) (by kernel_rfl) (by kernel_rfl) (fun _ _ _ h => h) (by rfl) ?_ (by assumption) ?_
            · intro w hSw; obtain ⟨sq0, sq1, sq2, sq3, sq4, sq5, sq6, sq7⟩ := hSw; go_simp
            try simp only [Act.put, List.setIfInBounds_toArray, List.set_cons_zero, List.set_cons_succ]
            refine takeYes (i := 1) (v := .bool false) rfl (by kernel_rfl) (by kernel_rfl) (by kernel_rfl) (fun _ _ _ h => h) (by rfl) ?_ (by assumption) ?_
            · intro w hSw; obtain ⟨sq0, sq1, sq2, sq3, sq4, sq5, sq6, sq7⟩ := hSw; go_simp
            try simp only [Act.put, List.setIfInBounds_toArray, List.set_cons_zero, List.set_cons_succ]
            refine takeYes (i := 2) (v := .bool false) rfl (by kernel_rfl) (by kernel_rfl) (by kernel_rfl) (fun _ _ _ h => h) (by rfl) ?_ (by assumption) ?_
            · intro w hSw; obtain ⟨sq0, sq1, sq2, sq3, sq4, sq5, sq6, sq7⟩ := hSw; go_simp
            try simp only [Act.put, List.setIfInBounds_toArray, List.set_cons_zero, List.set_cons_succ]
            refine takeYes (i := 3) (v := .int .i64 0) rfl (by kernel_rfl) (by kernel_rfl) (by kernel_rfl) (fun _ _ _ h => h) (by rfl) ?_ (by assumption) ?_
            · intro w hSw; obtain ⟨sq0, sq1, sq2, sq3, sq4, sq5, sq6, sq7⟩ := hSw; go_simp
            try simp only [Act.put, List.setIfInBounds_toArray, List.set_cons_zero, List.set_cons_succ]
            refine takeYes (i := 4) (v := .bool false) rfl (by kernel_rfl) (by kernel_rfl) (by kernel_rfl) (fun _ _ _ h => h) (by rfl) ?_ (by assumption) ?_
            · intro w hSw; obtain ⟨sq0, sq1, sq2, sq3, sq4, sq5, sq6, sq7⟩ := hSw; go_simp
            try simp only [Act.put, List.setIfInBounds_toArray, List.set_cons_zero, List.set_cons_succ]
            refine takeYes (i := 5) (v := .bool false) rfl (by kernel_rfl) (by kernel_rfl) (by kernel_rfl) (fun _ _ _ h => h) (by rfl) ?_ (by assumption) ?_
            · intro w hSw; obtain ⟨sq0, sq1, sq2, sq3, sq4, sq5, sq6, sq7⟩ := hSw; go_simp
            try simp only [Act.put, List.setIfInBounds_toArray, List.set_cons_zero, List.set_cons_succ]
            refine takeYes (i := 6) (v := .bool false) rfl (by kernel_rfl) (by kernel_rfl) (by kernel_rfl) (fun _ _ _ h => h) (by rfl) ?_ (by assumption) ?_
            · intro w hSw; obtain ⟨sq0, sq1, sq2, sq3, sq4, sq5, sq6, sq7⟩ := hSw; go_simp
            try simp only [Act.put, List.setIfInBounds_toArray, List.set_cons_zero, List.set_cons_succ]
            refine takeYes (i := 7) (v := .agg #[.string ⟨(stripF e).op.toArray⟩, .int .i64 (stripF e).num, .string ⟨(stripF e).name.toArray⟩, .slice A3 (stripF e).kids.len cap3]) rfl (by kernel_rfl) (by kernel_rfl) (by kernel_rfl) (fun _ _ _ h => h) (by rfl) ?_ (by assumption) ?_
            · intro w hSw; obtain ⟨sq0, sq1, sq2, sq3, sq4, sq5, sq6, sq7⟩ := hSw; go_simp
            try simp only [Act.put, List.setIfInBounds_toArray, List.set_cons_zero, List.set_cons_succ]
            refine takeYes (i := 10) (v := .agg #[.string ⟨e.op.toArray⟩, .int .i64 e.num, .string ⟨e.name.toArray⟩, .slice A e.kids.len cap]) rfl (by kernel_rfl) (by kernel_rfl) (by kernel_rfl) (fun _ _ _ h => h) (by rfl) ?_ (by assumption) ?_
            · intro w hSw; obtain ⟨sq0, sq1, sq2, sq3, sq4, sq5, sq6, sq7⟩ := hSw; go_simp
            try simp only [Act.put, List.setIfInBounds_toArray, List.set_cons_zero, List.set_cons_succ]
            refine wpAnyH_ready (rs := [8]) (by kernel_rfl) (by simp) ?_
            refine AllReadyH.cons rfl (fun K hK => ?_) AllReadyH.nil
            go_simp
            ((with_reducible refine ((plain_any (stripF e) HGZ.out).call _ _ _ HXY.out).mono ?_); rintro e4 w4 ⟨u4, rfl, hx4, hb4⟩)
            go_wp2_with fail
            refine hK.out _ _ ?_ (fun hHeld => ?_)
            · exact ⟨bel_cell hb4 y0, bel_cell hb4 y1, bel_cell hb4 y2, bel_cell hb4 y3, bel_cell hb4 k0, bel_cell hb4 k1, bel_cell hb4 k2, bel_cell hb4 k3⟩
            clear hK K
            try simp only [Act.put, List.setIfInBounds_toArray, List.set_cons_zero, List.set_cons_succ]
            refine wpAnyH_ready (rs := [9]) (by kernel_rfl) (by simp) ?_
            refine AllReadyH.cons rfl (fun K hK => ?_) AllReadyH.nil
            go_simp
            obtain ⟨y0, y1, y2, y3, k0, k1, k2, k3⟩ := hHeld
            ((with_reducible refine ((strip_any (stripF e) HGR.out HGZ.out).call _ _ _ hx4).mono ?_); rintro e5 w5 ⟨u5, rfl, hx5, hb5⟩)
            go_wp2_with fail
            refine hK.out _ _ ?_ (fun hHeld => ?_)
            · exact ⟨bel_cell hb5 y0, bel_cell hb5 y1, bel_cell hb5 y2, bel_cell hb5 y3, bel_cell hb5 k0, bel_cell hb5 k1, bel_cell hb5 k2, bel_cell hb5 k3⟩
            clear hK K
            try simp only [Act.put, List.setIfInBounds_toArray, List.set_cons_zero, List.set_cons_succ]
            refine wpAnyH_ready (rs := [11]) (by kernel_rfl) (by simp) ?_
            refine AllReadyH.cons rfl (fun K hK => ?_) AllReadyH.nil
            go_simp
            obtain ⟨y0, y1, y2, y3, k0, k1, k2, k3⟩ := hHeld
            ((with_reducible refine ((plain_any e HCZ.out).call _ _ _ ((HXC.out.below hb4).below hb5)).mono ?_); rintro e6 w6 ⟨u6, rfl, hx6, hb6⟩)
            go_wp2_with fail
            refine hK.out _ _ ?_ (fun hHeld => ?_)
            · exact ⟨bel_cell hb6 y0, bel_cell hb6 y1, bel_cell hb6 y2, bel_cell hb6 y3, bel_cell hb6 k0, bel_cell hb6 k1, bel_cell hb6 k2, bel_cell hb6 k3⟩
            clear hK K
            try simp only [Act.put, List.setIfInBounds_toArray, List.set_cons_zero, List.set_cons_succ]
            refine wpAnyH_ready (rs := [12]) (by kernel_rfl) (by simp) ?_
            refine AllReadyH.cons rfl (fun K hK => ?_) AllReadyH.nil
            go_simp
            obtain ⟨y0, y1, y2, y3, k0, k1, k2, k3⟩ := hHeld
            ((with_reducible refine ((strip_any e HCR.out HCZ.out).call _ _ _ hx6).mono ?_); rintro e7 w7 ⟨u7, rfl, hx7, hb7⟩)
            go_wp2_with fail
            refine hK.out _ _ ?_ (fun hHeld => ?_)
            · exact ⟨bel_cell hb7 y0, bel_cell hb7 y1, bel_cell hb7 y2, bel_cell hb7 y3, bel_cell hb7 k0, bel_cell hb7 k1, bel_cell hb7 k2, bel_cell hb7 k3⟩
            clear hK K
            try simp only [Act.put, List.setIfInBounds_toArray, List.set_cons_zero, List.set_cons_succ]
            refine wpAnyH_ready (rs := [13]) (by kernel_rfl) (by simp) ?_
            refine AllReadyH.cons rfl (fun K hK => ?_) AllReadyH.nil
            go_simp
            obtain ⟨y0, y1, y2, y3, k0, k1, k2, k3⟩ := hHeld
            rw [HGS.out] at hx5
            ((with_reducible refine ((same_any (stripF e) HGZ.out).call _ _ _ _ _ ((hx5.below hb6).below hb7) hx7).mono ?_); rintro e8 w8 ⟨rfl, hb8⟩)
            go_wp2_with fail
            refine hK.out _ _ ?_ (fun hHeld => ?_)
            · exact ⟨bel_cell hb8 y0, bel_cell hb8 y1, bel_cell hb8 y2, bel_cell hb8 y3, bel_cell hb8 k0, bel_cell hb8 k1, bel_cell hb8 k2, bel_cell hb8 k3⟩
            clear hK K
            try simp only [Act.put, List.setIfInBounds_toArray, List.set_cons_zero, List.set_cons_succ]
            refine takeYes (i := 14) (v := .bool false) rfl (by kernel_rfl) (by kernel_rfl) (by kernel_rfl) (fun _ _ _ h => h) (by rfl) ?_ (by assumption) ?_
            · intro w hSw; obtain ⟨sq0, sq1, sq2, sq3, sq4, sq5, sq6, sq7⟩ := hSw; go_simp
            try simp only [Act.put, List.setIfInBounds_toArray, List.set_cons_zero, List.set_cons_succ]
            refine takeYes (i := 15) (v := .bool false) rfl (by kernel_rfl) (by kernel_rfl) (by kernel_rfl) (fun _ _ _ h => h) (by rfl) ?_ (by assumption) ?_
            · intro w hSw; obtain ⟨sq0, sq1, sq2, sq3, sq4, sq5, sq6, sq7⟩ := hSw; go_simp
            try simp only [Act.put, List.setIfInBounds_toArray, List.set_cons_zero, List.set_cons_succ]
            refine wpAnyH_done (by kernel_rfl) ?_ _
            go_wp2_with fail
            go_meet
            exact bel_step (bel_step (bel_step (bel_step (bel_step HBA.out hb4) hb5) hb6) hb7) hb8
        · have hei : (er == 0) = false := by simpa using her
          clear her
          go_wp2_with fail
          go_meet
          exact HB2.out
      case rest =>
        have HBC := hid hcut
        clear hcut c0 c1 c2 c3
        go_wp2_with fail
        ((with_reducible refine (parse_any s _ (HL.out.below HBC.out) (HL.out.below HBC.out).big).mono ?_); rintro e3 w3 ⟨r, hpo, hg3, hres⟩)
        have HB3 := hid (bel_step HBC.out (below_of_none hg3))
        clear hg3
        cases r with
        | error x =>
          obtain ⟨at_, er3⟩ := x
          have her := parse_err hpo
          dsimp only at her hres
          subst hres
          have heb : (er3 != 0) = true := by simpa using her
          clear her hpo
          go_wp2_with fail
          ((with_reducible refine (awake_any _ (HL.out.below (HB3.out.alloc HB3.out.size _)) (HL.out.below (HB3.out.alloc HB3.out.size _)).big).mono ?_); rintro e4 w4 ⟨rfl, hb4⟩)
          go_wp2_with fail
          go_ret
          exact ⟨rfl, bel_step (HB3.out.alloc HB3.out.size _) hb4⟩
        | ok y =>
          have HGD := hid (parse_good hpo)
          clear hpo
          obtain ⟨v3, rfl, hx3⟩ := hres
          obtain ⟨A3, cap3, rfl, _, _⟩ := hx3.form
          have HX3 := hid hx3
          clear hx3
          have kY := Bk.new w3 24 #[.string ⟨y.op.toArray⟩, .int .i64 y.num, .string ⟨y.name.toArray⟩, .slice A3 y.kids.len cap3]
          have hbY : Below w3.heap.size w3 (w3.alloc (.cells #[.string ⟨y.op.toArray⟩, .int .i64 y.num, .string ⟨y.name.toArray⟩, .slice A3 y.kids.len cap3] 24)) := (Below.refl _ _).alloc (Nat.le_refl _) _
          have HGZ := hid (show szF y ≤ 100000 by have := HGD.out.2.2.2; omega)
          go_wp2_with fail
          obtain ⟨W3, hW3⟩ : ∃ W3, W3 = w3.alloc (.cells #[.string ⟨y.op.toArray⟩, .int .i64 y.num, .string ⟨y.name.toArray⟩, .slice A3 y.kids.len cap3] 24) := ⟨_, rfl⟩
          rw [← hW3] at kY hbY
          rw [← hW3]
          clear hW3
          have HXY3 := hid (HX3.out.below hbY)
          have HB3 := hid (bel_step HB3.out hbY)
          ((with_reducible refine (Show_any y _ _ _ HXY3.out HGD.out.2.2.1 HGZ.out (HL.out.below HB3.out)).mono ?_); rintro e4 w4 ⟨rfl, hb4⟩)
          obtain ⟨y0, y1, y2, y3⟩ := kY.cells4
          have y0 := bel_cell hb4 y0
          have y1 := bel_cell hb4 y1
          have y2 := bel_cell hb4 y2
          have y3 := bel_cell hb4 y3
          have HB4 := hid (bel_step HB3.out hb4)
          have HXY4 := hid (HXY3.out.below hb4)
          clear hb4 kY hbY
          obtain ⟨⟨so2, er2⟩, hso⟩ : ∃ p, p = showOut y := ⟨_, rfl⟩
          have HSO2 := hid hso
          have hcase : er2 = 0 ∨ er2 = 32 ∨ er2 = 21 := by have := showOut_er HGD.out.1; rw [← hso] at this; exact this
          rw [← hso]
          clear hso
          dsimp only
          rcases hcase with rfl | rfl | rfl
          · have HOKS := hid (showOut_ok HSO2.out.symm)
            go_wp2_with fail
            ((with_reducible refine (parse_any ⟨so2.toArray⟩ _ (HL.out.below HB4.out) (HL.out.below HB4.out).big).mono ?_); rintro e5 w5 ⟨r, hpo, hg5, hres⟩)
            have hpo2 : ParseOut (showF y) r := by rw [← HOKS.out.2.2.2]; exact hpo
            obtain rfl := parse_show hpo2 HGD.out.1 HGD.out.2.2.1 HOKS.out.2.1 HOKS.out.2.2.1
            obtain ⟨v5, rfl, hx5⟩ := hres
            rw [HGD.out.2.1] at hx5
            obtain ⟨A5, cap5, rfl, _, _⟩ := hx5.form
            have hb5 := below_of_none hg5
            have y0 := bel_cell hb5 y0
            have y1 := bel_cell hb5 y1
            have y2 := bel_cell hb5 y2
            have y3 := bel_cell hb5 y3
            have hlt5 := World.block_lt_of_cell? _ _ y0
            dsimp only at hlt5
            have hne5 := Nat.ne_of_lt hlt5
            have HX5 := hid hx5
            have HXY5 := hid (HXY4.out.below hb5)
            have HB5 := hid (bel_step HB4.out hb5)
            clear hpo hpo2 hg5 hb5 hx5
            go_wp2_with fail
            obtain ⟨W5, hW5⟩ : ∃ W5, W5 = w5.alloc (.cells #[.string ⟨y.op.toArray⟩, .int .i64 y.num, .string ⟨y.name.toArray⟩, .slice A5 y.kids.len cap5] 24) := ⟨_, rfl⟩
            have kZ : Bk W5 w5.heap.size 24 #[.string ⟨y.op.toArray⟩, .int .i64 y.num, .string ⟨y.name.toArray⟩, .slice A5 y.kids.len cap5] := by rw [hW5]; exact Bk.new w5 _ _
            have hbZ : Below w5.heap.size w5 W5 := by rw [hW5]; exact (Below.refl _ _).alloc (Nat.le_refl _) _
            rw [← hW5]
            clear hW5
            have y0 := bel_cell hbZ y0
            have y1 := bel_cell hbZ y1
            have y2 := bel_cell hbZ y2
            have y3 := bel_cell hbZ y3
            obtain ⟨k0, k1, k2, k3⟩ := kZ.cells4
            have HXZ := hid (show RdX W5.drew _ y _ from HX5.out.below hbZ.drew)
            have HXY := hid (show RdX W5.drew _ y _ from HXY5.out.below hbZ.drew)
            have HBA := hid (bel_step HB5.out hbZ.drew)
            clear kZ hbZ
            refine wp_region_held_drew (S := (fun w' => w'.cell? ⟨w3.heap.size, 0, none⟩ = some (.string ⟨y.op.toArray⟩) ∧ w'.cell? ⟨w3.heap.size, 1, none⟩ = some (.int .i64 y.num) ∧ w'.cell? ⟨w3.heap.size, 2, none⟩ = some (.string ⟨y.name.toArray⟩) ∧ w'.cell? ⟨w3.heap.size, 3, none⟩ = some (.slice A3 y.kids.len cap3) ∧ w'.cell? ⟨w5.heap.size, 0, none⟩ = some (.string ⟨y.op.toArray⟩) ∧ w'.cell? ⟨w5.heap.size, 1, none⟩ = some (.int .i64 y.num) ∧ w'.cell? ⟨w5.heap.size, 2, none⟩ = some (.string ⟨y.name.toArray⟩) ∧ w'.cell? ⟨w5.heap.size, 3, none⟩ = some (.slice A5 y.kids.len cap5))) (by kernel_rfl) ⟨y0, y1, y2, y3, k0, k1, k2, k3⟩ (fun hHeld => ?_)
            refine takeYes (i := 0) (v := .int .i64 0) rfl (by kernel_rfl) (by kernel_rfl) (by kernel_rfl) (fun _ _ _ h => h) (by rfl) ?_ (by assumption) ?_
            · intro w hSw; obtain ⟨sq0, sq1, sq2, sq3, sq4, sq5, sq6, sq7⟩ := hSw; go_simp
            try simp only [Act.put, List.setIfInBounds_toArray, List.set_cons_zero, List.set_cons_succ]
            refine takeYes (i := 1) (v := .bool true) rfl (by kernel_rfl) (by kernel_rfl) (by kernel_rfl) (fun _ _ _ h => h) (by rfl) ?_ (by assumption) ?_
            · intro w hSw; obtain ⟨sq0, sq1, sq2, sq3, sq4, sq5, sq6, sq7⟩ := hSw; go_simp
            try simp only [Act.put, List.setIfInBounds_toArray, List.set_cons_zero, List.set_cons_succ]
            refine takeYes (i := 2) (v := .bool true) rfl (by kernel_rfl) (by kernel_rfl) (by kernel_rfl) (fun _ _ _ h => h) (by rfl) ?_ (by assumption) ?_
            · intro w hSw; obtain ⟨sq0, sq1, sq2, sq3, sq4, sq5, sq6, sq7⟩ := hSw; go_simp
            try simp only [Act.put, List.setIfInBounds_toArray, List.set_cons_zero, List.set_cons_succ]
            refine takeYes (i := 3) (v := .agg #[.string ⟨y.op.toArray⟩, .int .i64 y.num, .string ⟨y.name.toArray⟩, .slice A5 y.kids.len cap5]) rfl (by kernel_rfl) (by kernel_rfl) (by kernel_rfl) (fun _ _ _ h => h) (by rfl) ?_ (by assumption) ?_
            · intro w hSw; obtain ⟨sq0, sq1, sq2, sq3, sq4, sq5, sq6, sq7⟩ := hSw; go_simp
            try simp only [Act.put, List.setIfInBounds_toArray, List.set_cons_zero, List.set_cons_succ]
            refine takeYes (i := 5) (v := .agg #[.string ⟨y.op.toArray⟩, .int .i64 y.num, .string ⟨y.name.toArray⟩, .slice A3 y.kids.len cap3]) rfl (by kernel_rfl) (by kernel_rfl) (by kernel_rfl) (fun _ _ _ h => h) (by rfl) ?_ (by assumption) ?_
            · intro w hSw; obtain ⟨sq0, sq1, sq2, sq3, sq4, sq5, sq6, sq7⟩ := hSw; go_simp
            try simp only [Act.put, List.setIfInBounds_toArray, List.set_cons_zero, List.set_cons_succ]
            refine wpAnyH_ready (rs := [4]) (by kernel_rfl) (by simp) ?_
            refine AllReadyH.cons rfl (fun K hK => ?_) AllReadyH.nil
            go_simp
            ((with_reducible refine ((plain_any y HGZ.out).call _ _ _ HXZ.out).mono ?_); rintro e6 w6 ⟨u6, rfl, hx6, hb6⟩)
            go_wp2_with fail
            refine hK.out _ _ ?_ (fun hHeld => ?_)
            · exact ⟨bel_cell hb6 y0, bel_cell hb6 y1, bel_cell hb6 y2, bel_cell hb6 y3, bel_cell hb6 k0, bel_cell hb6 k1, bel_cell hb6 k2, bel_cell hb6 k3⟩
            clear hK K
            try simp only [Act.put, List.setIfInBounds_toArray, List.set_cons_zero, List.set_cons_succ]
            refine wpAnyH_ready (rs := [6]) (by kernel_rfl) (by simp) ?_
            refine AllReadyH.cons rfl (fun K hK => ?_) AllReadyH.nil
            go_simp
            obtain ⟨y0, y1, y2, y3, k0, k1, k2, k3⟩ := hHeld
            ((with_reducible refine ((plain_any y HGZ.out).call _ _ _ (HXY.out.below hb6)).mono ?_); rintro e7 w7 ⟨u7, rfl, hx7, hb7⟩)
            go_wp2_with fail
            refine hK.out _ _ ?_ (fun hHeld => ?_)
            · exact ⟨bel_cell hb7 y0, bel_cell hb7 y1, bel_cell hb7 y2, bel_cell hb7 y3, bel_cell hb7 k0, bel_cell hb7 k1, bel_cell hb7 k2, bel_cell hb7 k3⟩
            clear hK K
            try simp only [Act.put, List.setIfInBounds_toArray, List.set_cons_zero, List.set_cons_succ]
            refine wpAnyH_ready (rs := [7]) (by kernel_rfl) (by simp) ?_
            refine AllReadyH.cons rfl (fun K hK => ?_) AllReadyH.nil
            go_simp
            obtain ⟨y0, y1, y2, y3, k0, k1, k2, k3⟩ := hHeld
            ((with_reducible refine ((same_any y HGZ.out).call _ _ _ _ _ (hx6.below hb7) hx7).mono ?_); rintro e8 w8 ⟨rfl, hb8⟩)
            go_wp2_with fail
            refine hK.out _ _ ?_ (fun hHeld => ?_)
            · exact ⟨bel_cell hb8 y0, bel_cell hb8 y1, bel_cell hb8 y2, bel_cell hb8 y3, bel_cell hb8 k0, bel_cell hb8 k1, bel_cell hb8 k2, bel_cell hb8 k3⟩
            clear hK K
            try simp only [Act.put, List.setIfInBounds_toArray, List.set_cons_zero, List.set_cons_succ]
            refine takeYes (i := 8) (v := .bool true) rfl (by kernel_rfl) (by kernel_rfl) (by kernel_rfl) (fun _ _ _ h => h) (by rfl) ?_ (by assumption) ?_
            · intro w hSw; obtain ⟨sq0, sq1, sq2, sq3, sq4, sq5, sq6, sq7⟩ := hSw; go_simp
            try simp only [Act.put, List.setIfInBounds_toArray, List.set_cons_zero, List.set_cons_succ]
            refine takeYes (i := 9) (v := .bool true) rfl (by kernel_rfl) (by kernel_rfl) (by kernel_rfl) (fun _ _ _ h => h) (by rfl) ?_ (by assumption) ?_
            · intro w hSw; obtain ⟨sq0, sq1, sq2, sq3, sq4, sq5, sq6, sq7⟩ := hSw; go_simp
            try simp only [Act.put, List.setIfInBounds_toArray, List.set_cons_zero, List.set_cons_succ]
            refine wpAnyH_ready (rs := [10]) (by kernel_rfl) (by simp) ?_
            refine AllReadyH.cons rfl (fun K hK => ?_) AllReadyH.nil
            go_simp
            obtain ⟨y0, y1, y2, y3, k0, k1, k2, k3⟩ := hHeld
            have HB8 := hid (bel_step (bel_step (bel_step HBA.out hb6) hb7) hb8)
            ((with_reducible refine (awake_any _ (HL.out.below HB8.out) (HL.out.below HB8.out).big).mono ?_); rintro e9 w9 ⟨rfl, hb9⟩)
            go_wp2_with fail
            refine hK.out _ _ ?_ (fun hHeld => ?_)
            · exact ⟨bel_cell hb9 y0, bel_cell hb9 y1, bel_cell hb9 y2, bel_cell hb9 y3, bel_cell hb9 k0, bel_cell hb9 k1, bel_cell hb9 k2, bel_cell hb9 k3⟩
            clear hK K
            try simp only [Act.put, List.setIfInBounds_toArray, List.set_cons_zero, List.set_cons_succ]
            refine takeYes (i := 11) (v := .bool true) rfl (by kernel_rfl) (by kernel_rfl) (by kernel_rfl) (fun _ _ _ h => h) (by rfl) ?_ (by assumption) ?_
            · intro w hSw; obtain ⟨sq0, sq1, sq2, sq3, sq4, sq5, sq6, sq7⟩ := hSw; go_simp
            try simp only [Act.put, List.setIfInBounds_toArray, List.set_cons_zero, List.set_cons_succ]
            refine takeYes (i := 12) (v := .bool true) rfl (by kernel_rfl) (by kernel_rfl) (by kernel_rfl) (fun _ _ _ h => h) (by rfl) ?_ (by assumption) ?_
            · intro w hSw; obtain ⟨sq0, sq1, sq2, sq3, sq4, sq5, sq6, sq7⟩ := hSw; go_simp
            try simp only [Act.put, List.setIfInBounds_toArray, List.set_cons_zero, List.set_cons_succ]
            refine wpAnyH_done (by kernel_rfl) ?_ _
            go_wp2_with fail
            go_ret
            exact ⟨rfl, bel_step HB8.out hb9⟩
          all_goals
            go_wp2_with fail
            ((with_reducible refine (awake_any _ (HL.out.below HB4.out) (HL.out.below HB4.out).big).mono ?_); rintro e5 w5 ⟨rfl, hb5⟩)
            go_wp2_with fail
            go_ret
            exact ⟨rfl, bel_step HB4.out hb5⟩
end Go.Proofs.YtadmmmehphhecaaDoor
/- The last step of each law of this seat: from a walk that returns true and turns nothing below its blocks to the row; what the row lays of the library's variables. No condition. -/
namespace Go.Proofs.YtadmmmehphhecaaDoor
open Go.ChangeShapes Go.WideShapes Go.ChangeAt Go.RowKit
open Go.ChangeMaps (open_string shut_string)

theorem Tryd.own : ownKnob Tryd.prog.godebug = none := by kernel_rfl
theorem Tryd.laidOut : laidOutB Tryd.prog = true := by kernel_rfl
set_option maxRecDepth 100000 in
theorem err_var {W : World} {nm : String} {tn : String} {d : DataW Unit} {rest : List (String × DataW Unit)} {g t : Nat} (hg : Tryd.prog.globalNamed nm = some g) (hty : (Tryd.prog.globals[g]?).map (·.type) = some t) (ht : ∃ m, Tryd.prog.underlying t = some (.interface m))
    (h : laidMet Tryd.prog ((nm, .iface tn d) :: rest) W) : ∃ te pe, W.var? Tryd.prog nm = some #[.iface te pe] := by
  obtain ⟨ps, ⟨g', t', cs, fuel, p, q, hg', ht', hvar, hd, _, _⟩, _⟩ := h
  obtain rfl := Option.some.inj (hg.symm.trans hg')
  obtain rfl := Option.some.inj (hty.symm.trans ht')
  obtain ⟨m, hm⟩ := ht
  cases fuel with
  | zero => simp [DataW.trod] at hd
  | succ fuel =>
    have key : ∀ cl : List Value, DataW.trod (fun _ => ()) Tryd.prog W 0 (fun _ => true) false (fuel + 1) t cl = some (.iface tn d, p) → ∃ u v, cl = [.iface u v] := by
      intro cl hd
      unfold DataW.trod at hd
      rw [hm] at hd
      dsimp only at hd
      split at hd
      all_goals first
        | exact ⟨_, _, rfl⟩
        | (rename_i h; cases h; done)
        | (cases hd; done)
        | (injection hd with hd; injection hd with hd; cases hd; done)
        | skip
    obtain ⟨u, v, hc⟩ := key _ hd
    refine ⟨u, v, ?_⟩
    rw [hvar, ← hc]
theorem laid_all {W : World} {l : List (String × DataW Unit)} (h : laidMetH Tryd.prog l W) (h0 : (l.all fun x => x.2.handleName?.isNone) = true)
    (h1 : (l.filter fun x => x.1 == "strconv.ErrRange") = [("strconv.ErrRange", Rows.laid_strconv_ErrRange)]) (h2 : (l.filter fun x => x.1 == "strconv.ErrSyntax") = [("strconv.ErrSyntax", Rows.laid_strconv_ErrSyntax)])
    (h3 : (l.filter fun x => x.1 == "internal/strconv.uint64pow10") = [("internal/strconv.uint64pow10", Lib.tabData .u64 Lib.pow10Tab)]) : Laid W := by
  rw [MakeChecks.laidMetH_plain _ _ _ h0] at h
  refine ⟨?_, ?_, ?_⟩
  · have h4 := h.filter (fun x => x.1 == "strconv.ErrRange")
    rw [h1] at h4
    exact err_var (g := 2) (t := 87) (by kernel_rfl) (by kernel_rfl) ⟨_, Tryd.underlying87⟩ h4
  · have h4 := h.filter (fun x => x.1 == "strconv.ErrSyntax")
    rw [h2] at h4
    exact err_var (g := 1) (t := 87) (by kernel_rfl) (by kernel_rfl) ⟨_, Tryd.underlying87⟩ h4
  · have h4 := h.filter (fun x => x.1 == "internal/strconv.uint64pow10")
    rw [h3] at h4
    exact Lib.tabIs_of_head (g := 0) (t := 107) (e := 78) (n := 20) (by kernel_rfl) (by kernel_rfl) (by kernel_rfl) (by kernel_rfl) (by kernel_rfl) (by kernel_rfl) h4
section
variable {H : Type} {enc : TypeId × Value → H}
/-- arguments read behind the call as before it, where below their blocks nothing has turned -/
theorem args_stay {W W' : World} (hb : Below W.heap.size W W') : ∀ (ts : List TypeId) (vs : List Value) (ds : List (DataW H)) (ps : List MemPlace),
    (∀ t ∈ ts, Tryd.prog.readableRec t = true ∧ t < Tryd.prog.types.size) → DataW.TrodAll enc Tryd.prog W 0 (fun _ => true) true ts vs ds ps → (∀ x ∈ ps, x.block < W.heap.size) →
    DataW.TrodAll enc Tryd.prog W' 0 (fun b => decide (b < W.heap.size)) true ts vs ds ps
  | [], vs, ds, ps, _, h, _ => by
    obtain ⟨rfl, rfl, rfl⟩ := trodAll_nil h
    exact trodAll_mk0
  | t :: ts, vs, ds, ps, ht, h, hlt => by
    obtain ⟨v, vs', d, ds', p, q, rfl, rfl, rfl, h1, h2⟩ := trodAll_cons h
    have ht' := ht t (List.mem_cons_self ..)
    exact trodAll_cons_mk (Below.trod Tryd.laidOut ht'.1 ht'.2 h1 hb fun x hx => hlt x (List.mem_append_left _ hx))
      (args_stay hb ts vs' ds' q (fun t h => ht t (List.mem_cons_of_mem _ h)) h2 fun x hx => hlt x (List.mem_append_right _ hx))

/-- A LAW's POST: true comes back, the arguments read as they did -/
theorem law_post {f : Func} {s : ChangeSpec} {W W' : World} {args : Array Value} {ds : List (DataW H)} {before : List MemPlace}
    (hW : DataW.Whole enc Tryd.prog f.params.toList s.vars false W args.toList ds [] before) (hA : DataW.TrodAll enc Tryd.prog W 0 (fun _ => true) true f.params.toList args.toList ds before)
    (ht : ∀ t ∈ f.params.toList, Tryd.prog.readableRec t = true ∧ t < Tryd.prog.types.size) (hv : s.vars = []) (hrt : f.resultTypes = #[4])
    (hs : s.fn H (ds ++ []) = { results := [.lit (.bool true)], args := ds }) (hb : Below W.heap.size W W') :
    s.post enc Tryd.prog f false true false false W args (.bool true) W' := by
  refine ⟨ds, [], before, [], before, [], hW, ?_, ?_, ?_, hb.frame _, fun h => by cases h⟩
  · rw [hs, hrt]
    exact trodAll_mk1 (shut_bool Tryd.underlying4 true)
  · rw [hs]
    exact args_stay hb _ _ _ _ ht hA fun x hx => hW.lt x hx
  · rw [hs, hv]; rfl
end
end Go.Proofs.YtadmmmehphhecaaDoor
/- An argument that is an expression, opened. No condition. -/
namespace Go.Proofs.YtadmmmehphhecaaDoor
open Go.ChangeShapes Go.WideShapes Go.ChangeAt Go.RowKit
/-- every weight is one that a machine reaches -/
def Wt {H : Type} (t : TypeId) (d : DataW H) : Prop := ∀ n ∈ d.weights Tryd.prog t, n ≤ reachBytes
theorem wt_all {H : Type} (e : TypeId) : ∀ (l : List (DataW H)) (d : DataW H), d ∈ l → ∀ n ∈ d.weights Tryd.prog e, n ∈ DataW.weightsAll Tryd.prog e l
  | [], d, h, n, hn => by cases h
  | a :: r, d, h, n, hn => by
    unfold DataW.weightsAll
    rcases List.mem_cons.1 h with rfl | h
    · exact List.mem_append_left _ hn
    · exact List.mem_append_right _ (wt_all e r d h n hn)
theorem wt_slice {H : Type} {t e : TypeId} (hu : Tryd.prog.underlying t = some (.slice e)) {l s : List (DataW H)} (hb : 0 < Tryd.prog.bytesOf e) (h : Wt t (.slice l s)) : l.length ≤ 140737488355328 ∧ ∀ d ∈ l, Wt e d := by
  unfold Wt DataW.weights at h
  rw [hu] at h
  dsimp only at h
  refine ⟨?_, fun d hd n hn => h n (List.mem_cons_of_mem _ (List.mem_append_left _ (wt_all e l d hd n hn)))⟩
  have h1 := h _ (List.mem_cons_self ..)
  have h2 : (l.length + s.length) * 1 ≤ (l.length + s.length) * Tryd.prog.bytesOf e := Nat.mul_le_mul (Nat.le_refl _) hb
  have h3 : reachBytes ≤ 140737488355328 := by decide
  omega
theorem wt_struct4 {H : Type} {t t0 t1 t2 t3 : TypeId} {fs : Array Field} (hu : Tryd.prog.underlying t = some (.struct fs)) (hf : fs.toList.map (·.type) = [t0, t1, t2, t3]) {d0 d1 d2 d3 : DataW H} (h : Wt t (.agg [d0, d1, d2, d3])) : Wt t3 d3 := by
  unfold Wt DataW.weights at h
  rw [hu] at h
  dsimp only at h
  rw [hf] at h
  intro n hn
  refine h n ?_
  simp only [DataW.weightsEach, List.mem_append]
  exact .inr (.inr (.inr (.inl hn)))
/-- cells that are an expression's -/
def Opened (W : World) (e : Ex) (cs : List Value) : Prop :=
  ∃ A cap, cs = [.string ⟨e.op.toArray⟩, .int .i64 e.num, .string ⟨e.name.toArray⟩, .slice A e.kids.len cap] ∧ e.kids.len ≤ cap ∧ cap ≤ maxLen ∧ numsF e = true ∧ RdL W (fun _ => True) e.kids A
section
variable {H : Type} {enc : TypeId × Value → H} {W : World} {sp : Nat → Bool} {held : Bool}
theorem open_kids (n : Nat) (a : Addr) (elems : List (DataW H × List MemPlace)) (IH : ∀ cs x, DataW.trod enc Tryd.prog W 0 sp held n 24 cs = some x → ∃ e, Opened W e cs ∧ (Wt 24 x.1 → wideF e = true)) (len : Nat)
    (h : ∀ i, i < len → (W.cells? 0 (a.add (i * 4)) 4).bind (DataW.trod enc Tryd.prog W 0 sp held n 24) = elems[i]?) (hl : elems.length = len) :
    ∀ m j, m + j = len → ∃ l : Exs, l.len = m ∧ numsL l = true ∧ RdL W (fun _ => True) l (some ⟨a.block, a.off + j * 4, none⟩) ∧ ((∀ x ∈ elems.map (·.1), Wt 24 x) → wideL l = true) := by
  intro m
  induction m with
  | zero => intro j _; exact ⟨.nil, rfl, rfl, by unfold RdL; trivial, fun _ => rfl⟩
  | succ m ih =>
    intro j hj
    obtain ⟨l, h1, h2, h3, h4⟩ := ih (j + 1) (by omega)
    have hlt : j < elems.length := by omega
    have hb := h j (by omega)
    rw [List.getElem?_eq_getElem hlt] at hb
    obtain ⟨cs', hcs, htr⟩ := Option.bind_eq_some_iff.1 hb
    obtain ⟨e, ⟨A, cap, he, hc1, hc2, hnum, hrd⟩, hwd⟩ := IH cs' _ htr
    subst he
    have hm : (List.range 4).mapM (fun i => W.cell? ((a.add (j * 4)).add i)) = some [.string ⟨e.op.toArray⟩, .int .i64 e.num, .string ⟨e.name.toArray⟩, .slice A e.kids.len cap] := by
      unfold World.cells? at hcs
      rw [if_pos (Nat.zero_le _)] at hcs; exact hcs
    have key : ∀ i, i < 4 → ∀ u, [Value.string ⟨e.op.toArray⟩, .int .i64 e.num, .string ⟨e.name.toArray⟩, .slice A e.kids.len cap][i]? = some u → W.cell? ⟨a.block, a.off + j * 4 + i, none⟩ = some u := by
      intro i hi u hu
      obtain ⟨b, hb1, hb2⟩ := Lib.mapM_at hm i i (by simp [hi])
      rw [hu] at hb1
      injection hb1 with hb1
      subst hb1
      have hsp := World.cell?_spot hb2
      have : (a.add (j * 4)).add i = ⟨a.block, a.off + j * 4 + i, none⟩ := by
        obtain ⟨ab, ao, as_⟩ := a
        unfold Addr.add at hsp ⊢
        by_cases h0 : j * 4 = 0 <;> by_cases h1 : i = 0 <;> simp_all
      rw [this] at hb2; exact hb2
    refine ⟨.cons e l, by simp [Exs.len, h1], by simp [numsL, hnum, h2], ?_, fun hw => by simp only [wideL, Bool.and_eq_true]; exact ⟨hwd (hw _ (List.mem_map.2 ⟨_, List.getElem_mem hlt, rfl⟩)), h4 hw⟩⟩
    unfold RdL
    refine ⟨a.block, a.off + j * 4, _, _, _, _, rfl, trivial, key 0 (by omega) _ rfl, key 1 (by omega) _ rfl, key 2 (by omega) _ rfl, key 3 (by omega) _ rfl, ?_, ?_⟩
    · cases e; unfold RdX; exact ⟨A, cap, rfl, hc1, hrd⟩
    · have : a.off + j * 4 + 4 = a.off + (j + 1) * 4 := by omega
      rw [this]; exact h3
set_option maxRecDepth 100000 in
theorem open_ex : ∀ (fuel : Nat) (cs : List Value) (x : DataW H × List MemPlace), DataW.trod enc Tryd.prog W 0 sp held fuel 24 cs = some x → ∃ e, Opened W e cs ∧ (Wt 24 x.1 → wideF e = true) := by
  intro fuel
  induction fuel using Nat.strongRecOn with
  | _ fuel IH =>
    intro cs x h
    obtain ⟨fs, hfs, hft, f0, f1, f2, f3⟩ : ∃ fs : Array Field, Tryd.prog.underlying 24 = some (.struct fs) ∧ fs.toList.map (·.type) = [9, 2, 9, 22] ∧ (fs[0]?.map fun (f : Field) => (f.type, f.offset)) = some (9, 0) ∧ (fs[1]?.map fun (f : Field) => (f.type, f.offset)) = some (2, 1) ∧ (fs[2]?.map fun (f : Field) => (f.type, f.offset)) = some (9, 2) ∧ (fs[3]?.map fun (f : Field) => (f.type, f.offset)) = some (22, 3) := ⟨_, Tryd.underlying24, by kernel_rfl, by kernel_rfl, by kernel_rfl, by kernel_rfl, by kernel_rfl⟩
    obtain ⟨xs, n, rfl, rfl, hlen, hxl, hf⟩ := DataW.trod_struct hfs h
    have hc4 : Tryd.prog.cellsOf 24 = 4 := by kernel_rfl
    have hs1 : Tryd.prog.cellsOf 9 = 1 := by kernel_rfl
    have hs2 : Tryd.prog.cellsOf 2 = 1 := by kernel_rfl
    have hs3 : Tryd.prog.cellsOf 22 = 1 := by kernel_rfl
    rw [hc4] at hlen
    obtain ⟨q0, q1, q2, q3, rfl⟩ : ∃ q0 q1 q2 q3, cs = [q0, q1, q2, q3] := by
      match cs, hlen with
      | [q0, q1, q2, q3], _ => exact ⟨q0, q1, q2, q3, rfl⟩
    have hx4 : xs.length = 4 := by rw [hxl]; have := congrArg List.length hft; simpa using this
    obtain ⟨x0, x1, x2, x3, rfl⟩ : ∃ x0 x1 x2 x3, xs = [x0, x1, x2, x3] := by
      match xs, hx4 with
      | [x0, x1, x2, x3], _ => exact ⟨x0, x1, x2, x3, rfl⟩
    have get : ∀ (i : Nat) (t : TypeId) (o : Nat), (fs[i]?.map fun (f : Field) => (f.type, f.offset)) = some (t, o) → ∃ y, DataW.trod enc Tryd.prog W 0 sp held n t (([q0, q1, q2, q3].drop o).take (Tryd.prog.cellsOf t)) = some y ∧ [x0, x1, x2, x3][i]? = some y := by
      intro i t o hi
      cases hfi : fs[i]? with
      | none => rw [hfi] at hi; cases hi
      | some f =>
        rw [hfi] at hi
        simp only [Option.map_some, Option.some.injEq, Prod.mk.injEq] at hi
        obtain ⟨rfl, rfl⟩ := hi
        have := hf i f hfi
        have hlt : i < [x0, x1, x2, x3].length := by
          rw [hxl]
          rcases Nat.lt_or_ge i fs.size with h1 | h1
          · exact h1
          · rw [Array.getElem?_eq_none h1] at hfi; cases hfi
        rw [List.getElem?_eq_getElem hlt] at this
        exact ⟨_, this, List.getElem?_eq_getElem hlt⟩
    obtain ⟨y0, h0, z0⟩ := get 0 _ _ f0
    obtain ⟨y1, h1, z1⟩ := get 1 _ _ f1
    obtain ⟨y2, h2, z2⟩ := get 2 _ _ f2
    obtain ⟨y3, h3, z3⟩ := get 3 _ _ f3
    have hxy : x3 = y3 := Option.some.inj z3
    subst hxy
    have HW3 : Wt 24 (.agg ([x0, x1, x2, x3].map (·.1))) → Wt 22 x3.1 := fun h => wt_struct4 hfs hft h
    rw [hs1] at h0 h2
    rw [hs2] at h1
    rw [hs3] at h3
    simp only [List.drop_zero, List.drop_succ_cons, List.take_succ_cons, List.take_zero] at h0 h1 h2 h3
    obtain ⟨s0, e0, _⟩ := DataW.trod_string Tryd.underlying9 h0
    obtain ⟨k1, e1, _, wk⟩ := DataW.trod_int Tryd.underlying2 h1
    obtain ⟨s2, e2, _⟩ := DataW.trod_string Tryd.underlying9 h2
    injection e0 with e0 _
    injection e1 with e1 _
    injection e2 with e2 _
    subst e0 e1 e2
    have hk1 : -9223372036854775808 ≤ k1 ∧ k1 ≤ 9223372036854775807 := by simpa [Lit.wf, IntKind.min, IntKind.max, IntKind.signed, IntKind.bits] using wk
    have hst : ∀ s : ByteArray, (⟨s.data.toList.toArray⟩ : ByteArray) = s := fun s => by simp
    rcases DataW.trod_slice Tryd.underlying22 h3 with ⟨e3, _⟩ | ⟨a, len, cap, elems, rest, n', rfl, e3, hx3, _, hlc, hcm, hel, hat, _⟩
    · injection e3 with e3 _
      subst e3
      refine ⟨.mk s0.data.toList k1 s2.data.toList .nil, ⟨none, 0, ?_, Nat.le_refl _, Nat.zero_le _, ?_, by unfold RdL; trivial⟩, fun _ => rfl⟩
      · simp only [Ex.op, Ex.num, Ex.name, Ex.kids, Exs.len, hst]
      · simp [numsF, numsL, hk1.1, hk1.2]
    · injection e3 with e3 _
      subst e3
      rw [hc4] at hat
      obtain ⟨l, g1, g2, g3, g4⟩ := open_kids n' a elems (IH n' (by omega)) len hat hel len 0 (by omega)
      refine ⟨.mk s0.data.toList k1 s2.data.toList l, ⟨some a, cap, ?_, by show l.len ≤ cap; omega, hcm, ?_, ?_⟩, fun hw => ?_⟩
      rotate_left 3
      · have h5 := HW3 hw
        rw [hx3] at h5
        have h6 := wt_slice Tryd.underlying22 (by decide +kernel) h5
        rw [List.length_map, hel] at h6
        simp only [wideF, Bool.and_eq_true, decide_eq_true_eq, g1]
        exact ⟨h6.1, g4 h6.2⟩
      · simp only [Ex.op, Ex.num, Ex.name, Ex.kids, hst, g1]
      · simp [numsF, g2, hk1.1, hk1.2]
      · show RdL W _ l (some a)
        cases l with
        | nil => unfold RdL; trivial
        | cons x r =>
          have hb := hat 0 (by simp [Exs.len] at g1; omega)
          rw [List.getElem?_eq_getElem (by simp [Exs.len] at g1; omega)] at hb
          obtain ⟨cs', hcs, htr⟩ := Option.bind_eq_some_iff.1 hb
          unfold World.cells? at hcs
          rw [if_pos (Nat.zero_le _)] at hcs
          obtain ⟨b, _, hb2⟩ := Lib.mapM_at hcs 0 0 (by simp)
          have hsp := World.cell?_spot hb2
          obtain ⟨ab, ao, as_⟩ := a
          simp [Addr.add] at hsp
          subst hsp
          simpa using g3
end
set_option maxRecDepth 100000 in
/-- an argument that is an expression -/
theorem open_expr {H : Type} {enc : TypeId × Value → H} {W : World} {b0 : Nat} {v : Value} {d : DataW H} {p : List MemPlace} (hv : Value.okWide Tryd.prog W .any b0 24 v)
    (h : DataW.Trod enc Tryd.prog W 0 (fun _ => true) true 24 v d p) : ∃ e, RdX W (fun _ => True) e v ∧ numsF e = true ∧ (Wt 24 d → wideF e = true) := by
  obtain ⟨fuel, hf⟩ := h
  obtain ⟨e, ⟨A, cap, he, h1, h2, h3, h4⟩, h5⟩ := open_ex fuel _ _ hf
  refine ⟨e, ?_, h3, h5⟩
  obtain ⟨fs, hfs⟩ : ∃ fs : Array Field, Tryd.prog.underlying 24 = some (.struct fs) := ⟨_, Tryd.underlying24⟩
  obtain ⟨cs, rfl, _⟩ := okWide_struct hfs hv
  have hcs : cs = #[.string ⟨e.op.toArray⟩, .int .i64 e.num, .string ⟨e.name.toArray⟩, .slice A e.kids.len cap] := by
    apply Array.ext'
    simpa [Value.cells] using he
  subst hcs
  cases e; unfold RdX; exact ⟨A, cap, rfl, h1, h4⟩
end Go.Proofs.YtadmmmehphhecaaDoor
/- SumsBack returns true at every input, and each argument reads behind the call as before it; its card, tied to the program's text. No condition but the row's own: the listed variables hold what the text lays. -/
namespace Go.Proofs.YtadmmmehphhecaaDoor
open Go.ChangeShapes Go.WideShapes Go.ChangeAt Go.RowKit
open Go.ChangeMaps (open_string shut_string)

set_option maxRecDepth 100000 in
theorem back_lifted (os : Os) (started : os.Started) (H : Type) (enc : TypeId × Value → H) :
    ReturnsInHanded {} Tryd.checked os 3 .any (fun w args => (Rows.sumsBackSpec.pre enc Tryd.prog Tryd.f3 Rows.sumsBackRow.domain false w args ∧ laidMetH Tryd.prog Rows.sumsBackRow.laid w) ∧ sizedMet enc Tryd.prog Tryd.f3 (OpenSpec.ofChange Rows.sumsBackSpec) false w args)
      (Rows.sumsBackSpec.post enc Tryd.prog Tryd.f3 false true false false) := by
  refine returnsInHanded_of_change_and (C := Tryd.checked) (X := fun w _ => laidMetH Tryd.prog Rows.sumsBackRow.laid w) (fun _ _ _ hh h => h.of_heap hh) Tryd.own started (by kernel_rfl) Tryd.func3
    (ChangeSpec.witness_shaped (enc := enc) (C := Tryd.checked) (os := os) (X := fun w _ => laidMetH Tryd.prog Rows.sumsBackRow.laid w) false (World.laidAll Tryd.prog os Rows.sumsBackRow.laid) #[.agg #[.string ⟨#[]⟩, .int .i64 0, .string ⟨#[]⟩, .slice none 0 0], .string ⟨#[]⟩] 8 (World.laidAll_os _ _ _)
      (World.shaped_of_ZipB (by kernel_rfl) (by kernel_rfl)) (by kernel_rfl) (by kernel_rfl) (by kernel_rfl)
      (by rw [MakeChecks.laidMetH_plain _ _ _ (by kernel_rfl)]; exact laidMet_laidAll _ (by kernel_rfl) (by kernel_rfl))) ?_
  intro W base args ds gs before hval0 hW hc hS1 hL hS2
  have hval : ∀ (j : Nat) t v, Tryd.f3.params[j]? = some t → args[j]? = some v → Value.okWide Tryd.prog W .any base t v := hval0
  have hW' := hW
  obtain ⟨p, q, hA0, hV, rfl, hfz, hnd⟩ := hW
  have hA : DataW.TrodAll enc Tryd.prog W 0 (fun _ => true) true Tryd.f3.params.toList args.toList ds p := hA0
  have hA1 := hA
  rw [Tryd.params3] at hA hval
  obtain ⟨v0, vs0, d0, ds0, p0, q0, hargs, rfl, rfl, h0, r0⟩ := trodAll_cons hA
  obtain ⟨v1, vs1, d1, ds1, p1, q1, rfl, rfl, rfl, h1, r1⟩ := trodAll_cons r0
  obtain ⟨rfl, rfl, rfl⟩ := trodAll_nil r1
  obtain rfl : args = #[v0, v1] := by cases args; simp_all
  obtain ⟨rfl, rfl⟩ := trodVars_none hV
  obtain ⟨s, rfl, _, _, hs⟩ := open_string Tryd.underlying9 (hval 1 9 v1 rfl rfl) h1
  obtain ⟨e, hr, hn, hw0⟩ := open_expr (hval 0 24 v0 rfl rfl) h0
  have hw : wideF e = true := hw0 (fun m hm => by
    have h9 := List.all_eq_true.1 hS1 m (by
      rw [Tryd.params3]
      show m ∈ DataW.weightsEach Tryd.prog (24 :: _) (d0 :: _)
      unfold DataW.weightsEach
      exact List.mem_append_left _ hm)
    simpa using h9)
  have hLL : Laid W := laid_all hL (by kernel_rfl) (by kernel_rfl) (by kernel_rfl) (by kernel_rfl)
  simp only [List.append_nil] at hW'
  refine (back_any e s W _ v0 hr hn hw hs hLL).mono fun e W' ⟨he, hb⟩ => ?_
  exact ⟨_, he, law_post hW' (by simpa using hA1) (by rw [Tryd.params3]; intro t ht; simp at ht; rcases ht with rfl | rfl <;> exact ⟨by kernel_rfl, of_decide_eq_true (by kernel_rfl)⟩) rfl rfl rfl hb⟩

theorem back_row : Rows.SumsBackSaid :=
  OpenClaim.holds_of_wide 3 Tryd.f3 rfl rfl rfl rfl rfl rfl rfl ⟨rfl, rfl, rfl, rfl, rfl⟩ rfl rfl rfl rfl rfl (by kernel_rfl) Tryd.func3 (by kernel_rfl)
    (of_decide_eq_true (by kernel_rfl)) (by unfold Func.isWrapper; first | (rw [if_pos (by decide +kernel)]; kernel_rfl) | (rw [if_neg (by decide +kernel)]; exact ⟨rfl, rfl⟩))
    (fun os started H enc _ => back_lifted os started H enc)
theorem back_holds : Rows.SumsBackCardSaid :=
  Claim7.holds_tied_plain_at .later [] [.data, .data, .data, .data, .sentinel, .sentinel, .pinned] true (true, "0e1d71b5e299a2ae67257aaddcab9737230a14ae8013f52c5c7a82fa69353a36") true back_row (fun _ h => by cases h) (by kernel_rfl) (fun _ h => by cases h) sumsBack_row_tie rfl ⟨rfl, rfl⟩ (by kernel_rfl) rfl
    (fun f fn hf hfn => by
      obtain rfl : f = 3 := Option.some.inj ((show Tryd.prog.funcNamed "whelk/whelklaw03.SumsBack" = some 3 by kernel_rfl).symm.trans hf) |>.symm
      obtain rfl : fn = Tryd.f3 := (Option.some.inj (Tryd.func3.symm.trans hfn)).symm
      exact ⟨by kernel_rfl, fun j t ht => by
        rw [Tryd.params3] at ht
        have hm : t ∈ [24, 9] := by simpa using Array.mem_of_getElem? ht
        have hall : ([24, 9].all fun u => !Tryd.prog.wantsStandIn u) = true := by kernel_rfl
        exact (show Tryd.prog.wantsStandIn t = false by simpa using List.all_eq_true.1 hall t hm)⟩)
    (by kernel_rfl)
end Go.Proofs.YtadmmmehphhecaaDoor
