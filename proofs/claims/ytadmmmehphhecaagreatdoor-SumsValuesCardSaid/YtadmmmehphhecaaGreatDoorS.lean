/- The walk of Parse. -/
import Derived.Test.YtadmmmehphhecaaGreatDoorR
import Derived.Defers
import Derived.Recover
set_option linter.unusedVariables false
set_option linter.unusedSimpArgs false
namespace Go.Proofs.YtadmmmehphhecaaGreatDoor
open Go.RowKit
theorem as_wrong (v : Value) (w : World) : (Instr.typeAssert (.iface TW v) 20 TW false).run Tryz.prog w = .ok v w := by kernel_rfl
theorem catch_idle (r0 r1 r2 : Addr) (w : World) :
    CallsD Tryz.prog 39 #[.pointer (some r0), .pointer (some r1), .pointer (some r2)] .returning w fun e u' w' => e = .returned (.tuple #[]) ∧ u' = .returning ∧ w' = w := by
  refine callsD_of_wpS Tryz.func39 rfl fun c₀ cs hu => ?_
  simp only [Tryz.ntmps39, List.size_toArray, List.length_cons, List.length_nil, Nat.reduceAdd, Nat.reduceSub, Array.replicate_succ,
     Array.replicate_zero, List.push_toArray, List.append_toArray, List.nil_append, List.cons_append]
  apply wpS_seq
  apply wpS_region
  simp [wpOpsS, go_sem, recoverD, hu, Exit.thenS]
  refine wpS_of_wp ?_
  go_wp2_with fail
  cases c₀
  simp_all [bodyPostS, results, Tryz.results39]
theorem put_three (w : World) {R0 R1 R2 : Nat} {T0 T1 T2 : TypeId} (x0 x1 x2 x3 x4 x5 : Value) (h0 : Bk w R0 T0 #[x0, x1, x2, x3]) (h1 : Bk w R1 T1 #[x4]) (h2 : Bk w R2 T2 #[x5]) (h01 : R0 ≠ R1) (h02 : R0 ≠ R2) (h12 : R1 ≠ R2) (B : Nat) (hB0 : B ≤ R0) (hB1 : B ≤ R1) (hB2 : B ≤ R2)
    (a0 a1 a2 a3 a4 a5 : Value) (o : Obj) :
    let w' := (((((((w.setCell ⟨R0, 0, none⟩ a0).setCell ⟨R0, 1, none⟩ a1).setCell ⟨R0, 2, none⟩ a2).setCell ⟨R0, 3, none⟩ a3).setCell ⟨R1, 0, none⟩ a4).setCell ⟨R2, 0, none⟩ a5).alloc o).drew
    Below B w w' ∧ Bk w' R0 T0 #[a0, a1, a2, a3] ∧ Bk w' R1 T1 #[a4] ∧ Bk w' R2 T2 #[a5] := by
  have p0 := (Bk.put4far h1 h01.symm a0 a1 a2 a3).set_ 0 a4
  have q0 := ((Bk.put4far h2 h02.symm a0 a1 a2 a3).far (p := ⟨R1, 0, none⟩) h12.symm a4).set_ 0 a5
  have r0 := ((h0.put4 a0 a1 a2 a3).far (p := ⟨R1, 0, none⟩) h01 a4).far (p := ⟨R2, 0, none⟩) h02 a5
  have p1 := p0.far (p := ⟨R2, 0, none⟩) h12 a5
  have hl := h0.lt
  refine ⟨?_, (r0.alloc o).drew, (p1.alloc o).drew, (q0.alloc o).drew⟩
  refine ((((((((Below.refl B w).setCell (p := ⟨R0, 0, none⟩) hB0 a0).setCell (p := ⟨R0, 1, none⟩) hB0 a1).setCell (p := ⟨R0, 2, none⟩) hB0 a2).setCell (p := ⟨R0, 3, none⟩) hB0 a3).setCell (p := ⟨R1, 0, none⟩) hB1 a4).setCell (p := ⟨R2, 0, none⟩) hB2 a5).alloc ?_ o).drew
  simp; omega
set_option maxRecDepth 100000 in
set_option maxHeartbeats 2000000 in
theorem catch_bad (R0 R1 R2 : Nat) (a : Nat) (er : Int) (w : World) (x0 x1 x2 x3 x4 x5 : Value) (h0 : Bk w R0 TE #[x0, x1, x2, x3]) (h1 : Bk w R1 3 #[x4]) (h2 : Bk w R2 23 #[x5]) (h01 : R0 ≠ R1) (h02 : R0 ≠ R2) (h12 : R1 ≠ R2) (B : Nat) (hB0 : B ≤ R0) (hB1 : B ≤ R1) (hB2 : B ≤ R2) :
    CallsD Tryz.prog 39 #[.pointer (some ⟨R0, 0, none⟩), .pointer (some ⟨R1, 0, none⟩), .pointer (some ⟨R2, 0, none⟩)] (.panicking (badV a er TW)) w fun e u' w' =>
      e = .returned (.tuple #[]) ∧ settle u' = .returning ∧ Below B w w' ∧ Bk w' R0 TE #[.string ⟨#[]⟩, .int .i64 0, .string ⟨#[]⟩, .slice none 0 0] ∧ Bk w' R1 3 #[.int .i64 (a : Int)] ∧ Bk w' R2 23 #[.int .i64 er] := by
  refine callsD_of_wpS Tryz.func39 rfl fun c₀ cs hu => ?_
  unfold badV at hu
  obtain ⟨c0, c1, c2, c3⟩ := h0.cells4
  obtain ⟨f0, f1, f2, f3⟩ := h0.free4
  have d0 := h1.cell 0 x4 rfl
  have g0 := h1.free 0
  have e0 := h2.cell 0 x5 rfl
  have hta := as_wrong
  have k0 := h2.free 0
  have l0 := h0.lt
  have l1 := h1.lt
  have l2 := h2.lt
  have n0 : ¬ R0 = w.heap.size := by omega
  have n1 : ¬ R1 = w.heap.size := by omega
  have n2 : ¬ R2 = w.heap.size := by omega
  simp only [Tryz.ntmps39, List.size_toArray, List.length_cons, List.length_nil, Nat.reduceAdd, Nat.reduceSub, Array.replicate_succ,
     Array.replicate_zero, List.push_toArray, List.append_toArray, List.nil_append, List.cons_append]
  apply wpS_seq
  apply wpS_region
  simp [wpOpsS, go_sem, recoverD, hu, Exit.thenS]
  refine wpS_of_wp ?_
  go_wp2_with fail
  go_region_with fail
  all_goals exact ⟨rfl, _, rfl, _, results_none rfl _ _ _, rfl, rfl, put_three w x0 x1 x2 x3 x4 x5 h0 h1 h2 h01 h02 h12 B hB0 hB1 hB2 _ _ _ _ _ _ _⟩
end Go.Proofs.YtadmmmehphhecaaGreatDoor
