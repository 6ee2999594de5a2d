/- The last step of each law of this seat: from a walk that returns true and turns nothing below its blocks to the row. No condition. -/
import Derived.Test.YthnmdhcgnimdfaaDoorRows
import Derived.Test.YthnmdhcgnimdfaaDoorMem
import Derived.ProofKit
import Derived.OpenShut
import Derived.Deep.SlicePairs
import Derived.LaidMore
import Derived.Lay
import Derived.Stop.Joined
set_option linter.unusedVariables false
set_option linter.unusedSimpArgs false
namespace Go.Proofs.YthnmdhcgnimdfaaDoor
open Go.ChangeShapes Go.WideShapes Go.ChangeAt Go.RowKit
open Go.ChangeMaps (open_string shut_string)
open Go.Deep (open_slice_pairs)

theorem Tryd.own : ownKnob Tryd.prog.godebug = none := by kernel_rfl
theorem Tryd.laidOut : laidOutB Tryd.prog = true := by kernel_rfl

section
variable {H : Type} {enc : TypeId × Value → H}
/-- arguments read behind the call as before it, where below their blocks nothing has turned -/
theorem args_stay {W W' : World} (hb : Below W.heap.size W W') : ∀ (ts : List TypeId) (vs : List Value) (ds : List (DataW H)) (ps : List MemPlace),
    (∀ t ∈ ts, Tryd.prog.readableRec t = true ∧ t < Tryd.prog.types.size) → DataW.TrodAll enc Tryd.prog W 0 (fun _ => true) true ts vs ds ps → (∀ x ∈ ps, x.block < W.heap.size) →
    DataW.TrodAll enc Tryd.prog W' 0 (fun b => decide (b < W.heap.size)) true ts vs ds ps
  | [], vs, ds, ps, _, h, _ => by
    obtain ⟨rfl, rfl, rfl⟩ := trodAll_nil h
    exact trodAll_mk0
  | t :: ts, vs, ds, ps, ht, h, hlt => by
    obtain ⟨v, vs', d, ds', p, q, rfl, rfl, rfl, h1, h2⟩ := trodAll_cons h
    have ht' := ht t (List.mem_cons_self ..)
    exact trodAll_cons_mk (Below.trod Tryd.laidOut ht'.1 ht'.2 h1 hb fun x hx => hlt x (List.mem_append_left _ hx))
      (args_stay hb ts vs' ds' q (fun t h => ht t (List.mem_cons_of_mem _ h)) h2 fun x hx => hlt x (List.mem_append_right _ hx))

/-- A LAW's POST: true comes back, the arguments read as they did -/
theorem law_post {f : Func} {s : ChangeSpec} {W W' : World} {args : Array Value} {ds : List (DataW H)} {before : List MemPlace}
    (hW : DataW.Whole enc Tryd.prog f.params.toList s.vars false W args.toList ds [] before) (hA : DataW.TrodAll enc Tryd.prog W 0 (fun _ => true) true f.params.toList args.toList ds before)
    (ht : ∀ t ∈ f.params.toList, Tryd.prog.readableRec t = true ∧ t < Tryd.prog.types.size) (hv : s.vars = []) (hrt : f.resultTypes = #[4])
    (hs : s.fn H (ds ++ []) = { results := [.lit (.bool true)], args := ds }) (hb : Below W.heap.size W W') :
    s.post enc Tryd.prog f false true false false W args (.bool true) W' := by
  refine ⟨ds, [], before, [], before, [], hW, ?_, ?_, ?_, hb.frame _, fun h => by cases h⟩
  · rw [hs, hrt]
    exact trodAll_mk1 (shut_bool Tryd.underlying4 true)
  · rw [hs]
    exact args_stay hb _ _ _ _ ht hA fun x hx => hW.lt x hx
  · rw [hs, hv]; rfl
end
set_option maxRecDepth 100000 in
/-- an argument that is a slice of marked bytes -/
theorem open_chars {H : Type} {enc : TypeId × Value → H} {W : World} {b0 : Nat} {v : Value} {d : DataW H} {p : List MemPlace} (hv : Value.okWide Tryd.prog W .any b0 22 v)
    (h : DataW.Trod enc Tryd.prog W 0 (fun _ => true) true 22 v d p) : ∃ l : List (UInt8 × Bool), Rd W v l.length (chs l) ∧ l.length ≤ 9223372036854775807 := by
  obtain ⟨a0, len, cap, rfl⟩ := okWide_slice Tryd.underlying22 hv
  obtain ⟨fuel, hf⟩ := h
  rcases open_slice_pairs Tryd.underlying22 Tryd.underlying55 (by kernel_rfl) rfl rfl (by kernel_rfl) (by kernel_rfl) hf with ⟨hcs, _⟩ | ⟨a, len', cap', m, n, V0, V1, D0, D1, P0, P1, hcs, _, hl, hm, hz, _, hat⟩
  · simp [Value.cells] at hcs
    obtain ⟨rfl, rfl, rfl⟩ := hcs
    exact ⟨[], Rd.nil W, by simp⟩
  · simp [Value.cells] at hcs
    obtain ⟨rfl, rfl, rfl⟩ := hcs
    simp only [if_true] at hz
    subst hz
    have hv : ∀ i, i < m → ∃ b : UInt8 × Bool, W.cell? (a.add (i * 2)) = some (.int .u8 (b.1.toNat : Int)) ∧ W.cell? (a.add (i * 2 + 1)) = some (.bool b.2) := by
      intro i hi
      obtain ⟨h1, h2, h3, h4⟩ := hat i hi
      obtain ⟨y, hy, _, wy⟩ := DataW.trod_int Tryd.underlying5 h3
      obtain ⟨q, hq, _⟩ := DataW.trod_bool Tryd.underlying4 h4
      have hbd : 0 ≤ y ∧ y ≤ 255 := by simpa [Lit.wf, IntKind.min, IntKind.max, IntKind.signed, IntKind.bits] using wy
      refine ⟨(UInt8.ofNat y.toNat, q), ?_, ?_⟩
      · rw [h1]; simp at hy; rw [hy, UInt8.toNat_ofNat_of_lt' (by show y.toNat < 256; omega)]; congr 2; omega
      · rw [h2]; simp at hq; rw [hq]
    have hl' : ∃ l : List (UInt8 × Bool), l.length = len ∧ ∀ i (h : i < l.length), W.cell? (a.add (i * 2)) = some (.int .u8 (l[i].1.toNat : Int)) ∧ W.cell? (a.add (i * 2 + 1)) = some (.bool l[i].2) := by
      refine ⟨List.ofFn fun i : Fin len => Classical.choose (hv i.1 (by omega)), by simp, fun i hi => ?_⟩
      simp only [List.getElem_ofFn]
      exact Classical.choose_spec (hv i (by simp at hi; omega))
    obtain ⟨l, hln, hcl⟩ := hl'
    subst hln
    refine ⟨l, ⟨some a, m, rfl, hl, ?_⟩, by unfold maxLen at hm; omega⟩
    rcases Nat.eq_zero_or_pos l.length with h0 | h0
    · left; rw [List.eq_nil_of_length_eq_zero h0]; rfl
    · right
      obtain ⟨b, off, spot⟩ := a
      have hspot : spot = none := by simpa [Addr.add] using World.cell?_spot (hcl 0 (by omega)).1
      subst hspot
      refine ⟨b, off, rfl, fun j u hu => ?_⟩
      have hj : j < (chs l).length := by
        rcases Nat.lt_or_ge j (chs l).length with h | h
        · exact h
        · rw [List.getElem?_eq_none h] at hu; cases hu
      rw [chs_len] at hj
      have hk : j / 2 < l.length := by omega
      obtain ⟨e1, e2⟩ := chs_at l (j / 2) hk
      obtain ⟨c1, c2⟩ := hcl (j / 2) hk
      rw [Addr.add_lit] at c1 c2
      rcases Nat.mod_two_eq_zero_or_one j with hp | hp
      · have hj2 : j / 2 * 2 = j := by omega
        rw [hj2] at e1 c1
        rw [c1, ← e1, hu]
      · have hj2 : j / 2 * 2 + 1 = j := by omega
        rw [hj2] at e2
        rw [show off + (j / 2 * 2 + 1) = off + j by omega] at c2
        rw [c2, ← e2, hu]

end Go.Proofs.YthnmdhcgnimdfaaDoor
