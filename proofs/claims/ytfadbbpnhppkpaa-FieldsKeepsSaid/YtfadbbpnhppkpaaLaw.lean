/- The last step of each law of this seat: from a walk that returns true and turns nothing below its blocks to the row. No condition. -/
import Derived.Test.YtfadbbpnhppkpaaRows
import Derived.Test.YtfadbbpnhppkpaaFields
import Derived.ProofKit
import Derived.OpenShut
set_option linter.unusedVariables false
set_option linter.unusedSimpArgs false
namespace Go.Proofs.Ytfadbbpnhppkpaa
open Go.ChangeShapes Go.WideShapes Go.ChangeAt Go.RowKit
open Go.ChangeMaps (open_string shut_string)

theorem Try.own : ownKnob Try.prog.godebug = none := by kernel_rfl
theorem Try.laidOut : laidOutB Try.prog = true := by kernel_rfl

section
variable {H : Type} {enc : TypeId × Value → H}
/-- arguments read behind the call as before it, where below their blocks nothing has turned -/
theorem args_stay {W W' : World} (hb : Below W.heap.size W W') : ∀ (ts : List TypeId) (vs : List Value) (ds : List (DataW H)) (ps : List MemPlace),
    (∀ t ∈ ts, Try.prog.readableRec t = true ∧ t < Try.prog.types.size) → DataW.TrodAll enc Try.prog W 0 (fun _ => true) true ts vs ds ps → (∀ x ∈ ps, x.block < W.heap.size) →
    DataW.TrodAll enc Try.prog W' 0 (fun b => decide (b < W.heap.size)) true ts vs ds ps
  | [], vs, ds, ps, _, h, _ => by
    obtain ⟨rfl, rfl, rfl⟩ := trodAll_nil h
    exact trodAll_mk0
  | t :: ts, vs, ds, ps, ht, h, hlt => by
    obtain ⟨v, vs', d, ds', p, q, rfl, rfl, rfl, h1, h2⟩ := trodAll_cons h
    have ht' := ht t (List.mem_cons_self ..)
    exact trodAll_cons_mk (Below.trod Try.laidOut ht'.1 ht'.2 h1 hb fun x hx => hlt x (List.mem_append_left _ hx))
      (args_stay hb ts vs' ds' q (fun t h => ht t (List.mem_cons_of_mem _ h)) h2 fun x hx => hlt x (List.mem_append_right _ hx))

/-- A LAW's POST: true comes back, the arguments read as they did -/
theorem law_post {f : Func} {s : ChangeSpec} {W W' : World} {args : Array Value} {ds : List (DataW H)} {before : List MemPlace}
    (hW : DataW.Whole enc Try.prog f.params.toList s.vars false W args.toList ds [] before) (hA : DataW.TrodAll enc Try.prog W 0 (fun _ => true) true f.params.toList args.toList ds before)
    (ht : ∀ t ∈ f.params.toList, Try.prog.readableRec t = true ∧ t < Try.prog.types.size) (hv : s.vars = []) (hrt : f.resultTypes = #[4])
    (hs : s.fn H (ds ++ []) = { results := [.lit (.bool true)], args := ds }) (hb : Below W.heap.size W W') :
    s.post enc Try.prog f false true false false W args (.bool true) W' := by
  refine ⟨ds, [], before, [], before, [], hW, ?_, ?_, ?_, hb.frame _, fun h => by cases h⟩
  · rw [hs, hrt]
    exact trodAll_mk1 (shut_bool Try.underlying4 true)
  · rw [hs]
    exact args_stay hb _ _ _ _ ht hA fun x hx => hW.lt x hx
  · rw [hs, hv]; rfl
end
end Go.Proofs.Ytfadbbpnhppkpaa
