/-
  No cell of these rows narrows 'for every input' (looked for: loops, veiled, ifaces, maps, wideKeys, modest, calm, conditions, laid).
  DERIVED. THE GIVEN ROWS OF THIS SEAT. 5 by the template 'for every input the law returns true; each argument reads behind the call as it read before'; 0 by the template 'total and deterministic' (their statements: YtfadbbpnhppkpaaTotals.lean).
  GIVEN WITH THE SEED: the statements are not yours to turn. If you find one false, say at which input.
  Laid BY PROGRAM, IN A SANDBOX (cutbox-rows.mjs): the forced cells as the released guide's own fill.sh prints them over the translation c9bb32d61accb836… (all of the seat's roots in one cut). By AI agents, Wed Nov 11 2026. No macro, syntax, notation, axiom, sorry.
-/
import Derived.Test.YtfadbbpnhppkpaaChecked
import GoSem.Claim
import GoSem.ClaimJoined
import GoSem.ClaimMapViews
import Derived.JoinedTies
import Derived.KernelRfl
namespace Go.Proofs.Ytfadbbpnhppkpaa
/- THE CELL 'sum', in the pinned program and in every row, IS THE sha256 OF THE DUMP (.gsa) THAT YtfadbbpnhppkpaaProg.lean LOADS. Nothing in Lean hashes anything: it is a label: what it is worth is what the hold of that sum in a sandbox is worth. -/
noncomputable def Try.pinned : Pinned := { name := "ytfadbbpnhppkpaa", sum := "c9bb32d61accb836b2de5fc116cb815e6202b1faafef54a51e634e7aab72ec00", checked := Try.checked }
namespace Rows
def none {H : Type} : Left H := { results := [], args := [] }

/-- 'whelklaw16.FieldsEnds': WHATEVER THE INPUT: true; the input reads as it did. -/
def fieldsEndsSpec : ChangeSpec := { name := "fieldsEnds", fn := fun _ => fun
  | [d1, d2, d3] => { results := [.lit (.bool true)], args := [d1, d2, d3] }
  | _ => none }
def fieldsEndsRow : OpenClaim := { program := "ytfadbbpnhppkpaa", sum := "c9bb32d61accb836b2de5fc116cb815e6202b1faafef54a51e634e7aab72ec00", func := "whelk/whelklaw16.FieldsEnds", spec := "fieldsEnds", inPlace := ["internal/bytealg.IndexByteString"], unfollowed := true, recurses := true, apart := false }
def FieldsEndsSaid : Prop := fieldsEndsRow.holds Try.pinned (OpenSpec.ofChange fieldsEndsSpec)

/-- ITS FALSE NEIGHBOUR: 'it returns false'. Refute it at one input. -/
def fieldsEndsWrong : ChangeSpec := { name := "fieldsEnds", fn := fun _ => fun
  | [d1, d2, d3] => { results := [.lit (.bool false)], args := [d1, d2, d3] }
  | _ => none }
def FieldsEndsWrongFalsely : Prop := fieldsEndsRow.holds Try.pinned (OpenSpec.ofChange fieldsEndsWrong)

/-- 'whelklaw16.FieldsEdges': WHATEVER THE INPUT: true; the input reads as it did. -/
def fieldsEdgesSpec : ChangeSpec := { name := "fieldsEdges", fn := fun _ => fun
  | [d1, d2] => { results := [.lit (.bool true)], args := [d1, d2] }
  | _ => none }
def fieldsEdgesRow : OpenClaim := { program := "ytfadbbpnhppkpaa", sum := "c9bb32d61accb836b2de5fc116cb815e6202b1faafef54a51e634e7aab72ec00", func := "whelk/whelklaw16.FieldsEdges", spec := "fieldsEdges", inPlace := ["internal/bytealg.IndexByteString"], unfollowed := true, recurses := true, apart := false }
def FieldsEdgesSaid : Prop := fieldsEdgesRow.holds Try.pinned (OpenSpec.ofChange fieldsEdgesSpec)

/-- ITS FALSE NEIGHBOUR: 'it returns false'. Refute it at one input. -/
def fieldsEdgesWrong : ChangeSpec := { name := "fieldsEdges", fn := fun _ => fun
  | [d1, d2] => { results := [.lit (.bool false)], args := [d1, d2] }
  | _ => none }
def FieldsEdgesWrongFalsely : Prop := fieldsEdgesRow.holds Try.pinned (OpenSpec.ofChange fieldsEdgesWrong)

/-- 'whelklaw16.FieldsSplits': WHATEVER THE INPUT: true; the input reads as it did. -/
def fieldsSplitsSpec : ChangeSpec := { name := "fieldsSplits", fn := fun _ => fun
  | [d1, d2, d3] => { results := [.lit (.bool true)], args := [d1, d2, d3] }
  | _ => none }
def fieldsSplitsRow : OpenClaim := { program := "ytfadbbpnhppkpaa", sum := "c9bb32d61accb836b2de5fc116cb815e6202b1faafef54a51e634e7aab72ec00", func := "whelk/whelklaw16.FieldsSplits", spec := "fieldsSplits", inPlace := ["internal/bytealg.IndexByteString"], unfollowed := true, recurses := true, apart := false }
def FieldsSplitsSaid : Prop := fieldsSplitsRow.holds Try.pinned (OpenSpec.ofChange fieldsSplitsSpec)

/-- ITS FALSE NEIGHBOUR: 'it returns false'. Refute it at one input. -/
def fieldsSplitsWrong : ChangeSpec := { name := "fieldsSplits", fn := fun _ => fun
  | [d1, d2, d3] => { results := [.lit (.bool false)], args := [d1, d2, d3] }
  | _ => none }
def FieldsSplitsWrongFalsely : Prop := fieldsSplitsRow.holds Try.pinned (OpenSpec.ofChange fieldsSplitsWrong)

/-- 'whelklaw16.FieldsCuts': WHATEVER THE INPUT: true; the input reads as it did. -/
def fieldsCutsSpec : ChangeSpec := { name := "fieldsCuts", fn := fun _ => fun
  | [d1, d2] => { results := [.lit (.bool true)], args := [d1, d2] }
  | _ => none }
def fieldsCutsRow : OpenClaim := { program := "ytfadbbpnhppkpaa", sum := "c9bb32d61accb836b2de5fc116cb815e6202b1faafef54a51e634e7aab72ec00", func := "whelk/whelklaw16.FieldsCuts", spec := "fieldsCuts", inPlace := ["internal/bytealg.IndexByteString"], unfollowed := true, recurses := true, apart := false }
def FieldsCutsSaid : Prop := fieldsCutsRow.holds Try.pinned (OpenSpec.ofChange fieldsCutsSpec)

/-- ITS FALSE NEIGHBOUR: 'it returns false'. Refute it at one input. -/
def fieldsCutsWrong : ChangeSpec := { name := "fieldsCuts", fn := fun _ => fun
  | [d1, d2] => { results := [.lit (.bool false)], args := [d1, d2] }
  | _ => none }
def FieldsCutsWrongFalsely : Prop := fieldsCutsRow.holds Try.pinned (OpenSpec.ofChange fieldsCutsWrong)

/-- 'whelklaw16.FieldsKeeps': WHATEVER THE INPUT: true; the input reads as it did. -/
def fieldsKeepsSpec : ChangeSpec := { name := "fieldsKeeps", fn := fun _ => fun
  | [d1, d2] => { results := [.lit (.bool true)], args := [d1, d2] }
  | _ => none }
def fieldsKeepsRow : OpenClaim := { program := "ytfadbbpnhppkpaa", sum := "c9bb32d61accb836b2de5fc116cb815e6202b1faafef54a51e634e7aab72ec00", func := "whelk/whelklaw16.FieldsKeeps", spec := "fieldsKeeps", inPlace := ["internal/bytealg.IndexByteString"], unfollowed := true, recurses := true, apart := false }
def FieldsKeepsSaid : Prop := fieldsKeepsRow.holds Try.pinned (OpenSpec.ofChange fieldsKeepsSpec)

/-- ITS FALSE NEIGHBOUR: 'it returns false'. Refute it at one input. -/
def fieldsKeepsWrong : ChangeSpec := { name := "fieldsKeeps", fn := fun _ => fun
  | [d1, d2] => { results := [.lit (.bool false)], args := [d1, d2] }
  | _ => none }
def FieldsKeepsWrongFalsely : Prop := fieldsKeepsRow.holds Try.pinned (OpenSpec.ofChange fieldsKeepsWrong)

/- THE SECOND FORM. 'bulk': how many values and letters a reading holds, each counted each time it is reached (what is shared counts as often as it is met; a slice's spare places count too). A statement '..UptoSaid' is the law's where the arguments, and the package variables that the reading takes, are together of bulk at most 1048576: NARROWER than '..Said'. Prove '..Said' where nothing that the law and all that it calls make is longer than what came in: it says more and counts as full. Else prove '..UptoSaid'. A law counts once. -/
mutual
def uptoBulk {H : Type} : DataW H → Nat
  | .lit (.string bytes) => bytes.length + 1
  | .lit _ => 1
  | .nil => 1
  | .ptr d => uptoBulk d + 1
  | .slice elems spare => uptoBulkAll elems + uptoBulkAll spare + 1
  | .agg parts => uptoBulkAll parts + 1
  | .iface _ d => uptoBulk d + 1
  | .map entries => uptoBulkEntries entries + 1
  | .held _ => 1
def uptoBulkAll {H : Type} : List (DataW H) → Nat
  | [] => 0
  | d :: r => uptoBulk d + uptoBulkAll r
def uptoBulkEntries {H : Type} : List (Lit × DataW H) → Nat
  | [] => 0
  | x :: r => uptoBulkEntry x + uptoBulkEntries r
def uptoBulkEntry {H : Type} : Lit × DataW H → Nat
  | (.string bytes, d) => bytes.length + uptoBulk d + 1
  | (_, d) => uptoBulk d + 1
 end
def uptoSmall : (H : Type) → List (DataW H) → Bool := fun _ ds => decide (uptoBulkAll ds ≤ 1048576)
def OpenSpec.upto (s : _root_.Go.ChangeSpec) : _root_.Go.OpenSpec := { _root_.Go.OpenSpec.ofChange s with cond := some uptoSmall }

/-- 'whelklaw16.FieldsEnds', WHERE WHAT IT READS IS OF BULK AT MOST 1048576: true; the input reads as it did. -/
def fieldsEndsUptoRow : OpenClaim := { program := "ytfadbbpnhppkpaa", sum := "c9bb32d61accb836b2de5fc116cb815e6202b1faafef54a51e634e7aab72ec00", func := "whelk/whelklaw16.FieldsEnds", spec := "fieldsEnds", inPlace := ["internal/bytealg.IndexByteString"], unfollowed := true, recurses := true, apart := false, narrowed := true }
def FieldsEndsUptoSaid : Prop := fieldsEndsUptoRow.holds Try.pinned (OpenSpec.upto fieldsEndsSpec)

/-- 'whelklaw16.FieldsEdges', WHERE WHAT IT READS IS OF BULK AT MOST 1048576: true; the input reads as it did. -/
def fieldsEdgesUptoRow : OpenClaim := { program := "ytfadbbpnhppkpaa", sum := "c9bb32d61accb836b2de5fc116cb815e6202b1faafef54a51e634e7aab72ec00", func := "whelk/whelklaw16.FieldsEdges", spec := "fieldsEdges", inPlace := ["internal/bytealg.IndexByteString"], unfollowed := true, recurses := true, apart := false, narrowed := true }
def FieldsEdgesUptoSaid : Prop := fieldsEdgesUptoRow.holds Try.pinned (OpenSpec.upto fieldsEdgesSpec)

/-- 'whelklaw16.FieldsSplits', WHERE WHAT IT READS IS OF BULK AT MOST 1048576: true; the input reads as it did. -/
def fieldsSplitsUptoRow : OpenClaim := { program := "ytfadbbpnhppkpaa", sum := "c9bb32d61accb836b2de5fc116cb815e6202b1faafef54a51e634e7aab72ec00", func := "whelk/whelklaw16.FieldsSplits", spec := "fieldsSplits", inPlace := ["internal/bytealg.IndexByteString"], unfollowed := true, recurses := true, apart := false, narrowed := true }
def FieldsSplitsUptoSaid : Prop := fieldsSplitsUptoRow.holds Try.pinned (OpenSpec.upto fieldsSplitsSpec)

/-- 'whelklaw16.FieldsCuts', WHERE WHAT IT READS IS OF BULK AT MOST 1048576: true; the input reads as it did. -/
def fieldsCutsUptoRow : OpenClaim := { program := "ytfadbbpnhppkpaa", sum := "c9bb32d61accb836b2de5fc116cb815e6202b1faafef54a51e634e7aab72ec00", func := "whelk/whelklaw16.FieldsCuts", spec := "fieldsCuts", inPlace := ["internal/bytealg.IndexByteString"], unfollowed := true, recurses := true, apart := false, narrowed := true }
def FieldsCutsUptoSaid : Prop := fieldsCutsUptoRow.holds Try.pinned (OpenSpec.upto fieldsCutsSpec)

/-- 'whelklaw16.FieldsKeeps', WHERE WHAT IT READS IS OF BULK AT MOST 1048576: true; the input reads as it did. -/
def fieldsKeepsUptoRow : OpenClaim := { program := "ytfadbbpnhppkpaa", sum := "c9bb32d61accb836b2de5fc116cb815e6202b1faafef54a51e634e7aab72ec00", func := "whelk/whelklaw16.FieldsKeeps", spec := "fieldsKeeps", inPlace := ["internal/bytealg.IndexByteString"], unfollowed := true, recurses := true, apart := false, narrowed := true }
def FieldsKeepsUptoSaid : Prop := fieldsKeepsUptoRow.holds Try.pinned (OpenSpec.upto fieldsKeepsSpec)

end Rows
end Go.Proofs.Ytfadbbpnhppkpaa
