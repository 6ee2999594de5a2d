/- FieldsSplits returns true at every input, and each argument reads behind the call as before it. No condition. -/
import Derived.Test.YtfadbbpnhppkpaaLaw
import Derived.Test.YtfadbbpnhppkpaaSplits
import Derived.Deep.SlicePairs
set_option linter.unusedVariables false
set_option linter.unusedSimpArgs false
namespace Go.Proofs.Ytfadbbpnhppkpaa
open Go.ChangeShapes Go.WideShapes Go.ChangeAt Go.RowKit
open Go.ChangeMaps (open_string shut_string)
open Go.Deep (open_slice_pairs)

/-- an argument that is a slice of bits -/
theorem open_bits {H : Type} {enc : TypeId × Value → H} {W : World} {b0 : Nat} {v : Value} {d : DataW H} {p : List MemPlace} (hv : Value.okWide Try.prog W .any b0 30 v)
    (h : DataW.Trod enc Try.prog W 0 (fun _ => true) true 30 v d p) : ∃ l : List (Int × UInt8), Rd W v l.length (bts l) ∧ l.length ≤ 9223372036854775807 := by
  obtain ⟨a0, len, cap, rfl⟩ := okWide_slice Try.underlying30 hv
  obtain ⟨fuel, hf⟩ := h
  rcases open_slice_pairs Try.underlying30 Try.underlying42 (by kernel_rfl) rfl rfl (by kernel_rfl) (by kernel_rfl) hf with ⟨hcs, _⟩ | ⟨a, len', cap', m, n, V0, V1, D0, D1, P0, P1, hcs, _, hl, hm, hz, _, hat⟩
  · simp [Value.cells] at hcs
    obtain ⟨rfl, rfl, rfl⟩ := hcs
    exact ⟨[], Rd.nil W, by simp⟩
  · simp [Value.cells] at hcs
    obtain ⟨rfl, rfl, rfl⟩ := hcs
    simp only [if_true] at hz
    subst hz
    have hv : ∀ i, i < m → ∃ b : Int × UInt8, W.cell? (a.add (i * 2)) = some (.int .i64 b.1) ∧ W.cell? (a.add (i * 2 + 1)) = some (.int .u8 (b.2.toNat : Int)) := by
      intro i hi
      obtain ⟨h1, h2, h3, h4⟩ := hat i hi
      obtain ⟨z, hz, _, _⟩ := DataW.trod_int Try.underlying3 h3
      obtain ⟨y, hy, _, wy⟩ := DataW.trod_int Try.underlying5 h4
      have hbd : 0 ≤ y ∧ y ≤ 255 := by simpa [Lit.wf, IntKind.min, IntKind.max, IntKind.signed, IntKind.bits] using wy
      refine ⟨(z, UInt8.ofNat y.toNat), ?_, ?_⟩
      · rw [h1]; simp at hz; rw [hz]
      · rw [h2]; simp at hy; rw [hy, UInt8.toNat_ofNat_of_lt' (by show y.toNat < 256; omega)]; congr 2; omega
    have hl' : ∃ l : List (Int × UInt8), l.length = len ∧ ∀ i (h : i < l.length), W.cell? (a.add (i * 2)) = some (.int .i64 l[i].1) ∧ W.cell? (a.add (i * 2 + 1)) = some (.int .u8 (l[i].2.toNat : Int)) := by
      refine ⟨List.ofFn fun i : Fin len => Classical.choose (hv i.1 (by omega)), by simp, fun i hi => ?_⟩
      simp only [List.getElem_ofFn]
      exact Classical.choose_spec (hv i (by simp at hi; omega))
    obtain ⟨l, hln, hcl⟩ := hl'
    subst hln
    refine ⟨l, ⟨some a, m, rfl, hl, ?_⟩, by unfold maxLen at hm; omega⟩
    rcases Nat.eq_zero_or_pos l.length with h0 | h0
    · left; rw [List.eq_nil_of_length_eq_zero h0]; rfl
    · right
      obtain ⟨b, off, spot⟩ := a
      have hspot : spot = none := by simpa [Addr.add] using World.cell?_spot (hcl 0 (by omega)).1
      subst hspot
      refine ⟨b, off, rfl, fun j u hu => ?_⟩
      have hj : j < (bts l).length := by
        rcases Nat.lt_or_ge j (bts l).length with h | h
        · exact h
        · rw [List.getElem?_eq_none h] at hu; cases hu
      rw [bts_len] at hj
      have hk : j / 2 < l.length := by omega
      obtain ⟨e1, e2⟩ := bts_at l (j / 2) hk
      obtain ⟨c1, c2⟩ := hcl (j / 2) hk
      rw [Addr.add_lit] at c1 c2
      rcases Nat.mod_two_eq_zero_or_one j with hp | hp
      · have hj2 : j / 2 * 2 = j := by omega
        rw [hj2] at e1 c1
        rw [c1, ← e1, hu]
      · have hj2 : j / 2 * 2 + 1 = j := by omega
        rw [hj2] at e2
        rw [show off + (j / 2 * 2 + 1) = off + j by omega] at c2
        rw [c2, ← e2, hu]

set_option maxRecDepth 100000 in
theorem splits_lifted (os : Os) (started : os.Started) (H : Type) (enc : TypeId × Value → H) :
    ReturnsInHanded {} Try.checked os 5 .any (Rows.fieldsSplitsSpec.pre6 enc Try.prog Try.f5 Rows.fieldsSplitsRow.domain false) (Rows.fieldsSplitsSpec.post enc Try.prog Try.f5 false true false false) := by
  refine returnsInHanded_of_change (C := Try.checked) Try.own started (by kernel_rfl) Try.func5
    (ChangeSpec.witness6 (enc := enc) (C := Try.checked) false ⟨#[], #[.slice none 0 0, .string ⟨#[]⟩, .string ⟨#[]⟩], []⟩ 8 (by kernel_rfl) (by kernel_rfl) (by kernel_rfl) (by kernel_rfl)) ?_
  intro W base args ds gs before hval0 hW hcnd _
  have hval : ∀ (j : Nat) t v, Try.f5.params[j]? = some t → args[j]? = some v → Value.okWide Try.prog W .any base t v := hval0
  have hW' := hW
  obtain ⟨p, q, hA0, hV, rfl, hfz, hnd⟩ := hW
  have hA : DataW.TrodAll enc Try.prog W 0 (fun _ => true) true Try.f5.params.toList args.toList ds p := hA0
  have hA1 := hA
  rw [Try.params5] at hA hval
  obtain ⟨v0, vs0, d0, ds0, p0, q0, hargs, rfl, rfl, h0, r0⟩ := trodAll_cons hA
  obtain ⟨v1, vs1, d1, ds1, p1, q1, rfl, rfl, rfl, h1, r1⟩ := trodAll_cons r0
  obtain ⟨v2, vs2, d2, ds2, p2, q2, rfl, rfl, rfl, h2, r2⟩ := trodAll_cons r1
  obtain ⟨rfl, rfl, rfl⟩ := trodAll_nil r2
  obtain rfl : args = #[v0, v1, v2] := by cases args; simp_all
  obtain ⟨rfl, rfl⟩ := trodVars_none hV
  obtain ⟨l, hr, hl⟩ := open_bits (hval 0 30 v0 rfl rfl) h0
  obtain ⟨ifs, rfl, _, _, hi⟩ := open_string Try.underlying9 (hval 1 9 v1 rfl rfl) h1
  obtain ⟨s, rfl, _, _, hs⟩ := open_string Try.underlying9 (hval 2 9 v2 rfl rfl) h2
  simp only [List.append_nil] at hW'
  refine (splits_any v0 l ifs s W hr hl hi hs).mono fun e W' ⟨he, hb⟩ => ?_
  exact ⟨_, he, law_post hW' (by simpa using hA1) (by rw [Try.params5]; intro t ht; simp at ht; rcases ht with rfl | rfl <;> exact ⟨by kernel_rfl, of_decide_eq_true (by kernel_rfl)⟩) rfl rfl rfl hb⟩

theorem splits_holds : Rows.FieldsSplitsSaid :=
  OpenClaim.holds_of_wide 5 Try.f5 rfl rfl rfl rfl rfl rfl rfl ⟨rfl, rfl, rfl, rfl, rfl⟩ rfl rfl rfl rfl rfl (by kernel_rfl) Try.func5 (by kernel_rfl)
    (of_decide_eq_true (by kernel_rfl)) (by unfold Func.isWrapper; first | (rw [if_pos (by decide +kernel)]; kernel_rfl) | (rw [if_neg (by decide +kernel)]; exact ⟨rfl, rfl⟩))
    (fun os started H enc _ => splits_lifted os started H enc)
end Go.Proofs.Ytfadbbpnhppkpaa
