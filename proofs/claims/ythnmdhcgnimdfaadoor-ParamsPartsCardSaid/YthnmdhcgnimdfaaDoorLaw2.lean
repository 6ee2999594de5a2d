/- An argument that is a slice of strings; the listed variable ErrRange holds an interface value. No condition. -/
import Derived.Test.YthnmdhcgnimdfaaDoorLaw
import Derived.Test.YthnmdhcgnimdfaaDoorG10
set_option linter.unusedVariables false
set_option linter.unusedSimpArgs false
namespace Go.Proofs.YthnmdhcgnimdfaaDoor
open Go.ChangeShapes Go.WideShapes Go.ChangeAt Go.RowKit
open Go.ChangeMaps (open_string shut_string)
theorem Tryd.cells9 : Tryd.prog.cellsOf 9 = 1 := by kernel_rfl
set_option maxRecDepth 100000 in
/-- an argument that is a slice of strings -/
theorem open_texts {H : Type} {enc : TypeId × Value → H} {W : World} {b0 : Nat} {v : Value} {d : DataW H} {p : List MemPlace} (hv : Value.okWide Tryd.prog W .any b0 34 v)
    (h : DataW.Trod enc Tryd.prog W 0 (fun _ => true) true 34 v d p) : ∃ l : List ByteArray, Rd W v l.length (strs l) ∧ l.length ≤ 9223372036854775807 ∧ ∀ t ∈ l, t.size ≤ 9223372036854775807 := by
  obtain ⟨a0, len, cap, rfl⟩ := okWide_slice Tryd.underlying34 hv
  obtain ⟨fuel, hf⟩ := h
  rcases open_strings Tryd.underlying34 Tryd.underlying9 Tryd.cells9 hf with ⟨hcs, _⟩ | ⟨a, len', cap', ss, hcs, _, hl, hm, hz, _, hcell, hws⟩
  · simp [Value.cells] at hcs
    obtain ⟨rfl, rfl, rfl⟩ := hcs
    exact ⟨[], Rd.nil W, by simp, fun t ht => by simp at ht⟩
  · simp [Value.cells] at hcs
    obtain ⟨rfl, rfl, rfl⟩ := hcs
    simp only [if_true] at hz
    have hlen : (ss.take len).length = len := by simp; omega
    refine ⟨ss.take len, ⟨some a, cap, by rw [hlen], by rw [hlen]; exact hl, ?_⟩, by rw [hlen]; unfold maxLen at hm; omega, fun t ht => ?_⟩
    · rcases Nat.eq_zero_or_pos len with h0 | h0
      · left; subst h0; rfl
      · right
        obtain ⟨b, off, spot⟩ := a
        have hspot : spot = none := by simpa [Addr.add] using World.cell?_spot (hcell 0 (by omega))
        subst hspot
        refine ⟨b, off, rfl, fun j u hu => ?_⟩
        have hj : j < len := by
          rcases Nat.lt_or_ge j len with h | h
          · exact h
          · rw [List.getElem?_eq_none (by rw [strs, List.length_map]; omega)] at hu; cases hu
        have hc := hcell j (by omega)
        rw [Addr.add_lit] at hc
        rw [hc, ← hu]
        have hjs : j < ss.length := by omega
        simp [strs, hj, List.getElem?_eq_getElem hjs, List.getD]
    · have := hws t (List.mem_of_mem_take ht)
      unfold maxLen at this
      exact this

set_option maxRecDepth 100000 in
/-- the variable ErrRange holds an interface value -/
theorem err_range {W : World} (h : laidMetH Tryd.prog Rows.paramsArgsRow.laid W) : ∃ tp pv, W.cell? ⟨1, 0, none⟩ = some (.iface tp pv) := by
  rw [MakeChecks.laidMetH_plain _ _ _ (by kernel_rfl)] at h
  obtain ⟨ps, hv, _, _⟩ := h
  obtain ⟨_, _, _, _, _, q1, _, _, _, _, hv, _⟩ := hv
  obtain ⟨_, _, _, _, _, q2, _, _, _, _, hv, _⟩ := hv
  obtain ⟨_, _, _, _, _, q3, _, _, _, _, hv, _⟩ := hv
  obtain ⟨_, _, _, _, _, q4, _, _, _, _, hv, _⟩ := hv
  obtain ⟨g, t, cs, fuel, p, q5, hg, ht, hw, hd, _, _⟩ := hv
  obtain rfl := Option.some.inj ((show Tryd.prog.globalNamed "strconv.ErrRange" = some 1 by kernel_rfl).symm.trans hg)
  obtain rfl := Option.some.inj ((show (Tryd.prog.globals[1]?).map (·.type) = some 59 by kernel_rfl).symm.trans ht)
  obtain ⟨_, u, v, hcs, _, _⟩ := iface_of_trod Tryd.underlying59 hd
  refine ⟨u, v, ?_⟩
  rw [World.var?_cell (show Tryd.prog.globalNamed "strconv.ErrRange" = some 1 by kernel_rfl) hw 0]
  have : cs[0]? = cs.toList[0]? := by simp
  rw [this, hcs]; rfl
end Go.Proofs.YthnmdhcgnimdfaaDoor
