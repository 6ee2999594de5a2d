/- The walk of name of sums.valuer, and words for values. -/
import Derived.Test.YtadmmmehphhecaaGreatDoorLm
import Derived.Test.YtadmmmehphhecaaGreatDoorLn
import Derived.Test.YtadmmmehphhecaaGreatDoorLk
set_option linter.unusedVariables false
set_option linter.unusedSimpArgs false
namespace Go.Proofs.YtadmmmehphhecaaGreatDoor
open Go.RowKit
theorem trimS_len (l : List UInt8) (h : l.length ≤ 100) : (Lib.trimS l blks).length ≤ 100000 := by have := trim_len l; omega
abbrev TSt : TypeId := 41
def vw (g : Nat) : Value := .agg #[.iface TSt (.pointer (some ⟨g, 0, none⟩))]
/-- all texts of a table are short -/
def Short (T : Tab) : Prop := ∀ p ∈ T, p.2.1.length ≤ 100
theorem getF_short : ∀ (T : Tab) (x : List UInt8), Short T → (getF T x).1.length ≤ 100
  | [], _, _ => by simp [getF]
  | (n, v, f) :: r, x, h => by
    unfold getF
    split
    · exact h (n, v, f) (by simp)
    · exact getF_short r x (fun p hp => h p (by simp [hp]))
abbrev FU : Nat := 271
theorem method_get (a : Addr) (w : World) : (method FU TSt (.pointer (some a)) "Get").run Tryz.prog w = .ok (19, .pointer (some a)) w := by kernel_rfl
theorem method_set (a : Addr) (w : World) : (method FU TSt (.pointer (some a)) "Set").run Tryz.prog w = .ok (139, .pointer (some a)) w := by kernel_rfl
theorem nil_set (a : Addr) (w : World) : (nilAhead FU TSt (.pointer (some a)) "Set").run Tryz.prog w = .ok (some false) w := by kernel_rfl
def NamePost (T : Tab) (x : List UInt8) (w : World) (e : Ending) (w' : World) : Prop :=
  Below w.heap.size w w' ∧ match nameV T x with
    | .ok n => e = .returned (.int .i64 n)
    | .error er => e = .panicked (errV er)
set_option maxRecDepth 100000 in
set_option maxHeartbeats 4000000 in
theorem name_any (T : Tab) (x : List UInt8) (g B : Nat) (u : Value) (w : World) (hT : TabAt w B g T u) (hl : T.length ≤ 1000000) (hS : Short T) (hL : Laid w) :
    Calls Tryz.prog 66 #[vw g, .string ⟨x.toArray⟩] w (NamePost T x w) := by
  unfold vw
  have HT := hid hT
  have HL := hid hL
  have HS := hid (getF_short T x hS)
  have hB0 : Below w.heap.size w (w.alloc (.cells #[.iface TSt (.pointer (some ⟨g, 0, none⟩))] 78)) := (Below.refl _ _).alloc (Nat.le_refl _) _
  clear hT hL hS
  have hmg := method_get
  go_enter Tryz.func66, Tryz.ntmps66
  go_wp2_with fail
  ((with_reducible refine (Get_any T x g B u _ (HT.out.below hB0) hl).mono ?_); rintro e1 w1 ⟨rfl, hb1⟩)
  have HB1 := hid (bel_step hB0 hb1)
  obtain ⟨v, hv⟩ : ∃ v, v = (getF T x).1 := ⟨_, rfl⟩
  have hvl : (⟨v.toArray⟩ : ByteArray).size ≤ 100 := by rw [sz_of, hv]; exact HS.out
  have hN : Hid (nameV T x = if (numberF (Lib.trimS v blks)).2 = 0 then .ok (numberF (Lib.trimS v blks)).1 else .error (numberF (Lib.trimS v blks)).2) := hid (by unfold nameV; rw [hv])
  rw [← hv]
  clear hb1 hB0 hv
  go_wp2_with fail
  ((with_reducible refine (number_any ⟨v.toArray⟩ _ hvl (HL.out.below HB1.out) (trimS_len _ (by rw [← sz_of]; exact hvl))).mono ?_); rintro e2 w2 ⟨rfl, hb2⟩)
  have HB2 := hid (bel_step HB1.out hb2)
  have hdl : (⟨v.toArray⟩ : ByteArray).data.toList = v := by simp
  rw [hdl]
  generalize numberF (Lib.trimS v blks) = p at *
  obtain ⟨n, er⟩ := p
  dsimp only [numV] at hN ⊢
  clear hb2 hdl hvl
  by_cases he : er = 0
  · subst he
    have HO : Hid (nameV T x = .ok n) := hid (by rw [hN.out]; rfl)
    clear hN
    go_wp2_with fail
    ((with_reducible refine (may_ok _).mono ?_); rintro e3 w3 ⟨rfl, rfl⟩)
    go_wp2_with fail
    go_ret
    exact ⟨HB2.out, by rw [HO.out]; rfl⟩
  · have HO : Hid (nameV T x = .error er) := hid (by rw [hN.out, if_neg he])
    clear hN
    go_wp2_with fail
    ((with_reducible refine (may_bad er he _).mono ?_); rintro e3 w3 ⟨rfl, rfl⟩)
    exact ⟨rfl, HB2.out, by rw [HO.out]⟩
end Go.Proofs.YtadmmmehphhecaaGreatDoor
