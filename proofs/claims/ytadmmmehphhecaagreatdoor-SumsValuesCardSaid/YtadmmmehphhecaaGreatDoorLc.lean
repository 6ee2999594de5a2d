/- Plain: the kids of an expression by index. -/
import Derived.Test.YtadmmmehphhecaaGreatDoorX
set_option linter.unusedVariables false
set_option linter.unusedSimpArgs false
namespace Go.Proofs.YtadmmmehphhecaaGreatDoor
open Go.RowKit
def Exs.toL : Exs → List Ex
  | .nil => []
  | .cons e r => e :: r.toL
theorem Exs.toL_len (l : Exs) : l.toL.length = l.len := by
  match l with
  | .nil => rfl
  | .cons e r => simp [Exs.toL, Exs.len, Exs.toL_len r]
theorem RdL.at_ {w : World} {P : Nat → Prop} : ∀ (l : Exs) (b off k : Nat) (hk : k < l.toL.length), RdL w P l (some ⟨b, off, none⟩) →
    ∃ c0 c1 c2 c3, P b ∧ w.cell? ⟨b, off + k * 4, none⟩ = some c0 ∧ w.cell? ⟨b, off + k * 4 + 1, none⟩ = some c1 ∧ w.cell? ⟨b, off + k * 4 + 2, none⟩ = some c2 ∧ w.cell? ⟨b, off + k * 4 + 3, none⟩ = some c3 ∧ RdX w P l.toL[k] (.agg #[c0, c1, c2, c3])
  | .nil, b, off, k, hk, _ => by simp [Exs.toL] at hk
  | .cons e r, b, off, 0, hk, h => by
    unfold RdL at h
    obtain ⟨b', off', c0, c1, c2, c3, h1, h2, h3, h4, h5, h6, h7, h8⟩ := h
    injection h1 with h1; injection h1 with hb ho _
    subst hb ho
    exact ⟨c0, c1, c2, c3, h2, h3, h4, h5, h6, h7⟩
  | .cons e r, b, off, k + 1, hk, h => by
    unfold RdL at h
    obtain ⟨b', off', c0, c1, c2, c3, h1, h2, h3, h4, h5, h6, h7, h8⟩ := h
    injection h1 with h1; injection h1 with hb ho _
    subst hb ho
    obtain ⟨d0, d1, d2, d3, g1, g2, g3, g4, g5, g6⟩ := RdL.at_ r b (off + 4) k (by simpa [Exs.toL] using hk) h8
    have e : off + (k + 1) * 4 = off + 4 + k * 4 := by omega
    rw [e]
    exact ⟨d0, d1, d2, d3, g1, g2, g3, g4, g5, g6⟩
/-- the kid at an index: what its four cells hold -/
theorem RdL.kid {w : World} {P : Nat → Prop} (l : Exs) (b off k : Nat) (hk : k < l.toL.length) (h : RdL w P l (some ⟨b, off, none⟩)) :
    ∃ A cap, P b ∧ w.cell? ⟨b, off + k * 4, none⟩ = some (.string ⟨l.toL[k].op.toArray⟩) ∧ w.cell? ⟨b, off + k * 4 + 1, none⟩ = some (.int .i64 l.toL[k].num) ∧ w.cell? ⟨b, off + k * 4 + 2, none⟩ = some (.string ⟨l.toL[k].name.toArray⟩) ∧ w.cell? ⟨b, off + k * 4 + 3, none⟩ = some (.slice A l.toL[k].kids.len cap)
      ∧ RdX w P l.toL[k] (.agg #[.string ⟨l.toL[k].op.toArray⟩, .int .i64 l.toL[k].num, .string ⟨l.toL[k].name.toArray⟩, .slice A l.toL[k].kids.len cap]) := by
  obtain ⟨c0, c1, c2, c3, h0, h1, h2, h3, h4, h5⟩ := RdL.at_ l b off k hk h
  obtain ⟨A, cap, he, hc, _⟩ := h5.form
  rw [he] at h5
  injection he with he
  injection he with he
  injection he with e0 he
  injection he with e1 he
  injection he with e2 he
  injection he with e3 he
  subst e0 e1 e2 e3
  exact ⟨A, cap, h0, h1, h2, h3, h4, h5⟩
end Go.Proofs.YtadmmmehphhecaaGreatDoor
