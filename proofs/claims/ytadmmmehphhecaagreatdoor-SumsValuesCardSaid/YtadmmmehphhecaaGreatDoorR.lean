/- The parser's four, joined: what they do at every place of the text. -/
import Derived.Test.YtadmmmehphhecaaGreatDoorT
set_option linter.unusedVariables false
set_option linter.unusedSimpArgs false
namespace Go.Proofs.YtadmmmehphhecaaGreatDoor
open Go.RowKit
/-- the four at a measure -/
structure All4 (s : ByteArray) (g n : Nat) : Prop where
  one : ∀ d t, d ≤ 40 → t.kd ≤ 2 → t.at_ + t.text.length ≤ s.size → (s.size - t.at_) * 14 ≤ n → PFun 110 s g .one d t
  two : ∀ row d t, row ≤ 10 → d ≤ 40 → t.kd ≤ 2 → t.at_ + t.text.length ≤ s.size → (s.size - t.at_) * 14 + (11 - row) ≤ n → PFunT s g row d t
  choice : ∀ d t, d ≤ 40 → t.kd ≤ 2 → t.at_ + t.text.length ≤ s.size → (s.size - t.at_) * 14 + 12 ≤ n → PFun 76 s g .choice d t
  whole : ∀ d t, d ≤ 40 → t.kd ≤ 2 → t.at_ + t.text.length ≤ s.size → (s.size - t.at_) * 14 + 13 ≤ n → PFun 41 s g .whole d t
theorem all4 (s : ByteArray) (g : Nat) (hs : s.size ≤ 100000) (hgb : GBig g) : ∀ n, All4 s g n := by
  intro n
  induction n using Nat.strongRecOn with
  | _ n ih =>
    refine ⟨?_, ?_, ?_, ?_⟩
    · intro d t hd hk ha hn
      refine one_step s g d t hs hgb ha hd hk (fun hd' t' h1 h2 h3 => ?_) (fun hd' t' h1 h2 h3 => ?_)
      · exact (ih ((s.size - t'.at_) * 14 + 13) (by omega)).whole (d + 1) t' (by omega) h3 h2 (Nat.le_refl _)
      · exact (ih ((s.size - t'.at_) * 14) (by omega)).one (d + 1) t' (by omega) h3 h2 (Nat.le_refl _)
    · intro row d t hr hd hk ha hn
      refine two_step s g row d t hs hgb ha hk hr ?_ (fun h => ?_) (fun h t' h1 h2 h3 => ?_)
      · exact (ih ((s.size - t.at_) * 14) (by omega)).one d t hd hk ha (Nat.le_refl _)
      · exact (ih ((s.size - t.at_) * 14 + (11 - (row + 1))) (by omega)).two (row + 1) d t (by omega) hd hk ha (Nat.le_refl _)
      · exact (ih ((s.size - t'.at_) * 14 + (11 - (row + 1))) (by omega)).two (row + 1) d t' (by omega) hd h3 h2 (Nat.le_refl _)
    · intro d t hd hk ha hn
      refine choice_step s g d t hs hgb ha hd hk ?_ (fun hd' t' h1 h2 h3 => ?_) (fun hd' t' h1 h2 h3 => ?_)
      · exact (ih ((s.size - t.at_) * 14 + (11 - 0)) (by omega)).two 0 d t (by omega) hd hk ha (Nat.le_refl _)
      · exact (ih ((s.size - t'.at_) * 14 + 13) (by omega)).whole (d + 1) t' (by omega) h3 h2 (Nat.le_refl _)
      · exact (ih ((s.size - t'.at_) * 14 + 12) (by omega)).choice (d + 1) t' (by omega) h3 h2 (Nat.le_refl _)
    · intro d t hd hk ha hn
      refine whole_step s g d t hs hgb ha hd hk ?_ (fun hd' t' h1 h2 h3 => ?_)
      · exact (ih ((s.size - t.at_) * 14 + 12) (by omega)).choice d t hd hk ha (Nat.le_refl _)
      · exact (ih ((s.size - t'.at_) * 14 + 13) (by omega)).whole (d + 1) t' (by omega) h3 h2 (Nat.le_refl _)
theorem whole_any (s : ByteArray) (g d : Nat) (t : PSt) (hs : s.size ≤ 100000) (hgb : GBig g) (hd : d ≤ 40) (hk : t.kd ≤ 2) (ha : t.at_ + t.text.length ≤ s.size) : PFun 41 s g .whole d t :=
  (all4 s g hs hgb _).whole d t hd hk ha (Nat.le_refl _)
end Go.Proofs.YtadmmmehphhecaaGreatDoor
