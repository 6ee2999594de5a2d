/- The plain law beneath FieldsCuts: without soft bytes fields are what stands between cuts. No condition. -/
import Derived.Test.YtfadbbpnhppkpaaW6
import Derived.Test.YtfadbbpnhppkpaaEdges
set_option linter.unusedVariables false
set_option linter.unusedSimpArgs false
namespace Go.Proofs.Ytfadbbpnhppkpaa

def par (k : Nat) : Int := (k : Int) % 2
def tb (k : Nat) (t : List UInt8) : List (Int × UInt8) := t.map fun c => (par k, c)
/-- the bits of the first k texts, with cuts between them -/
def cb (l : List (List UInt8)) : Nat → List (Int × UInt8)
  | 0 => []
  | k + 1 => (cb l k ++ (if k = 0 then [] else [(4, 0)])) ++ tb k (l[k]?.getD [])
def wt (l : List (List UInt8)) : Nat → List (List UInt8)
  | 0 => []
  | k + 1 => if l[k]?.getD [] = [] then wt l k else wt l k ++ [l[k]?.getD []]
def jn (l : List (List UInt8)) : Nat → List UInt8
  | 0 => []
  | k + 1 => if l[k]?.getD [] = [] then jn l k else (if jn l k = [] then [] else jn l k ++ [32]) ++ l[k]?.getD []

theorem par_byte (k : Nat) : byteB (par k) = true := by
  have h : 0 ≤ par k ∧ par k ≤ 2 := by unfold par; omega
  simp [byteB, h]
theorem par_two (k : Nat) : (par k == 2) = false := by
  have h : par k ≠ 2 := by unfold par; omega
  simpa using h
theorem run_tb (ifs t : List UInt8) (k : Nat) : ∀ s : St, run ifs s (tb k t) = if t = [] then s else ⟨s.out, some (s.now.getD [] ++ t.map (·, par k == 1)), false⟩ := by
  induction t with
  | nil => intro s; rfl
  | cons c r ih =>
    intro s
    have e : run ifs s (tb k (c :: r)) = run ifs (step ifs s (par k, c)) (tb k r) := rfl
    rw [e, ih, step_byte ifs s _ c (par_byte k) (soft_no ifs _ c (par_two k)), if_neg (show ¬ (c :: r = []) by simp)]
    split
    · next hr => subst hr; rfl
    · simp
theorem cuts_split (ifs : List UInt8) (l : List (List UInt8)) (k : Nat) : (fin (run ifs ⟨[], none, false⟩ (cb l k))).map (fun x => x.map Prod.fst) = wt l k := by
  induction k with
  | zero => rfl
  | succ k ih =>
    have hmid : ∃ s : St, run ifs ⟨[], none, false⟩ (cb l k ++ (if k = 0 then [] else [(4, 0)])) = s ∧ s.now = none ∧ s.out.map (fun x => x.map Prod.fst) = wt l k := by
      rcases Nat.eq_zero_or_pos k with h | h
      · subst h; exact ⟨_, rfl, rfl, rfl⟩
      · refine ⟨_, rfl, ?_, ?_⟩
        · rw [if_neg (by omega), run_append]
          show (step ifs _ (4, 0)).now = none
          rw [step_cut]
        · rw [if_neg (by omega), run_append]
          show (step ifs _ (4, 0)).out.map _ = _
          rw [step_cut]; exact ih
    obtain ⟨s, hs, hn, ho⟩ := hmid
    simp only [cb, wt]
    rw [run_append, hs, run_tb]
    split
    · next h => simp [fin, hn, ho]
    · next h => simp [fin, hn, ho, Function.comp_def]
theorem wrun_append (s : WS) (a b : List (Int × UInt8)) : wrun s (a ++ b) = wrun (wrun s a) b := by simp [wrun]
theorem wrun_tb (t : List UInt8) (k : Nat) : ∀ s : WS, wrun s (tb k t) = if t = [] then s else ⟨(if s.due then s.out ++ [(32, false)] else s.out) ++ t.map (·, par k == 1), true, false⟩ := by
  induction t with
  | nil => intro s; rfl
  | cons c r ih =>
    intro s
    have e : wrun s (tb k (c :: r)) = wrun (wstep s (par k, c)) (tb k r) := rfl
    rw [e, ih, wstep_byte s _ c (par_byte k), if_neg (show ¬ (c :: r = []) by simp)]
    split
    · next hr => subst hr; rfl
    · simp
theorem cuts_whole (l : List (List UInt8)) (k : Nat) : (wrun ⟨[], false, false⟩ (cb l k)).out.map Prod.fst = jn l k ∧ (wrun ⟨[], false, false⟩ (cb l k)).sm = !(jn l k).isEmpty ∧ ((wrun ⟨[], false, false⟩ (cb l k)).due = true → (wrun ⟨[], false, false⟩ (cb l k)).sm = true) := by
  induction k with
  | zero => exact ⟨rfl, rfl, fun h => by cases h⟩
  | succ k ih =>
    obtain ⟨h1, h2, h3⟩ := ih
    have hmid : ∃ s : WS, wrun ⟨[], false, false⟩ (cb l k ++ (if k = 0 then [] else [(4, 0)])) = s ∧ s.out.map Prod.fst = jn l k ∧ s.sm = !(jn l k).isEmpty ∧ s.due = s.sm := by
      rcases Nat.eq_zero_or_pos k with h | h
      · subst h; exact ⟨_, rfl, rfl, rfl, rfl⟩
      · refine ⟨_, rfl, ?_⟩
        rw [if_neg (by omega), wrun_append]
        show (wstep _ (4, 0)).out.map _ = _ ∧ (wstep _ (4, 0)).sm = _ ∧ (wstep _ (4, 0)).due = (wstep _ (4, 0)).sm
        rw [wstep_cut]
        refine ⟨h1, h2, ?_⟩
        show (_ || _) = _
        cases hd : (wrun ⟨[], false, false⟩ (cb l k)).due
        · rfl
        · rw [h3 hd]; rfl
    obtain ⟨s, hs, ho, hsm, hdue⟩ := hmid
    simp only [cb, jn]
    rw [wrun_append, hs, wrun_tb]
    split
    · next h => exact ⟨ho, hsm, fun hd => by rw [← hdue]; exact hd⟩
    · next h =>
      refine ⟨?_, ?_, fun hd => rfl⟩
      · show List.map Prod.fst ((if s.due then s.out ++ [(32, false)] else s.out) ++ _) = _
        rw [hdue, hsm]
        cases hj : jn l k with
        | nil => rw [hj] at ho; simp [ho, Function.comp_def]
        | cons a r => rw [hj] at ho; simp [ho, Function.comp_def]
      · have : ∃ a r, l[k]?.getD [] = a :: r := List.exists_cons_of_ne_nil h
        obtain ⟨a, r, hr⟩ := this
        rw [hr]; simp
theorem cb_len (l : List (List UInt8)) (n : Nat) (h : ∀ t ∈ l, t.length ≤ n) (k : Nat) : (cb l k).length ≤ k * (n + 1) := by
  induction k with
  | zero => simp [cb]
  | succ k ih =>
    have ht : (l[k]?.getD []).length ≤ n := by
      rcases Nat.lt_or_ge k l.length with hk | hk
      · rw [List.getElem?_eq_getElem hk]; exact h _ (List.getElem_mem hk)
      · rw [List.getElem?_eq_none hk]; simp
    have hif : (if k = 0 then ([] : List (Int × UInt8)) else [(4, 0)]).length ≤ 1 := by split <;> simp
    simp only [cb, List.length_append, tb, List.length_map]
    rw [Nat.add_mul]; omega
theorem wt_len (l : List (List UInt8)) (k : Nat) : (wt l k).length ≤ k := by
  induction k with
  | zero => simp [wt]
  | succ k ih => simp only [wt]; split <;> (try simp) <;> omega
theorem jn_len (l : List (List UInt8)) (n : Nat) (h : ∀ t ∈ l, t.length ≤ n) (k : Nat) : (jn l k).length ≤ k * (n + 1) := by
  induction k with
  | zero => simp [jn]
  | succ k ih =>
    have ht : (l[k]?.getD []).length ≤ n := by
      rcases Nat.lt_or_ge k l.length with hk | hk
      · rw [List.getElem?_eq_getElem hk]; exact h _ (List.getElem_mem hk)
      · rw [List.getElem?_eq_none hk]; simp
    simp only [jn]
    rw [Nat.add_mul]
    split
    · omega
    · split <;> (try simp) <;> omega
end Go.Proofs.Ytfadbbpnhppkpaa
