/- SumsValues returns true at every input, and each argument reads behind the call as before it; its card, tied to the program's text. No condition but the row's own: the listed variables hold what the text lays. -/
import Derived.Test.YtadmmmehphhecaaGreatDoorVaM
import Derived.Test.YtadmmmehphhecaaGreatDoorValM
import Derived.Test.YtadmmmehphhecaaGreatDoorLr
import Derived.Deep.RegionHeld3
import Derived.Test.YtadmmmehphhecaaGreatDoorRows
import Derived.Test.YtadmmmehphhecaaGreatDoorN
import Derived.ProofKit
import Derived.OpenShut
import Derived.LaidMore
import Derived.LaidSub
import Derived.Lib.LaidTab
import Derived.Lay
import Derived.Stop.Joined
import Derived.MakeChecks
import Derived.ChangeArms
import Derived.Test.YtadmmmehphhecaaGreatDoorCards
import Derived.Test.YtadmmmehphhecaaGreatDoorTie
import Derived.SevenTiedAt
set_option linter.unusedVariables false
set_option linter.unusedSimpArgs false
/- The reference's value, joined by induction; the walk of the reference's Value. Numbers of 64 bits, expressions of up to a hundred thousand ops. -/
namespace Go.Proofs.YtadmmmehphhecaaGreatDoor
open Go.RowKit
theorem rval_any : ∀ e : Ex, okF e = true → RValC e := by
  intro e
  induction hs : szF e using Nat.strongRecOn generalizing e with
  | _ m ih =>
    subst hs
    intro ho
    have ho0 := ho
    obtain ⟨op, n, nm, k⟩ := e
    simp only [okF, Bool.and_eq_true, decide_eq_true_eq] at ho
    obtain ⟨⟨⟨o1, o2⟩, o3⟩, o4⟩ := ho
    have key : ∀ x : Ex, szF x < szF (.mk op n nm k) → okF x = true → RValC x := fun x hx ho => ih _ hx x rfl ho
    by_cases hl : (k.len : Int) = kidsF op
    case neg => exact rv_mis op n nm k hl
    rcases op_kinds (op := op) (by omega) with rfl | rfl | h | rfl | h | ⟨h, h', h''⟩
    · have : k = .nil := by
        match k, hl with
        | .nil, _ => rfl
        | .cons x r, hl => rw [show kidsF numO = 0 by decide] at hl; simp [Exs.len] at hl; omega
      subst this
      exact rv_num n nm ho0
    · have : k = .nil := by
        match k, hl with
        | .nil, _ => rfl
        | .cons x r, hl => rw [show kidsF nameO = 0 by decide] at hl; simp [Exs.len] at hl; omega
      subst this
      exact rv_name n nm ho0
    · have hl' := hl
      rw [kidsF_una h] at hl'
      obtain ⟨x, rfl⟩ := Exs.one (k := k) (by omega)
      simp only [okL, Bool.and_eq_true] at o4
      have hx := key x (by simp only [szF, szL]; omega) o4.1
      rcases h with rfl | rfl | rfl | rfl
      · exact rv_neg n nm x ho0 hx
      · exact rv_pos n nm x ho0 hx
      · exact rv_not n nm x ho0 hx
      · exact rv_com n nm x ho0 hx
    · rw [show kidsF [63] = 3 by decide] at hl
      obtain ⟨x, y, z, rfl⟩ := Exs.three (k := k) (by omega)
      simp only [okL, Bool.and_eq_true] at o4
      exact rv_if n nm x y z ho0 (key x (by simp only [szF, szL]; omega) o4.1) (key y (by simp only [szF, szL]; omega) o4.2.1) (key z (by simp only [szF, szL]; omega) o4.2.2.1)
    · have hl' := hl
      rw [setF_kids h] at hl'
      obtain ⟨x, rfl⟩ := Exs.one (k := k) (by omega)
      simp only [okL, Bool.and_eq_true] at o4
      have hx := key x (by simp only [szF, szL]; omega) o4.1
      by_cases he : op = [61]
      · subst he; exact rv_set_eq n nm x ho0 hx
      · exact rv_set_op op n nm x h he (op_len (by rw [setF_kids h]; decide)) ho0 hx
    · have hl' := hl
      rw [h''] at hl'
      obtain ⟨x, y, rfl⟩ := Exs.two (k := k) (by omega)
      simp only [okL, Bool.and_eq_true] at o4
      have hx := key x (by simp only [szF, szL]; omega) o4.1
      have hy := key y (by simp only [szF, szL]; omega) o4.2.1
      by_cases h1 : op = [38, 38]
      · subst h1; exact rv_and n nm x y ho0 hx hy
      by_cases h2 : op = [124, 124]
      · subst h2; exact rv_or n nm x y ho0 hx hy
      exact rv_two op n nm x y h h' h'' h1 h2 ho0 hx hy
theorem valueF_r (e : Ex) (T : Tab) : valueF e T = if 200 < rdeepF e then (0, 32, T) else match valF e T with
    | (.ok n, T1) => (n, 0, T1)
    | (.error er, T1) => (0, er, T1) := by
  unfold valueF
  by_cases hd : 200 < rdeepF e
  · rw [if_pos hd, if_pos (by rw [deep_same]; omega)]
  · rw [if_neg hd, if_neg (by rw [deep_same]; omega)]; rfl
def RValuePost (e : Ex) (g B : Nat) (T L : Tab) (u1 u2 : Value) (w : World) (x : Ending) (w' : World) : Prop :=
  ∃ u1' u2' L', RStep g w u1 u2 w' u1' u2' ∧ RTabAt w' B g (valueF e T).2.2 L' u1' u2' ∧ x = .returned (.tuple #[.int .i64 (valueF e T).1, .int .i64 (valueF e T).2.1])
theorem RValuePost.mk {e : Ex} {g B : Nat} {T L T' L' : Tab} {u1 u2 u1' u2' : Value} {w w' : World} {n f : Int} (hst : RStep g w u1 u2 w' u1' u2') (ht : RTabAt w' B g T' L' u1' u2') (hv : valueF e T = (n, f, T')) : RValuePost e g B T L u1 u2 w (.returned (.tuple #[.int .i64 n, .int .i64 f])) w' :=
  ⟨u1', u2', L', hst, by rw [hv]; exact ht, by rw [hv]⟩
set_option maxRecDepth 100000 in
set_option maxHeartbeats 2000000 in
theorem rValue_any (e : Ex) (w : World) (g B : Nat) (T L : Tab) (u1 u2 v : Value) (hr : RdX w (RFree w g u1 u2) e v) (hT : RTabAt w B g T L u1 u2) (hS : Short T) (ho : okF e = true) (hl : T.length + szF e ≤ 100000) (hlL : L.length + szF e ≤ 100000) :
    Calls Tryz.prog 18 #[v, .pointer (some ⟨g, 0, none⟩)] w (RValuePost e g B T L u1 u2 w) := by
  have HD := hid (rdeep_any e (by omega))
  have HC := hid (rval_any e ho)
  obtain ⟨A, cap, rfl, hcap, hkids⟩ := hr.form
  have HX := hid hr
  have HT := hid hT
  have HS := hid hS
  have HLEN := hid (show T.length + szF e ≤ 100000 ∧ L.length + szF e ≤ 100000 from ⟨hl, hlL⟩)
  have kB := Bk.new w 37 #[.string ⟨e.op.toArray⟩, .int .i64 e.num, .string ⟨e.name.toArray⟩, .slice A e.kids.len cap]
  have hB0 : Below w.heap.size w (w.alloc (.cells #[.string ⟨e.op.toArray⟩, .int .i64 e.num, .string ⟨e.name.toArray⟩, .slice A e.kids.len cap] 37)) := (Below.refl _ _).alloc (Nat.le_refl _) _
  clear hr hkids hT hS ho hl hlL hcap
  go_enter Tryz.func18, Tryz.ntmps18
  go_wp2_with fail
  ((with_reducible refine (HD.out.call _ (RFree w g u1 u2) _ (HX.out.below hB0)).mono ?_); rintro e1 w1 ⟨rfl, hb1⟩)
  have HB1 := hid (bel_step hB0 hb1)
  obtain ⟨c0, c1, c2, c3⟩ := kB.cells4
  have c0 := bel_cell hb1 c0
  have c1 := bel_cell hb1 c1
  have c2 := bel_cell hb1 c2
  have c3 := bel_cell hb1 c3
  clear kB hB0 hb1
  have HX1 := hid (HX.out.rstep (RStep.below (g := g) (u1 := u1) (u2 := u2) HB1.out))
  have HT1 := hid (HT.out.below HB1.out)
  by_cases hd : 200 < rdeepF e
  · have HO : Hid (valueF e T = (0, 32, T)) := hid (by rw [valueF_r, if_pos hd])
    have hdi : (200 : Int) < (rdeepF e : Int) := by omega
    clear hd
    go_wp2_with fail
    go_ret2
    exact RValuePost.mk (RStep.below HB1.out) HT1.out HO.out
  · have hdi : ¬ (200 : Int) < (rdeepF e : Int) := by omega
    have HO : Hid (valueF e T = match valF e T with
        | (.ok n, T1) => (n, 0, T1)
        | (.error er, T1) => (0, er, T1)) := hid (by rw [valueF_r, if_neg hd])
    clear hd
    go_wp2_with fail
    ((with_reducible refine (HC.out.call _ g B T L u1 u2 _ HX1.out HT1.out HS.out HLEN.out.1 HLEN.out.2).mono ?_); rintro e2 w2 ⟨x1, x2, L2, hL2, hst, htab, hm⟩)
    obtain ⟨r2, T2, hv2⟩ : ∃ r T1, valF e T = (r, T1) := ⟨_, _, rfl⟩
    rw [hv2] at htab hm HO
    have HST := hid ((RStep.below HB1.out).trans hst)
    have HTB := hid htab
    clear hst htab hv2 hL2
    rcases r2 with er | n
    · dsimp only at hm HO
      obtain ⟨h0, m, rfl⟩ := hm
      have hne : (er != 0) = true := by simpa using h0
      clear h0
      go_wp2_with fail
      go_ret2
      exact RValuePost.mk HST.out HTB.out HO.out
    · dsimp only at hm HO
      subst hm
      go_wp2_with fail
      go_ret2
      exact RValuePost.mk HST.out HTB.out HO.out
end Go.Proofs.YtadmmmehphhecaaGreatDoor
/- Two tables beside one another; the walks of pairs and same of the harness. Rows no longer than what a machine reaches. -/
namespace Go.Proofs.YtadmmmehphhecaaGreatDoor
open Go.RowKit
section
variable {w w' : World} {B B' g h : Nat} {T T' L : Tab} {u u' u1 u2 u1' u2' : Value}
theorem own_at {e size n : Nat} {v : Value} {xs : List Value} (ho : w.ownsRow B e size v n xs) (hk : ∀ b, v.ownBlock = some b → w'.heap[b]? = w.heap[b]?) : w'.ownsRow B e size v n xs := by
  refine ⟨ho.1, ?_⟩
  rcases ho.2 with hn | ⟨g, cap, cur, rfl, hb, hgg, rest⟩
  · exact .inl hn
  · exact .inr ⟨g, cap, cur, rfl, hb, (hk g rfl).trans hgg, rest⟩
theorem bk_ne {t t' : TypeId} {cs cs' : Array Value} (h1 : Bk w g t cs) (h2 : Bk w h t' cs') (hne : t ≠ t') : g ≠ h := by
  rintro rfl
  unfold Bk at h1 h2
  rw [h1] at h2
  injection h2 with h2
  injection h2 with _ h2 _
  exact hne h2
theorem own_ne' {b1 b2 e1 e2 s1 s2 n1 n2 : Nat} {v1 v2 : Value} {x1 x2 : List Value} (h1 : w.ownsRow b1 e1 s1 v1 n1 x1) (h2 : w.ownsRow b2 e2 s2 v2 n2 x2) (hne : e1 ≠ e2) {b : Nat} (hb : v1.ownBlock = some b) : some b ≠ v2.ownBlock := by
  rcases own_ne h1 h2 hne with h | h
  · rw [h] at hb; cases hb
  · rw [← hb]; exact h
/-- what is the reference's lies beside the program's table -/
theorem free_of_r (ht : TabAt w B g T u) (hr : RTabAt w B' h T' L u1 u2) : Free w g u h ∧ (∀ b, u1.ownBlock = some b → Free w g u b) ∧ (∀ b, u2.ownBlock = some b → Free w g u b) := by
  refine ⟨⟨fun e => bk_ne ht.1 hr.bk (by decide) e.symm, own_bk_ne ht.2.1 hr.bk (by decide), hr.bk.lt⟩, fun b hb => ⟨?_, own_ne' hr.own ht.2.1 (by decide) hb, (hr.lt1 b hb).1⟩, fun b hb => ⟨?_, own_ne' hr.log ht.2.1 (by decide) hb, (hr.lt2 b hb).1⟩⟩
  · rintro rfl; exact own_bk_ne hr.own ht.1 (by decide) hb.symm
  · rintro rfl; exact own_bk_ne hr.log ht.1 (by decide) hb.symm
/-- what is the program's lies beside the reference's table -/
theorem rfree_of_t (ht : TabAt w B g T u) (hr : RTabAt w B' h T' L u1 u2) : RFree w h u1 u2 g ∧ (∀ b, u.ownBlock = some b → RFree w h u1 u2 b) := by
  refine ⟨⟨bk_ne ht.1 hr.bk (by decide), own_bk_ne hr.own ht.1 (by decide), own_bk_ne hr.log ht.1 (by decide), ht.1.lt⟩, fun b hb => ⟨?_, own_ne' ht.2.1 hr.own (by decide) hb, own_ne' ht.2.1 hr.log (by decide) hb, ht.own_lt b hb⟩⟩
  rintro rfl; exact own_bk_ne ht.2.1 hr.bk (by decide) hb.symm
theorem RTabAt.tstep (hr : RTabAt w B' h T' L u1 u2) (ht : TabAt w B g T u) (k : TStep g w u w' u') : RTabAt w' B' h T' L u1 u2 := by
  obtain ⟨f1, f2, f3⟩ := free_of_r ht hr
  exact ⟨(k.block _ f1).trans hr.bk, own_at hr.own (fun b hb => k.block b (f2 b hb)), own_at hr.log (fun b hb => k.block b (f3 b hb)), hr.ne, Nat.le_trans hr.b k.size⟩
theorem TabAt.rstep (ht : TabAt w B g T u) (hr : RTabAt w B' h T' L u1 u2) (k : RStep h w u1 u2 w' u1' u2') : TabAt w' B g T u := by
  obtain ⟨f1, f2⟩ := rfree_of_t ht hr
  exact ⟨(k.block _ f1).trans ht.1, own_at ht.2.1 (fun b hb => k.block b (f2 b hb)), Nat.le_trans ht.2.2 k.size⟩
theorem RStep.belowOf {B0 : Nat} (k : RStep g w u1 u2 w' u1' u2') (hg : B0 ≤ g) (h1 : ∀ b, u1.ownBlock = some b → B0 ≤ b) (h2 : ∀ b, u2.ownBlock = some b → B0 ≤ b) (hB : B0 ≤ w.heap.size) : Below B0 w w' :=
  ⟨k.os, k.tape, k.output, k.size, fun i hi => k.block i ⟨by omega, fun he => by have := h1 i he.symm; omega, fun he => by have := h2 i he.symm; omega, by omega⟩⟩
end
/-- an argument that is pairs -/
def ArgT (w : World) (T : Tab) (v : Value) : Prop := ∃ A cap, v = .slice A T.length cap ∧ T.length ≤ cap ∧ (T = [] ∨ ∃ b off, A = some ⟨b, off, none⟩ ∧ At w b off (tabC T))
theorem ArgT.below {w w' : World} {T : Tab} {v : Value} (h : ArgT w T v) (hb : Below w.heap.size w w') : ArgT w' T v := by
  obtain ⟨A, cap, h1, h2, h3⟩ := h
  refine ⟨A, cap, h1, h2, ?_⟩
  rcases h3 with h3 | ⟨b, off, h3, h4⟩
  · exact .inl h3
  · exact .inr ⟨b, off, h3, h4.below hb⟩
def shortB (T : Tab) : Bool := decide (T.length ≤ 20) && T.all fun p => decide (p.1.length ≤ 100) && decide (p.2.1.length ≤ 100)
theorem shortB_short {T : Tab} (h : shortB T = true) : T.length ≤ 20 ∧ Short T := by
  simp only [shortB, Bool.and_eq_true, decide_eq_true_eq, List.all_eq_true] at h
  exact ⟨h.1, fun p hp => (h.2 p hp).2⟩
theorem shortB_len {T : Tab} (h : 20 < T.length) : shortB T = false := by simp [shortB]; omega
theorem shortB_bad {T : Tab} (k : Nat) (hk : k < T.length) (h : 100 < T[k].1.length ∨ 100 < T[k].2.1.length) : shortB T = false := by
  cases hs : shortB T with
  | false => rfl
  | true =>
    simp only [shortB, Bool.and_eq_true, decide_eq_true_eq, List.all_eq_true] at hs
    have := hs.2 T[k] (List.getElem_mem hk)
    omega
theorem shortB_all {T : Tab} (hl : T.length ≤ 20) (h : ∀ j (hj : j < T.length), T[j].1.length ≤ 100 ∧ T[j].2.1.length ≤ 100) : shortB T = true := by
  simp only [shortB, Bool.and_eq_true, decide_eq_true_eq, List.all_eq_true]
  refine ⟨hl, fun p hp => ?_⟩
  obtain ⟨j, hj, rfl⟩ := List.getElem_of_mem hp
  exact h j hj
set_option maxRecDepth 100000 in
set_option maxHeartbeats 2000000 in
theorem pairs_any (T : Tab) (v : Value) (w : World) (h : ArgT w T v) : Calls Tryz.prog 15 #[v] w fun e w' => e = .returned (.bool (shortB T)) ∧ w = w' := by
  obtain ⟨A, cap, rfl, hc, hx⟩ := h
  have HX := hid hx
  clear hx
  by_cases h20 : 20 < T.length
  · have hi : (20 : Int) < (T.length : Int) := by omega
    have HO := hid (shortB_len h20)
    clear h20
    go_enter Tryz.func15, Tryz.ntmps15
    go_wp2_with fail
    go_ret
    exact ⟨by rw [HO.out]; rfl, rfl⟩
  have hi : ¬ (20 : Int) < (T.length : Int) := by omega
  go_enter Tryz.func15, Tryz.ntmps15
  go_wp2_with fail
  go_loop [3] (fun v3 => ∃ k : Nat, k ≤ T.length ∧ v3 = .int .i64 k ∧ Hid (∀ j (hj : j < T.length), j < k → T[j].1.length ≤ 100 ∧ T[j].2.1.length ≤ 100)) (fun v3 => T.length - (intOf v3).toNat)
  case atStart => exact ⟨0, Nat.zero_le _, rfl, hid (fun j hj h => by omega)⟩
  case round =>
    obtain ⟨k, hk, rfl, HN⟩ := hrel
    by_cases hlt : k < T.length
    · obtain ⟨b, off, rfl, hat⟩ : ∃ b off, A = some ⟨b, off, none⟩ ∧ At w b off (tabC T) := by
        rcases HX.out with h | h
        · rw [h] at hlt; simp at hlt
        · exact h
      obtain ⟨q0, q1, q2⟩ := hat.tab k hlt
      have HB := hid (shortB_bad k hlt)
      have HN1 : Hid (T[k].1.length ≤ 100 → T[k].2.1.length ≤ 100 → ∀ j (hj : j < T.length), j < k + 1 → T[j].1.length ≤ 100 ∧ T[j].2.1.length ≤ 100) := hid (fun h1 h2 j hj h => by
        by_cases he : j = k
        · subst he; exact ⟨h1, h2⟩
        · exact HN.out j hj (by omega))
      clear hat
      generalize hp : T[k] = p at *
      obtain ⟨n, x, f⟩ := p
      dsimp only at q0 q1 q2 HB HN1
      clear hp
      by_cases h1 : 100 < n.length
      · have h1i : (100 : Int) < (n.length : Int) := by omega
        go_wp2_with fail
        go_ret
        exact ⟨by rw [HB.out (.inl h1)]; rfl, rfl⟩
      · have h1i : ¬ (100 : Int) < (n.length : Int) := by omega
        by_cases h2 : 100 < x.length
        · have h2i : (100 : Int) < (x.length : Int) := by omega
          go_wp2_with fail
          go_ret
          exact ⟨by rw [HB.out (.inr h2)]; rfl, rfl⟩
        · have h2i : ¬ (100 : Int) < (x.length : Int) := by omega
          have HN2 := hid (HN1.out (by omega) (by omega))
          go_wp2_with fail
          go_round
          case rel => exact ⟨k + 1, by omega, rfl, HN2⟩
          case measure => simp [intOf]; omega
    · have HO := hid (shortB_all (by omega) (fun j hj => HN.out j hj (by omega)))
      go_wp2_with fail
      go_ret
      exact ⟨by rw [HO.out]; rfl, rfl⟩
set_option maxRecDepth 100000 in
set_option maxHeartbeats 4000000 in
theorem same_any (T L : Tab) (g h B B' : Nat) (u u1 u2 : Value) (w : World) (hT : TabAt w B g T u) (hR : RTabAt w B' h T L u1 u2) (hl : T.length ≤ 1000000) :
    Calls Tryz.prog 21 #[.pointer (some ⟨g, 0, none⟩), .pointer (some ⟨h, 0, none⟩)] w fun e w' => e = .returned (.bool true) ∧ Below w.heap.size w w' := by
  have ct := hT.1.cell 0 u rfl
  have cr := hR.bk.cell 0 u1 rfl
  have HRD := hid (Rd.of_own hT.2.1)
  have HRR := hid (Rd.of_own hR.own)
  obtain ⟨A, cap, rfl⟩ := own_slice hT.2.1
  obtain ⟨A1, cap1, rfl⟩ := own_slice hR.own
  clear hT hR
  go_enter Tryz.func21, Tryz.ntmps21
  go_wp2_with fail
  go_quiet (fail)
  go_wp2_with fail
  have HB0 : Hid (Below w.heap.size w (w.drewN nq)) := hid ⟨rfl, rfl, rfl, Nat.le_refl _, fun _ _ => rfl⟩
  generalize w.drewN nq = w0 at HB0 ⊢
  go_loopw [5] (fun v5 wr => ∃ k : Nat, k ≤ T.length ∧ v5 = .int .i64 k ∧ Hid (Below w.heap.size w wr)) (fun v5 _ => T.length - (intOf v5).toNat)
  case atStart => exact ⟨0, Nat.zero_le _, rfl, HB0⟩
  case round =>
    obtain ⟨k, hk, rfl, HB⟩ := hrel
    have ct := bel_cell HB.out ct
    have cr := bel_cell HB.out cr
    by_cases hlt : k < T.length
    · obtain ⟨b, off, cap', he, _, hc⟩ := HRD.out.form (by intro e; have := tabC_len T; rw [e] at this; simp at this; omega)
      obtain ⟨b1, off1, cap1', he1, _, hc1⟩ := HRR.out.form (by intro e; have := tabC_len T; rw [e] at this; simp at this; omega)
      injection he with he _ hcp
      injection he1 with he1 _ hcp1
      subst he he1 hcp hcp1
      obtain ⟨q0, q1, q2⟩ := At.tab (w := w) (b := b) (off := off) (T := T) hc k hlt
      obtain ⟨r0, r1, r2⟩ := At.tab (w := w) (b := b1) (off := off1) (T := T) hc1 k hlt
      have q0 := bel_cell HB.out q0
      have q1 := bel_cell HB.out q1
      have q2 := bel_cell HB.out q2
      have r0 := bel_cell HB.out r0
      have r1 := bel_cell HB.out r1
      have r2 := bel_cell HB.out r2
      clear hc hc1
      generalize T[k] = p at *
      obtain ⟨n, v, f⟩ := p
      dsimp only at q0 q1 q2 r0 r1 r2
      have hlti : (k : Int) < (T.length : Int) := by omega
      have hk0 : (0 : Int) ≤ (k : Int) := by omega
      go_wp2_with fail
      go_quiet (fail)
      have HB2 := hid (HB.out.trans (show Below w.heap.size wr (wr.drewN nq) from ⟨rfl, rfl, rfl, Nat.le_refl _, fun _ _ => rfl⟩))
      generalize wr.drewN nq = wr2 at HB2 ⊢
      go_wp2_with fail
      go_roundw
      case rel => first | exact ⟨k + 1, by omega, rfl, HB2⟩ | ((repeat apply Exists.intro); exact ⟨⟨k + 1, by omega, rfl, HB2⟩, rfl⟩) | fail
      case measure => simp [intOf]; omega
    · go_wp2_with fail
      go_ret
      exact ⟨rfl, HB.out⟩
end Go.Proofs.YtadmmmehphhecaaGreatDoor
/- The walk of tables of the harness. Up to twenty pairs. -/
namespace Go.Proofs.YtadmmmehphhecaaGreatDoor
open Go.RowKit
def TablesPost (T : Tab) (w : World) (e : Ending) (w' : World) : Prop :=
  ∃ g h u u1, e = .returned (.tuple #[.pointer (some ⟨g, 0, none⟩), .pointer (some ⟨h, 0, none⟩)]) ∧ w.heap.size ≤ g ∧ w.heap.size ≤ h ∧ TabAt w' w.heap.size g T u ∧ RTabAt w' w.heap.size h T [] u1 (.slice none 0 0) ∧ Below w.heap.size w w'
theorem grow_cell {w w3 : World} {o : Obj} {row : Option Nat} {b off : Nat} {u : Value} (hg : (w.alloc o).grownBy w3 row) (hne : some b ≠ row) (h : w.cell? ⟨b, off, none⟩ = some u) : w3.cell? ⟨b, off, none⟩ = some u := by
  have hb := World.block_lt_of_cell? w _ h
  dsimp only at hb
  refine (World.cell?_of_block (w := w) (w' := w3) (a := ⟨b, off, none⟩) ?_).trans h
  exact (hg.block b (by simp; omega) hne).trans (Below.heap_alloc w o b hb)
set_option maxRecDepth 100000 in
set_option maxHeartbeats 4000000 in
theorem tables_any (T : Tab) (v : Value) (w : World) (h : ArgT w T v) (h20 : T.length ≤ 20) : Calls Tryz.prog 16 #[v] w (TablesPost T w) := by
  obtain ⟨i0, hi0, hz0, hz1, hz2⟩ := info_parts info_pair
  obtain ⟨i1, hi1, hy0, hy1, hy2⟩ := info_parts info_rpair
  obtain ⟨A, cap, rfl, hc, hx⟩ := h
  have HX := hid hx
  clear hx
  go_enter Tryz.func16, Tryz.ntmps16
  go_wp2_with fail
  obtain ⟨W0, hW0⟩ : ∃ W0, W0 = (w.alloc (.cells #[.slice none 0 0] 54)).alloc (.cells #[.slice none 0 0, .slice none 0 0] 73) := ⟨_, rfl⟩
  have hB0 : Below w.heap.size w W0 := by rw [hW0]; exact ((Below.refl _ _).alloc (Nat.le_refl _) _).alloc (by simp) _
  have kG : Bk W0 w.heap.size TT #[.slice none 0 0] := by rw [hW0]; exact (Bk.new w _ _).alloc _
  have kH : Bk W0 (w.heap.size + 1) TRT #[.slice none 0 0, .slice none 0 0] := by rw [hW0]; have := Bk.new (w.alloc (.cells #[.slice none 0 0] 54)) TRT #[.slice none 0 0, .slice none 0 0]; simpa using this
  rw [← hW0]
  clear hW0
  have HT0 : Hid (TabAt W0 w.heap.size w.heap.size (T.take 0) (.slice none 0 0)) := hid ⟨kG, ⟨rfl, .inl ⟨rfl, rfl⟩⟩, hB0.size⟩
  have HR0 : Hid (RTabAt W0 w.heap.size (w.heap.size + 1) (T.take 0) [] (.slice none 0 0) (.slice none 0 0)) := hid ⟨kH, ⟨rfl, .inl ⟨rfl, rfl⟩⟩, ⟨rfl, .inl ⟨rfl, rfl⟩⟩, .inl rfl, hB0.size⟩
  have HB0 := hid hB0
  clear hB0 kG kH
  go_loopw [6] (fun v6 wr => ∃ (k : Nat) (u u1 : Value), k ≤ T.length ∧ v6 = .int .i64 k ∧ Hid (TabAt wr w.heap.size w.heap.size (T.take k) u) ∧ Hid (RTabAt wr w.heap.size (w.heap.size + 1) (T.take k) [] u1 (.slice none 0 0)) ∧ Hid (Below w.heap.size w wr)) (fun v6 _ => T.length - (intOf v6).toNat)
  case atStart => exact ⟨0, _, _, Nat.zero_le _, rfl, HT0, HR0, HB0⟩
  case round =>
    obtain ⟨k, u, u1, hk, rfl, HT, HR, HB⟩ := hrel
    clear HT0 HR0 HB0
    by_cases hlt : k < T.length
    · obtain ⟨b, off, rfl, hat⟩ : ∃ b off, A = some ⟨b, off, none⟩ ∧ At w b off (tabC T) := by
        rcases HX.out with h | h
        · rw [h] at hlt; simp at hlt
        · exact h
      obtain ⟨q0, q1, q2⟩ := hat.tab k hlt
      have q0 := bel_cell HB.out q0
      have q1 := bel_cell HB.out q1
      have q2 := bel_cell HB.out q2
      obtain ⟨Tk, hTk⟩ : ∃ Tk, Tk = T.take k := ⟨_, rfl⟩
      rw [← hTk] at HT HR
      have hln : Tk.length ≤ 20 := by rw [hTk, List.length_take]; omega
      have HTK1 : Hid (T.take (k + 1) = Tk ++ [T[k]]) := hid (by rw [hTk]; exact List.take_succ_eq_append_getElem hlt)
      have HQG : Hid (Free wr w.heap.size u b) := hid ⟨by have := World.block_lt_of_cell? w _ (hat.tab k hlt).1; dsimp only at this; omega, fun e => by have := HT.out.own_ge b e.symm; have := World.block_lt_of_cell? w _ (hat.tab k hlt).1; dsimp only at this; omega, by have := World.block_lt_of_cell? w _ (hat.tab k hlt).1; dsimp only at this; have := HB.out.size; omega⟩
      have HBW : Hid (b < w.heap.size) := hid (by have := World.block_lt_of_cell? w _ (hat.tab k hlt).1; dsimp only at this; omega)
      have HNB1 : Hid (w.heap.size ≠ b) := hid (by have := HBW.out; omega)
      have HNB2 : Hid (w.heap.size + 1 ≠ b) := hid (by have := HBW.out; omega)
      have HBN : Hid (¬ b = w.heap.size + 1) := hid (by have := HBW.out; omega)
      have HNG : Hid (some b ≠ u.ownBlock) := hid HQG.out.2.1
      clear hTk hat
      obtain ⟨⟨n, x, f⟩, hp⟩ : ∃ p, p = T[k] := ⟨_, rfl⟩
      rw [← hp] at q0 q1 q2 HTK1
      dsimp only at q0 q1 q2
      clear hp
      obtain ⟨A', cap', rfl⟩ := own_slice HT.out.2.1
      obtain ⟨A1, cap1, rfl⟩ := own_slice HR.out.own
      have g0 := HT.out.1.cell 0 _ rfl
      have hgl := HT.out.1.lt
      have h63 : Tk.length + 1 ≤ maxLen := by unfold maxLen; omega
      have hbytes : (Tk.length + 1) * 40 ≤ 140737488355328 := by omega
      have hlti : (k : Int) < (T.length : Int) := by omega
      have HBD := hid (show Below wr.heap.size wr wr.drew from (Below.refl wr.heap.size wr).drew)
      have HTD := hid (HT.out.below HBD.out)
      have HNW : Hid (∀ (w1 : World) (c0 c1 c2 : Value) (t : TypeId), ∀ j u, [c0, c1, c2][j]? = some u → (w1.alloc (.cells #[c0, c1, c2] t)).cell? ((⟨w1.heap.size, 0, none⟩ : Addr).add j) = some u) := hid (fun w1 c0 c1 c2 t => World.news_of_block (cs := #[c0, c1, c2]) (t := t) (fr := (0, 0)) (heap_alloc_new w1 _))
      have HOWA := hid (own_below HTD.out.2.1 ((Below.refl _ _).alloc (Nat.le_refl _) (.cells #[.string ⟨n.toArray⟩, .string ⟨x.toArray⟩, .bool f] TPr)))
      go_wp2_with fail
      refine wp_region_held_drew (S := (fun w' => w'.cell? ⟨b, off + k * 3, none⟩ = some (.string ⟨n.toArray⟩) ∧ w'.cell? ⟨b, off + k * 3 + 1, none⟩ = some (.string ⟨x.toArray⟩) ∧ w'.cell? ⟨b, off + k * 3 + 2, none⟩ = some (.bool f))) (by kernel_rfl) ⟨q0, q1, q2⟩ (fun hHeld => ?_)
      refine takeYes (i := 0) (v := .pointer (some ⟨w.heap.size, 0, none⟩)) rfl (by kernel_rfl) (by kernel_rfl) (by kernel_rfl) (fun _ _ _ h => h) (by rfl) ?_ (by assumption) ?_
      · intro w hSw; obtain ⟨sq0, sq1, sq2⟩ := hSw; go_simp
      try simp only [Act.put, List.setIfInBounds_toArray, List.set_cons_zero, List.set_cons_succ]
      refine takeYes (i := 1) (v := .pointer (some ⟨w.heap.size, 0, none⟩)) rfl (by kernel_rfl) (by kernel_rfl) (by kernel_rfl) (fun _ _ _ h => h) (by rfl) ?_ (by assumption) ?_
      · intro w hSw; obtain ⟨sq0, sq1, sq2⟩ := hSw; go_simp
      try simp only [Act.put, List.setIfInBounds_toArray, List.set_cons_zero, List.set_cons_succ]
      refine takeYes (i := 2) (v := .pointer (some ⟨w.heap.size, 0, none⟩)) rfl (by kernel_rfl) (by kernel_rfl) (by kernel_rfl) (fun _ _ _ h => h) (by rfl) ?_ (by assumption) ?_
      · intro w hSw; obtain ⟨sq0, sq1, sq2⟩ := hSw; go_simp
      try simp only [Act.put, List.setIfInBounds_toArray, List.set_cons_zero, List.set_cons_succ]
      refine takeYes (i := 3) (v := .pointer (some ⟨w.heap.size, 0, none⟩)) rfl (by kernel_rfl) (by kernel_rfl) (by kernel_rfl) (fun _ _ _ h => h) (by rfl) ?_ (by assumption) ?_
      · intro w hSw; obtain ⟨sq0, sq1, sq2⟩ := hSw; go_simp
      try simp only [Act.put, List.setIfInBounds_toArray, List.set_cons_zero, List.set_cons_succ]
      refine takeYes (i := 5) (v := .slice (some ⟨b, off, none⟩) T.length cap) rfl (by kernel_rfl) (by kernel_rfl) (by kernel_rfl) (fun _ _ _ h => h) (by rfl) ?_ (by assumption) ?_
      · intro w hSw; obtain ⟨sq0, sq1, sq2⟩ := hSw; go_simp
      try simp only [Act.put, List.setIfInBounds_toArray, List.set_cons_zero, List.set_cons_succ]
      refine takeYes (i := 6) (v := .int .i64 (k : Int)) rfl (by kernel_rfl) (by kernel_rfl) (by kernel_rfl) (fun _ _ _ h => h) (by rfl) ?_ (by assumption) ?_
      · intro w hSw; obtain ⟨sq0, sq1, sq2⟩ := hSw; go_simp
      try simp only [Act.put, List.setIfInBounds_toArray, List.set_cons_zero, List.set_cons_succ]
      refine takeYes (i := 7) (v := .pointer (some ⟨b, off + k * 3, none⟩)) rfl (by kernel_rfl) (by kernel_rfl) (by kernel_rfl) (fun _ _ _ h => h) (by rfl) ?_ (by assumption) ?_
      · intro w hSw; obtain ⟨sq0, sq1, sq2⟩ := hSw; go_simp
      try simp only [Act.put, List.setIfInBounds_toArray, List.set_cons_zero, List.set_cons_succ]
      refine takeYes (i := 8) (v := .agg #[.string ⟨n.toArray⟩, .string ⟨x.toArray⟩, .bool f]) rfl (by kernel_rfl) (by kernel_rfl) (by kernel_rfl) (fun _ _ _ h => h) (by rfl) ?_ (by assumption) ?_
      · intro w hSw; obtain ⟨sq0, sq1, sq2⟩ := hSw; go_simp
      try simp only [Act.put, List.setIfInBounds_toArray, List.set_cons_zero, List.set_cons_succ]
      refine wpAnyH_ready (rs := [4, 9]) (by kernel_rfl) (by simp) ?_
      refine (AllReadyH.cons rfl (fun K hK => ?_) (AllReadyH.cons rfl (fun K hK => ?_) AllReadyH.nil))
      · go_simp
        refine hK.out _ _ ?_ (fun hHeld => ?_)
        · go_keep
        clear hK K
        try simp only [Act.put, List.setIfInBounds_toArray, List.set_cons_zero, List.set_cons_succ]
        refine wpAnyH_ready (rs := [9]) (by kernel_rfl) (by simp) ?_
        refine (AllReadyH.cons rfl (fun K hK => ?_) AllReadyH.nil)
        go_simp
        refine hK.out _ _ ?_ (fun hHeld => ?_)
        · go_keep
        clear hK K
        try simp only [Act.put, List.setIfInBounds_toArray, List.set_cons_zero, List.set_cons_succ]
        refine wpAnyH_ready (rs := [10]) (by kernel_rfl) (by simp) ?_
        refine (AllReadyH.cons rfl (fun K hK => ?_) AllReadyH.nil)
        refine step_append_lies _ rfl (.tmp 21) (.tmp 26) 39 rfl w.heap.size 52 i0 _ 3 40 Tryz.underlying39 hi0 hz0 hz1 hz2 rfl (by decide) (.slice A' Tk.length cap') Tk.length (tabC Tk) (by simp [Act.eval, Act.put]) HOWA.out ⟨wr.heap.size, 0, none⟩ 1 1 [.string ⟨n.toArray⟩, .string ⟨x.toArray⟩, .bool f] (by simp [Act.eval, Act.put]) rfl (HNW.out wr.drew _ _ _ _) (by simp [Value.oneCell']) (by omega) h63 hbytes (by simp; omega) (wr.heap.size + 1) (by simp) ?_
        intro ga capn w3 hown3 hgrow hat hlt3
        have hgrow : (wr.drew.alloc (.cells #[.string ⟨n.toArray⟩, .string ⟨x.toArray⟩, .bool f] TPr)).grownBy w3 _ := hgrow
        have kb3 := (HTD.out.1.alloc _).grown hgrow HTD.out.ne
        have g3 := kb3.cell 0 _ rfl
        have f3 := kb3.free 0
        have p0 := grow_cell hgrow HNG.out (show wr.drew.cell? _ = _ from q0)
        have p1 := grow_cell hgrow HNG.out (show wr.drew.cell? _ = _ from q1)
        have p2 := grow_cell hgrow HNG.out (show wr.drew.cell? _ = _ from q2)
        have HOW3 := hid hown3
        have HGR := hid hgrow
        have HAT := hid hat
        clear hown3 hgrow hat kb3
        refine hK.out _ _ ?_ (fun hHeld => ?_)
        · exact ⟨p0, p1, p2⟩
        clear hK K
        try simp only [Act.put, List.setIfInBounds_toArray, List.set_cons_zero, List.set_cons_succ]
        refine takeYes (i := 11) (v := .pointer (some ⟨w.heap.size, 0, none⟩)) rfl (by kernel_rfl) (by kernel_rfl) (by kernel_rfl) (fun _ _ _ h => h) (by rfl) ?_ (by assumption) ?_
        · intro w hSw; obtain ⟨sq0, sq1, sq2⟩ := hSw; go_simp
        try simp only [Act.put, List.setIfInBounds_toArray, List.set_cons_zero, List.set_cons_succ]
        refine takeYes (i := 12) (v := .pointer (some ⟨w.heap.size, 0, none⟩)) rfl (by kernel_rfl) (by kernel_rfl) (by kernel_rfl) (fun _ _ _ h => h) (by rfl) ?_ (by assumption) ?_
        · intro w hSw; obtain ⟨sq0, sq1, sq2⟩ := hSw; go_simp
        try simp only [Act.put, List.setIfInBounds_toArray, List.set_cons_zero, List.set_cons_succ]
        refine wpAnyH_ready (rs := [13]) (by kernel_rfl) (by simp) ?_
        refine (AllReadyH.cons rfl (fun K hK => ?_) AllReadyH.nil)
        go_simp
        refine hK.out _ _ ?_ (fun hHeld => ?_)
        · exact ⟨(World.cell?_setCell_far _ _ _ _ HNB1.out).trans p0, (World.cell?_setCell_far _ _ _ _ HNB1.out).trans p1, (World.cell?_setCell_far _ _ _ _ HNB1.out).trans p2⟩
        clear hK K
        try simp only [Act.put, List.setIfInBounds_toArray, List.set_cons_zero, List.set_cons_succ]
        refine wpAnyH_done (by kernel_rfl) ?_ _
        have HP := tab_app (p := (n, x, f)) HTD.out HOW3.out HGR.out HAT.out
        obtain ⟨W4, hW4⟩ : ∃ W4, W4 = w3.setCell ⟨w.heap.size, 0, none⟩ (.slice (some ⟨ga, 0, none⟩) (Tk.length + 1) capn) := ⟨_, rfl⟩
        rw [← hW4] at HP
        rw [← hW4]
        clear hW4
        have HST4 := hid ((TStep.below HBD.out).trans HP.1)
        have HT4 := hid HP.2
        have HR4 := hid (HR.out.tstep HT.out HST4.out)
        have HB4 := hid (HB.out.trans (HST4.out.belowOf (B0 := w.heap.size) (Nat.le_refl _) (fun b hb => HT.out.own_ge b hb) HB.out.size))
        have q0 := cell_step HST4.out ⟨HQG.out.1, HQG.out.2.1, HQG.out.2.2⟩ q0
        have q1 := cell_step HST4.out ⟨HQG.out.1, HQG.out.2.1, HQG.out.2.2⟩ q1
        have q2 := cell_step HST4.out ⟨HQG.out.1, HQG.out.2.1, HQG.out.2.2⟩ q2
        have h0 := HR4.out.bk.cell 0 _ rfl
        have hhl := HR4.out.bk.lt
        have HBD4 := hid (show Below W4.heap.size W4 W4.drew from (Below.refl W4.heap.size W4).drew)
        have HRD4 := hid (HR4.out.below HBD4.out)
        have HOWR := hid (own_below HRD4.out.own ((Below.refl _ _).alloc (Nat.le_refl _) (.cells #[.string ⟨n.toArray⟩, .string ⟨x.toArray⟩, .bool f] TRP)))
        have hgl4 := HT4.out.1.lt
        have HNE : Hid (some b ≠ (Value.slice A1 Tk.length cap1).ownBlock) := hid (fun e => by have := (HR4.out.lt1 b e.symm).2; have := HBW.out; omega)
        have hnb := HBN.out
        clear HP g3 f3 g0 hgl p0 p1 p2
        go_wp2_with fail
        refine wp_region_held_drew (S := (fun w' => w'.cell? ⟨b, off + k * 3, none⟩ = some (.string ⟨n.toArray⟩) ∧ w'.cell? ⟨b, off + k * 3 + 1, none⟩ = some (.string ⟨x.toArray⟩) ∧ w'.cell? ⟨b, off + k * 3 + 2, none⟩ = some (.bool f))) (by kernel_rfl) ⟨q0, q1, q2⟩ (fun hHeld => ?_)
        refine takeYes (i := 0) (v := .pointer (some ⟨w.heap.size + 1, 0, none⟩)) rfl (by kernel_rfl) (by kernel_rfl) (by kernel_rfl) (fun _ _ _ h => h) (by rfl) ?_ (by assumption) ?_
        · intro w hSw; obtain ⟨sq0, sq1, sq2⟩ := hSw; go_simp
        try simp only [Act.put, List.setIfInBounds_toArray, List.set_cons_zero, List.set_cons_succ]
        refine takeYes (i := 1) (v := .pointer (some ⟨w.heap.size + 1, 0, none⟩)) rfl (by kernel_rfl) (by kernel_rfl) (by kernel_rfl) (fun _ _ _ h => h) (by rfl) ?_ (by assumption) ?_
        · intro w hSw; obtain ⟨sq0, sq1, sq2⟩ := hSw; go_simp
        try simp only [Act.put, List.setIfInBounds_toArray, List.set_cons_zero, List.set_cons_succ]
        refine takeYes (i := 2) (v := .pointer (some ⟨w.heap.size + 1, 0, none⟩)) rfl (by kernel_rfl) (by kernel_rfl) (by kernel_rfl) (fun _ _ _ h => h) (by rfl) ?_ (by assumption) ?_
        · intro w hSw; obtain ⟨sq0, sq1, sq2⟩ := hSw; go_simp
        try simp only [Act.put, List.setIfInBounds_toArray, List.set_cons_zero, List.set_cons_succ]
        refine takeYes (i := 3) (v := .pointer (some ⟨w.heap.size + 1, 0, none⟩)) rfl (by kernel_rfl) (by kernel_rfl) (by kernel_rfl) (fun _ _ _ h => h) (by rfl) ?_ (by assumption) ?_
        · intro w hSw; obtain ⟨sq0, sq1, sq2⟩ := hSw; go_simp
        try simp only [Act.put, List.setIfInBounds_toArray, List.set_cons_zero, List.set_cons_succ]
        refine takeYes (i := 5) (v := .slice (some ⟨b, off, none⟩) T.length cap) rfl (by kernel_rfl) (by kernel_rfl) (by kernel_rfl) (fun _ _ _ h => h) (by rfl) ?_ (by assumption) ?_
        · intro w hSw; obtain ⟨sq0, sq1, sq2⟩ := hSw; go_simp
        try simp only [Act.put, List.setIfInBounds_toArray, List.set_cons_zero, List.set_cons_succ]
        refine takeYes (i := 6) (v := .int .i64 (k : Int)) rfl (by kernel_rfl) (by kernel_rfl) (by kernel_rfl) (fun _ _ _ h => h) (by rfl) ?_ (by assumption) ?_
        · intro w hSw; obtain ⟨sq0, sq1, sq2⟩ := hSw; go_simp
        try simp only [Act.put, List.setIfInBounds_toArray, List.set_cons_zero, List.set_cons_succ]
        refine takeYes (i := 7) (v := .pointer (some ⟨b, off + k * 3, none⟩)) rfl (by kernel_rfl) (by kernel_rfl) (by kernel_rfl) (fun _ _ _ h => h) (by rfl) ?_ (by assumption) ?_
        · intro w hSw; obtain ⟨sq0, sq1, sq2⟩ := hSw; go_simp
        try simp only [Act.put, List.setIfInBounds_toArray, List.set_cons_zero, List.set_cons_succ]
        refine takeYes (i := 8) (v := .pointer (some ⟨b, off + k * 3, none⟩)) rfl (by kernel_rfl) (by kernel_rfl) (by kernel_rfl) (fun _ _ _ h => h) (by rfl) ?_ (by assumption) ?_
        · intro w hSw; obtain ⟨sq0, sq1, sq2⟩ := hSw; go_simp
        try simp only [Act.put, List.setIfInBounds_toArray, List.set_cons_zero, List.set_cons_succ]
        refine takeYes (i := 9) (v := .string ⟨n.toArray⟩) rfl (by kernel_rfl) (by kernel_rfl) (by kernel_rfl) (fun _ _ _ h => h) (by rfl) ?_ (by assumption) ?_
        · intro w hSw; obtain ⟨sq0, sq1, sq2⟩ := hSw; go_simp
        try simp only [Act.put, List.setIfInBounds_toArray, List.set_cons_zero, List.set_cons_succ]
        refine takeYes (i := 10) (v := .slice (some ⟨b, off, none⟩) T.length cap) rfl (by kernel_rfl) (by kernel_rfl) (by kernel_rfl) (fun _ _ _ h => h) (by rfl) ?_ (by assumption) ?_
        · intro w hSw; obtain ⟨sq0, sq1, sq2⟩ := hSw; go_simp
        try simp only [Act.put, List.setIfInBounds_toArray, List.set_cons_zero, List.set_cons_succ]
        refine takeYes (i := 11) (v := .int .i64 (k : Int)) rfl (by kernel_rfl) (by kernel_rfl) (by kernel_rfl) (fun _ _ _ h => h) (by rfl) ?_ (by assumption) ?_
        · intro w hSw; obtain ⟨sq0, sq1, sq2⟩ := hSw; go_simp
        try simp only [Act.put, List.setIfInBounds_toArray, List.set_cons_zero, List.set_cons_succ]
        refine takeYes (i := 12) (v := .pointer (some ⟨b, off + k * 3, none⟩)) rfl (by kernel_rfl) (by kernel_rfl) (by kernel_rfl) (fun _ _ _ h => h) (by rfl) ?_ (by assumption) ?_
        · intro w hSw; obtain ⟨sq0, sq1, sq2⟩ := hSw; go_simp
        try simp only [Act.put, List.setIfInBounds_toArray, List.set_cons_zero, List.set_cons_succ]
        refine takeYes (i := 13) (v := .pointer (some ⟨b, off + k * 3 + 1, none⟩)) rfl (by kernel_rfl) (by kernel_rfl) (by kernel_rfl) (fun _ _ _ h => h) (by rfl) ?_ (by assumption) ?_
        · intro w hSw; obtain ⟨sq0, sq1, sq2⟩ := hSw; go_simp
        try simp only [Act.put, List.setIfInBounds_toArray, List.set_cons_zero, List.set_cons_succ]
        refine takeYes (i := 14) (v := .string ⟨x.toArray⟩) rfl (by kernel_rfl) (by kernel_rfl) (by kernel_rfl) (fun _ _ _ h => h) (by rfl) ?_ (by assumption) ?_
        · intro w hSw; obtain ⟨sq0, sq1, sq2⟩ := hSw; go_simp
        try simp only [Act.put, List.setIfInBounds_toArray, List.set_cons_zero, List.set_cons_succ]
        refine takeYes (i := 15) (v := .slice (some ⟨b, off, none⟩) T.length cap) rfl (by kernel_rfl) (by kernel_rfl) (by kernel_rfl) (fun _ _ _ h => h) (by rfl) ?_ (by assumption) ?_
        · intro w hSw; obtain ⟨sq0, sq1, sq2⟩ := hSw; go_simp
        try simp only [Act.put, List.setIfInBounds_toArray, List.set_cons_zero, List.set_cons_succ]
        refine takeYes (i := 16) (v := .int .i64 (k : Int)) rfl (by kernel_rfl) (by kernel_rfl) (by kernel_rfl) (fun _ _ _ h => h) (by rfl) ?_ (by assumption) ?_
        · intro w hSw; obtain ⟨sq0, sq1, sq2⟩ := hSw; go_simp
        try simp only [Act.put, List.setIfInBounds_toArray, List.set_cons_zero, List.set_cons_succ]
        refine takeYes (i := 17) (v := .pointer (some ⟨b, off + k * 3, none⟩)) rfl (by kernel_rfl) (by kernel_rfl) (by kernel_rfl) (fun _ _ _ h => h) (by rfl) ?_ (by assumption) ?_
        · intro w hSw; obtain ⟨sq0, sq1, sq2⟩ := hSw; go_simp
        try simp only [Act.put, List.setIfInBounds_toArray, List.set_cons_zero, List.set_cons_succ]
        refine takeYes (i := 18) (v := .pointer (some ⟨b, off + k * 3 + 2, none⟩)) rfl (by kernel_rfl) (by kernel_rfl) (by kernel_rfl) (fun _ _ _ h => h) (by rfl) ?_ (by assumption) ?_
        · intro w hSw; obtain ⟨sq0, sq1, sq2⟩ := hSw; go_simp
        try simp only [Act.put, List.setIfInBounds_toArray, List.set_cons_zero, List.set_cons_succ]
        refine takeYes (i := 19) (v := .bool f) rfl (by kernel_rfl) (by kernel_rfl) (by kernel_rfl) (fun _ _ _ h => h) (by rfl) ?_ (by assumption) ?_
        · intro w hSw; obtain ⟨sq0, sq1, sq2⟩ := hSw; go_simp
        try simp only [Act.put, List.setIfInBounds_toArray, List.set_cons_zero, List.set_cons_succ]
        refine takeYes (i := 20) (v := .agg #[.string ⟨n.toArray⟩, .string ⟨x.toArray⟩, .bool f]) rfl (by kernel_rfl) (by kernel_rfl) (by kernel_rfl) (fun _ _ _ h => h) (by rfl) ?_ (by assumption) ?_
        · intro w hSw; obtain ⟨sq0, sq1, sq2⟩ := hSw; go_simp
        try simp only [Act.put, List.setIfInBounds_toArray, List.set_cons_zero, List.set_cons_succ]
        refine wpAnyH_ready (rs := [4, 21]) (by kernel_rfl) (by simp) ?_
        refine (AllReadyH.cons rfl (fun K hK => ?_) (AllReadyH.cons rfl (fun K hK => ?_) AllReadyH.nil))
        · go_simp
          refine hK.out _ _ ?_ (fun hHeld => ?_)
          · go_keep
          clear hK K
          try simp only [Act.put, List.setIfInBounds_toArray, List.set_cons_zero, List.set_cons_succ]
          refine wpAnyH_ready (rs := [21]) (by kernel_rfl) (by simp) ?_
          refine (AllReadyH.cons rfl (fun K hK => ?_) AllReadyH.nil)
          go_simp
          refine hK.out _ _ ?_ (fun hHeld => ?_)
          · go_keep
          clear hK K
          try simp only [Act.put, List.setIfInBounds_toArray, List.set_cons_zero, List.set_cons_succ]
          refine wpAnyH_ready (rs := [22]) (by kernel_rfl) (by simp) ?_
          refine (AllReadyH.cons rfl (fun K hK => ?_) AllReadyH.nil)
          refine step_append_lies _ rfl (.tmp 34) (.tmp 51) 71 rfl w.heap.size 74 i1 _ 3 40 Tryz.underlying71 hi1 hy0 hy1 hy2 rfl (by decide) (.slice A1 Tk.length cap1) Tk.length (tabC Tk) (by simp [Act.eval, Act.put]) HOWR.out ⟨W4.heap.size, 0, none⟩ 1 1 [.string ⟨n.toArray⟩, .string ⟨x.toArray⟩, .bool f] (by simp [Act.eval, Act.put]) rfl (HNW.out W4.drew _ _ _ _) (by simp [Value.oneCell']) (by omega) h63 hbytes (by simp; omega) (W4.heap.size + 1) (by simp) ?_
          intro gb capm w5 hown5 hgrow5 hat5 hlt5
          have hgrow5 : (W4.drew.alloc (.cells #[.string ⟨n.toArray⟩, .string ⟨x.toArray⟩, .bool f] TRP)).grownBy w5 _ := hgrow5
          have kb5 := (HRD4.out.bk.alloc _).grown hgrow5 HRD4.out.ne1
          have g5 := kb5.cell 0 _ rfl
          have f5 := kb5.free 0
          have p0 := grow_cell hgrow5 HNE.out (show W4.drew.cell? _ = _ from q0)
          have p1 := grow_cell hgrow5 HNE.out (show W4.drew.cell? _ = _ from q1)
          have p2 := grow_cell hgrow5 HNE.out (show W4.drew.cell? _ = _ from q2)
          have HOW5 := hid hown5
          have HGR5 := hid hgrow5
          have HAT5 := hid hat5
          clear hown5 hgrow5 hat5 kb5
          refine hK.out _ _ ?_ (fun hHeld => ?_)
          · exact ⟨p0, p1, p2⟩
          clear hK K
          try simp only [Act.put, List.setIfInBounds_toArray, List.set_cons_zero, List.set_cons_succ]
          refine takeYes (i := 23) (v := .pointer (some ⟨w.heap.size + 1, 0, none⟩)) rfl (by kernel_rfl) (by kernel_rfl) (by kernel_rfl) (fun _ _ _ h => h) (by rfl) ?_ (by assumption) ?_
          · intro w hSw; obtain ⟨sq0, sq1, sq2⟩ := hSw; go_simp
          try simp only [Act.put, List.setIfInBounds_toArray, List.set_cons_zero, List.set_cons_succ]
          refine takeYes (i := 24) (v := .pointer (some ⟨w.heap.size + 1, 0, none⟩)) rfl (by kernel_rfl) (by kernel_rfl) (by kernel_rfl) (fun _ _ _ h => h) (by rfl) ?_ (by assumption) ?_
          · intro w hSw; obtain ⟨sq0, sq1, sq2⟩ := hSw; go_simp
          try simp only [Act.put, List.setIfInBounds_toArray, List.set_cons_zero, List.set_cons_succ]
          refine wpAnyH_ready (rs := [25]) (by kernel_rfl) (by simp) ?_
          refine (AllReadyH.cons rfl (fun K hK => ?_) AllReadyH.nil)
          go_simp
          refine hK.out _ _ ?_ (fun hHeld => ?_)
          · exact ⟨(World.cell?_setCell_far _ _ _ _ HNB2.out).trans p0, (World.cell?_setCell_far _ _ _ _ HNB2.out).trans p1, (World.cell?_setCell_far _ _ _ _ HNB2.out).trans p2⟩
          clear hK K
          try simp only [Act.put, List.setIfInBounds_toArray, List.set_cons_zero, List.set_cons_succ]
          refine wpAnyH_done (by kernel_rfl) ?_ _
          have HP := rtab_app (p := (n, x, f)) HRD4.out HOW5.out HGR5.out HAT5.out
          obtain ⟨W6, hW6⟩ : ∃ W6, W6 = w5.setCell ⟨w.heap.size + 1, 0, none⟩ (.slice (some ⟨gb, 0, none⟩) (Tk.length + 1) capm) := ⟨_, rfl⟩
          rw [← hW6] at HP
          rw [← hW6]
          clear hW6
          have HST6 := hid ((RStep.below HBD4.out).trans HP.1)
          have HR6 := hid HP.2
          have HT6 := hid (HT4.out.rstep HR4.out HST6.out)
          have HB6 := hid (HB4.out.trans (HST6.out.belowOf (B0 := w.heap.size) (by omega) (fun b hb => (HR4.out.lt1 b hb).2) (fun b hb => (HR4.out.lt2 b hb).2) HB4.out.size))
          rw [← HTK1.out] at HR6 HT6
          clear HP g5 f5 p0 p1 p2 hnb
          go_wp2_with fail
          go_roundw
          case rel => first | exact ⟨k + 1, _, _, by omega, rfl, HT6, HR6, HB6⟩ | ((repeat apply Exists.intro); exact ⟨⟨k + 1, _, _, by omega, rfl, HT6, HR6, HB6⟩, rfl⟩) | fail
          case measure => simp [intOf]; omega
        · go_simp
          refine hK.out _ _ ?_ (fun hHeld => ?_)
          · go_keep
          clear hK K
          try simp only [Act.put, List.setIfInBounds_toArray, List.set_cons_zero, List.set_cons_succ]
          refine wpAnyH_ready (rs := [4]) (by kernel_rfl) (by simp) ?_
          refine (AllReadyH.cons rfl (fun K hK => ?_) AllReadyH.nil)
          go_simp
          refine hK.out _ _ ?_ (fun hHeld => ?_)
          · go_keep
          clear hK K
          try simp only [Act.put, List.setIfInBounds_toArray, List.set_cons_zero, List.set_cons_succ]
          refine wpAnyH_ready (rs := [22]) (by kernel_rfl) (by simp) ?_
          refine (AllReadyH.cons rfl (fun K hK => ?_) AllReadyH.nil)
          refine step_append_lies _ rfl (.tmp 34) (.tmp 51) 71 rfl w.heap.size 74 i1 _ 3 40 Tryz.underlying71 hi1 hy0 hy1 hy2 rfl (by decide) (.slice A1 Tk.length cap1) Tk.length (tabC Tk) (by simp [Act.eval, Act.put]) HOWR.out ⟨W4.heap.size, 0, none⟩ 1 1 [.string ⟨n.toArray⟩, .string ⟨x.toArray⟩, .bool f] (by simp [Act.eval, Act.put]) rfl (HNW.out W4.drew _ _ _ _) (by simp [Value.oneCell']) (by omega) h63 hbytes (by simp; omega) (W4.heap.size + 1) (by simp) ?_
          intro gb capm w5 hown5 hgrow5 hat5 hlt5
          have hgrow5 : (W4.drew.alloc (.cells #[.string ⟨n.toArray⟩, .string ⟨x.toArray⟩, .bool f] TRP)).grownBy w5 _ := hgrow5
          have kb5 := (HRD4.out.bk.alloc _).grown hgrow5 HRD4.out.ne1
          have g5 := kb5.cell 0 _ rfl
          have f5 := kb5.free 0
          have p0 := grow_cell hgrow5 HNE.out (show W4.drew.cell? _ = _ from q0)
          have p1 := grow_cell hgrow5 HNE.out (show W4.drew.cell? _ = _ from q1)
          have p2 := grow_cell hgrow5 HNE.out (show W4.drew.cell? _ = _ from q2)
          have HOW5 := hid hown5
          have HGR5 := hid hgrow5
          have HAT5 := hid hat5
          clear hown5 hgrow5 hat5 kb5
          refine hK.out _ _ ?_ (fun hHeld => ?_)
          · exact ⟨p0, p1, p2⟩
          clear hK K
          try simp only [Act.put, List.setIfInBounds_toArray, List.set_cons_zero, List.set_cons_succ]
          refine takeYes (i := 23) (v := .pointer (some ⟨w.heap.size + 1, 0, none⟩)) rfl (by kernel_rfl) (by kernel_rfl) (by kernel_rfl) (fun _ _ _ h => h) (by rfl) ?_ (by assumption) ?_
          · intro w hSw; obtain ⟨sq0, sq1, sq2⟩ := hSw; go_simp
          try simp only [Act.put, List.setIfInBounds_toArray, List.set_cons_zero, List.set_cons_succ]
          refine takeYes (i := 24) (v := .pointer (some ⟨w.heap.size + 1, 0, none⟩)) rfl (by kernel_rfl) (by kernel_rfl) (by kernel_rfl) (fun _ _ _ h => h) (by rfl) ?_ (by assumption) ?_
          · intro w hSw; obtain ⟨sq0, sq1, sq2⟩ := hSw; go_simp
          try simp only [Act.put, List.setIfInBounds_toArray, List.set_cons_zero, List.set_cons_succ]
          refine wpAnyH_ready (rs := [25]) (by kernel_rfl) (by simp) ?_
          refine (AllReadyH.cons rfl (fun K hK => ?_) AllReadyH.nil)
          go_simp
          refine hK.out _ _ ?_ (fun hHeld => ?_)
          · exact ⟨(World.cell?_setCell_far _ _ _ _ HNB2.out).trans p0, (World.cell?_setCell_far _ _ _ _ HNB2.out).trans p1, (World.cell?_setCell_far _ _ _ _ HNB2.out).trans p2⟩
          clear hK K
          try simp only [Act.put, List.setIfInBounds_toArray, List.set_cons_zero, List.set_cons_succ]
          refine wpAnyH_done (by kernel_rfl) ?_ _
          have HP := rtab_app (p := (n, x, f)) HRD4.out HOW5.out HGR5.out HAT5.out
          obtain ⟨W6, hW6⟩ : ∃ W6, W6 = w5.setCell ⟨w.heap.size + 1, 0, none⟩ (.slice (some ⟨gb, 0, none⟩) (Tk.length + 1) capm) := ⟨_, rfl⟩
          rw [← hW6] at HP
          rw [← hW6]
          clear hW6
          have HST6 := hid ((RStep.below HBD4.out).trans HP.1)
          have HR6 := hid HP.2
          have HT6 := hid (HT4.out.rstep HR4.out HST6.out)
          have HB6 := hid (HB4.out.trans (HST6.out.belowOf (B0 := w.heap.size) (by omega) (fun b hb => (HR4.out.lt1 b hb).2) (fun b hb => (HR4.out.lt2 b hb).2) HB4.out.size))
          rw [← HTK1.out] at HR6 HT6
          clear HP g5 f5 p0 p1 p2 hnb
          go_wp2_with fail
          go_roundw
          case rel => first | exact ⟨k + 1, _, _, by omega, rfl, HT6, HR6, HB6⟩ | ((repeat apply Exists.intro); exact ⟨⟨k + 1, _, _, by omega, rfl, HT6, HR6, HB6⟩, rfl⟩) | fail
          case measure => simp [intOf]; omega
      · go_simp
        refine hK.out _ _ ?_ (fun hHeld => ?_)
        · go_keep
        clear hK K
        try simp only [Act.put, List.setIfInBounds_toArray, List.set_cons_zero, List.set_cons_succ]
        refine wpAnyH_ready (rs := [4]) (by kernel_rfl) (by simp) ?_
        refine (AllReadyH.cons rfl (fun K hK => ?_) AllReadyH.nil)
        go_simp
        refine hK.out _ _ ?_ (fun hHeld => ?_)
        · go_keep
        clear hK K
        try simp only [Act.put, List.setIfInBounds_toArray, List.set_cons_zero, List.set_cons_succ]
        refine wpAnyH_ready (rs := [10]) (by kernel_rfl) (by simp) ?_
        refine (AllReadyH.cons rfl (fun K hK => ?_) AllReadyH.nil)
        refine step_append_lies _ rfl (.tmp 21) (.tmp 26) 39 rfl w.heap.size 52 i0 _ 3 40 Tryz.underlying39 hi0 hz0 hz1 hz2 rfl (by decide) (.slice A' Tk.length cap') Tk.length (tabC Tk) (by simp [Act.eval, Act.put]) HOWA.out ⟨wr.heap.size, 0, none⟩ 1 1 [.string ⟨n.toArray⟩, .string ⟨x.toArray⟩, .bool f] (by simp [Act.eval, Act.put]) rfl (HNW.out wr.drew _ _ _ _) (by simp [Value.oneCell']) (by omega) h63 hbytes (by simp; omega) (wr.heap.size + 1) (by simp) ?_
        intro ga capn w3 hown3 hgrow hat hlt3
        have hgrow : (wr.drew.alloc (.cells #[.string ⟨n.toArray⟩, .string ⟨x.toArray⟩, .bool f] TPr)).grownBy w3 _ := hgrow
        have kb3 := (HTD.out.1.alloc _).grown hgrow HTD.out.ne
        have g3 := kb3.cell 0 _ rfl
        have f3 := kb3.free 0
        have p0 := grow_cell hgrow HNG.out (show wr.drew.cell? _ = _ from q0)
        have p1 := grow_cell hgrow HNG.out (show wr.drew.cell? _ = _ from q1)
        have p2 := grow_cell hgrow HNG.out (show wr.drew.cell? _ = _ from q2)
        have HOW3 := hid hown3
        have HGR := hid hgrow
        have HAT := hid hat
        clear hown3 hgrow hat kb3
        refine hK.out _ _ ?_ (fun hHeld => ?_)
        · exact ⟨p0, p1, p2⟩
        clear hK K
        try simp only [Act.put, List.setIfInBounds_toArray, List.set_cons_zero, List.set_cons_succ]
        refine takeYes (i := 11) (v := .pointer (some ⟨w.heap.size, 0, none⟩)) rfl (by kernel_rfl) (by kernel_rfl) (by kernel_rfl) (fun _ _ _ h => h) (by rfl) ?_ (by assumption) ?_
        · intro w hSw; obtain ⟨sq0, sq1, sq2⟩ := hSw; go_simp
        try simp only [Act.put, List.setIfInBounds_toArray, List.set_cons_zero, List.set_cons_succ]
        refine takeYes (i := 12) (v := .pointer (some ⟨w.heap.size, 0, none⟩)) rfl (by kernel_rfl) (by kernel_rfl) (by kernel_rfl) (fun _ _ _ h => h) (by rfl) ?_ (by assumption) ?_
        · intro w hSw; obtain ⟨sq0, sq1, sq2⟩ := hSw; go_simp
        try simp only [Act.put, List.setIfInBounds_toArray, List.set_cons_zero, List.set_cons_succ]
        refine wpAnyH_ready (rs := [13]) (by kernel_rfl) (by simp) ?_
        refine (AllReadyH.cons rfl (fun K hK => ?_) AllReadyH.nil)
        go_simp
        refine hK.out _ _ ?_ (fun hHeld => ?_)
        · exact ⟨(World.cell?_setCell_far _ _ _ _ HNB1.out).trans p0, (World.cell?_setCell_far _ _ _ _ HNB1.out).trans p1, (World.cell?_setCell_far _ _ _ _ HNB1.out).trans p2⟩
        clear hK K
        try simp only [Act.put, List.setIfInBounds_toArray, List.set_cons_zero, List.set_cons_succ]
        refine wpAnyH_done (by kernel_rfl) ?_ _
        have HP := tab_app (p := (n, x, f)) HTD.out HOW3.out HGR.out HAT.out
        obtain ⟨W4, hW4⟩ : ∃ W4, W4 = w3.setCell ⟨w.heap.size, 0, none⟩ (.slice (some ⟨ga, 0, none⟩) (Tk.length + 1) capn) := ⟨_, rfl⟩
        rw [← hW4] at HP
        rw [← hW4]
        clear hW4
        have HST4 := hid ((TStep.below HBD.out).trans HP.1)
        have HT4 := hid HP.2
        have HR4 := hid (HR.out.tstep HT.out HST4.out)
        have HB4 := hid (HB.out.trans (HST4.out.belowOf (B0 := w.heap.size) (Nat.le_refl _) (fun b hb => HT.out.own_ge b hb) HB.out.size))
        have q0 := cell_step HST4.out ⟨HQG.out.1, HQG.out.2.1, HQG.out.2.2⟩ q0
        have q1 := cell_step HST4.out ⟨HQG.out.1, HQG.out.2.1, HQG.out.2.2⟩ q1
        have q2 := cell_step HST4.out ⟨HQG.out.1, HQG.out.2.1, HQG.out.2.2⟩ q2
        have h0 := HR4.out.bk.cell 0 _ rfl
        have hhl := HR4.out.bk.lt
        have HBD4 := hid (show Below W4.heap.size W4 W4.drew from (Below.refl W4.heap.size W4).drew)
        have HRD4 := hid (HR4.out.below HBD4.out)
        have HOWR := hid (own_below HRD4.out.own ((Below.refl _ _).alloc (Nat.le_refl _) (.cells #[.string ⟨n.toArray⟩, .string ⟨x.toArray⟩, .bool f] TRP)))
        have hgl4 := HT4.out.1.lt
        have HNE : Hid (some b ≠ (Value.slice A1 Tk.length cap1).ownBlock) := hid (fun e => by have := (HR4.out.lt1 b e.symm).2; have := HBW.out; omega)
        have hnb := HBN.out
        clear HP g3 f3 g0 hgl p0 p1 p2
        go_wp2_with fail
        refine wp_region_held_drew (S := (fun w' => w'.cell? ⟨b, off + k * 3, none⟩ = some (.string ⟨n.toArray⟩) ∧ w'.cell? ⟨b, off + k * 3 + 1, none⟩ = some (.string ⟨x.toArray⟩) ∧ w'.cell? ⟨b, off + k * 3 + 2, none⟩ = some (.bool f))) (by kernel_rfl) ⟨q0, q1, q2⟩ (fun hHeld => ?_)
        refine takeYes (i := 0) (v := .pointer (some ⟨w.heap.size + 1, 0, none⟩)) rfl (by kernel_rfl) (by kernel_rfl) (by kernel_rfl) (fun _ _ _ h => h) (by rfl) ?_ (by assumption) ?_
        · intro w hSw; obtain ⟨sq0, sq1, sq2⟩ := hSw; go_simp
        try simp only [Act.put, List.setIfInBounds_toArray, List.set_cons_zero, List.set_cons_succ]
        refine takeYes (i := 1) (v := .pointer (some ⟨w.heap.size + 1, 0, none⟩)) rfl (by kernel_rfl) (by kernel_rfl) (by kernel_rfl) (fun _ _ _ h => h) (by rfl) ?_ (by assumption) ?_
        · intro w hSw; obtain ⟨sq0, sq1, sq2⟩ := hSw; go_simp
        try simp only [Act.put, List.setIfInBounds_toArray, List.set_cons_zero, List.set_cons_succ]
        refine takeYes (i := 2) (v := .pointer (some ⟨w.heap.size + 1, 0, none⟩)) rfl (by kernel_rfl) (by kernel_rfl) (by kernel_rfl) (fun _ _ _ h => h) (by rfl) ?_ (by assumption) ?_
        · intro w hSw; obtain ⟨sq0, sq1, sq2⟩ := hSw; go_simp
        try simp only [Act.put, List.setIfInBounds_toArray, List.set_cons_zero, List.set_cons_succ]
        refine takeYes (i := 3) (v := .pointer (some ⟨w.heap.size + 1, 0, none⟩)) rfl (by kernel_rfl) (by kernel_rfl) (by kernel_rfl) (fun _ _ _ h => h) (by rfl) ?_ (by assumption) ?_
        · intro w hSw; obtain ⟨sq0, sq1, sq2⟩ := hSw; go_simp
        try simp only [Act.put, List.setIfInBounds_toArray, List.set_cons_zero, List.set_cons_succ]
        refine takeYes (i := 5) (v := .slice (some ⟨b, off, none⟩) T.length cap) rfl (by kernel_rfl) (by kernel_rfl) (by kernel_rfl) (fun _ _ _ h => h) (by rfl) ?_ (by assumption) ?_
        · intro w hSw; obtain ⟨sq0, sq1, sq2⟩ := hSw; go_simp
        try simp only [Act.put, List.setIfInBounds_toArray, List.set_cons_zero, List.set_cons_succ]
        refine takeYes (i := 6) (v := .int .i64 (k : Int)) rfl (by kernel_rfl) (by kernel_rfl) (by kernel_rfl) (fun _ _ _ h => h) (by rfl) ?_ (by assumption) ?_
        · intro w hSw; obtain ⟨sq0, sq1, sq2⟩ := hSw; go_simp
        try simp only [Act.put, List.setIfInBounds_toArray, List.set_cons_zero, List.set_cons_succ]
        refine takeYes (i := 7) (v := .pointer (some ⟨b, off + k * 3, none⟩)) rfl (by kernel_rfl) (by kernel_rfl) (by kernel_rfl) (fun _ _ _ h => h) (by rfl) ?_ (by assumption) ?_
        · intro w hSw; obtain ⟨sq0, sq1, sq2⟩ := hSw; go_simp
        try simp only [Act.put, List.setIfInBounds_toArray, List.set_cons_zero, List.set_cons_succ]
        refine takeYes (i := 8) (v := .pointer (some ⟨b, off + k * 3, none⟩)) rfl (by kernel_rfl) (by kernel_rfl) (by kernel_rfl) (fun _ _ _ h => h) (by rfl) ?_ (by assumption) ?_
        · intro w hSw; obtain ⟨sq0, sq1, sq2⟩ := hSw; go_simp
        try simp only [Act.put, List.setIfInBounds_toArray, List.set_cons_zero, List.set_cons_succ]
        refine takeYes (i := 9) (v := .string ⟨n.toArray⟩) rfl (by kernel_rfl) (by kernel_rfl) (by kernel_rfl) (fun _ _ _ h => h) (by rfl) ?_ (by assumption) ?_
        · intro w hSw; obtain ⟨sq0, sq1, sq2⟩ := hSw; go_simp
        try simp only [Act.put, List.setIfInBounds_toArray, List.set_cons_zero, List.set_cons_succ]
        refine takeYes (i := 10) (v := .slice (some ⟨b, off, none⟩) T.length cap) rfl (by kernel_rfl) (by kernel_rfl) (by kernel_rfl) (fun _ _ _ h => h) (by rfl) ?_ (by assumption) ?_
        · intro w hSw; obtain ⟨sq0, sq1, sq2⟩ := hSw; go_simp
        try simp only [Act.put, List.setIfInBounds_toArray, List.set_cons_zero, List.set_cons_succ]
        refine takeYes (i := 11) (v := .int .i64 (k : Int)) rfl (by kernel_rfl) (by kernel_rfl) (by kernel_rfl) (fun _ _ _ h => h) (by rfl) ?_ (by assumption) ?_
        · intro w hSw; obtain ⟨sq0, sq1, sq2⟩ := hSw; go_simp
        try simp only [Act.put, List.setIfInBounds_toArray, List.set_cons_zero, List.set_cons_succ]
        refine takeYes (i := 12) (v := .pointer (some ⟨b, off + k * 3, none⟩)) rfl (by kernel_rfl) (by kernel_rfl) (by kernel_rfl) (fun _ _ _ h => h) (by rfl) ?_ (by assumption) ?_
        · intro w hSw; obtain ⟨sq0, sq1, sq2⟩ := hSw; go_simp
        try simp only [Act.put, List.setIfInBounds_toArray, List.set_cons_zero, List.set_cons_succ]
        refine takeYes (i := 13) (v := .pointer (some ⟨b, off + k * 3 + 1, none⟩)) rfl (by kernel_rfl) (by kernel_rfl) (by kernel_rfl) (fun _ _ _ h => h) (by rfl) ?_ (by assumption) ?_
        · intro w hSw; obtain ⟨sq0, sq1, sq2⟩ := hSw; go_simp
        try simp only [Act.put, List.setIfInBounds_toArray, List.set_cons_zero, List.set_cons_succ]
        refine takeYes (i := 14) (v := .string ⟨x.toArray⟩) rfl (by kernel_rfl) (by kernel_rfl) (by kernel_rfl) (fun _ _ _ h => h) (by rfl) ?_ (by assumption) ?_
        · intro w hSw; obtain ⟨sq0, sq1, sq2⟩ := hSw; go_simp
        try simp only [Act.put, List.setIfInBounds_toArray, List.set_cons_zero, List.set_cons_succ]
        refine takeYes (i := 15) (v := .slice (some ⟨b, off, none⟩) T.length cap) rfl (by kernel_rfl) (by kernel_rfl) (by kernel_rfl) (fun _ _ _ h => h) (by rfl) ?_ (by assumption) ?_
        · intro w hSw; obtain ⟨sq0, sq1, sq2⟩ := hSw; go_simp
        try simp only [Act.put, List.setIfInBounds_toArray, List.set_cons_zero, List.set_cons_succ]
        refine takeYes (i := 16) (v := .int .i64 (k : Int)) rfl (by kernel_rfl) (by kernel_rfl) (by kernel_rfl) (fun _ _ _ h => h) (by rfl) ?_ (by assumption) ?_
        · intro w hSw; obtain ⟨sq0, sq1, sq2⟩ := hSw; go_simp
        try simp only [Act.put, List.setIfInBounds_toArray, List.set_cons_zero, List.set_cons_succ]
        refine takeYes (i := 17) (v := .pointer (some ⟨b, off + k * 3, none⟩)) rfl (by kernel_rfl) (by kernel_rfl) (by kernel_rfl) (fun _ _ _ h => h) (by rfl) ?_ (by assumption) ?_
        · intro w hSw; obtain ⟨sq0, sq1, sq2⟩ := hSw; go_simp
        try simp only [Act.put, List.setIfInBounds_toArray, List.set_cons_zero, List.set_cons_succ]
        refine takeYes (i := 18) (v := .pointer (some ⟨b, off + k * 3 + 2, none⟩)) rfl (by kernel_rfl) (by kernel_rfl) (by kernel_rfl) (fun _ _ _ h => h) (by rfl) ?_ (by assumption) ?_
        · intro w hSw; obtain ⟨sq0, sq1, sq2⟩ := hSw; go_simp
        try simp only [Act.put, List.setIfInBounds_toArray, List.set_cons_zero, List.set_cons_succ]
        refine takeYes (i := 19) (v := .bool f) rfl (by kernel_rfl) (by kernel_rfl) (by kernel_rfl) (fun _ _ _ h => h) (by rfl) ?_ (by assumption) ?_
        · intro w hSw; obtain ⟨sq0, sq1, sq2⟩ := hSw; go_simp
        try simp only [Act.put, List.setIfInBounds_toArray, List.set_cons_zero, List.set_cons_succ]
        refine takeYes (i := 20) (v := .agg #[.string ⟨n.toArray⟩, .string ⟨x.toArray⟩, .bool f]) rfl (by kernel_rfl) (by kernel_rfl) (by kernel_rfl) (fun _ _ _ h => h) (by rfl) ?_ (by assumption) ?_
        · intro w hSw; obtain ⟨sq0, sq1, sq2⟩ := hSw; go_simp
        try simp only [Act.put, List.setIfInBounds_toArray, List.set_cons_zero, List.set_cons_succ]
        refine wpAnyH_ready (rs := [4, 21]) (by kernel_rfl) (by simp) ?_
        refine (AllReadyH.cons rfl (fun K hK => ?_) (AllReadyH.cons rfl (fun K hK => ?_) AllReadyH.nil))
        · go_simp
          refine hK.out _ _ ?_ (fun hHeld => ?_)
          · go_keep
          clear hK K
          try simp only [Act.put, List.setIfInBounds_toArray, List.set_cons_zero, List.set_cons_succ]
          refine wpAnyH_ready (rs := [21]) (by kernel_rfl) (by simp) ?_
          refine (AllReadyH.cons rfl (fun K hK => ?_) AllReadyH.nil)
          go_simp
          refine hK.out _ _ ?_ (fun hHeld => ?_)
          · go_keep
          clear hK K
          try simp only [Act.put, List.setIfInBounds_toArray, List.set_cons_zero, List.set_cons_succ]
          refine wpAnyH_ready (rs := [22]) (by kernel_rfl) (by simp) ?_
          refine (AllReadyH.cons rfl (fun K hK => ?_) AllReadyH.nil)
          refine step_append_lies _ rfl (.tmp 34) (.tmp 51) 71 rfl w.heap.size 74 i1 _ 3 40 Tryz.underlying71 hi1 hy0 hy1 hy2 rfl (by decide) (.slice A1 Tk.length cap1) Tk.length (tabC Tk) (by simp [Act.eval, Act.put]) HOWR.out ⟨W4.heap.size, 0, none⟩ 1 1 [.string ⟨n.toArray⟩, .string ⟨x.toArray⟩, .bool f] (by simp [Act.eval, Act.put]) rfl (HNW.out W4.drew _ _ _ _) (by simp [Value.oneCell']) (by omega) h63 hbytes (by simp; omega) (W4.heap.size + 1) (by simp) ?_
          intro gb capm w5 hown5 hgrow5 hat5 hlt5
          have hgrow5 : (W4.drew.alloc (.cells #[.string ⟨n.toArray⟩, .string ⟨x.toArray⟩, .bool f] TRP)).grownBy w5 _ := hgrow5
          have kb5 := (HRD4.out.bk.alloc _).grown hgrow5 HRD4.out.ne1
          have g5 := kb5.cell 0 _ rfl
          have f5 := kb5.free 0
          have p0 := grow_cell hgrow5 HNE.out (show W4.drew.cell? _ = _ from q0)
          have p1 := grow_cell hgrow5 HNE.out (show W4.drew.cell? _ = _ from q1)
          have p2 := grow_cell hgrow5 HNE.out (show W4.drew.cell? _ = _ from q2)
          have HOW5 := hid hown5
          have HGR5 := hid hgrow5
          have HAT5 := hid hat5
          clear hown5 hgrow5 hat5 kb5
          refine hK.out _ _ ?_ (fun hHeld => ?_)
          · exact ⟨p0, p1, p2⟩
          clear hK K
          try simp only [Act.put, List.setIfInBounds_toArray, List.set_cons_zero, List.set_cons_succ]
          refine takeYes (i := 23) (v := .pointer (some ⟨w.heap.size + 1, 0, none⟩)) rfl (by kernel_rfl) (by kernel_rfl) (by kernel_rfl) (fun _ _ _ h => h) (by rfl) ?_ (by assumption) ?_
          · intro w hSw; obtain ⟨sq0, sq1, sq2⟩ := hSw; go_simp
          try simp only [Act.put, List.setIfInBounds_toArray, List.set_cons_zero, List.set_cons_succ]
          refine takeYes (i := 24) (v := .pointer (some ⟨w.heap.size + 1, 0, none⟩)) rfl (by kernel_rfl) (by kernel_rfl) (by kernel_rfl) (fun _ _ _ h => h) (by rfl) ?_ (by assumption) ?_
          · intro w hSw; obtain ⟨sq0, sq1, sq2⟩ := hSw; go_simp
          try simp only [Act.put, List.setIfInBounds_toArray, List.set_cons_zero, List.set_cons_succ]
          refine wpAnyH_ready (rs := [25]) (by kernel_rfl) (by simp) ?_
          refine (AllReadyH.cons rfl (fun K hK => ?_) AllReadyH.nil)
          go_simp
          refine hK.out _ _ ?_ (fun hHeld => ?_)
          · exact ⟨(World.cell?_setCell_far _ _ _ _ HNB2.out).trans p0, (World.cell?_setCell_far _ _ _ _ HNB2.out).trans p1, (World.cell?_setCell_far _ _ _ _ HNB2.out).trans p2⟩
          clear hK K
          try simp only [Act.put, List.setIfInBounds_toArray, List.set_cons_zero, List.set_cons_succ]
          refine wpAnyH_done (by kernel_rfl) ?_ _
          have HP := rtab_app (p := (n, x, f)) HRD4.out HOW5.out HGR5.out HAT5.out
          obtain ⟨W6, hW6⟩ : ∃ W6, W6 = w5.setCell ⟨w.heap.size + 1, 0, none⟩ (.slice (some ⟨gb, 0, none⟩) (Tk.length + 1) capm) := ⟨_, rfl⟩
          rw [← hW6] at HP
          rw [← hW6]
          clear hW6
          have HST6 := hid ((RStep.below HBD4.out).trans HP.1)
          have HR6 := hid HP.2
          have HT6 := hid (HT4.out.rstep HR4.out HST6.out)
          have HB6 := hid (HB4.out.trans (HST6.out.belowOf (B0 := w.heap.size) (by omega) (fun b hb => (HR4.out.lt1 b hb).2) (fun b hb => (HR4.out.lt2 b hb).2) HB4.out.size))
          rw [← HTK1.out] at HR6 HT6
          clear HP g5 f5 p0 p1 p2 hnb
          go_wp2_with fail
          go_roundw
          case rel => first | exact ⟨k + 1, _, _, by omega, rfl, HT6, HR6, HB6⟩ | ((repeat apply Exists.intro); exact ⟨⟨k + 1, _, _, by omega, rfl, HT6, HR6, HB6⟩, rfl⟩) | fail
          case measure => simp [intOf]; omega
        · go_simp
          refine hK.out _ _ ?_ (fun hHeld => ?_)
          · go_keep
          clear hK K
          try simp only [Act.put, List.setIfInBounds_toArray, List.set_cons_zero, List.set_cons_succ]
          refine wpAnyH_ready (rs := [4]) (by kernel_rfl) (by simp) ?_
          refine (AllReadyH.cons rfl (fun K hK => ?_) AllReadyH.nil)
          go_simp
          refine hK.out _ _ ?_ (fun hHeld => ?_)
          · go_keep
          clear hK K
          try simp only [Act.put, List.setIfInBounds_toArray, List.set_cons_zero, List.set_cons_succ]
          refine wpAnyH_ready (rs := [22]) (by kernel_rfl) (by simp) ?_
          refine (AllReadyH.cons rfl (fun K hK => ?_) AllReadyH.nil)
          refine step_append_lies _ rfl (.tmp 34) (.tmp 51) 71 rfl w.heap.size 74 i1 _ 3 40 Tryz.underlying71 hi1 hy0 hy1 hy2 rfl (by decide) (.slice A1 Tk.length cap1) Tk.length (tabC Tk) (by simp [Act.eval, Act.put]) HOWR.out ⟨W4.heap.size, 0, none⟩ 1 1 [.string ⟨n.toArray⟩, .string ⟨x.toArray⟩, .bool f] (by simp [Act.eval, Act.put]) rfl (HNW.out W4.drew _ _ _ _) (by simp [Value.oneCell']) (by omega) h63 hbytes (by simp; omega) (W4.heap.size + 1) (by simp) ?_
          intro gb capm w5 hown5 hgrow5 hat5 hlt5
          have hgrow5 : (W4.drew.alloc (.cells #[.string ⟨n.toArray⟩, .string ⟨x.toArray⟩, .bool f] TRP)).grownBy w5 _ := hgrow5
          have kb5 := (HRD4.out.bk.alloc _).grown hgrow5 HRD4.out.ne1
          have g5 := kb5.cell 0 _ rfl
          have f5 := kb5.free 0
          have p0 := grow_cell hgrow5 HNE.out (show W4.drew.cell? _ = _ from q0)
          have p1 := grow_cell hgrow5 HNE.out (show W4.drew.cell? _ = _ from q1)
          have p2 := grow_cell hgrow5 HNE.out (show W4.drew.cell? _ = _ from q2)
          have HOW5 := hid hown5
          have HGR5 := hid hgrow5
          have HAT5 := hid hat5
          clear hown5 hgrow5 hat5 kb5
          refine hK.out _ _ ?_ (fun hHeld => ?_)
          · exact ⟨p0, p1, p2⟩
          clear hK K
          try simp only [Act.put, List.setIfInBounds_toArray, List.set_cons_zero, List.set_cons_succ]
          refine takeYes (i := 23) (v := .pointer (some ⟨w.heap.size + 1, 0, none⟩)) rfl (by kernel_rfl) (by kernel_rfl) (by kernel_rfl) (fun _ _ _ h => h) (by rfl) ?_ (by assumption) ?_
          · intro w hSw; obtain ⟨sq0, sq1, sq2⟩ := hSw; go_simp
          try simp only [Act.put, List.setIfInBounds_toArray, List.set_cons_zero, List.set_cons_succ]
          refine takeYes (i := 24) (v := .pointer (some ⟨w.heap.size + 1, 0, none⟩)) rfl (by kernel_rfl) (by kernel_rfl) (by kernel_rfl) (fun _ _ _ h => h) (by rfl) ?_ (by assumption) ?_
          · intro w hSw; obtain ⟨sq0, sq1, sq2⟩ := hSw; go_simp
          try simp only [Act.put, List.setIfInBounds_toArray, List.set_cons_zero, List.set_cons_succ]
          refine wpAnyH_ready (rs := [25]) (by kernel_rfl) (by simp) ?_
          refine (AllReadyH.cons rfl (fun K hK => ?_) AllReadyH.nil)
          go_simp
          refine hK.out _ _ ?_ (fun hHeld => ?_)
          · exact ⟨(World.cell?_setCell_far _ _ _ _ HNB2.out).trans p0, (World.cell?_setCell_far _ _ _ _ HNB2.out).trans p1, (World.cell?_setCell_far _ _ _ _ HNB2.out).trans p2⟩
          clear hK K
          try simp only [Act.put, List.setIfInBounds_toArray, List.set_cons_zero, List.set_cons_succ]
          refine wpAnyH_done (by kernel_rfl) ?_ _
          have HP := rtab_app (p := (n, x, f)) HRD4.out HOW5.out HGR5.out HAT5.out
          obtain ⟨W6, hW6⟩ : ∃ W6, W6 = w5.setCell ⟨w.heap.size + 1, 0, none⟩ (.slice (some ⟨gb, 0, none⟩) (Tk.length + 1) capm) := ⟨_, rfl⟩
          rw [← hW6] at HP
          rw [← hW6]
          clear hW6
          have HST6 := hid ((RStep.below HBD4.out).trans HP.1)
          have HR6 := hid HP.2
          have HT6 := hid (HT4.out.rstep HR4.out HST6.out)
          have HB6 := hid (HB4.out.trans (HST6.out.belowOf (B0 := w.heap.size) (by omega) (fun b hb => (HR4.out.lt1 b hb).2) (fun b hb => (HR4.out.lt2 b hb).2) HB4.out.size))
          rw [← HTK1.out] at HR6 HT6
          clear HP g5 f5 p0 p1 p2 hnb
          go_wp2_with fail
          go_roundw
          case rel => first | exact ⟨k + 1, _, _, by omega, rfl, HT6, HR6, HB6⟩ | ((repeat apply Exists.intro); exact ⟨⟨k + 1, _, _, by omega, rfl, HT6, HR6, HB6⟩, rfl⟩) | fail
          case measure => simp [intOf]; omega
    · obtain rfl : k = T.length := by omega
      rw [List.take_length] at HT HR
      go_wp2_with fail
      go_ret2
      exact ⟨_, _, _, _, rfl, Nat.le_refl _, by omega, HT.out, HR.out, HB.out⟩
end Go.Proofs.YtadmmmehphhecaaGreatDoor
/- The walk of SumsValues. Rows no longer than what a machine reaches, numbers of 64 bits. -/
namespace Go.Proofs.YtadmmmehphhecaaGreatDoor
open Go.RowKit
/-- an expression that lay there before a table does not lie in it -/
theorem rdx_old {w W : World} {P : Nat → Prop} {g : Nat} {u : Value} {e : Ex} {v : Value} (h : RdX w P e v) (hb : Below w.heap.size w W) (hg : w.heap.size ≤ g) (hu : ∀ b, u.ownBlock = some b → w.heap.size ≤ b) : RdX W (Free W g u) e v :=
  RdX.keep (fun b off x hp hx => by
    have hlt := World.block_lt_of_cell? w _ hx
    dsimp only at hlt
    exact ⟨⟨by omega, fun he => by have := hu b he.symm; omega, Nat.lt_of_lt_of_le hlt hb.size⟩, bel_cell hb hx⟩) e v h
/-- an expression that came later than the reference's table -/
theorem rdx_new {w w' : World} {B g : Nat} {T L : Tab} {u1 u2 : Value} {e : Ex} {v : Value} (hr : RTabAt w B g T L u1 u2) (h : RdX w' (fun b => w.heap.size ≤ b) e v) : RdX w' (RFree w' g u1 u2) e v :=
  RdX.keep (fun b off x hp hx => by
    have h0 := hr.bk.lt
    exact ⟨⟨by omega, fun he => by have := (hr.lt1 b he.symm).1; omega, fun he => by have := (hr.lt2 b he.symm).1; omega, World.block_lt_of_cell? w' _ hx⟩, hx⟩) e v h
/-- both tables are so, beside all that was there -/
structure Both (w0 w : World) (g h B : Nat) (T L : Tab) (u u1 u2 : Value) : Prop where
  t : TabAt w B g T u
  r : RTabAt w B h T L u1 u2
  s : Below w0.heap.size w0 w
theorem Both.below {w0 w w' : World} {g h B : Nat} {T L : Tab} {u u1 u2 : Value} (k : Both w0 w g h B T L u u1 u2) (hb : Below w.heap.size w w') : Both w0 w' g h B T L u u1 u2 :=
  ⟨k.t.below hb, k.r.below hb, bel_step k.s hb⟩
theorem valueF_len (e : Ex) (T : Tab) (ho : okF e = true) (hS : Short T) : (valueF e T).2.2.length ≤ T.length + szF e := by
  have h := (val_good e ho T hS).2.1
  unfold valueF
  split
  · simp
  · cases hv : valF e T with
    | mk r T1 =>
      rw [hv] at h
      cases r <;> exact h
set_option maxRecDepth 100000 in
set_option maxHeartbeats 8000000 in
theorem values_any (e : Ex) (T : Tab) (nm : List UInt8) (w : World) (P : Nat → Prop) (v vl : Value) (hr : RdX w P e v) (hn : numsF e = true) (hw : wideF e = true) (hA : ArgT w T vl) (hL : Laid w) :
    Calls Tryz.prog 5 #[v, vl, .string ⟨nm.toArray⟩] w fun x w' => x = .returned (.bool true) ∧ Below w.heap.size w w' := by
  have HF := hid (few_any e hw)
  have HX := hid hr
  have HA := hid hA
  have HL := hid hL
  have HSZ : Hid (fewF e = true → szF e ≤ 600 ∧ okF e = true) := hid (fun h => ⟨few_sz e hw h, few_ok e hn h⟩)
  obtain ⟨A, cap, rfl, hcap, _⟩ := hr.form
  obtain ⟨Al, capl, rfl, _, _⟩ := hA
  clear hr hL
  have kB := Bk.new w 30 #[.string ⟨e.op.toArray⟩, .int .i64 e.num, .string ⟨e.name.toArray⟩, .slice A e.kids.len cap]
  have hB0 : Below w.heap.size w (w.alloc (.cells #[.string ⟨e.op.toArray⟩, .int .i64 e.num, .string ⟨e.name.toArray⟩, .slice A e.kids.len cap] 30)) := (Below.refl _ _).alloc (Nat.le_refl _) _
  go_enter Tryz.func5, Tryz.ntmps5
  go_wp2_with fail
  obtain ⟨W0, hW0⟩ : ∃ W0, W0 = w.alloc (.cells #[.string ⟨e.op.toArray⟩, .int .i64 e.num, .string ⟨e.name.toArray⟩, .slice A e.kids.len cap] 30) := ⟨_, rfl⟩
  rw [← hW0] at kB hB0
  rw [← hW0]
  clear hW0
  have KB := hid kB
  have HB0 := hid hB0
  clear kB hB0
  ((with_reducible refine (HF.out.call _ P _ (HX.out.below HB0.out)).mono ?_); rintro e1 w1 ⟨rfl, hb1⟩)
  obtain ⟨c0, c1, c2, c3⟩ := KB.out.cells4
  have c0 := bel_cell hb1 c0
  have c1 := bel_cell hb1 c1
  have c2 := bel_cell hb1 c2
  have c3 := bel_cell hb1 c3
  have HB1 := hid (bel_step HB0.out hb1)
  have HE1 : Hid (w.heap.size < w1.heap.size) := hid (by have := KB.out.lt; have := hb1.size; omega)
  clear hb1
  cases hfw : fewF e
  · clear hfw
    go_wp2_with fail
    ((with_reducible refine (awake_any _ (HL.out.below HB1.out) (HL.out.below HB1.out).big).mono ?_); rintro e2 w2 ⟨rfl, hb2⟩)
    go_wp2_with fail
    go_ret
    exact ⟨rfl, bel_step HB1.out hb2⟩
  have HSS := hid (HSZ.out hfw).1
  have HOK := hid (HSZ.out hfw).2
  clear hfw
  go_wp2_with fail
  ((with_reducible refine (pairs_any T _ _ (HA.out.below HB1.out)).mono ?_); rintro e2 w2 ⟨rfl, rfl⟩)
  cases hsb : shortB T
  · clear hsb
    go_wp2_with fail
    ((with_reducible refine (awake_any _ (HL.out.below HB1.out) (HL.out.below HB1.out).big).mono ?_); rintro e2 w2 ⟨rfl, hb2⟩)
    go_wp2_with fail
    go_ret
    exact ⟨rfl, bel_step HB1.out hb2⟩
  have HST := hid (shortB_short hsb)
  clear hsb
  by_cases hnl : 100 < nm.length
  · have hnli : (100 : Int) < (nm.length : Int) := by omega
    clear hnl
    go_wp2_with fail
    ((with_reducible refine (awake_any _ (HL.out.below HB1.out) (HL.out.below HB1.out).big).mono ?_); rintro e2 w2 ⟨rfl, hb2⟩)
    go_wp2_with fail
    go_ret
    exact ⟨rfl, bel_step HB1.out hb2⟩
  have hnli : ¬ (100 : Int) < (nm.length : Int) := by omega
  clear hnl
  go_wp2_with fail
  ((with_reducible refine (tables_any T _ _ (HA.out.below HB1.out) HST.out.1).mono ?_); rintro e2 w2 ⟨g, h, u, u1, rfl, hg, hh, ht, hrt, hb2⟩)
  have c0 := bel_cell hb2 c0
  have c1 := bel_cell hb2 c1
  have c2 := bel_cell hb2 c2
  have c3 := bel_cell hb2 c3
  have HX2 := hid (rdx_old (HX.out.below HB1.out) hb2 hg ht.own_ge)
  have HB2 : Hid (Both w1 w2 g h w1.heap.size T [] u u1 (.slice none 0 0)) := hid ⟨ht, hrt, hb2⟩
  have HL2 := hid ((HL.out.below HB1.out).below hb2)
  have HG1 := hid (HL.out.below HB1.out).big
  have HVI : Hid (VIn w2 g w1.heap.size T u) := hid ⟨ht, HL2.out, HG1.out, by have := HG1.out; unfold GBig at *; omega, HST.out.2⟩
  have hgh : Hid (w1.heap.size ≤ g ∧ w1.heap.size ≤ h) := hid ⟨hg, hh⟩
  have HFE : Hid (Free w2 g u w.heap.size) := hid ⟨by have := HE1.out; omega, fun e => by have := ht.own_ge _ e.symm; have := HE1.out; omega, by have := HE1.out; have := hb2.size; omega⟩
  clear ht hrt hb2 hg hh
  go_wp2_with fail
  ((with_reducible refine (value_any e _ g w1.heap.size T _ _ HX2.out HVI.out (by have := HST.out.1; have := HSS.out; omega) (deep_any 200 (by decide) e (by have := HSS.out; omega)) (val_any e HOK.out)).mono ?_); rintro e3 w3 ⟨u3, hst, htab, rfl⟩)
  obtain ⟨⟨n5, f5, T5⟩, hv5⟩ : ∃ p, p = valueF e T := ⟨_, rfl⟩
  have HV5 := hid hv5.symm
  rw [← hv5] at htab ⊢
  dsimp only at htab ⊢
  clear hv5
  have c0 := cell_step hst HFE.out c0
  have c1 := cell_step hst HFE.out c1
  have c2 := cell_step hst HFE.out c2
  have c3 := cell_step hst HFE.out c3
  have HR3 := hid (HB2.out.r.tstep HB2.out.t hst)
  have HT3 := hid htab
  have HX3 := hid (HX2.out.step hst)
  have HB3 := hid (HB2.out.s.trans (hst.belowOf (B0 := w1.heap.size) hgh.out.1 (fun b hb => HB2.out.t.own_ge b hb) HB2.out.s.size))
  have HL3 := hid ((HL.out.below HB1.out).below HB3.out)
  clear hst htab
  go_wp2_with fail
  ((with_reducible refine ((plain_any e (by have := HSS.out; omega)).call _ _ _ HX3.out).mono ?_); rintro e4 w4 ⟨v4, rfl, hx4, hb4⟩)
  have HX4 := hid (rdx_new HR3.out hx4)
  have HR4 := hid (HR3.out.below hb4)
  have HT4 := hid (HT3.out.below hb4)
  have HB4 := hid (bel_step HB3.out hb4)
  have c0 := bel_cell hb4 c0
  have c1 := bel_cell hb4 c1
  have c2 := bel_cell hb4 c2
  have c3 := bel_cell hb4 c3
  have HE4 : Hid (w.heap.size < w4.heap.size) := hid (by have := HE1.out; have := HB4.out.size; omega)
  clear hx4 hb4
  go_wp2_with fail
  ((with_reducible refine (rValue_any e _ h w1.heap.size T [] _ _ _ HX4.out HR4.out HST.out.2 HOK.out (by have := HST.out.1; have := HSS.out; omega) (by have := HSS.out; simp only [List.length_nil]; omega)).mono ?_); rintro e5 w5 ⟨x1, x2, L5, hst, htab, rfl⟩)
  rw [HV5.out] at htab ⊢
  dsimp only at htab ⊢
  have HR5 := hid htab
  have HT5 := hid (HT4.out.rstep HR4.out hst)
  have HB5 := hid (HB4.out.trans (hst.belowOf (B0 := w1.heap.size) hgh.out.2 (fun b hb => (HR4.out.lt1 b hb).2) (fun b hb => (HR4.out.lt2 b hb).2) HB4.out.size))
  clear hst htab c0 c1 c2 c3
  have HLN := hid (show T5.length ≤ 1000000 by have := valueF_len e T HOK.out HST.out.2; rw [HV5.out] at this; dsimp only at this; have := HST.out.1; have := HSS.out; omega)
  go_wp2_with fail
  ((with_reducible refine (Get_any T5 nm g w1.heap.size u3 _ HT5.out HLN.out).mono ?_); rintro e6 w6 ⟨rfl, hb6⟩)
  have HT6 := hid (HT5.out.below hb6)
  have HR6 := hid (HR5.out.below hb6)
  have HB6 := hid (bel_step HB5.out hb6)
  clear hb6
  go_wp2_with fail
  ((with_reducible refine (rGet_any T5 L5 nm h w1.heap.size x1 x2 _ HR6.out HLN.out).mono ?_); rintro e7 w7 ⟨rfl, rfl⟩)
  obtain ⟨⟨gs, gb⟩, hgf⟩ : ∃ p, p = getF T5 nm := ⟨_, rfl⟩
  rw [← hgf]
  clear hgf
  dsimp only
  go_wp2_with fail
  ((with_reducible refine (same_any T5 L5 g h w1.heap.size w1.heap.size u3 x1 x2 _ HT6.out HR6.out HLN.out).mono ?_); rintro e8 w8 ⟨rfl, hb8⟩)
  have HB8 := hid (bel_step HB6.out hb8)
  clear hb8
  go_wp2_with fail
  ((with_reducible refine (awake_any _ ((HL.out.below HB1.out).below HB8.out) ((HL.out.below HB1.out).below HB8.out).big).mono ?_); rintro e9 w9 ⟨rfl, hb9⟩)
  go_wp2_with fail
  go_ret
  exact ⟨rfl, bel_step HB1.out (bel_step HB8.out hb9)⟩
end Go.Proofs.YtadmmmehphhecaaGreatDoor
/- The last step of each law of this seat: from a walk that returns true and turns nothing below its blocks to the row; what the row lays of the library's variables. No condition. -/
namespace Go.Proofs.YtadmmmehphhecaaGreatDoor
open Go.ChangeShapes Go.WideShapes Go.ChangeAt Go.RowKit
open Go.ChangeMaps (open_string shut_string)

theorem Tryz.own : ownKnob Tryz.prog.godebug = none := by kernel_rfl
theorem Tryz.laidOut : laidOutB Tryz.prog = true := by kernel_rfl
set_option maxRecDepth 100000 in
theorem err_var {W : World} {nm : String} {tn : String} {d : DataW Unit} {rest : List (String × DataW Unit)} {g t : Nat} (hg : Tryz.prog.globalNamed nm = some g) (hty : (Tryz.prog.globals[g]?).map (·.type) = some t) (ht : ∃ m, Tryz.prog.underlying t = some (.interface m))
    (h : laidMet Tryz.prog ((nm, .iface tn d) :: rest) W) : ∃ te pe, W.var? Tryz.prog nm = some #[.iface te pe] := by
  obtain ⟨ps, ⟨g', t', cs, fuel, p, q, hg', ht', hvar, hd, _, _⟩, _⟩ := h
  obtain rfl := Option.some.inj (hg.symm.trans hg')
  obtain rfl := Option.some.inj (hty.symm.trans ht')
  obtain ⟨m, hm⟩ := ht
  cases fuel with
  | zero => simp [DataW.trod] at hd
  | succ fuel =>
    have key : ∀ cl : List Value, DataW.trod (fun _ => ()) Tryz.prog W 0 (fun _ => true) false (fuel + 1) t cl = some (.iface tn d, p) → ∃ u v, cl = [.iface u v] := by
      intro cl hd
      unfold DataW.trod at hd
      rw [hm] at hd
      dsimp only at hd
      split at hd
      all_goals first
        | exact ⟨_, _, rfl⟩
        | (rename_i h; cases h; done)
        | (cases hd; done)
        | (injection hd with hd; injection hd with hd; cases hd; done)
        | skip
    obtain ⟨u, v, hc⟩ := key _ hd
    refine ⟨u, v, ?_⟩
    rw [hvar, ← hc]
theorem laid_all {W : World} {l : List (String × DataW Unit)} (h : laidMetH Tryz.prog l W) (h0 : (l.all fun x => x.2.handleName?.isNone) = true)
    (h1 : (l.filter fun x => x.1 == "strconv.ErrRange") = [("strconv.ErrRange", Rows.laid_strconv_ErrRange)]) (h2 : (l.filter fun x => x.1 == "strconv.ErrSyntax") = [("strconv.ErrSyntax", Rows.laid_strconv_ErrSyntax)])
    (h3 : (l.filter fun x => x.1 == "internal/strconv.uint64pow10") = [("internal/strconv.uint64pow10", Lib.tabData .u64 Lib.pow10Tab)]) : Laid W := by
  rw [MakeChecks.laidMetH_plain _ _ _ h0] at h
  refine ⟨?_, ?_, ?_⟩
  · have h4 := h.filter (fun x => x.1 == "strconv.ErrRange")
    rw [h1] at h4
    exact err_var (g := 4) (t := 96) (by kernel_rfl) (by kernel_rfl) ⟨_, Tryz.underlying96⟩ h4
  · have h4 := h.filter (fun x => x.1 == "strconv.ErrSyntax")
    rw [h2] at h4
    exact err_var (g := 3) (t := 96) (by kernel_rfl) (by kernel_rfl) ⟨_, Tryz.underlying96⟩ h4
  · have h4 := h.filter (fun x => x.1 == "internal/strconv.uint64pow10")
    rw [h3] at h4
    exact Lib.tabIs_of_head (g := 0) (t := 130) (e := 58) (n := 20) (by kernel_rfl) (by kernel_rfl) (by kernel_rfl) (by kernel_rfl) (by kernel_rfl) (by kernel_rfl) h4
section
variable {H : Type} {enc : TypeId × Value → H}
/-- arguments read behind the call as before it, where below their blocks nothing has turned -/
theorem args_stay {W W' : World} (hb : Below W.heap.size W W') : ∀ (ts : List TypeId) (vs : List Value) (ds : List (DataW H)) (ps : List MemPlace),
    (∀ t ∈ ts, Tryz.prog.readableRec t = true ∧ t < Tryz.prog.types.size) → DataW.TrodAll enc Tryz.prog W 0 (fun _ => true) true ts vs ds ps → (∀ x ∈ ps, x.block < W.heap.size) →
    DataW.TrodAll enc Tryz.prog W' 0 (fun b => decide (b < W.heap.size)) true ts vs ds ps
  | [], vs, ds, ps, _, h, _ => by
    obtain ⟨rfl, rfl, rfl⟩ := trodAll_nil h
    exact trodAll_mk0
  | t :: ts, vs, ds, ps, ht, h, hlt => by
    obtain ⟨v, vs', d, ds', p, q, rfl, rfl, rfl, h1, h2⟩ := trodAll_cons h
    have ht' := ht t (List.mem_cons_self ..)
    exact trodAll_cons_mk (Below.trod Tryz.laidOut ht'.1 ht'.2 h1 hb fun x hx => hlt x (List.mem_append_left _ hx))
      (args_stay hb ts vs' ds' q (fun t h => ht t (List.mem_cons_of_mem _ h)) h2 fun x hx => hlt x (List.mem_append_right _ hx))

/-- A LAW's POST: true comes back, the arguments read as they did -/
theorem law_post {f : Func} {s : ChangeSpec} {W W' : World} {args : Array Value} {ds : List (DataW H)} {before : List MemPlace}
    (hW : DataW.Whole enc Tryz.prog f.params.toList s.vars false W args.toList ds [] before) (hA : DataW.TrodAll enc Tryz.prog W 0 (fun _ => true) true f.params.toList args.toList ds before)
    (ht : ∀ t ∈ f.params.toList, Tryz.prog.readableRec t = true ∧ t < Tryz.prog.types.size) (hv : s.vars = []) (hrt : f.resultTypes = #[4])
    (hs : s.fn H (ds ++ []) = { results := [.lit (.bool true)], args := ds }) (hb : Below W.heap.size W W') :
    s.post enc Tryz.prog f false true false false W args (.bool true) W' := by
  refine ⟨ds, [], before, [], before, [], hW, ?_, ?_, ?_, hb.frame _, fun h => by cases h⟩
  · rw [hs, hrt]
    exact trodAll_mk1 (shut_bool Tryz.underlying4 true)
  · rw [hs]
    exact args_stay hb _ _ _ _ ht hA fun x hx => hW.lt x hx
  · rw [hs, hv]; rfl
end
end Go.Proofs.YtadmmmehphhecaaGreatDoor
/- An argument that is an expression, opened. No condition. -/
namespace Go.Proofs.YtadmmmehphhecaaGreatDoor
open Go.ChangeShapes Go.WideShapes Go.ChangeAt Go.RowKit
/-- every weight is one that a machine reaches -/
def Wt {H : Type} (t : TypeId) (d : DataW H) : Prop := ∀ n ∈ d.weights Tryz.prog t, n ≤ reachBytes
theorem wt_all {H : Type} (e : TypeId) : ∀ (l : List (DataW H)) (d : DataW H), d ∈ l → ∀ n ∈ d.weights Tryz.prog e, n ∈ DataW.weightsAll Tryz.prog e l
  | [], d, h, n, hn => by cases h
  | a :: r, d, h, n, hn => by
    unfold DataW.weightsAll
    rcases List.mem_cons.1 h with rfl | h
    · exact List.mem_append_left _ hn
    · exact List.mem_append_right _ (wt_all e r d h n hn)
theorem wt_slice {H : Type} {t e : TypeId} (hu : Tryz.prog.underlying t = some (.slice e)) {l s : List (DataW H)} (hb : 0 < Tryz.prog.bytesOf e) (h : Wt t (.slice l s)) : l.length ≤ 140737488355328 ∧ ∀ d ∈ l, Wt e d := by
  unfold Wt DataW.weights at h
  rw [hu] at h
  dsimp only at h
  refine ⟨?_, fun d hd n hn => h n (List.mem_cons_of_mem _ (List.mem_append_left _ (wt_all e l d hd n hn)))⟩
  have h1 := h _ (List.mem_cons_self ..)
  have h2 : (l.length + s.length) * 1 ≤ (l.length + s.length) * Tryz.prog.bytesOf e := Nat.mul_le_mul (Nat.le_refl _) hb
  have h3 : reachBytes ≤ 140737488355328 := by decide
  omega
theorem wt_struct4 {H : Type} {t t0 t1 t2 t3 : TypeId} {fs : Array Field} (hu : Tryz.prog.underlying t = some (.struct fs)) (hf : fs.toList.map (·.type) = [t0, t1, t2, t3]) {d0 d1 d2 d3 : DataW H} (h : Wt t (.agg [d0, d1, d2, d3])) : Wt t3 d3 := by
  unfold Wt DataW.weights at h
  rw [hu] at h
  dsimp only at h
  rw [hf] at h
  intro n hn
  refine h n ?_
  simp only [DataW.weightsEach, List.mem_append]
  exact .inr (.inr (.inr (.inl hn)))
/-- cells that are an expression's -/
def Opened (W : World) (e : Ex) (cs : List Value) : Prop :=
  ∃ A cap, cs = [.string ⟨e.op.toArray⟩, .int .i64 e.num, .string ⟨e.name.toArray⟩, .slice A e.kids.len cap] ∧ e.kids.len ≤ cap ∧ cap ≤ maxLen ∧ numsF e = true ∧ RdL W (fun _ => True) e.kids A
section
variable {H : Type} {enc : TypeId × Value → H} {W : World} {sp : Nat → Bool} {held : Bool}
theorem open_kids (n : Nat) (a : Addr) (elems : List (DataW H × List MemPlace)) (IH : ∀ cs x, DataW.trod enc Tryz.prog W 0 sp held n 30 cs = some x → ∃ e, Opened W e cs ∧ (Wt 30 x.1 → wideF e = true)) (len : Nat)
    (h : ∀ i, i < len → (W.cells? 0 (a.add (i * 4)) 4).bind (DataW.trod enc Tryz.prog W 0 sp held n 30) = elems[i]?) (hl : elems.length = len) :
    ∀ m j, m + j = len → ∃ l : Exs, l.len = m ∧ numsL l = true ∧ RdL W (fun _ => True) l (some ⟨a.block, a.off + j * 4, none⟩) ∧ ((∀ x ∈ elems.map (·.1), Wt 30 x) → wideL l = true) := by
  intro m
  induction m with
  | zero => intro j _; exact ⟨.nil, rfl, rfl, by unfold RdL; trivial, fun _ => rfl⟩
  | succ m ih =>
    intro j hj
    obtain ⟨l, h1, h2, h3, h4⟩ := ih (j + 1) (by omega)
    have hlt : j < elems.length := by omega
    have hb := h j (by omega)
    rw [List.getElem?_eq_getElem hlt] at hb
    obtain ⟨cs', hcs, htr⟩ := Option.bind_eq_some_iff.1 hb
    obtain ⟨e, ⟨A, cap, he, hc1, hc2, hnum, hrd⟩, hwd⟩ := IH cs' _ htr
    subst he
    have hm : (List.range 4).mapM (fun i => W.cell? ((a.add (j * 4)).add i)) = some [.string ⟨e.op.toArray⟩, .int .i64 e.num, .string ⟨e.name.toArray⟩, .slice A e.kids.len cap] := by
      unfold World.cells? at hcs
      rw [if_pos (Nat.zero_le _)] at hcs; exact hcs
    have key : ∀ i, i < 4 → ∀ u, [Value.string ⟨e.op.toArray⟩, .int .i64 e.num, .string ⟨e.name.toArray⟩, .slice A e.kids.len cap][i]? = some u → W.cell? ⟨a.block, a.off + j * 4 + i, none⟩ = some u := by
      intro i hi u hu
      obtain ⟨b, hb1, hb2⟩ := Lib.mapM_at hm i i (by simp [hi])
      rw [hu] at hb1
      injection hb1 with hb1
      subst hb1
      have hsp := World.cell?_spot hb2
      have : (a.add (j * 4)).add i = ⟨a.block, a.off + j * 4 + i, none⟩ := by
        obtain ⟨ab, ao, as_⟩ := a
        unfold Addr.add at hsp ⊢
        by_cases h0 : j * 4 = 0 <;> by_cases h1 : i = 0 <;> simp_all
      rw [this] at hb2; exact hb2
    refine ⟨.cons e l, by simp [Exs.len, h1], by simp [numsL, hnum, h2], ?_, fun hw => by simp only [wideL, Bool.and_eq_true]; exact ⟨hwd (hw _ (List.mem_map.2 ⟨_, List.getElem_mem hlt, rfl⟩)), h4 hw⟩⟩
    unfold RdL
    refine ⟨a.block, a.off + j * 4, _, _, _, _, rfl, trivial, key 0 (by omega) _ rfl, key 1 (by omega) _ rfl, key 2 (by omega) _ rfl, key 3 (by omega) _ rfl, ?_, ?_⟩
    · cases e; unfold RdX; exact ⟨A, cap, rfl, hc1, hrd⟩
    · have : a.off + j * 4 + 4 = a.off + (j + 1) * 4 := by omega
      rw [this]; exact h3
set_option maxRecDepth 100000 in
theorem open_ex : ∀ (fuel : Nat) (cs : List Value) (x : DataW H × List MemPlace), DataW.trod enc Tryz.prog W 0 sp held fuel 30 cs = some x → ∃ e, Opened W e cs ∧ (Wt 30 x.1 → wideF e = true) := by
  intro fuel
  induction fuel using Nat.strongRecOn with
  | _ fuel IH =>
    intro cs x h
    obtain ⟨fs, hfs, hft, f0, f1, f2, f3⟩ : ∃ fs : Array Field, Tryz.prog.underlying 30 = some (.struct fs) ∧ fs.toList.map (·.type) = [9, 2, 9, 28] ∧ (fs[0]?.map fun (f : Field) => (f.type, f.offset)) = some (9, 0) ∧ (fs[1]?.map fun (f : Field) => (f.type, f.offset)) = some (2, 1) ∧ (fs[2]?.map fun (f : Field) => (f.type, f.offset)) = some (9, 2) ∧ (fs[3]?.map fun (f : Field) => (f.type, f.offset)) = some (28, 3) := ⟨_, Tryz.underlying30, by kernel_rfl, by kernel_rfl, by kernel_rfl, by kernel_rfl, by kernel_rfl⟩
    obtain ⟨xs, n, rfl, rfl, hlen, hxl, hf⟩ := DataW.trod_struct hfs h
    have hc4 : Tryz.prog.cellsOf 30 = 4 := by kernel_rfl
    have hs1 : Tryz.prog.cellsOf 9 = 1 := by kernel_rfl
    have hs2 : Tryz.prog.cellsOf 2 = 1 := by kernel_rfl
    have hs3 : Tryz.prog.cellsOf 28 = 1 := by kernel_rfl
    rw [hc4] at hlen
    obtain ⟨q0, q1, q2, q3, rfl⟩ : ∃ q0 q1 q2 q3, cs = [q0, q1, q2, q3] := by
      match cs, hlen with
      | [q0, q1, q2, q3], _ => exact ⟨q0, q1, q2, q3, rfl⟩
    have hx4 : xs.length = 4 := by rw [hxl]; have := congrArg List.length hft; simpa using this
    obtain ⟨x0, x1, x2, x3, rfl⟩ : ∃ x0 x1 x2 x3, xs = [x0, x1, x2, x3] := by
      match xs, hx4 with
      | [x0, x1, x2, x3], _ => exact ⟨x0, x1, x2, x3, rfl⟩
    have get : ∀ (i : Nat) (t : TypeId) (o : Nat), (fs[i]?.map fun (f : Field) => (f.type, f.offset)) = some (t, o) → ∃ y, DataW.trod enc Tryz.prog W 0 sp held n t (([q0, q1, q2, q3].drop o).take (Tryz.prog.cellsOf t)) = some y ∧ [x0, x1, x2, x3][i]? = some y := by
      intro i t o hi
      cases hfi : fs[i]? with
      | none => rw [hfi] at hi; cases hi
      | some f =>
        rw [hfi] at hi
        simp only [Option.map_some, Option.some.injEq, Prod.mk.injEq] at hi
        obtain ⟨rfl, rfl⟩ := hi
        have := hf i f hfi
        have hlt : i < [x0, x1, x2, x3].length := by
          rw [hxl]
          rcases Nat.lt_or_ge i fs.size with h1 | h1
          · exact h1
          · rw [Array.getElem?_eq_none h1] at hfi; cases hfi
        rw [List.getElem?_eq_getElem hlt] at this
        exact ⟨_, this, List.getElem?_eq_getElem hlt⟩
    obtain ⟨y0, h0, z0⟩ := get 0 _ _ f0
    obtain ⟨y1, h1, z1⟩ := get 1 _ _ f1
    obtain ⟨y2, h2, z2⟩ := get 2 _ _ f2
    obtain ⟨y3, h3, z3⟩ := get 3 _ _ f3
    have hxy : x3 = y3 := Option.some.inj z3
    subst hxy
    have HW3 : Wt 30 (.agg ([x0, x1, x2, x3].map (·.1))) → Wt 28 x3.1 := fun h => wt_struct4 hfs hft h
    rw [hs1] at h0 h2
    rw [hs2] at h1
    rw [hs3] at h3
    simp only [List.drop_zero, List.drop_succ_cons, List.take_succ_cons, List.take_zero] at h0 h1 h2 h3
    obtain ⟨s0, e0, _⟩ := DataW.trod_string Tryz.underlying9 h0
    obtain ⟨k1, e1, _, wk⟩ := DataW.trod_int Tryz.underlying2 h1
    obtain ⟨s2, e2, _⟩ := DataW.trod_string Tryz.underlying9 h2
    injection e0 with e0 _
    injection e1 with e1 _
    injection e2 with e2 _
    subst e0 e1 e2
    have hk1 : -9223372036854775808 ≤ k1 ∧ k1 ≤ 9223372036854775807 := by simpa [Lit.wf, IntKind.min, IntKind.max, IntKind.signed, IntKind.bits] using wk
    have hst : ∀ s : ByteArray, (⟨s.data.toList.toArray⟩ : ByteArray) = s := fun s => by simp
    rcases DataW.trod_slice Tryz.underlying28 h3 with ⟨e3, _⟩ | ⟨a, len, cap, elems, rest, n', rfl, e3, hx3, _, hlc, hcm, hel, hat, _⟩
    · injection e3 with e3 _
      subst e3
      refine ⟨.mk s0.data.toList k1 s2.data.toList .nil, ⟨none, 0, ?_, Nat.le_refl _, Nat.zero_le _, ?_, by unfold RdL; trivial⟩, fun _ => rfl⟩
      · simp only [Ex.op, Ex.num, Ex.name, Ex.kids, Exs.len, hst]
      · simp [numsF, numsL, hk1.1, hk1.2]
    · injection e3 with e3 _
      subst e3
      rw [hc4] at hat
      obtain ⟨l, g1, g2, g3, g4⟩ := open_kids n' a elems (IH n' (by omega)) len hat hel len 0 (by omega)
      refine ⟨.mk s0.data.toList k1 s2.data.toList l, ⟨some a, cap, ?_, by show l.len ≤ cap; omega, hcm, ?_, ?_⟩, fun hw => ?_⟩
      rotate_left 3
      · have h5 := HW3 hw
        rw [hx3] at h5
        have h6 := wt_slice Tryz.underlying28 (by decide +kernel) h5
        rw [List.length_map, hel] at h6
        simp only [wideF, Bool.and_eq_true, decide_eq_true_eq, g1]
        exact ⟨h6.1, g4 h6.2⟩
      · simp only [Ex.op, Ex.num, Ex.name, Ex.kids, hst, g1]
      · simp [numsF, g2, hk1.1, hk1.2]
      · show RdL W _ l (some a)
        cases l with
        | nil => unfold RdL; trivial
        | cons x r =>
          have hb := hat 0 (by simp [Exs.len] at g1; omega)
          rw [List.getElem?_eq_getElem (by simp [Exs.len] at g1; omega)] at hb
          obtain ⟨cs', hcs, htr⟩ := Option.bind_eq_some_iff.1 hb
          unfold World.cells? at hcs
          rw [if_pos (Nat.zero_le _)] at hcs
          obtain ⟨b, _, hb2⟩ := Lib.mapM_at hcs 0 0 (by simp)
          have hsp := World.cell?_spot hb2
          obtain ⟨ab, ao, as_⟩ := a
          simp [Addr.add] at hsp
          subst hsp
          simpa using g3
end
set_option maxRecDepth 100000 in
/-- an argument that is an expression -/
theorem open_expr {H : Type} {enc : TypeId × Value → H} {W : World} {b0 : Nat} {v : Value} {d : DataW H} {p : List MemPlace} (hv : Value.okWide Tryz.prog W .any b0 30 v)
    (h : DataW.Trod enc Tryz.prog W 0 (fun _ => true) true 30 v d p) : ∃ e, RdX W (fun _ => True) e v ∧ numsF e = true ∧ (Wt 30 d → wideF e = true) := by
  obtain ⟨fuel, hf⟩ := h
  obtain ⟨e, ⟨A, cap, he, h1, h2, h3, h4⟩, h5⟩ := open_ex fuel _ _ hf
  refine ⟨e, ?_, h3, h5⟩
  obtain ⟨fs, hfs⟩ : ∃ fs : Array Field, Tryz.prog.underlying 30 = some (.struct fs) := ⟨_, Tryz.underlying30⟩
  obtain ⟨cs, rfl, _⟩ := okWide_struct hfs hv
  have hcs : cs = #[.string ⟨e.op.toArray⟩, .int .i64 e.num, .string ⟨e.name.toArray⟩, .slice A e.kids.len cap] := by
    apply Array.ext'
    simpa [Value.cells] using he
  subst hcs
  cases e; unfold RdX; exact ⟨A, cap, rfl, h1, h4⟩
end Go.Proofs.YtadmmmehphhecaaGreatDoor
/- SumsValues returns true at every input, and each argument reads behind the call as before it; its card, tied to the program's text. No condition but the row's own: the listed variables hold what the text lays. -/
namespace Go.Proofs.YtadmmmehphhecaaGreatDoor
open Go.ChangeShapes Go.WideShapes Go.ChangeAt Go.RowKit
open Go.ChangeMaps (open_string shut_string)

set_option maxRecDepth 100000 in
theorem open_pair {H : Type} {enc : TypeId × Value → H} {W : World} {sp : Nat → Bool} {held : Bool} {fuel : Nat} {cs : List Value} {x : DataW H × List MemPlace} (h : DataW.trod enc Tryz.prog W 0 sp held fuel 52 cs = some x) :
    ∃ p : List UInt8 × List UInt8 × Bool, cs = [.string ⟨p.1.toArray⟩, .string ⟨p.2.1.toArray⟩, .bool p.2.2] := by
  obtain ⟨fs, hfs, hft, f0, f1, f2⟩ : ∃ fs : Array Field, Tryz.prog.underlying 52 = some (.struct fs) ∧ fs.toList.map (·.type) = [9, 9, 4] ∧ (fs[0]?.map fun (f : Field) => (f.type, f.offset)) = some (9, 0) ∧ (fs[1]?.map fun (f : Field) => (f.type, f.offset)) = some (9, 1) ∧ (fs[2]?.map fun (f : Field) => (f.type, f.offset)) = some (4, 2) := ⟨_, Tryz.underlying52, by kernel_rfl, by kernel_rfl, by kernel_rfl, by kernel_rfl⟩
  obtain ⟨xs, n, rfl, rfl, hlen, hxl, hf⟩ := DataW.trod_struct hfs h
  have hc3 : Tryz.prog.cellsOf 52 = 3 := by kernel_rfl
  have hs1 : Tryz.prog.cellsOf 9 = 1 := by kernel_rfl
  have hs2 : Tryz.prog.cellsOf 4 = 1 := by kernel_rfl
  rw [hc3] at hlen
  obtain ⟨q0, q1, q2, rfl⟩ : ∃ q0 q1 q2, cs = [q0, q1, q2] := by
    match cs, hlen with
    | [q0, q1, q2], _ => exact ⟨q0, q1, q2, rfl⟩
  have get : ∀ (i : Nat) (t : TypeId) (o : Nat), (fs[i]?.map fun (f : Field) => (f.type, f.offset)) = some (t, o) → ∃ y, DataW.trod enc Tryz.prog W 0 sp held n t (([q0, q1, q2].drop o).take (Tryz.prog.cellsOf t)) = some y := by
    intro i t o hi
    cases hfi : fs[i]? with
    | none => rw [hfi] at hi; cases hi
    | some f =>
      rw [hfi] at hi
      simp only [Option.map_some, Option.some.injEq, Prod.mk.injEq] at hi
      obtain ⟨rfl, rfl⟩ := hi
      have := hf i f hfi
      have hlt : i < xs.length := by
        rw [hxl]
        rcases Nat.lt_or_ge i fs.size with h1 | h1
        · exact h1
        · rw [Array.getElem?_eq_none h1] at hfi; cases hfi
      rw [List.getElem?_eq_getElem hlt] at this
      exact ⟨_, this⟩
  obtain ⟨y0, h0⟩ := get 0 _ _ f0
  obtain ⟨y1, h1⟩ := get 1 _ _ f1
  obtain ⟨y2, h2⟩ := get 2 _ _ f2
  rw [hs1] at h0 h1
  rw [hs2] at h2
  simp only [List.drop_zero, List.drop_succ_cons, List.take_succ_cons, List.take_zero] at h0 h1 h2
  obtain ⟨s0, e0, _⟩ := DataW.trod_string Tryz.underlying9 h0
  obtain ⟨s1, e1, _⟩ := DataW.trod_string Tryz.underlying9 h1
  obtain ⟨b2, e2, _⟩ := DataW.trod_bool Tryz.underlying4 h2
  injection e0 with e0 _
  injection e1 with e1 _
  injection e2 with e2 _
  subst e0 e1 e2
  exact ⟨(s0.data.toList, s1.data.toList, b2), by simp⟩
set_option maxRecDepth 100000 in
/-- an argument that is pairs, opened -/
theorem open_pairs {H : Type} {enc : TypeId × Value → H} {W : World} {b0 : Nat} {v : Value} {d : DataW H} {p : List MemPlace} (hv : Value.okWide Tryz.prog W .any b0 39 v)
    (h : DataW.Trod enc Tryz.prog W 0 (fun _ => true) true 39 v d p) : ∃ T, ArgT W T v := by
  obtain ⟨a0, len0, cap0, rfl⟩ := okWide_slice Tryz.underlying39 hv
  obtain ⟨fuel, hf⟩ := h
  have hf : DataW.trod enc Tryz.prog W 0 (fun _ => true) true fuel 39 [.slice a0 len0 cap0] = some (d, p) := hf
  have hc3 : Tryz.prog.cellsOf 52 = 3 := by kernel_rfl
  rcases DataW.trod_slice Tryz.underlying39 hf with ⟨e3, _⟩ | ⟨a, len, cap, elems, rest, n', rfl, e3, hx3, _, hlc, hcm, hel, hat, _⟩
  · injection e3 with e3 _
    injection e3 with e31 e32 e33
    subst e31 e32 e33
    exact ⟨[], none, 0, rfl, Nat.le_refl _, .inl rfl⟩
  · injection e3 with e3 _
    injection e3 with e31 e32 e33
    subst e31 e32 e33
    rw [hc3] at hat
    have key : ∀ i, i < len0 → ∃ q : List UInt8 × List UInt8 × Bool, W.cells? 0 (a.add (i * 3)) 3 = some [.string ⟨q.1.toArray⟩, .string ⟨q.2.1.toArray⟩, .bool q.2.2] := by
      intro i hi
      have hb := hat i hi
      rw [List.getElem?_eq_getElem (by omega)] at hb
      obtain ⟨cs', hcs, htr⟩ := Option.bind_eq_some_iff.1 hb
      obtain ⟨q, rfl⟩ := open_pair htr
      exact ⟨q, hcs⟩
    have cell : ∀ i, i < len0 → ∃ q : List UInt8 × List UInt8 × Bool, ∀ j, j < 3 → ∀ u, [Value.string ⟨q.1.toArray⟩, .string ⟨q.2.1.toArray⟩, .bool q.2.2][j]? = some u → W.cell? ⟨a.block, a.off + i * 3 + j, none⟩ = some u := by
      intro i hi
      obtain ⟨q, hq⟩ := key i hi
      refine ⟨q, fun j hj u hu => ?_⟩
      unfold World.cells? at hq
      rw [if_pos (Nat.zero_le _)] at hq
      obtain ⟨b, hb1, hb2⟩ := Lib.mapM_at hq j j (by simp [hj])
      rw [hu] at hb1
      injection hb1 with hb1
      subst hb1
      have hsp := World.cell?_spot hb2
      have : (a.add (i * 3)).add j = ⟨a.block, a.off + i * 3 + j, none⟩ := by
        obtain ⟨ab, ao, as_⟩ := a
        unfold Addr.add at hsp ⊢
        by_cases h0 : i * 3 = 0 <;> by_cases h1 : j = 0 <;> simp_all
      rw [this] at hb2
      exact hb2
    have build : ∀ m, m ≤ len0 → ∃ T : Tab, T.length = m ∧ ∀ j u, (tabC T)[j]? = some u → W.cell? ⟨a.block, a.off + j, none⟩ = some u := by
      intro m
      induction m with
      | zero => intro _; exact ⟨[], rfl, fun j u h => by simp [tabC] at h⟩
      | succ m ih =>
        intro hm
        obtain ⟨T, h1, h2⟩ := ih (by omega)
        obtain ⟨q, hq⟩ := cell m (by omega)
        refine ⟨T ++ [q], by simp [h1], fun j u hu => ?_⟩
        rw [tabC_append] at hu
        have hl := tabC_len T
        rcases Nat.lt_or_ge j (tabC T).length with hj | hj
        · rw [List.getElem?_append_left hj] at hu
          exact h2 j u hu
        · rw [List.getElem?_append_right hj] at hu
          have hu' : [Value.string ⟨q.1.toArray⟩, .string ⟨q.2.1.toArray⟩, .bool q.2.2][j - (tabC T).length]? = some u := hu
          have hj3 : j - (tabC T).length < 3 := by
            have := (List.getElem?_eq_some_iff.1 hu').1
            simpa using this
          have := hq _ hj3 u hu'
          rwa [show a.off + m * 3 + (j - (tabC T).length) = a.off + j by omega] at this
    obtain ⟨T, h1, h2⟩ := build len0 (Nat.le_refl _)
    refine ⟨T, some a, cap0, by rw [h1], by omega, ?_⟩
    cases hT : T with
    | nil => exact .inl rfl
    | cons q r =>
      right
      rw [← hT]
      have hsp : a.spot = none := by
        obtain ⟨q0, hq0⟩ := key 0 (by rw [← h1, hT]; simp)
        unfold World.cells? at hq0
        rw [if_pos (Nat.zero_le _)] at hq0
        obtain ⟨b, _, hb2⟩ := Lib.mapM_at hq0 0 0 (by simp)
        have hsp := World.cell?_spot hb2
        simpa [Addr.add] using hsp
      obtain ⟨ab, ao, as_⟩ := a
      simp only at hsp
      subst hsp
      exact ⟨ab, ao, rfl, h2⟩
set_option maxRecDepth 100000 in
theorem values_lifted (os : Os) (started : os.Started) (H : Type) (enc : TypeId × Value → H) :
    ReturnsInHanded {} Tryz.checked os 5 .any (fun w args => (Rows.sumsValuesSpec.pre enc Tryz.prog Tryz.f5 Rows.sumsValuesRow.domain false w args ∧ laidMetH Tryz.prog Rows.sumsValuesRow.laid w) ∧ sizedMet enc Tryz.prog Tryz.f5 (OpenSpec.ofChange Rows.sumsValuesSpec) false w args)
      (Rows.sumsValuesSpec.post enc Tryz.prog Tryz.f5 false true false false) := by
  refine returnsInHanded_of_change_and (C := Tryz.checked) (X := fun w _ => laidMetH Tryz.prog Rows.sumsValuesRow.laid w) (fun _ _ _ hh h => h.of_heap hh) Tryz.own started (by kernel_rfl) Tryz.func5
    (ChangeSpec.witness_shaped (enc := enc) (C := Tryz.checked) (os := os) (X := fun w _ => laidMetH Tryz.prog Rows.sumsValuesRow.laid w) false (World.laidAll Tryz.prog os Rows.sumsValuesRow.laid) #[.agg #[.string ⟨#[]⟩, .int .i64 0, .string ⟨#[]⟩, .slice none 0 0], .slice none 0 0, .string ⟨#[]⟩] 8 (World.laidAll_os _ _ _)
      (World.shaped_of_ZipB (by kernel_rfl) (by kernel_rfl)) (by kernel_rfl) (by kernel_rfl) (by kernel_rfl)
      (by rw [MakeChecks.laidMetH_plain _ _ _ (by kernel_rfl)]; exact laidMet_laidAll _ (by kernel_rfl) (by kernel_rfl))) ?_
  intro W base args ds gs before hval0 hW hc hS1 hL hS2
  have hval : ∀ (j : Nat) t v, Tryz.f5.params[j]? = some t → args[j]? = some v → Value.okWide Tryz.prog W .any base t v := hval0
  have hW' := hW
  obtain ⟨p, q, hA0, hV, rfl, hfz, hnd⟩ := hW
  have hA : DataW.TrodAll enc Tryz.prog W 0 (fun _ => true) true Tryz.f5.params.toList args.toList ds p := hA0
  have hA1 := hA
  rw [Tryz.params5] at hA hval
  obtain ⟨v0, vs0, d0, ds0, p0, q0, hargs, rfl, rfl, h0, r0⟩ := trodAll_cons hA
  obtain ⟨v1, vs1, d1, ds1, p1, q1, rfl, rfl, rfl, h1, r1⟩ := trodAll_cons r0
  obtain ⟨v2, vs2, d2, ds2, p2, q2, rfl, rfl, rfl, h2, r2⟩ := trodAll_cons r1
  obtain ⟨rfl, rfl, rfl⟩ := trodAll_nil r2
  obtain rfl : args = #[v0, v1, v2] := by cases args; simp_all
  obtain ⟨rfl, rfl⟩ := trodVars_none hV
  obtain ⟨e, hr, hn, hw0⟩ := open_expr (hval 0 30 v0 rfl rfl) h0
  have hw : wideF e = true := hw0 (fun m hm => by
    have h9 := List.all_eq_true.1 hS1 m (by
      rw [Tryz.params5]
      show m ∈ DataW.weightsEach Tryz.prog (30 :: _) (d0 :: [d1, d2])
      unfold DataW.weightsEach
      exact List.mem_append_left _ hm)
    simpa using h9)
  obtain ⟨T, hT⟩ := open_pairs (hval 1 39 v1 rfl rfl) h1
  obtain ⟨sn, rfl, _, _, _⟩ := open_string Tryz.underlying9 (hval 2 9 v2 rfl rfl) h2
  have hLL : Laid W := laid_all hL (by kernel_rfl) (by kernel_rfl) (by kernel_rfl) (by kernel_rfl)
  simp only [List.append_nil] at hW'
  refine (values_any e T sn.data.toList W _ v0 v1 hr hn hw hT hLL).mono fun e W' ⟨he, hb⟩ => ?_
  exact ⟨_, he, law_post hW' (by simpa using hA1) (by rw [Tryz.params5]; intro t ht; simp at ht; rcases ht with rfl | rfl | rfl <;> exact ⟨by kernel_rfl, of_decide_eq_true (by kernel_rfl)⟩) rfl rfl rfl hb⟩

theorem values_row : Rows.SumsValuesSaid :=
  OpenClaim.holds_of_wide 5 Tryz.f5 rfl rfl rfl rfl rfl rfl rfl ⟨rfl, rfl, rfl, rfl, rfl⟩ rfl rfl rfl rfl rfl (by kernel_rfl) Tryz.func5 (by kernel_rfl)
    (of_decide_eq_true (by kernel_rfl)) (by unfold Func.isWrapper; first | (rw [if_pos (by decide +kernel)]; kernel_rfl) | (rw [if_neg (by decide +kernel)]; exact ⟨rfl, rfl⟩))
    (fun os started H enc _ => values_lifted os started H enc)
theorem values_holds : Rows.SumsValuesCardSaid :=
  Claim7.holds_tied_plain_at .later [] [.data, .data, .data, .data, .sentinel, .sentinel, .pinned] true (true, "de5f2bf01d17494fe65ff79c84d6f18fc2d0b3268bda0c5ff877aa72a5516be8") true values_row (fun _ h => by cases h) (by kernel_rfl) (fun _ h => by cases h) sumsValues_row_tie rfl ⟨rfl, rfl⟩ (by kernel_rfl) rfl
    (fun f fn hf hfn => by
      obtain rfl : f = 5 := Option.some.inj ((show Tryz.prog.funcNamed "whelk/whelklaw03.SumsValues" = some 5 by kernel_rfl).symm.trans hf) |>.symm
      obtain rfl : fn = Tryz.f5 := (Option.some.inj (Tryz.func5.symm.trans hfn)).symm
      exact ⟨by kernel_rfl, fun j t ht => by
        rw [Tryz.params5] at ht
        have hm : t ∈ [30, 39, 9] := by simpa using Array.mem_of_getElem? ht
        have hall : ([30, 39, 9].all fun u => !Tryz.prog.wantsStandIn u) = true := by kernel_rfl
        exact (show Tryz.prog.wantsStandIn t = false by simpa using List.all_eq_true.1 hall t hm)⟩)
    (by kernel_rfl)
end Go.Proofs.YtadmmmehphhecaaGreatDoor
