/- The walk of the reference's value: a part (printed by genVc.py). -/
import Derived.Test.YtadmmmehphhecaaGreatDoorSa
import Derived.Test.YtadmmmehphhecaaGreatDoorLr
import Derived.Test.YtadmmmehphhecaaGreatDoorValM
import Derived.Test.YtadmmmehphhecaaGreatDoorLf
import Derived.IntWalk
import Derived.Test.YtadmmmehphhecaaGreatDoorLe
import Derived.Test.YtadmmmehphhecaaGreatDoorLm
import Derived.Test.YtadmmmehphhecaaGreatDoorO
import Derived.Deep.RegionLaw
import Derived.Deep.AppendLies
import Derived.Test.YtadmmmehphhecaaGreatDoorLo
import Derived.Test.YtadmmmehphhecaaGreatDoorH
import Derived.Test.YtadmmmehphhecaaGreatDoorLn
import Derived.Test.YtadmmmehphhecaaGreatDoorLq
import Derived.Test.YtadmmmehphhecaaGreatDoorK
set_option linter.unusedVariables false
set_option linter.unusedSimpArgs false
/- Plain: what fixed texts are parsed as. -/
namespace Go.Proofs.YtadmmmehphhecaaGreatDoor
open Go.RowKit
theorem ParseOut.at_ok {s : List UInt8} {r : Except (Nat × Int) Ex} (h : ParseOut s r) (hl : s.length ≤ 4096) {t t' : PSt} {x : Ex} (n : Nat) (hn : nextF s ⟨0, [], 0, 0⟩ = .ok t) (ht : t.text ≠ []) (hF : F s n .whole 0 t = some (.ok (x, t'))) (ht' : t'.text = []) : r = .ok x := by
  have ho : Out s .whole 0 t (.ok (x, t')) := ⟨n, hF⟩
  cases h with
  | big h => omega
  | bad h hn' => rw [hn] at hn'; cases hn'
  | none h hn' h2 => rw [hn] at hn'; injection hn' with hn'; subst hn'; exact (ht h2).elim
  | err h hn' h2 h3 => rw [hn] at hn'; injection hn' with hn'; subst hn'; cases ho.same h3
  | left h hn' h2 h3 h4 => rw [hn] at hn'; injection hn' with hn'; subst hn'; have := ho.same h3; injection this with this; injection this with e1 e2; subst e2; exact (h4 ht').elim
  | good h hn' h2 h3 h4 => rw [hn] at hn'; injection hn' with hn'; subst hn'; have := ho.same h3; injection this with this; injection this with e1 e2; rw [e1]
theorem ParseOut.at_bad {s : List UInt8} {r : Except (Nat × Int) Ex} (h : ParseOut s r) (hl : s.length ≤ 4096) {t : PSt} {x : Nat × Int} (n : Nat) (hn : nextF s ⟨0, [], 0, 0⟩ = .ok t) (ht : t.text ≠ []) (hF : F s n .whole 0 t = some (.error x)) : r = .error x := by
  have ho : Out s .whole 0 t (.error x) := ⟨n, hF⟩
  cases h with
  | big h => omega
  | bad h hn' => rw [hn] at hn'; cases hn'
  | none h hn' h2 => rw [hn] at hn'; injection hn' with hn'; subst hn'; exact (ht h2).elim
  | err h hn' h2 h3 => rw [hn] at hn'; injection hn' with hn'; subst hn'; have := ho.same h3; injection this with this; rw [this]
  | left h hn' h2 h3 h4 => rw [hn] at hn'; injection hn' with hn'; subst hn'; cases ho.same h3
  | good h hn' h2 h3 h4 => rw [hn] at hn'; injection hn' with hn'; subst hn'; cases ho.same h3
theorem ParseOut.at_next {s : List UInt8} {r : Except (Nat × Int) Ex} (h : ParseOut s r) (hl : s.length ≤ 4096) {x : Nat × Int} (hn : nextF s ⟨0, [], 0, 0⟩ = .error x) : r = .error x := by
  cases h with
  | big h => omega
  | bad h hn' => rw [hn] at hn'; injection hn' with hn'; rw [hn']
  | none h hn' h2 => rw [hn] at hn'; cases hn'
  | err h hn' h2 h3 => rw [hn] at hn'; cases hn'
  | left h hn' h2 h3 h4 => rw [hn] at hn'; cases hn'
  | good h hn' h2 h3 h4 => rw [hn] at hn'; cases hn'
def tx1 : List UInt8 := [120, 61, 121, 43, 61, 50]
def ex1 : Ex := .mk [61] 0 [120] (.cons (.mk [43, 61] 0 [121] (.cons (.mk numO 2 [] .nil) .nil)) .nil)
def tx2 : List UInt8 := [48, 124, 124, 120, 61, 49]
def tx3 : List UInt8 := [48, 56]
def tx4 : List UInt8 := [97, 63, 45, 98, 58, 51]
def ex4 : Ex := .mk [63] 0 [] (.cons (.mk nameO 0 [97] .nil) (.cons (.mk [110, 101, 103] 0 [] (.cons (.mk nameO 0 [98] .nil) .nil)) (.cons (.mk numO 3 [] .nil) .nil)))
theorem parse1 {r : Except (Nat × Int) Ex} (h : ParseOut tx1 r) : r = .ok ex1 :=
  h.at_ok (by decide) 100 (t := ⟨0, [120], 0, 2⟩) (t' := ⟨6, [], 0, 0⟩) (by rfl) (by decide) (by kernel_rfl) rfl
theorem parse2 {r : Except (Nat × Int) Ex} (h : ParseOut tx2 r) : r = .error (4, 25) :=
  h.at_bad (by decide) 100 (t := ⟨0, [48], 0, 1⟩) (by rfl) (by decide) (by kernel_rfl)
theorem parse3 {r : Except (Nat × Int) Ex} (h : ParseOut tx3 r) : r = .error (0, 23) := h.at_next (by decide) (by rfl)
theorem parse4 {r : Except (Nat × Int) Ex} (h : ParseOut tx4 r) : r = .ok ex4 :=
  h.at_ok (by decide) 100 (t := ⟨0, [97], 0, 2⟩) (t' := ⟨6, [], 0, 0⟩) (by rfl) (by decide) (by kernel_rfl) rfl
theorem itoa_dig (k : Nat) (h : k < 10) : Lib.itoa (k : Int) = [UInt8.ofNat (48 + k)] := by rw [itoa_pos, dec1 k h]
theorem itoa7 : Lib.itoa 7 = [55] := itoa_dig 7 (by decide)
theorem itoa3 : Lib.itoa 3 = [51] := itoa_dig 3 (by decide)
def tab1 : Tab := [([121], [53], false)]
def tab2 : Tab := [([121], [55], false), ([120], [55], false)]
theorem val1 : valF ex1 tab1 = (.ok 7, tab2) := by
  have h2 : valF (.mk [43, 61] 0 [121] (.cons (.mk numO 2 [] .nil) .nil)) tab1 = (.ok 7, [([121], [55], false)]) := by
    show setV [43, 61] [121] (valF (.mk numO 2 [] .nil)) tab1 = _
    unfold setV
    rw [if_neg (by decide), show nameV tab1 [121] = .ok 5 by kernel_rfl]
    show thenV (valF (.mk numO 2 [] .nil) tab1) (fun b T1 => match twoV [43] 5 b with | .error e => (.error e, T1) | .ok n => storeV [121] n T1) = _
    rw [show valF (.mk numO 2 [] .nil) tab1 = (.ok 2, tab1) from rfl, thenV_ok, show twoV [43] 5 2 = .ok 7 by kernel_rfl]
    show storeV [121] 7 tab1 = _
    unfold storeV; rw [itoa7]; rfl
  show setV [61] [120] (valF (.mk [43, 61] 0 [121] (.cons (.mk numO 2 [] .nil) .nil))) tab1 = _
  unfold setV
  rw [if_pos rfl, h2]
  show storeV [120] 7 [([121], [55], false)] = _
  unfold storeV; rw [itoa7]; rfl
theorem show4 : showF ex4 = [40, 97, 63, 40, 45, 98, 41, 58, 51, 41] := by
  show [40] ++ [97] ++ [63] ++ ([40, 45] ++ [98] ++ [41]) ++ [58] ++ Lib.itoa 3 ++ [41] = _
  rw [itoa3]; rfl
theorem out4 : showOut ex4 = ([40, 97, 63, 40, 45, 98, 41, 58, 51, 41], 0) := by
  unfold showOut
  rw [if_neg (by decide), if_neg (by decide), show4, if_neg (by decide)]
end Go.Proofs.YtadmmmehphhecaaGreatDoor
/- The walk of awake. The library's variables hold what is laid. -/
namespace Go.Proofs.YtadmmmehphhecaaGreatDoor
open Go.RowKit
theorem RdX.free {w : World} {g H : Nat} {u : Value} {e : Ex} {v : Value} (h : RdX w (fun b => H ≤ b) e v) (hg : g < H) (hu : ∀ b, u.ownBlock = some b → b < H) : RdX w (Free w g u) e v :=
  RdX.keep (fun b off x hp hx => ⟨⟨by omega, fun he => by have := hu b he.symm; omega, World.block_lt_of_cell? w _ hx⟩, hx⟩) e v h
theorem TStep.belowOf {g B0 : Nat} {w w' : World} {u u' : Value} (h : TStep g w u w' u') (hg : B0 ≤ g) (hu : ∀ b, u.ownBlock = some b → B0 ≤ b) (hB : B0 ≤ w.heap.size) : Below B0 w w' :=
  ⟨h.os, h.tape, h.output, h.size, fun k hk => h.block k ⟨by omega, fun he => by have := hu k he.symm; omega, by omega⟩⟩
theorem below_of_none {w w' : World} (h : w.grownBy w' none) : Below w.heap.size w w' := ⟨h.os, h.tape, h.output, h.size, fun k hk => h.block k hk (by simp)⟩
theorem TabAt.own_ge {w : World} {B g : Nat} {T : Tab} {u : Value} (h : TabAt w B g T u) : ∀ b, u.ownBlock = some b → B ≤ b := by
  intro b hb
  rcases h.2.1.2 with ⟨rfl, _⟩ | ⟨g', cap, cur, rfl, hge, _⟩
  · simp [Value.ownBlock] at hb
  · have : g' = b := by simpa [Value.ownBlock] using hb
    omega
theorem short1 : Short tab1 := by intro p hp; simp [tab1] at hp; subst hp; decide
theorem short2 : Short tab2 := by intro p hp; simp [tab2] at hp; rcases hp with rfl | rfl <;> decide
theorem value1 : valueF ex1 tab1 = (7, 0, tab2) := by
  unfold valueF
  rw [if_neg (by decide), val1]
theorem get2 : getF tab2 [120] = ([55], true) := by decide
/-- a row of pairs and a table, new -/
theorem tab_new (w : World) (T : Tab) (cs : Array Value) (h : cs.toList = tabC T) (hl : T.length ≤ 1000) :
    TabAt ((w.alloc (.cells cs TPr)).alloc (.cells #[.slice (some ⟨w.heap.size, 0, none⟩) T.length T.length] TT)) w.heap.size (w.heap.size + 1) T (.slice (some ⟨w.heap.size, 0, none⟩) T.length T.length) := by
  have hc := tabC_len T
  refine ⟨by have := Bk.new (w.alloc (.cells cs TPr)) TT #[.slice (some ⟨w.heap.size, 0, none⟩) T.length T.length]; simpa using this, ⟨tabC_len T, .inr ⟨w.heap.size, T.length, cs, rfl, Nat.le_refl _, (Bk.new w TPr cs).alloc _, Nat.le_refl _, by unfold maxLen; omega, ?_, ?_⟩⟩, by simp; omega⟩
  · rw [← hc, ← h]; simp
  · rw [h, ← hc, List.take_length]
set_option maxRecDepth 100000 in
set_option maxHeartbeats 4000000 in
theorem awake_any (w : World) (hL : Laid w) (hG : GBig w.heap.size) : Calls Tryz.prog 6 #[] w fun e w' => e = .returned (.bool true) ∧ Below w.heap.size w w' := by
  have hwx : GBig w.heap.size := hG
  have HL := hid hL
  have HG := hid hG
  clear hL hG hwx
  have hT1 := tab_new w tab1 #[.string ⟨#[121]⟩, .string ⟨#[53]⟩, .bool false] rfl (by decide)
  have hb1 : Below w.heap.size w ((w.alloc (.cells #[.string ⟨#[121]⟩, .string ⟨#[53]⟩, .bool false] TPr)).alloc (.cells #[.slice (some ⟨w.heap.size, 0, none⟩) 1 1] TT)) := ((Below.refl _ _).alloc (Nat.le_refl _) _).alloc (by simp) _
  go_enter Tryz.func6, Tryz.ntmps6
  go_wp2_with fail
  obtain ⟨W1, hW1⟩ : ∃ W1, W1 = (w.alloc (.cells #[.string ⟨#[121]⟩, .string ⟨#[53]⟩, .bool false] TPr)).alloc (.cells #[.slice (some ⟨w.heap.size, 0, none⟩) 1 1] TT) := ⟨_, rfl⟩
  rw [← hW1] at hb1
  rw [← hW1]
  have hT1 : TabAt W1 w.heap.size (w.heap.size + 1) tab1 (.slice (some ⟨w.heap.size, 0, none⟩) 1 1) := by rw [hW1]; exact hT1
  clear hW1
  have hs1 := hb1.size
  have HB1 := hid hb1
  have HT1 := hid hT1
  ((with_reducible refine (parse_any ⟨#[120, 61, 121, 43, 61, 50]⟩ _ (HL.out.below hb1) (by have := HG.out; unfold GBig at *; omega)).mono ?_); rintro e1 w2 ⟨r, hpo, hg2, hres⟩)
  obtain rfl := parse1 hpo
  obtain ⟨v, rfl, hx⟩ := hres
  obtain ⟨A1, cap1, rfl, _, _⟩ := hx.form
  dsimp only [ex1, Ex.op, Ex.num, Ex.name, Ex.kids, Exs.len, Nat.zero_add] at *
  have HP2 := hid (below_of_none hg2)
  clear hg2 hpo
  have HX2 := hid hx
  have hg1 : w.heap.size + 1 < W1.heap.size := hT1.1.lt
  have hBa : Below W1.heap.size W1 (w2.alloc (.cells #[.string ⟨#[61]⟩, .int .i64 0, .string ⟨#[120]⟩, .slice A1 1 cap1] 30)) := HP2.out.alloc HP2.out.size _
  have hVI : VIn (w2.alloc (.cells #[.string ⟨#[61]⟩, .int .i64 0, .string ⟨#[120]⟩, .slice A1 1 cap1] 30)) (w.heap.size + 1) w.heap.size tab1 (.slice (some ⟨w.heap.size, 0, none⟩) 1 1) := ⟨HT1.out.below hBa, (HL.out.below HB1.out).below hBa, HG.out, by have := HG.out; unfold GBig at *; omega, short1⟩
  have HVI := hid hVI
  have HXV := hid ((hx.alloc_ (.cells #[.string ⟨#[61]⟩, .int .i64 0, .string ⟨#[120]⟩, .slice A1 1 cap1] 30)).free hg1 (fun b hb => HT1.out.own_lt b hb))
  have HBA := hid hBa
  clear hVI hx hT1 hb1 hBa
  go_wp2_with fail
  ((with_reducible refine (value_any ex1 _ (w.heap.size + 1) w.heap.size tab1 _ _ HXV.out HVI.out (by decide) (deep_any 200 (by decide) ex1 (by decide)) (val_any ex1 (by decide))).mono ?_); rintro e2 w3 ⟨u3, hst, htab, rfl⟩)
  rw [value1] at htab ⊢
  dsimp only at htab ⊢
  have hbb := hst.belowOf (B0 := w.heap.size) (by omega) (fun b hb => HVI.out.tab.own_ge b hb) HVI.out.tab.2.2
  have HV3 := hid (HVI.out.step hst htab short2)
  have HB3 := hid ((HB1.out.trans (HBA.out.mono HB1.out.size)).trans hbb)
  have HT3 := hid htab
  clear hst htab hbb
  go_wp2_with fail
  ((with_reducible refine (Get_any tab2 [120] (w.heap.size + 1) w.heap.size u3 _ HT3.out (by decide)).mono ?_); rintro e3 w4 ⟨rfl, hb4⟩)
  rw [get2]
  dsimp only
  have HB4 := hid (bel_step HB3.out hb4)
  clear hb4
  go_wp2_with fail
  ((with_reducible refine (parse_any ⟨#[48, 124, 124, 120, 61, 49]⟩ _ (HL.out.below HB4.out) (by have := HG.out; have := HB4.out.size; unfold GBig at *; omega)).mono ?_); rintro e5 w5 ⟨r, hpo, hg2, hres⟩)
  obtain rfl := parse2 hpo
  dsimp only at hres
  subst hres
  have HB5 := hid ((bel_step HB4.out (below_of_none hg2)).alloc (bel_step HB4.out (below_of_none hg2)).size (.cells #[.string ⟨#[]⟩, .int .i64 0, .string ⟨#[]⟩, .slice none 0 0] 30))
  clear hg2 hpo
  go_wp2_with fail
  ((with_reducible refine (parse_any ⟨#[48, 56]⟩ _ (HL.out.below HB5.out) (by have := HG.out; have := HB5.out.size; unfold GBig at *; omega)).mono ?_); rintro e5 w6 ⟨r, hpo, hg2, hres⟩)
  obtain rfl := parse3 hpo
  dsimp only at hres
  subst hres
  have HB6 := hid ((bel_step HB5.out (below_of_none hg2)).alloc (bel_step HB5.out (below_of_none hg2)).size (.cells #[.string ⟨#[]⟩, .int .i64 0, .string ⟨#[]⟩, .slice none 0 0] 30))
  clear hg2 hpo
  go_wp2_with fail
  ((with_reducible refine (parse_any ⟨#[97, 63, 45, 98, 58, 51]⟩ _ (HL.out.below HB6.out) (by have := HG.out; have := HB6.out.size; unfold GBig at *; omega)).mono ?_); rintro e7 w7 ⟨r, hpo, hg2, hres⟩)
  obtain rfl := parse4 hpo
  obtain ⟨v, rfl, hx⟩ := hres
  obtain ⟨A4, cap4, rfl, _, _⟩ := hx.form
  dsimp only [ex4, Ex.op, Ex.num, Ex.name, Ex.kids, Exs.len, Nat.zero_add, Nat.reduceAdd] at *
  have HB7 := hid ((bel_step HB6.out (below_of_none hg2)).alloc (bel_step HB6.out (below_of_none hg2)).size (.cells #[.string ⟨#[63]⟩, .int .i64 0, .string ⟨#[]⟩, .slice A4 3 cap4] 30))
  have HX7 := hid (hx.alloc_ (.cells #[.string ⟨#[63]⟩, .int .i64 0, .string ⟨#[]⟩, .slice A4 3 cap4] 30))
  clear hg2 hpo hx
  go_wp2_with fail
  ((with_reducible refine (Show_any ex4 _ _ _ HX7.out (by decide) (by decide) (HL.out.below HB7.out)).mono ?_); rintro e8 w8 ⟨rfl, hb8⟩)
  rw [out4]
  dsimp only
  have HB8 := hid (bel_step HB7.out hb8)
  clear hb8
  go_wp2_with fail
  go_ret
  exact ⟨rfl, HB8.out⟩
end Go.Proofs.YtadmmmehphhecaaGreatDoor
/- Plain: which expressions are few; what follows from it. No program in sight. -/
namespace Go.Proofs.YtadmmmehphhecaaGreatDoor
open Go.RowKit
mutual
/-- numbers of 64 bits -/
def numsF : Ex → Bool
  | .mk _ n _ k => decide (-9223372036854775808 ≤ n) && decide (n ≤ 9223372036854775807) && numsL k
def numsL : Exs → Bool
  | .nil => true
  | .cons e r => numsF e && numsL r
end
mutual
/-- no row is longer than what a machine reaches -/
def wideF : Ex → Bool
  | .mk _ _ _ k => decide (k.len ≤ 140737488355328) && wideL k
def wideL : Exs → Bool
  | .nil => true
  | .cons e r => wideF e && wideL r
end
mutual
/-- the harness's few -/
def fewF : Ex → Bool
  | .mk _ _ nm k => decide (wrap64 ((szL k + 1 : Nat) : Int) ≤ 600) && decide (nm.length ≤ 100) && fewL k
def fewL : Exs → Bool
  | .nil => true
  | .cons e r => fewF e && fewL r
end
theorem fewL_all : ∀ l : Exs, fewL l = l.toL.all fewF
  | .nil => rfl
  | .cons e r => by simp [fewL, Exs.toL, fewL_all r]
theorem fewF_eq (e : Ex) : fewF e = (decide (wrap64 (szF e : Int) ≤ 600) && decide (e.name.length ≤ 100) && e.kids.toL.all fewF) := by
  cases e; simp only [fewF, fewL_all, szF]; rfl
theorem wide_len {e : Ex} (h : wideF e = true) : e.kids.len ≤ 140737488355328 := by
  cases e; simp only [wideF, Bool.and_eq_true, decide_eq_true_eq] at h; exact h.1
theorem wideL_at : ∀ (l : Exs) (k : Nat) (h : k < l.toL.length), wideL l = true → wideF l.toL[k] = true
  | .nil, k, h, _ => by simp [Exs.toL] at h
  | .cons e r, 0, h, ho => by simp only [wideL, Bool.and_eq_true] at ho; exact ho.1
  | .cons e r, k + 1, h, ho => by
    simp only [wideL, Bool.and_eq_true] at ho
    exact wideL_at r k (by simpa [Exs.toL] using h) ho.2
theorem wide_at {e : Ex} (h : wideF e = true) (k : Nat) (hk : k < e.kids.toL.length) : wideF e.kids.toL[k] = true := by
  apply wideL_at
  cases e; simp only [wideF, Bool.and_eq_true] at h; exact h.2
theorem wrap_small (n : Nat) (h : n < 9223372036854775808) : wrap64 (n : Int) = (n : Int) := by unfold wrap64; omega
mutual
theorem few_sz : ∀ e : Ex, wideF e = true → fewF e = true → szF e ≤ 600
  | .mk op n nm k, hw, hf => by
    simp only [wideF, Bool.and_eq_true, decide_eq_true_eq] at hw
    simp only [fewF, Bool.and_eq_true, decide_eq_true_eq] at hf
    have h1 := few_szL k hw.2 hf.2
    have h2 := hf.1.1
    have h3 : szL k ≤ 600 * 140737488355328 := Nat.le_trans h1 (Nat.mul_le_mul (Nat.le_refl _) hw.1)
    rw [wrap_small _ (by omega)] at h2
    simp only [szF]; omega
theorem few_szL : ∀ l : Exs, wideL l = true → fewL l = true → szL l ≤ 600 * l.len
  | .nil, _, _ => by simp [szL]
  | .cons e r, hw, hf => by
    simp only [wideL, Bool.and_eq_true] at hw
    simp only [fewL, Bool.and_eq_true] at hf
    have h1 := few_sz e hw.1 hf.1
    have h2 := few_szL r hw.2 hf.2
    simp only [szL, Exs.len]; omega
end
mutual
theorem few_ok : ∀ e : Ex, numsF e = true → fewF e = true → okF e = true
  | .mk op n nm k, hw, hf => by
    simp only [numsF, Bool.and_eq_true, decide_eq_true_eq] at hw
    simp only [fewF, Bool.and_eq_true, decide_eq_true_eq] at hf
    have := few_okL k hw.2 hf.2
    simp only [okF, Bool.and_eq_true, decide_eq_true_eq]
    exact ⟨⟨⟨hw.1.1, hw.1.2⟩, by omega⟩, this⟩
theorem few_okL : ∀ l : Exs, numsL l = true → fewL l = true → okL l = true
  | .nil, _, _ => rfl
  | .cons e r, hw, hf => by
    simp only [numsL, Bool.and_eq_true] at hw
    simp only [fewL, Bool.and_eq_true] at hf
    simp only [okL, Bool.and_eq_true]
    exact ⟨few_ok e hw.1 hf.1, few_okL r hw.2 hf.2⟩
end
/-- sizes, up to an index -/
def szT (l : Exs) (k : Nat) : Nat := ((l.toL.take k).map szF).sum
theorem szT_zero (l : Exs) : szT l 0 = 0 := by simp [szT]
theorem szT_step (l : Exs) (k : Nat) (h : k < l.toL.length) : szT l (k + 1) = szT l k + szF l.toL[k] := by
  unfold szT
  rw [List.take_add_one, List.getElem?_eq_getElem h]
  simp only [Option.toList, List.map_append, List.map_cons, List.map_nil, List.sum_append, List.sum_cons, List.sum_nil, Nat.add_zero]
theorem szT_all : ∀ l : Exs, (l.toL.map szF).sum = szL l
  | .nil => by simp [Exs.toL, szL]
  | .cons e r => by simp [Exs.toL, szL, szT_all r]
theorem szT_end (l : Exs) : szT l l.len = szL l := by unfold szT; rw [← Exs.toL_len, List.take_length]; exact szT_all l
theorem wrap_add (a b : Nat) : wrap64 (wrap64 (a : Int) + wrap64 (b : Int)) = wrap64 ((a + b : Nat) : Int) := by unfold wrap64; omega
/-- how deep, for the reference: no more than the size -/
theorem rdeep_le : ∀ e : Ex, rdeepF e ≤ szF e := by
  have key : ∀ n, (∀ e, szF e ≤ n → rdeepF e ≤ szF e) := by
    intro n
    induction n with
    | zero => intro e h; have := szF_pos e; omega
    | succ n ih =>
      intro e h
      have hl : ∀ l : Exs, szL l ≤ n → rdeepL l ≤ szL l := by
        intro l
        match l with
        | .nil => intro _; simp [rdeepL, szL]
        | .cons e r =>
          intro hl
          simp only [szL] at hl
          simp only [rdeepL, szL]
          have h1 := ih e (by omega)
          have h2 : ∀ r : Exs, szL r ≤ n → rdeepL r ≤ szL r := by
            intro r
            induction hr : r.len generalizing r with
            | zero => intro _; cases r with
              | nil => simp [rdeepL]
              | cons a b => simp [Exs.len] at hr
            | succ m ihm => intro hs; cases r with
              | nil => simp [rdeepL]
              | cons a b =>
                simp only [szL] at hs
                have := ih a (by omega)
                have := ihm b (by simp [Exs.len] at hr; omega) (by omega)
                simp only [rdeepL, szL]; omega
          have := h2 r (by omega)
          omega
      cases e with
      | mk op nn nm k =>
        simp only [szF] at h
        have := hl k (by omega)
        simp only [rdeepF, szF]; omega
  intro e
  exact key _ e (Nat.le_refl _)
end Go.Proofs.YtadmmmehphhecaaGreatDoor
/- The walks of the harness's size and few. Rows no longer than what a machine reaches. -/
namespace Go.Proofs.YtadmmmehphhecaaGreatDoor
open Go.RowKit
def SizeC (e : Ex) : Prop := ∀ (w : World) (P : Nat → Prop) (v : Value), RdX w P e v → Calls Tryz.prog 29 #[v] w fun x w' => x = .returned (.int .i64 (wrap64 (szF e : Int))) ∧ Below w.heap.size w w'
theorem SizeC.call {e : Ex} (h : SizeC e) (w : World) (P : Nat → Prop) (v : Value) (hr : RdX w P e v) : Calls Tryz.prog 29 #[v] w fun x w' => x = .returned (.int .i64 (wrap64 (szF e : Int))) ∧ Below w.heap.size w w' := h w P v hr
set_option maxRecDepth 100000 in
set_option maxHeartbeats 2000000 in
theorem size_step (e : Ex) (hn : e.kids.len ≤ 140737488355328) (hk : ∀ k (h : k < e.kids.toL.length), SizeC e.kids.toL[k]) : SizeC e := by
  intro w P v hr
  obtain ⟨A, cap, rfl, hcap, hkids⟩ := hr.form
  have HKI := hid hkids
  have HK := hid hk
  clear hk hkids hr
  go_enter Tryz.func29, Tryz.ntmps29
  go_wp2_with fail
  obtain ⟨W0, hW0⟩ : ∃ W0, W0 = w.alloc (.cells #[.string ⟨e.op.toArray⟩, .int .i64 e.num, .string ⟨e.name.toArray⟩, .slice A e.kids.len cap] 30) := ⟨_, rfl⟩
  have kB := Bk.new w 30 #[.string ⟨e.op.toArray⟩, .int .i64 e.num, .string ⟨e.name.toArray⟩, .slice A e.kids.len cap]
  have HW0 := hid (show Below w.heap.size w W0 by rw [hW0]; exact (Below.refl _ _).alloc (Nat.le_refl _) _)
  rw [← hW0] at kB
  rw [← hW0]
  clear hW0
  have KB := hid kB
  clear kB

  go_loopw [3, 4] (fun v2 v5 wr => ∃ k : Nat, k ≤ e.kids.len ∧ v5 = .int .i64 k ∧ v2 = .int .i64 (wrap64 ((1 + szT e.kids k : Nat) : Int)) ∧ Hid (Below W0.heap.size W0 wr)) (fun v2 v5 _ => e.kids.len - (intOf v5).toNat)
  case atStart => exact ⟨0, Nat.zero_le _, rfl, congrArg (Value.int .i64) (by rw [szT_zero]; unfold wrap64; omega), hid (Below.refl _ _)⟩
  case round =>
    obtain ⟨k, hk, rfl, rfl, HB⟩ := hrel
    obtain ⟨c0, c1, c2, c3⟩ := KB.out.cells4
    have c3 := bel_cell HB.out c3
    by_cases hlt : k < e.kids.len
    · have hkl : k < e.kids.toL.length := by rw [Exs.toL_len]; exact hlt
      obtain ⟨b, off, rfl⟩ := HKI.out.form_ (by omega)
      have HBB := hid (HW0.out.trans (HB.out.mono HW0.out.size))
      obtain ⟨A2, cap2, _, q0, q1, q2, q3, hx⟩ := RdL.kid e.kids b off k hkl HKI.out
      have q0 := bel_cell HBB.out q0
      have q1 := bel_cell HBB.out q1
      have q2 := bel_cell HBB.out q2
      have q3 := bel_cell HBB.out q3
      have HX := hid (hx.below HBB.out)
      have HST := hid (szT_step e.kids k hkl)
      clear hx
      go_wp2_with fail
      ((with_reducible refine ((HK.out k hkl).call _ P _ HX.out).mono ?_); rintro e1 w1 ⟨rfl, hb1⟩)
      have HB1 := hid (HB.out.trans (hb1.mono HB.out.size))
      go_wp2_with fail
      go_round
      case rel => exact ⟨k + 1, by omega, rfl, congrArg (Value.int .i64) (by rw [HST.out]; unfold wrap64; omega), HB1⟩
      case measure => simp [intOf]; omega
    · go_wp2_with fail
      go_ret
      refine ⟨ret_int ?_, HW0.out.trans (HB.out.mono HW0.out.size)⟩
      rw [show k = e.kids.len by omega, szT_end]
      have h9 := szF_kids e
      congr 1; omega
theorem size_any : ∀ e : Ex, wideF e = true → SizeC e := by
  intro e
  induction e using Ex.ind with
  | h e ih => exact fun hw => size_step e (wide_len hw) (fun k hk => ih k hk (wide_at hw k hk))
def FewC (e : Ex) : Prop := ∀ (w : World) (P : Nat → Prop) (v : Value), RdX w P e v → Calls Tryz.prog 11 #[v] w fun x w' => x = .returned (.bool (fewF e)) ∧ Below w.heap.size w w'
theorem FewC.call {e : Ex} (h : FewC e) (w : World) (P : Nat → Prop) (v : Value) (hr : RdX w P e v) : Calls Tryz.prog 11 #[v] w fun x w' => x = .returned (.bool (fewF e)) ∧ Below w.heap.size w w' := h w P v hr
set_option maxRecDepth 100000 in
set_option maxHeartbeats 2000000 in
theorem few_step (e : Ex) (hn : e.kids.len ≤ 140737488355328) (hs : SizeC e) (hk : ∀ k (h : k < e.kids.toL.length), FewC e.kids.toL[k]) : FewC e := by
  intro w P v hr
  obtain ⟨m, hm⟩ : ∃ m, m = wrap64 (szF e : Int) := ⟨_, rfl⟩
  have hE := fewF_eq e
  have hs2 : ∀ (w : World) (P : Nat → Prop) (v : Value), RdX w P e v → Calls Tryz.prog 29 #[v] w fun x w' => x = .returned (.int .i64 m) ∧ Below w.heap.size w w' := by rw [hm]; exact hs
  rw [← hm] at hE
  have HE := hid hE
  have HXE := hid hr
  have HS := hid hs2
  clear hE hs2 hm
  obtain ⟨A, cap, rfl, hcap, hkids⟩ := hr.form
  have HKI := hid hkids
  have HK := hid hk
  clear hk hkids hr hs
  have kB := Bk.new w 30 #[.string ⟨e.op.toArray⟩, .int .i64 e.num, .string ⟨e.name.toArray⟩, .slice A e.kids.len cap]
  have hB0 : Below w.heap.size w (w.alloc (.cells #[.string ⟨e.op.toArray⟩, .int .i64 e.num, .string ⟨e.name.toArray⟩, .slice A e.kids.len cap] 30)) := (Below.refl _ _).alloc (Nat.le_refl _) _
  go_enter Tryz.func11, Tryz.ntmps11
  go_wp2_with fail
  obtain ⟨W0, hW0⟩ : ∃ W0, W0 = w.alloc (.cells #[.string ⟨e.op.toArray⟩, .int .i64 e.num, .string ⟨e.name.toArray⟩, .slice A e.kids.len cap] 30) := ⟨_, rfl⟩
  rw [← hW0] at kB hB0
  try rw [← hW0]
  clear hW0
  have KB := hid kB
  have HB0 := hid hB0
  obtain ⟨c0, c1, c2, c3⟩ := kB.cells4
  clear kB hB0
  ((with_reducible refine (HS.out _ P _ (HXE.out.below HB0.out)).mono ?_); rintro e1 w1 ⟨rfl, hb1⟩)
  have c0 := bel_cell hb1 c0
  have c1 := bel_cell hb1 c1
  have c2 := bel_cell hb1 c2
  have c3 := bel_cell hb1 c3
  have HB1 := hid (HB0.out.trans (hb1.mono HB0.out.size))
  clear hb1
  by_cases hsz : 600 < m
  · have HF : Hid (fewF e = false) := hid (by rw [HE.out, decide_eq_false (p := m ≤ 600) (by omega)]; simp)
    go_wp2_with fail
    go_ret
    exact ⟨ret_bool HF.out.symm, HB1.out⟩
  by_cases hnl : 100 < e.name.length
  · have hnli : (100 : Int) < (e.name.length : Int) := by omega
    have HF : Hid (fewF e = false) := hid (by rw [HE.out, decide_eq_false (p := e.name.length ≤ 100) (by omega)]; simp)
    go_wp2_with fail
    go_ret
    exact ⟨ret_bool HF.out.symm, HB1.out⟩
  have hnli : ¬ (100 : Int) < (e.name.length : Int) := by omega
  have HE : Hid (fewF e = e.kids.toL.all fewF) := hid (by rw [HE.out, decide_eq_true (p := m ≤ 600) (by omega), decide_eq_true (p := e.name.length ≤ 100) (by omega)]; simp)
  have hcc : ∀ w2, Below w1.heap.size w1 w2 → w2.cell? ⟨w.heap.size, 3, none⟩ = some (.slice A e.kids.len cap) := fun w2 h => bel_cell h c3
  have HC := hid hcc
  clear hcc
  go_wp2_with fail
  clear c0 c1 c2 c3
  go_loopw [3] (fun v12 wr => ∃ k : Nat, k ≤ e.kids.len ∧ v12 = .int .i64 k ∧ Hid (∀ j (hj : j < e.kids.toL.length), j < k → fewF e.kids.toL[j] = true) ∧ Hid (Below w1.heap.size w1 wr)) (fun v12 _ => e.kids.len - (intOf v12).toNat)
  case atStart => exact ⟨0, Nat.zero_le _, rfl, hid (fun j hj h => by omega), hid (Below.refl _ _)⟩
  case round =>
    obtain ⟨k, hk, rfl, HA, HB⟩ := hrel
    have c3 := HC.out _ HB.out
    have HBB := hid (HB1.out.trans (HB.out.mono HB1.out.size))
    by_cases hlt : k < e.kids.len
    · have hkl : k < e.kids.toL.length := by rw [Exs.toL_len]; exact hlt
      obtain ⟨b, off, rfl⟩ := HKI.out.form_ (by omega)
      obtain ⟨A2, cap2, _, q0, q1, q2, q3, hx⟩ := RdL.kid e.kids b off k hkl HKI.out
      have q0 := bel_cell HBB.out q0
      have q1 := bel_cell HBB.out q1
      have q2 := bel_cell HBB.out q2
      have q3 := bel_cell HBB.out q3
      have HX := hid (hx.below HBB.out)
      clear hx
      go_wp2_with fail
      ((with_reducible refine ((HK.out k hkl).call _ P _ HX.out).mono ?_); rintro e1 w2 ⟨rfl, hb2⟩)
      have HB2 := hid (HB.out.trans (hb2.mono HB.out.size))
      cases hf : fewF e.kids.toL[k]
      · have HF : Hid (fewF e = false) := hid (by rw [HE.out]; simp; exact ⟨_, List.getElem_mem hkl, hf⟩)
        clear hf
        go_wp2_with fail
        go_ret
        exact ⟨ret_bool HF.out.symm, HB1.out.trans (HB2.out.mono HB1.out.size)⟩
      · have HA1 : Hid (∀ j (hj : j < e.kids.toL.length), j < k + 1 → fewF e.kids.toL[j] = true) := hid (fun j hj h => by
          by_cases he : j = k
          · subst he; exact hf
          · exact HA.out j hj (by omega))
        clear hf
        go_wp2_with fail
        go_round
        case rel => exact ⟨k + 1, by omega, rfl, HA1, HB2⟩
        case measure => simp [intOf]; omega
    · have HF : Hid (fewF e = true) := hid (by
        rw [HE.out, List.all_eq_true]
        intro x hx
        obtain ⟨j, hj, rfl⟩ := List.mem_iff_getElem.1 hx
        exact HA.out j hj (by rw [Exs.toL_len] at hj; omega))
      go_wp2_with fail
      go_ret
      exact ⟨ret_bool HF.out.symm, HBB.out⟩
theorem few_any : ∀ e : Ex, wideF e = true → FewC e := by
  intro e
  induction e using Ex.ind with
  | h e ih => exact fun hw => few_step e (wide_len hw) (size_any e hw) (fun k hk => ih k hk (wide_at hw k hk))
end Go.Proofs.YtadmmmehphhecaaGreatDoor
/- The walk of the harness's Plain. Expressions of up to a hundred thousand ops. -/
namespace Go.Proofs.YtadmmmehphhecaaGreatDoor
open Go.RowKit
abbrev TRE : TypeId := 37
theorem info_rex : (Tryz.prog.info? 37).map (fun i => (i.zero, i.size, i.bytes)) = some (some (.agg #[.string ⟨#[]⟩, .int .i64 0, .string ⟨#[]⟩, .slice none 0 0]), 4, 64) := by kernel_rfl
def PlainC (e : Ex) : Prop := ∀ (w : World) (P : Nat → Prop) (v : Value), RdX w P e v → Calls Tryz.prog 14 #[v] w fun x w' => ∃ u, x = .returned u ∧ RdX w' (fun b => w.heap.size ≤ b) e u ∧ Below w.heap.size w w'
theorem PlainC.call {e : Ex} (h : PlainC e) (w : World) (P : Nat → Prop) (v : Value) (hr : RdX w P e v) : Calls Tryz.prog 14 #[v] w fun x w' => ∃ u, x = .returned u ∧ RdX w' (fun b => w.heap.size ≤ b) e u ∧ Below w.heap.size w w' := h w P v hr
/-- the cells of the first kids -/
def KR (w : World) (P : Nat → Prop) (l : Exs) (k : Nat) (cs : List Value) : Prop := ∀ j (h : j < l.toL.length), j < k → ∃ c0 c1 c2 c3, cs[j * 4]? = some c0 ∧ cs[j * 4 + 1]? = some c1 ∧ cs[j * 4 + 2]? = some c2 ∧ cs[j * 4 + 3]? = some c3 ∧ RdX w P l.toL[j] (.agg #[c0, c1, c2, c3])
/-- not below H, neither the struct nor its row, and there -/
def FreeH (H : Nat) (w : World) (g : Nat) (u : Value) (b : Nat) : Prop := H ≤ b ∧ Free w g u b
theorem RdX.stepH {H g : Nat} {w w' : World} {u u' : Value} {e : Ex} {v : Value} (h : RdX w (FreeH H w g u) e v) (k : TStep g w u w' u') : RdX w' (FreeH H w' g u') e v :=
  RdX.keep (fun b off x hp hx => ⟨⟨hp.1, k.free hp.2⟩, (World.cell?_of_block (w := w) (w' := w') (a := ⟨b, off, none⟩) (k.block b hp.2)).trans hx⟩) e v h
theorem KR.stepH {H g : Nat} {w w' : World} {u u' : Value} {l : Exs} {n : Nat} {cs : List Value} (h : KR w (FreeH H w g u) l n cs) (k : TStep g w u w' u') : KR w' (FreeH H w' g u') l n cs := fun j hj hjk => by
  obtain ⟨c0, c1, c2, c3, h0, h1, h2, h3, h4⟩ := h j hj hjk
  exact ⟨c0, c1, c2, c3, h0, h1, h2, h3, h4.stepH k⟩
theorem RdX.freeH {w : World} {g H N : Nat} {u : Value} {e : Ex} {v : Value} (h : RdX w (fun b => N ≤ b) e v) (hH : H ≤ N) (hg : g < N) (hu : ∀ b, u.ownBlock = some b → b < N) : RdX w (FreeH H w g u) e v :=
  RdX.keep (fun b off x hp hx => ⟨⟨by omega, by omega, fun he => by have := hu b he.symm; omega, World.block_lt_of_cell? w _ hx⟩, hx⟩) e v h
theorem own_lt {w : World} {B e size n : Nat} {u : Value} {cs : List Value} (h : w.ownsRow B e size u n cs) : ∀ b, u.ownBlock = some b → b < w.heap.size ∧ B ≤ b := by
  intro b hb
  rcases h.2 with ⟨rfl, _⟩ | ⟨g', cap, cur, rfl, hB, hh, _⟩
  · simp [Value.ownBlock] at hb
  · have : g' = b := by simpa [Value.ownBlock] using hb
    subst this
    exact ⟨Bk.lt hh, hB⟩
theorem KR.push {w : World} {P : Nat → Prop} {l : Exs} {n : Nat} {cs : List Value} (h : KR w P l n cs) (hn : n < l.toL.length) (hl : cs.length = n * 4) {c0 c1 c2 c3 : Value} (hx : RdX w P l.toL[n] (.agg #[c0, c1, c2, c3])) : KR w P l (n + 1) (cs ++ [c0, c1, c2, c3]) := fun j hj hjk => by
  by_cases he : j = n
  · subst he
    refine ⟨c0, c1, c2, c3, ?_, ?_, ?_, ?_, hx⟩
    · rw [List.getElem?_append_right (by omega), hl, Nat.sub_self]; rfl
    · rw [List.getElem?_append_right (by omega), hl, show j * 4 + 1 - j * 4 = 1 by omega]; rfl
    · rw [List.getElem?_append_right (by omega), hl, show j * 4 + 2 - j * 4 = 2 by omega]; rfl
    · rw [List.getElem?_append_right (by omega), hl, show j * 4 + 3 - j * 4 = 3 by omega]; rfl
  · obtain ⟨d0, d1, d2, d3, h0, h1, h2, h3, h4⟩ := h j hj (by omega)
    refine ⟨d0, d1, d2, d3, ?_, ?_, ?_, ?_, h4⟩
    all_goals (rw [List.getElem?_append_left (by omega)]; assumption)
/-- a row whose cells lie in a block reads as the kids from a place on -/
theorem RdL.of_at {w : World} {P : Nat → Prop} {l : Exs} {cs : List Value} {b : Nat} (hP : P b) (hat : ∀ j u, cs[j]? = some u → w.cell? ⟨b, j, none⟩ = some u) (h : KR w P l l.len cs) : ∀ (r : Exs) (k : Nat), r.toL = l.toL.drop k → RdL w P r (some ⟨b, k * 4, none⟩)
  | .nil, k, _ => by unfold RdL; trivial
  | .cons e r, k, he => by
    have hk : k < l.toL.length := by
      rcases Nat.lt_or_ge k l.toL.length with h | h
      · exact h
      · rw [List.drop_eq_nil_of_le h] at he; cases he
    rw [List.drop_eq_getElem_cons hk] at he
    simp only [Exs.toL, List.cons.injEq] at he
    obtain ⟨c0, c1, c2, c3, h0, h1, h2, h3, h4⟩ := h k hk (by rw [← Exs.toL_len]; exact hk)
    unfold RdL
    refine ⟨b, k * 4, c0, c1, c2, c3, rfl, hP, hat _ _ h0, hat _ _ h1, hat _ _ h2, hat _ _ h3, by rw [he.1]; exact h4, ?_⟩
    have := RdL.of_at hP hat h r (k + 1) he.2
    rwa [show (k + 1) * 4 = k * 4 + 4 by omega] at this
/-- a struct with a row of its own in its last field takes a further element -/
theorem row_app {TS T g B ga capn k : Nat} {w w3 : World} {o : Obj} {u : Value} {cs ds : List Value} {x0 x1 x2 : Value} (hb : Bk w g TS #[x0, x1, x2, u]) (hB : g < B) (hBw : B ≤ w.heap.size) (hown : w.ownsRow B T 4 u k cs) (hown3 : w3.ownsRow B T 4 (.slice (some ⟨ga, 0, none⟩) (k + 1) capn) (k + 1) ds)
    (hg : (w.alloc o).grownBy w3 u.ownBlock) (hat : u.ownBlock = some ga ∨ ga = w.heap.size + 1) :
    TStep g w u (w3.setCell ⟨g, 3, none⟩ (.slice (some ⟨ga, 0, none⟩) (k + 1) capn)) (.slice (some ⟨ga, 0, none⟩) (k + 1) capn) ∧ Bk (w3.setCell ⟨g, 3, none⟩ (.slice (some ⟨ga, 0, none⟩) (k + 1) capn)) g TS #[x0, x1, x2, .slice (some ⟨ga, 0, none⟩) (k + 1) capn]
      ∧ (w3.setCell ⟨g, 3, none⟩ (.slice (some ⟨ga, 0, none⟩) (k + 1) capn)).ownsRow B T 4 (.slice (some ⟨ga, 0, none⟩) (k + 1) capn) (k + 1) ds := by
  have hgl := hb.lt
  have hB0 : Below w.heap.size w (w.alloc o) := (Below.refl _ _).alloc (Nat.le_refl _) _
  have hsz := hg.size
  simp at hsz
  have hgu : some g ≠ u.ownBlock := fun e => by have := (own_lt hown g e.symm).2; omega
  have k1 := (hb.alloc o).grown hg hgu
  have hne : g ≠ ga := by
    rcases hat with he | he
    · intro e; exact hgu (by rw [e, he])
    · omega
  refine ⟨⟨hg.os, hg.tape, hg.output, by simp [World.setCell]; omega, fun c hc => ?_, fun c hc => ?_⟩, k1.set_ 3 _, hown3.kept (row := some g) (grown_setCell (w := w3) (p := ⟨g, 3, none⟩) rfl _) (by simp [Value.ownBlock]; omega)⟩
  · rw [Below.heap_setCell _ _ _ _ (by simpa using hc.1)]
    rw [hg.block c (by have := hc.2.2; simp; omega) hc.2.1]
    exact Below.heap_alloc w o c hc.2.2
  · intro e
    have e : c = ga := by simpa [Value.ownBlock] using e
    rcases hat with he | he
    · exact hc.2.1 (by rw [e, he])
    · have := hc.2.2; omega
theorem rdx_row {w : World} {B T cap : Nat} {Q : Nat → Prop} {A : Option Addr} {e : Ex} {cs : List Value} (hown : w.ownsRow B T 4 (.slice A e.kids.len cap) e.kids.len cs) (hk : KR w Q e.kids e.kids.len cs) (hQ : ∀ b, B ≤ b → Q b) : RdX w Q e (.agg #[.string ⟨e.op.toArray⟩, .int .i64 e.num, .string ⟨e.name.toArray⟩, .slice A e.kids.len cap]) := by
  obtain ⟨op, n, nm, kk⟩ := e
  dsimp only [Ex.op, Ex.num, Ex.name, Ex.kids] at *
  unfold RdX
  rcases hown.2 with ⟨h1, h2⟩ | ⟨g, cap', cur, h1, hB, _, hc, _⟩
  · injection h1 with e1 e2 e3
    have : kk = .nil := by cases kk with
      | nil => rfl
      | cons a b => simp [Exs.len] at h2
    subst this
    exact ⟨A, cap, rfl, by simp [Exs.len], by unfold RdL; trivial⟩
  · injection h1 with e1 e2 e3
    subst e1 e3
    refine ⟨_, _, rfl, hc, ?_⟩
    have := RdL.of_at (w := w) (P := Q) (hQ g hB) (fun j u hu => by have := At.of_own hown j u hu; rwa [Nat.zero_add] at this) hk kk 0 (by simp)
    rwa [Nat.zero_mul] at this
theorem TStep.belowH {g B0 : Nat} {w w' : World} {u u' : Value} (h : TStep g w u w' u') (hg : B0 ≤ g) (hu : ∀ b, u.ownBlock = some b → B0 ≤ b) (hB : B0 ≤ w.heap.size) : Below B0 w w' :=
  ⟨h.os, h.tape, h.output, h.size, fun k hk => h.block k ⟨by omega, fun he => by have := hu k he.symm; omega, by omega⟩⟩
set_option maxRecDepth 100000 in
set_option maxHeartbeats 4000000 in
theorem plain_step (e : Ex) (hn : e.kids.len ≤ 100000) (hk : ∀ k (h : k < e.kids.toL.length), PlainC e.kids.toL[k]) : PlainC e := by
  intro w P v hr
  obtain ⟨i0, hi0, hz0, hz1, hz2⟩ := info_parts info_rex
  obtain ⟨A, cap, rfl, hcap, hkids⟩ := hr.form
  have HKI := hid hkids
  have HK := hid hk
  clear hk hkids hr
  go_enter Tryz.func14, Tryz.ntmps14
  go_wp2_with fail
  obtain ⟨W1, hW1⟩ : ∃ W1, W1 = (w.alloc (.cells #[.string ⟨e.op.toArray⟩, .int .i64 e.num, .string ⟨e.name.toArray⟩, .slice A e.kids.len cap] 30)).alloc (.cells #[.string ⟨#[]⟩, .int .i64 0, .string ⟨#[]⟩, .slice none 0 0] 37) := ⟨_, rfl⟩
  obtain ⟨W0, hW0⟩ : ∃ W0, W0 = W1.alloc (.cells #[.string ⟨e.op.toArray⟩, .int .i64 e.num, .string ⟨e.name.toArray⟩, .slice none 0 0] 37) := ⟨_, rfl⟩
  have hs1 : W1.heap.size = w.heap.size + 1 + 1 := by rw [hW1]; simp
  have hs0 : W0.heap.size = w.heap.size + 1 + 1 + 1 := by rw [hW0]; simp [hs1]
  have kB : Bk W0 w.heap.size 30 #[.string ⟨e.op.toArray⟩, .int .i64 e.num, .string ⟨e.name.toArray⟩, .slice A e.kids.len cap] := by rw [hW0, hW1]; exact ((Bk.new w _ _).alloc _).alloc _
  have kG : Bk W0 (w.heap.size + 1 + 1) 37 #[.string ⟨e.op.toArray⟩, .int .i64 e.num, .string ⟨e.name.toArray⟩, .slice none 0 0] := by rw [hW0, ← hs1]; exact Bk.new W1 _ _
  have hB0 : Below w.heap.size w W0 := by rw [hW0, hW1]; exact (((Below.refl _ _).alloc (Nat.le_refl _) _).alloc (by simp) _).alloc (by simp; omega) _
  have hkz : Bk W1 (w.heap.size + 1) 37 #[.string ⟨#[]⟩, .int .i64 0, .string ⟨#[]⟩, .slice none 0 0] := by rw [hW1]; have := Bk.new (w.alloc (.cells #[.string ⟨e.op.toArray⟩, .int .i64 e.num, .string ⟨e.name.toArray⟩, .slice A e.kids.len cap] 30)) 37 #[.string ⟨#[]⟩, .int .i64 0, .string ⟨#[]⟩, .slice none 0 0]; simpa using this
  have hKZ := hW0
  rw [← hW1, ← hW0]
  clear hW0 hW1
  have kZ : Bk W0 (w.heap.size + 1) 37 #[.string ⟨#[]⟩, .int .i64 0, .string ⟨#[]⟩, .slice none 0 0] := by rw [hKZ]; exact hkz.alloc _
  have KB := hid kB
  have KG := hid kG
  have KZ := hid kZ
  clear hkz hKZ kZ
  have HB0 := hid hB0
  clear kB kG hB0
  go_loopw [4] (fun v4 wr => ∃ (k : Nat) (u : Value) (cs : List Value), k ≤ e.kids.len ∧ v4 = .int .i64 k ∧ Hid (TStep (w.heap.size + 1 + 1) W0 (.slice none 0 0) wr u) ∧ Hid (wr.ownsRow W0.heap.size 37 4 u k cs) ∧ Hid (Bk wr (w.heap.size + 1 + 1) 37 #[.string ⟨e.op.toArray⟩, .int .i64 e.num, .string ⟨e.name.toArray⟩, u]) ∧ Hid (KR wr (FreeH W0.heap.size wr (w.heap.size + 1 + 1) u) e.kids k cs)) (fun v4 _ => e.kids.len - (intOf v4).toNat)
  case atStart => exact ⟨0, _, [], Nat.zero_le _, rfl, hid (TStep.refl _ _ _), hid ⟨rfl, .inl ⟨rfl, rfl⟩⟩, KG, hid (fun j hj h => by omega)⟩
  case round =>
    obtain ⟨k, u, cs, hk, rfl, HST, HOW, HBK, HKR⟩ := hrel
    obtain ⟨A', cap', rfl⟩ := own_slice HOW.out
    have hszr := HST.out.size
    obtain ⟨p0, p1, p2, p3⟩ := KB.out.cells4
    obtain ⟨g0, g1, g2, g3⟩ := HBK.out.cells4
    have p3 := cell_step HST.out ⟨by omega, by simp [Value.ownBlock], by omega⟩ p3
    have f3 := HBK.out.free 3
    have hglt := HBK.out.lt
    clear p0 p1 p2
    by_cases hlt : k < e.kids.len
    · have hkl : k < e.kids.toL.length := by rw [Exs.toL_len]; exact hlt
      obtain ⟨b, off, rfl⟩ := HKI.out.form_ (by omega)
      obtain ⟨A2, cap2, _, q0, q1, q2, q3, hx⟩ := RdL.kid e.kids b off k hkl HKI.out
      have hbr : Below w.heap.size w wr := HB0.out.trans (HST.out.belowH (by omega) (by simp [Value.ownBlock]) HB0.out.size)
      have q0 := bel_cell hbr q0
      have q1 := bel_cell hbr q1
      have q2 := bel_cell hbr q2
      have q3 := bel_cell hbr q3
      have HX := hid (hx.below hbr)
      have HBR := hid hbr
      clear hx hbr
      go_wp2_with fail
      have HXD := hid (show RdX wr.drew P e.kids.toL[k] _ from HX.out.below (Below.refl wr.heap.size wr).drew)
      have HGN : Hid (∀ {w1 : World}, w1.ownsRow W0.heap.size 37 4 (.slice A' k cap') k cs → some (w.heap.size + 1 + 1) ≠ (Value.slice A' k cap').ownBlock) := hid (fun h he => by have := (own_lt h _ he.symm).2; omega)
      have hnews : ∀ (w1 : World) (c0 c1 c2 c3 : Value), ∀ j u, [c0, c1, c2, c3][j]? = some u → (w1.alloc (.cells #[c0, c1, c2, c3] 37)).cell? ((⟨w1.heap.size, 0, none⟩ : Addr).add j) = some u := fun w1 c0 c1 c2 c3 => World.news_of_block (cs := #[c0, c1, c2, c3]) (t := 37) (fr := (0, 0)) (heap_alloc_new w1 _)
      have HNW := hid hnews
      have h63 : k + 1 ≤ maxLen := by unfold maxLen; omega
      have hbytes : (k + 1) * 64 ≤ 140737488355328 := by omega
      have hwr0 : W0.heap.size ≤ wr.heap.size := hszr
      clear hnews
      go_region_law (first
        | (refine step_append_lies _ rfl (.tmp 20) (.tmp 27) 35 rfl W0.heap.size 37 i0 _ 4 64 Tryz.underlying35 hi0 hz0 hz1 hz2 rfl (by decide) (.slice A' k cap') k cs (by simp [Act.eval, Act.put]) HOWA.out ⟨w1.heap.size, 0, none⟩ 1 1 [.string ⟨e.kids.toL[k].op.toArray⟩, .int .i64 e.kids.toL[k].num, .string ⟨e.kids.toL[k].name.toArray⟩, .slice A1 e.kids.toL[k].kids.len cap1] (by simp [Act.eval, Act.put]) rfl (HNW.out w1 _ _ _ _) (by simp [Value.oneCell']) (by omega) h63 hbytes (by simp; omega) (w1.heap.size + 1) (by simp) ?_; intro ga capn w3 hown3 hgrow hat hlt3; have kb3 := (HBK1.out.alloc _).grown hgrow hgne; have g3 := kb3.cell 3 _ rfl; have f3 := kb3.free 3; have HOW3 := hid hown3; have HGR := hid hgrow; have HAT := hid hat; clear hown3 hgrow hat kb3)
        | (go_simp; go_at_call 14; (with_reducible refine ((HK.out k hkl).call _ P _ HXD.out).mono ?_); rintro e1 w1 ⟨u1, rfl, hx1, hb1⟩; obtain ⟨A1, cap1, rfl, hc1, _⟩ := hx1.form; have hb1 := ((Below.refl wr.heap.size wr).drew).trans hb1; have hs3 := hb1.size; have HOWA := hid (own_below (own_below HOW.out hb1) ((Below.refl _ _).alloc (Nat.le_refl _) (.cells #[.string ⟨e.kids.toL[k].op.toArray⟩, .int .i64 e.kids.toL[k].num, .string ⟨e.kids.toL[k].name.toArray⟩, .slice A1 e.kids.toL[k].kids.len cap1] 37))); have HOW1 := hid (own_below HOW.out hb1); have kb1 := HBK.out.below hb1 hglt; have HBK1 := hid kb1; have hgne := HGN.out HOW1.out; have hlt1 := kb1.lt; have hne1 := Nat.ne_of_lt hlt1; have g3 := kb1.cell 3 _ rfl; have f3 := kb1.free 3; have HRX := hid hx1; have HB1 := hid hb1; clear hx1 hb1 kb1)
        | fail)
      all_goals
        have hbw1 : W0.heap.size ≤ w1.heap.size := Nat.le_trans hwr0 hs3
        have HP := row_app HBK1.out (show w.heap.size + 1 + 1 < W0.heap.size by omega) hbw1 HOW1.out HOW3.out HGR.out HAT.out
        have HS1 := (TStep.below HB1.out : TStep (w.heap.size + 1 + 1) wr (.slice A' k cap') w1 (.slice A' k cap'))
        have HST3 := hid (HST.out.trans (HS1.trans HP.1))
        have hxf : RdX w1 (FreeH W0.heap.size w1 (w.heap.size + 1 + 1) (.slice A' k cap')) e.kids.toL[k] (.agg #[.string ⟨e.kids.toL[k].op.toArray⟩, .int .i64 e.kids.toL[k].num, .string ⟨e.kids.toL[k].name.toArray⟩, .slice A1 e.kids.toL[k].kids.len cap1]) := HRX.out.freeH hwr0 (show w.heap.size + 1 + 1 < wr.heap.size by omega) (fun b hb => (own_lt HOW.out b hb).1)
        have HKR3 := hid ((((HKR.out.stepH HS1).push hkl HOW.out.1 hxf)).stepH HP.1)
        have HBK3 := hid HP.2.1
        have HOW4 := hid HP.2.2
        clear HP HS1 hxf HKR HRX
        go_wp2_with fail
        go_round
        case rel => exact ⟨k + 1, _, _, by omega, rfl, HST3, HOW4, HBK3, HKR3⟩
        case measure => simp [intOf]; omega
    · obtain ⟨z0, z1, z2, z3⟩ := KZ.out.cells4
      have fz : Free W0 (w.heap.size + 1 + 1) (.slice none 0 0) (w.heap.size + 1) := ⟨by omega, by simp [Value.ownBlock], by omega⟩
      have z0 := cell_step HST.out fz z0
      have z1 := cell_step HST.out fz z1
      have z2 := cell_step HST.out fz z2
      have z3 := cell_step HST.out fz z3
      have KZr := hid (show Bk wr (w.heap.size + 1) 37 _ from (HST.out.block _ fz).trans KZ.out)
      have zf0 := KZr.out.free 0
      have zf1 := KZr.out.free 1
      have zf2 := KZr.out.free 2
      have zf3 := KZr.out.free 3
      clear f3 fz
      obtain rfl : k = e.kids.len := by omega
      have hbel : Below w.heap.size w wr := HB0.out.trans (HST.out.belowH (by omega) (by simp [Value.ownBlock]) HB0.out.size)
      have hrdx : RdX wr (fun b => W0.heap.size ≤ b) e (.agg #[.string ⟨e.op.toArray⟩, .int .i64 e.num, .string ⟨e.name.toArray⟩, .slice A' e.kids.len cap']) := rdx_row HOW.out (fun j hj hjk => by
        obtain ⟨c0, c1, c2, c3, h0, h1, h2, h3, h4⟩ := HKR.out j hj hjk
        exact ⟨c0, c1, c2, c3, h0, h1, h2, h3, h4.low (fun b hb => hb.1)⟩) (fun b hb => hb)
      have HF := hid (show RdX _ (fun b => w.heap.size ≤ b) e _ from (put4_rd (b := w.heap.size + 1) (.string ⟨e.op.toArray⟩) (.int .i64 e.num) (.string ⟨e.name.toArray⟩) (.slice A' e.kids.len cap') hrdx (fun b hb => by omega)).low (fun b hb => by omega))
      have HBF := hid ((((hbel.setCell (p := ⟨w.heap.size + 1, 0, none⟩) (by simp) (.string ⟨e.op.toArray⟩)).setCell (p := ⟨w.heap.size + 1, 1, none⟩) (by simp) (.int .i64 e.num)).setCell (p := ⟨w.heap.size + 1, 2, none⟩) (by simp) (.string ⟨e.name.toArray⟩)).setCell (p := ⟨w.heap.size + 1, 3, none⟩) (by simp) (.slice A' e.kids.len cap'))
      obtain ⟨y0, y1, y2, y3⟩ := (KZr.out.put4 (.string ⟨e.op.toArray⟩) (.int .i64 e.num) (.string ⟨e.name.toArray⟩) (.slice A' e.kids.len cap')).cells4
      clear hbel hrdx
      go_wp2_with fail
      refine bodyPost_ret (v := .agg #[.string ⟨e.op.toArray⟩, .int .i64 e.num, .string ⟨e.name.toArray⟩, .slice A' e.kids.len cap']) (by simp [results, Tryz.results14, go_sem, y0, y1, y2, y3]) rfl ?_
      exact ⟨_, rfl, HF.out, HBF.out⟩
theorem plain_any : ∀ e : Ex, szF e ≤ 100000 → PlainC e := by
  intro e
  induction e using Ex.ind with
  | h e ih => exact fun hs => plain_step e (by have := szF_len e; omega) (fun k hk => ih k hk (by have := szF_at e k hk; omega))
end Go.Proofs.YtadmmmehphhecaaGreatDoor
/- The walk of the reference's Deep. Expressions of up to a hundred thousand ops. -/
namespace Go.Proofs.YtadmmmehphhecaaGreatDoor
open Go.RowKit
def RDeepC (e : Ex) : Prop := ∀ (w : World) (P : Nat → Prop) (v : Value), RdX w P e v → Calls Tryz.prog 34 #[v] w fun x w' => x = .returned (.int .i64 (rdeepF e : Int)) ∧ Below w.heap.size w w'
theorem RDeepC.call {e : Ex} (h : RDeepC e) (w : World) (P : Nat → Prop) (v : Value) (hr : RdX w P e v) : Calls Tryz.prog 34 #[v] w fun x w' => x = .returned (.int .i64 (rdeepF e : Int)) ∧ Below w.heap.size w w' := h w P v hr
def rmaxT (l : Exs) (k : Nat) : Nat := ((l.toL.take k).map rdeepF).foldr max 0
theorem rmaxT_all : ∀ (l : Exs), ((l.toL).map rdeepF).foldr max 0 = rdeepL l
  | .nil => by simp [Exs.toL, rdeepL]
  | .cons e r => by simp [Exs.toL, rdeepL, rmaxT_all r]
theorem rmaxT_step (l : Exs) (k : Nat) (h : k < l.toL.length) : rmaxT l (k + 1) = max (rmaxT l k) (rdeepF l.toL[k]) := by
  unfold rmaxT
  rw [List.take_add_one, List.getElem?_eq_getElem h]
  simp only [Option.toList, List.map_append, List.map_cons, List.map_nil]
  exact foldr_max _ _
theorem rmaxT_end (l : Exs) : rmaxT l l.len = rdeepL l := by unfold rmaxT; rw [← Exs.toL_len, List.take_length]; exact rmaxT_all l
set_option maxRecDepth 100000 in
set_option maxHeartbeats 2000000 in
theorem rdeep_step (e : Ex) (hn : szF e ≤ 100000) (hk : ∀ k (h : k < e.kids.toL.length), RDeepC e.kids.toL[k]) : RDeepC e := by
  intro w P v hr
  have hlen := szF_len e
  have hdl := rdeep_le e
  obtain ⟨A, cap, rfl, hcap, hkids⟩ := hr.form
  have HKI := hid hkids
  have HK := hid hk
  have HDE : Hid (rdeepF e = rdeepL e.kids + 1) := hid (by cases e; rfl)
  clear hk hkids hr
  go_enter Tryz.func34, Tryz.ntmps34
  go_wp2_with fail
  obtain ⟨W0, hW0⟩ : ∃ W0, W0 = w.alloc (.cells #[.string ⟨e.op.toArray⟩, .int .i64 e.num, .string ⟨e.name.toArray⟩, .slice A e.kids.len cap] 37) := ⟨_, rfl⟩
  have kB := Bk.new w 37 #[.string ⟨e.op.toArray⟩, .int .i64 e.num, .string ⟨e.name.toArray⟩, .slice A e.kids.len cap]
  have HW0 := hid (show Below w.heap.size w W0 by rw [hW0]; exact (Below.refl _ _).alloc (Nat.le_refl _) _)
  rw [← hW0] at kB
  rw [← hW0]
  clear hW0
  have KB := hid kB
  clear kB
  go_loopw [3, 4] (fun v2 v5 wr => ∃ k : Nat, k ≤ e.kids.len ∧ v5 = .int .i64 k ∧ v2 = .int .i64 (rmaxT e.kids k : Int) ∧ Hid (Below W0.heap.size W0 wr)) (fun v2 v5 _ => e.kids.len - (intOf v5).toNat)
  case atStart => exact ⟨0, Nat.zero_le _, rfl, rfl, hid (Below.refl _ _)⟩
  case round =>
    obtain ⟨k, hk, rfl, rfl, HB⟩ := hrel
    obtain ⟨c0, c1, c2, c3⟩ := KB.out.cells4
    have c3 := bel_cell HB.out c3
    by_cases hlt : k < e.kids.len
    · have hkl : k < e.kids.toL.length := by rw [Exs.toL_len]; exact hlt
      obtain ⟨b, off, rfl⟩ := HKI.out.form_ (by omega)
      have HBB := hid (HW0.out.trans (HB.out.mono HW0.out.size))
      obtain ⟨A2, cap2, _, q0, q1, q2, q3, hx⟩ := RdL.kid e.kids b off k hkl HKI.out
      have q0 := bel_cell HBB.out q0
      have q1 := bel_cell HBB.out q1
      have q2 := bel_cell HBB.out q2
      have q3 := bel_cell HBB.out q3
      have HX := hid (hx.below HBB.out)
      have HST := hid (rmaxT_step e.kids k hkl)
      clear hx
      go_wp2_with fail
      ((with_reducible refine ((HK.out k hkl).call _ P _ HX.out).mono ?_); rintro e1 w1 ⟨rfl, hb1⟩)
      have HB1 := hid (HB.out.trans (hb1.mono HB.out.size))
      go_wp2_with fail
      go_round
      case rel => exact ⟨k + 1, by omega, rfl, congrArg (Value.int .i64) (by rw [HST.out]; omega), HB1⟩
      case measure => simp [intOf]; omega
    · go_wp2_with fail
      go_ret
      refine ⟨ret_int ?_, HW0.out.trans (HB.out.mono HW0.out.size)⟩
      rw [show k = e.kids.len by omega, rmaxT_end]
      have := HDE.out
      unfold wrap64; omega
theorem rdeep_any : ∀ e : Ex, szF e ≤ 100000 → RDeepC e := by
  intro e
  induction e using Ex.ind with
  | h e ih => exact fun hs => rdeep_step e hs (fun k hk => ih k hk (by have := szF_at e k hk; omega))
end Go.Proofs.YtadmmmehphhecaaGreatDoor
/- Words for the reference's table in memory; the walks of its Get, Set and number. -/
namespace Go.Proofs.YtadmmmehphhecaaGreatDoor
open Go.RowKit
abbrev TRT : TypeId := 73
abbrev TRP : TypeId := 74
theorem info_rpair : (Tryz.prog.info? 74).map (fun i => (i.zero, i.size, i.bytes)) = some (some (.agg #[.string ⟨#[]⟩, .string ⟨#[]⟩, .bool false]), 3, 40) := by kernel_rfl
/-- the reference's table lies at a block, its pairs in a row of their own, what was set in another -/
structure RTabAt (w : World) (B g : Nat) (T L : Tab) (u1 u2 : Value) : Prop where
  bk : Bk w g TRT #[u1, u2]
  own : w.ownsRow B TRP 3 u1 T.length (tabC T)
  log : w.ownsRow B TRP 3 u2 L.length (tabC L)
  ne : u1.ownBlock = none ∨ u1.ownBlock ≠ u2.ownBlock
  b : B ≤ w.heap.size
/-- neither the table nor its rows, and there -/
def RFree (w : World) (g : Nat) (u1 u2 : Value) (b : Nat) : Prop := b ≠ g ∧ some b ≠ u1.ownBlock ∧ some b ≠ u2.ownBlock ∧ b < w.heap.size
/-- what a call may do beside the reference's table -/
structure RStep (g : Nat) (w : World) (u1 u2 : Value) (w' : World) (u1' u2' : Value) : Prop where
  os : w'.os = w.os
  tape : w'.tape = w.tape
  output : w'.output = w.output
  size : w.heap.size ≤ w'.heap.size
  block : ∀ b, RFree w g u1 u2 b → w'.heap[b]? = w.heap[b]?
  own : ∀ b, RFree w g u1 u2 b → some b ≠ u1'.ownBlock ∧ some b ≠ u2'.ownBlock
section
variable {g B : Nat} {w w' w1 w2 : World} {u1 u2 u1' u2' v1 v2 x1 x2 : Value} {T L : Tab}
theorem RStep.free (h : RStep g w u1 u2 w' u1' u2') {b : Nat} (hb : RFree w g u1 u2 b) : RFree w' g u1' u2' b :=
  ⟨hb.1, (h.own b hb).1, (h.own b hb).2, Nat.lt_of_lt_of_le hb.2.2.2 h.size⟩
theorem RStep.trans (h : RStep g w u1 u2 w1 v1 v2) (k : RStep g w1 v1 v2 w2 x1 x2) : RStep g w u1 u2 w2 x1 x2 :=
  ⟨k.os.trans h.os, k.tape.trans h.tape, k.output.trans h.output, Nat.le_trans h.size k.size, fun b hb => (k.block b (h.free hb)).trans (h.block b hb), fun b hb => k.own b (h.free hb)⟩
theorem RStep.below (h : Below w.heap.size w w') : RStep g w u1 u2 w' u1 u2 :=
  ⟨h.os, h.tape, h.output, h.size, fun b hb => h.block b hb.2.2.2, fun b hb => ⟨hb.2.1, hb.2.2.1⟩⟩
theorem RStep.refl (g : Nat) (w : World) (u1 u2 : Value) : RStep g w u1 u2 w u1 u2 := RStep.below (Below.refl _ _)
theorem RdX.rstep {e : Ex} {v : Value} (h : RdX w (RFree w g u1 u2) e v) (k : RStep g w u1 u2 w' u1' u2') : RdX w' (RFree w' g u1' u2') e v :=
  RdX.keep (fun b off x hp hx => ⟨k.free hp, (World.cell?_of_block (w := w) (w' := w') (a := ⟨b, off, none⟩) (k.block b hp)).trans hx⟩) e v h
theorem cell_rstep {b off : Nat} {x : Value} (k : RStep g w u1 u2 w' u1' u2') (hb : RFree w g u1 u2 b) (hx : w.cell? ⟨b, off, none⟩ = some x) : w'.cell? ⟨b, off, none⟩ = some x :=
  (World.cell?_of_block (w := w) (w' := w') (a := ⟨b, off, none⟩) (k.block b hb)).trans hx
theorem RTabAt.below (h : RTabAt w B g T L u1 u2) (hb : Below w.heap.size w w') : RTabAt w' B g T L u1 u2 := by
  exact ⟨h.bk.below hb h.bk.lt, own_below h.own hb, own_below h.log hb, h.ne, Nat.le_trans h.b hb.size⟩
theorem RTabAt.ne1 (h : RTabAt w B g T L u1 u2) : some g ≠ u1.ownBlock := own_bk_ne h.own h.bk (by decide)
theorem RTabAt.ne2 (h : RTabAt w B g T L u1 u2) : some g ≠ u2.ownBlock := by
  exact own_bk_ne h.log h.bk (by decide)
theorem row_lt {e size n : Nat} {u : Value} {cs : List Value} (h : w.ownsRow B e size u n cs) : ∀ b, u.ownBlock = some b → b < w.heap.size ∧ B ≤ b := by
  intro b hb
  rcases h.2 with ⟨rfl, _⟩ | ⟨g', cap, cur, rfl, hB, hh, _⟩
  · simp [Value.ownBlock] at hb
  · have : g' = b := by simpa [Value.ownBlock] using hb
    subst this
    exact ⟨Bk.lt hh, hB⟩
theorem RTabAt.lt1 (h : RTabAt w B g T L u1 u2) : ∀ b, u1.ownBlock = some b → b < w.heap.size ∧ B ≤ b := row_lt h.own
theorem RTabAt.lt2 (h : RTabAt w B g T L u1 u2) : ∀ b, u2.ownBlock = some b → b < w.heap.size ∧ B ≤ b := by
  exact row_lt h.log
end
theorem heap_new_set (w : World) (p : Addr) (v : Value) (o : Obj) : ((w.setCell p v).alloc o).heap[w.heap.size]? = some o := by
  have := heap_alloc_new (w.setCell p v) o
  simpa [World.setCell] using this
/-- what is set is noted -/
theorem rlog_app {T L : Tab} {g B ga capn : Nat} {w w3 : World} {o : Obj} {u1 u2 : Value} {p : List UInt8 × List UInt8 × Bool} (h : RTabAt w B g T L u1 u2)
    (hown : w3.ownsRow B TRP 3 (.slice (some ⟨ga, 0, none⟩) (L.length + 1) capn) (L.length + 1) (tabC L ++ [.string ⟨p.1.toArray⟩, .string ⟨p.2.1.toArray⟩, .bool p.2.2]))
    (hg : (w.alloc o).grownBy w3 u2.ownBlock) (hat : u2.ownBlock = some ga ∨ ga = w.heap.size + 1) :
    RStep g w u1 u2 (w3.setCell ⟨g, 1, none⟩ (.slice (some ⟨ga, 0, none⟩) (L.length + 1) capn)) u1 (.slice (some ⟨ga, 0, none⟩) (L.length + 1) capn) ∧
    RTabAt (w3.setCell ⟨g, 1, none⟩ (.slice (some ⟨ga, 0, none⟩) (L.length + 1) capn)) B g T (L ++ [p]) u1 (.slice (some ⟨ga, 0, none⟩) (L.length + 1) capn) := by
  have hgl := h.bk.lt
  have hsz := hg.size
  simp at hsz
  have k1 := (h.bk.alloc o).grown hg h.ne2
  have hu1 := h.lt1
  have hne : g ≠ ga := by
    rcases hat with he | he
    · intro e; exact h.ne2 (by rw [e, he])
    · omega
  have h1 : u1.ownBlock = none ∨ u1.ownBlock ≠ some ga := by
    rcases hat with he | he
    · rw [← he]; exact h.ne
    · cases hb : u1.ownBlock with
      | none => exact .inl rfl
      | some b => exact .inr (by have := hu1 b hb; intro e; injection e with e; omega)
  have hgs : ∀ v, w3.grownBy (w3.setCell ⟨g, 1, none⟩ v) (some g) := fun v => grown_setCell (w := w3) (p := ⟨g, 1, none⟩) rfl v
  refine ⟨⟨hg.os, hg.tape, hg.output, by simp [World.setCell]; omega, fun c hc => ?_, fun c hc => ⟨hc.2.1, ?_⟩⟩, k1.set_ 1 _, ?_, ?_, h1, by have := h.b; simp [World.setCell]; omega⟩
  · rw [Below.heap_setCell _ _ _ _ (by simpa using hc.1)]
    rw [hg.block c (by have := hc.2.2.2; simp; omega) hc.2.2.1]
    exact Below.heap_alloc w o c hc.2.2.2
  · intro e
    have e : c = ga := by simpa [Value.ownBlock] using e
    rcases hat with he | he
    · exact hc.2.2.1 (by rw [e, he])
    · have := hc.2.2.2; omega
  · refine ((own_below h.own ((Below.refl _ _).alloc (Nat.le_refl _) o)).kept hg h.ne).kept (hgs _) ?_
    have := h.ne1
    cases hb : u1.ownBlock with
    | none => exact .inl rfl
    | some b => exact .inr (by intro e; rw [hb] at this; exact this e.symm)
  · have h2 := hown.kept (hgs (.slice (some ⟨ga, 0, none⟩) (L.length + 1) capn)) (by simp [Value.ownBlock]; omega)
    rw [tabC_append, List.length_append]
    exact h2
/-- a further pair -/
theorem rtab_app {T L : Tab} {g B ga capn : Nat} {w w3 : World} {o : Obj} {u1 u2 : Value} {p : List UInt8 × List UInt8 × Bool} (h : RTabAt w B g T L u1 u2)
    (hown : w3.ownsRow B TRP 3 (.slice (some ⟨ga, 0, none⟩) (T.length + 1) capn) (T.length + 1) (tabC T ++ [.string ⟨p.1.toArray⟩, .string ⟨p.2.1.toArray⟩, .bool p.2.2]))
    (hg : (w.alloc o).grownBy w3 u1.ownBlock) (hat : u1.ownBlock = some ga ∨ ga = w.heap.size + 1) :
    RStep g w u1 u2 (w3.setCell ⟨g, 0, none⟩ (.slice (some ⟨ga, 0, none⟩) (T.length + 1) capn)) (.slice (some ⟨ga, 0, none⟩) (T.length + 1) capn) u2 ∧
    RTabAt (w3.setCell ⟨g, 0, none⟩ (.slice (some ⟨ga, 0, none⟩) (T.length + 1) capn)) B g (T ++ [p]) L (.slice (some ⟨ga, 0, none⟩) (T.length + 1) capn) u2 := by
  have hL := h.log
  have hgl := h.bk.lt
  have hsz := hg.size
  simp at hsz
  have k1 := (h.bk.alloc o).grown hg h.ne1
  have hu2 := h.lt2
  have hne : g ≠ ga := by
    rcases hat with he | he
    · intro e; exact h.ne1 (by rw [e, he])
    · omega
  have hsym : u2.ownBlock = none ∨ u2.ownBlock ≠ u1.ownBlock := by
    cases hb : u2.ownBlock with
    | none => exact .inl rfl
    | some b => exact .inr (by
        intro e
        rcases h.ne with h1 | h1
        · rw [h1] at e; cases e
        · exact h1 (by rw [hb, e]))
  have h1 : some ga ≠ u2.ownBlock := by
    rcases hat with he | he
    · rw [← he]
      rcases h.ne with h1 | h1
      · rw [he] at h1; cases h1
      · exact h1
    · intro e; have := hu2 ga e.symm; omega
  have hgs : ∀ v, w3.grownBy (w3.setCell ⟨g, 0, none⟩ v) (some g) := fun v => grown_setCell (w := w3) (p := ⟨g, 0, none⟩) rfl v
  refine ⟨⟨hg.os, hg.tape, hg.output, by simp [World.setCell]; omega, fun c hc => ?_, fun c hc => ⟨?_, hc.2.2.1⟩⟩, k1.set_ 0 _, ?_, ?_, .inr (by simpa [Value.ownBlock] using h1), by have := h.b; simp [World.setCell]; omega⟩
  · rw [Below.heap_setCell _ _ _ _ (by simpa using hc.1)]
    rw [hg.block c (by have := hc.2.2.2; simp; omega) hc.2.1]
    exact Below.heap_alloc w o c hc.2.2.2
  · intro e
    have e : c = ga := by simpa [Value.ownBlock] using e
    rcases hat with he | he
    · exact hc.2.1 (by rw [e, he])
    · have := hc.2.2.2; omega
  · have h2 := hown.kept (hgs (.slice (some ⟨ga, 0, none⟩) (T.length + 1) capn)) (by simp [Value.ownBlock]; omega)
    rw [tabC_append, List.length_append]
    exact h2
  · refine ((own_below hL ((Below.refl _ _).alloc (Nat.le_refl _) o)).kept hg hsym).kept (hgs _) ?_
    have := h.ne2
    cases hb : u2.ownBlock with
    | none => exact .inl rfl
    | some b => exact .inr (by intro e; rw [hb] at this; exact this e.symm)
/-- a pair's text is put -/
theorem rtab_put {T L : Tab} {g B b cap : Nat} {w : World} {u2 : Value} (h : RTabAt w B g T L (.slice (some ⟨b, 0, none⟩) T.length cap) u2) (k : Nat) (hk : k < T.length) (y : List UInt8) :
    RStep g w (.slice (some ⟨b, 0, none⟩) T.length cap) u2 (w.setCell ⟨b, k * 3 + 1, none⟩ (.string ⟨y.toArray⟩)) (.slice (some ⟨b, 0, none⟩) T.length cap) u2 ∧
    RTabAt (w.setCell ⟨b, k * 3 + 1, none⟩ (.string ⟨y.toArray⟩)) B g (T.set k (T[k].1, y, T[k].2.2)) L (.slice (some ⟨b, 0, none⟩) T.length cap) u2 := by
  have hL := h.log
  have hne : g ≠ b := by intro e; exact h.ne1 (by rw [e]; rfl)
  have hb2 : some b ≠ u2.ownBlock := by
    rcases h.ne with h1 | h1
    · cases h1
    · exact h1
  refine ⟨⟨rfl, rfl, rfl, by simp [World.setCell], fun c hc => Below.heap_setCell _ _ _ _ (by intro e; exact hc.2.1 (by rw [e]; rfl)), fun c hc => ⟨hc.2.1, hc.2.2.1⟩⟩, h.bk.far hne _, ?_, hL.kept (row := some b) (grown_setCell (w := w) (p := ⟨b, k * 3 + 1, none⟩) rfl _) ?_, h.ne, by have := h.b; simp [World.setCell]; exact this⟩
  · have h1 := (h.own.stored (k * 3 + 1) (.string ⟨y.toArray⟩)).1
    rw [tabC_set T k hk y] at h1
    rw [List.length_set]
    exact h1
  · cases hb : u2.ownBlock with
    | none => exact .inl rfl
    | some c => exact .inr (by intro e; rw [hb] at hb2; exact hb2 e.symm)
set_option maxRecDepth 100000 in
set_option maxHeartbeats 2000000 in
theorem rGet_any (T L : Tab) (x : List UInt8) (g B : Nat) (u1 u2 : Value) (w : World) (hT : RTabAt w B g T L u1 u2) (hl : T.length ≤ 1000000) :
    Calls Tryz.prog 20 #[.pointer (some ⟨g, 0, none⟩), .string ⟨x.toArray⟩] w fun e w' => e = .returned (.tuple #[.string ⟨(getF T x).1.toArray⟩, .bool (getF T x).2]) ∧ w = w' := by
  have ct := hT.bk.cell 0 u1 rfl
  have HRD := hid (Rd.of_own hT.own)
  obtain ⟨A, cap, rfl⟩ := own_slice hT.own
  clear hT
  go_enter Tryz.func20, Tryz.ntmps20
  go_wp2_with fail
  go_loop [6] (fun v4 => ∃ k : Nat, k ≤ T.length ∧ v4 = .int .i64 k ∧ Hid (∀ j (hj : j < T.length), j < k → T[j].1 ≠ x)) (fun v4 => T.length - (intOf v4).toNat)
  case atStart => exact ⟨0, Nat.zero_le _, rfl, hid (fun j hj h => by omega)⟩
  case round =>
    obtain ⟨k, hk, rfl, HN⟩ := hrel
    by_cases hlt : k < T.length
    · obtain ⟨b, off, cap', he, _, hc⟩ := HRD.out.form (by intro e; have := tabC_len T; rw [e] at this; simp at this; omega)
      injection he with he1 _ _
      subst he1
      obtain ⟨q0, q1, q2⟩ := At.tab (w := w) (b := b) (off := off) (T := T) hc k hlt
      have HG := hid (getF_at T x k hlt)
      generalize hp : T[k] = p at *
      obtain ⟨n, v, f⟩ := p
      dsimp only at q0 q1 q2 HG
      by_cases heq : n = x
      · subst heq
        have HO := hid (HG.out HN.out rfl)
        go_wp2_with fail
        go_ret2
        exact ⟨by rw [HO.out]; rfl, rfl⟩
      · have hne : (n == x) = false := by simpa using heq
        have HN1 : Hid (∀ j (hj : j < T.length), j < k + 1 → T[j].1 ≠ x) := hid (fun j hj h => by
          by_cases he : j = k
          · subst he; rw [hp]; exact heq
          · exact HN.out j hj (by omega))
        clear hp
        go_wp2_with fail
        go_round
        case rel => exact ⟨k + 1, by omega, rfl, HN1⟩
        case measure => simp [intOf]; omega
    · have HO := hid (getF_none T x (fun j hj => HN.out j hj (by omega)))
      go_wp2_with fail
      go_ret2
      exact ⟨by rw [HO.out]; rfl, rfl⟩
set_option maxRecDepth 100000 in
set_option maxHeartbeats 2000000 in
theorem rtnum_any (T L : Tab) (x : List UInt8) (g B : Nat) (u1 u2 : Value) (w : World) (hT : RTabAt w B g T L u1 u2) (hl : T.length ≤ 1000000) (hs : (getF T x).1.length ≤ 100) :
    Calls Tryz.prog 69 #[.pointer (some ⟨g, 0, none⟩), .string ⟨x.toArray⟩] w fun e w' => e = .returned (numV (numberF (Lib.trimS (getF T x).1 blks))) ∧ w = w' := by
  rw [trim_eq]
  have HT := hid hT
  have hN := rNumber_any ⟨(getF T x).1.toArray⟩ w (by simp [ByteArray.size]; omega)
  dsimp only at hN
  obtain ⟨p, hp⟩ : ∃ p, p = numberF (cutR ((getF T x).1.dropWhile blkB)) := ⟨_, rfl⟩
  rw [← hp] at hN ⊢
  obtain ⟨p1, p2⟩ := p
  dsimp only [numV] at hN ⊢
  have HN := hid hN
  clear hT hN hp
  go_enter Tryz.func69, Tryz.ntmps69
  go_wp2_with fail
  ((with_reducible refine (rGet_any T L x g B u1 u2 _ HT.out hl).mono ?_); rintro e1 w1 ⟨rfl, rfl⟩)
  go_wp2_with fail
  ((with_reducible refine HN.out.mono ?_); rintro e2 w2 ⟨rfl, rfl⟩)
  go_wp2_with fail
  go_ret2
  exact ⟨rfl, rfl⟩
def RSetPost (T L : Tab) (x y : List UInt8) (g B : Nat) (u1 u2 : Value) (w : World) (e : Ending) (w' : World) : Prop :=
  ∃ u1' u2' L', e = .returned (.int .i64 (putF T x y).1) ∧ L'.length ≤ L.length + 1 ∧ RStep g w u1 u2 w' u1' u2' ∧ RTabAt w' B g (putF T x y).2 L' u1' u2'
set_option maxRecDepth 100000 in
set_option maxHeartbeats 4000000 in
theorem rSet_any (T L : Tab) (x y : List UInt8) (g B : Nat) (u1 u2 : Value) (w : World) (hT : RTabAt w B g T L u1 u2) (hl : T.length ≤ 1000000) (hN : L.length ≤ 1000000) :
    Calls Tryz.prog 71 #[.pointer (some ⟨g, 0, none⟩), .string ⟨x.toArray⟩, .string ⟨y.toArray⟩] w (RSetPost T L x y g B u1 u2 w) := by
  obtain ⟨i0, hi0, hz0, hz1, hz2⟩ := info_parts info_rpair
  have ct := hT.bk.cell 0 u1 rfl
  have ct1 := hT.bk.cell 1 u2 rfl
  have cf := hT.bk.free 0
  have cf1 := hT.bk.free 1
  have glt := hT.bk.lt
  have hBw := hT.b
  have HT := hid hT
  have HRD := hid (Rd.of_own hT.own)
  obtain ⟨A, cap, rfl⟩ := own_slice hT.own
  obtain ⟨A2, cap2, rfl⟩ := own_slice hT.log
  clear hT
  go_enter Tryz.func71, Tryz.ntmps71
  go_wp2_with fail
  go_loop [7] (fun v5 => ∃ k : Nat, k ≤ T.length ∧ v5 = .int .i64 k ∧ Hid (∀ j (hj : j < T.length), j < k → T[j].1 ≠ x)) (fun v5 => T.length - (intOf v5).toNat)
  case atStart => exact ⟨0, Nat.zero_le _, rfl, hid (fun j hj h => by omega)⟩
  case round =>
    obtain ⟨k, hk, rfl, HN⟩ := hrel
    by_cases hlt : k < T.length
    · obtain ⟨b, off, cap', he, _, hc⟩ := HRD.out.form (by intro e; have := tabC_len T; rw [e] at this; simp at this; omega)
      injection he with he1 _ he3
      subst he1 he3
      obtain ⟨q0, q1, q2⟩ := At.tab (w := w) (b := b) (off := off) (T := T) hc k hlt
      have HG := hid (putF_at T x y k hlt)
      obtain ⟨rfl, hof⟩ : off = 0 ∧ w.frozen? ⟨b, k * 3 + 1, none⟩ = false := by
        have h2 := HT.out.own.2
        rcases h2 with ⟨h, _⟩ | ⟨g', c', cur, h, _⟩
        · cases h
        · injection h with h _ _
          injection h with h
          injection h with h h3
          subst h h3
          exact ⟨rfl, HT.out.own.frozenAt _⟩
      rw [Nat.zero_add] at q0 q1 q2
      have HP := hid (rtab_put HT.out k hlt y)
      have hgb : ¬ g = b := fun e => HT.out.ne1 (by rw [e]; rfl)
      have hgb' : ¬ b = g := fun e => hgb e.symm
      have hbl : b < w.heap.size := (HT.out.lt1 b rfl).1
      generalize hp : T[k] = p at *
      obtain ⟨n, v, f⟩ := p
      dsimp only at q0 q1 q2 HG
      by_cases heq : n = x
      · subst heq
        have HO := hid (HG.out HN.out rfl)
        cases f
        · have HO2 : Hid (putF T n y = (0, T.set k (n, y, false))) := hid (by rw [HO.out]; rfl)
          clear HO HG hp
          have HPL := hid (show (w.setCell ⟨b, k * 3 + 1, none⟩ (.string ⟨y.toArray⟩)).ownsRow B TRP 3 _ _ _ from HP.out.2.log)
          go_wp2_with (at_builtin; refine wpList_append_lies _ rfl _ _ 71 rfl B TRP i0 _ 3 40 Tryz.underlying71 hi0 hz0 hz1 hz2 rfl (by decide) (.slice A2 L.length cap2) L.length (tabC L) rfl (own_below HPL.out ((Below.refl _ _).alloc (Nat.le_refl _) _)) ⟨w.heap.size, 0, none⟩ 1 1 [.string ⟨n.toArray⟩, .string ⟨y.toArray⟩, .bool false] rfl rfl (World.news_of_block (cs := #[.string ⟨n.toArray⟩, .string ⟨y.toArray⟩, .bool false]) (t := TRP) (fr := (0, 0)) (heap_new_set _ _ _ _)) (by simp [Value.oneCell']) (by omega) (by unfold maxLen; omega) (by omega) (by simp [World.setCell]; omega) (w.heap.size + 1) (by simp [World.setCell]) ?_)
          intro ga capn w3 hown3 hgrow hat hlt3
          have HQ := hid (rlog_app (p := (n, y, false)) HP.out.2 hown3 (by simpa [World.setCell] using hgrow) (by simpa [World.setCell] using hat))
          have k1 := (HP.out.2.bk.alloc (.cells #[.string ⟨n.toArray⟩, .string ⟨y.toArray⟩, .bool false] TRP)).grown (by simpa using hgrow) HP.out.2.ne2
          have cf3 := k1.free 1
          have cg3 := k1.cell 1 _ rfl
          clear hown3 hgrow hat k1
          go_wp2_with fail
          go_ret
          exact ⟨_, _, L ++ [(n, y, false)], by rw [HO2.out]; rfl, by simp, HP.out.1.trans HQ.out.1, by rw [HO2.out]; exact HQ.out.2⟩
        · have HO2 : Hid (putF T n y = (26, T)) := hid (by rw [HO.out]; rfl)
          clear HO HG hp
          go_wp2_with fail
          go_ret
          exact ⟨_, _, L, by rw [HO2.out]; rfl, by omega, RStep.refl _ _ _ _, by rw [HO2.out]; exact HT.out⟩
      · have hne : (n == x) = false := by simpa using heq
        have HN1 : Hid (∀ j (hj : j < T.length), j < k + 1 → T[j].1 ≠ x) := hid (fun j hj h => by
          by_cases he : j = k
          · subst he; rw [hp]; exact heq
          · exact HN.out j hj (by omega))
        clear hp
        go_wp2_with fail
        go_round
        case rel => exact ⟨k + 1, by omega, rfl, HN1⟩
        case measure => simp [intOf]; omega
    · have HO := hid (putF_none T x y (fun j hj => HN.out j hj (by omega)))
      go_wp2_with (at_builtin; refine wpList_append_lies _ rfl _ _ 71 rfl B TRP i0 _ 3 40 Tryz.underlying71 hi0 hz0 hz1 hz2 rfl (by decide) (.slice A T.length cap) T.length (tabC T) rfl (own_below HT.out.own ((Below.refl _ _).alloc (Nat.le_refl _) _)) ⟨w.heap.size, 0, none⟩ 1 1 [.string ⟨x.toArray⟩, .string ⟨y.toArray⟩, .bool false] rfl rfl (World.news_of_block (cs := #[.string ⟨x.toArray⟩, .string ⟨y.toArray⟩, .bool false]) (t := TRP) (fr := (0, 0)) (heap_alloc_new w _)) (by simp [Value.oneCell']) (by omega) (by unfold maxLen; omega) (by omega) (by simp [World.setCell]; omega) (w.heap.size + 1) (by simp [World.setCell]) ?_)
      intro ga capn w3 hown3 hgrow hat hlt3
      have HQ := hid (rtab_app (p := (x, y, false)) HT.out hown3 hgrow hat)
      have k1 := (HT.out.bk.alloc _).grown hgrow HT.out.ne1
      have cf30 := k1.free 0
      have cf31 := k1.free 1
      have cg31 := k1.cell 1 _ rfl
      have cg30 := k1.cell 0 _ rfl
      have hs3 := hgrow.size
      simp at hs3
      have hg3 := k1.lt
      have hg3' : ¬ g = w3.heap.size := by omega
      have HQL := hid (show (w3.setCell ⟨g, 0, none⟩ (.slice (some ⟨ga, 0, none⟩) (T.length + 1) capn)).ownsRow B TRP 3 _ _ _ from HQ.out.2.log)
      clear hown3 hgrow hat k1
      go_wp2_with (at_builtin; refine wpList_append_lies _ rfl _ _ 71 rfl B TRP i0 _ 3 40 Tryz.underlying71 hi0 hz0 hz1 hz2 rfl (by decide) (.slice A2 L.length cap2) L.length (tabC L) rfl (own_below HQL.out ((Below.refl _ _).alloc (Nat.le_refl _) _)) ⟨w3.heap.size, 0, none⟩ 1 1 [.string ⟨x.toArray⟩, .string ⟨y.toArray⟩, .bool false] rfl rfl (World.news_of_block (cs := #[.string ⟨x.toArray⟩, .string ⟨y.toArray⟩, .bool false]) (t := TRP) (fr := (0, 0)) (heap_new_set _ _ _ _)) (by simp [Value.oneCell']) (by omega) (by unfold maxLen; omega) (by omega) (by simp [World.setCell]; omega) (w3.heap.size + 1) (by simp [World.setCell]) ?_)
      intro gb capm w5 hown5 hgrow5 hat5 hlt5
      have HR := hid (rlog_app (p := (x, y, false)) HQ.out.2 hown5 (by simpa [World.setCell] using hgrow5) (by simpa [World.setCell] using hat5))
      have k5 := (HQ.out.2.bk.alloc (.cells #[.string ⟨x.toArray⟩, .string ⟨y.toArray⟩, .bool false] TRP)).grown (by simpa using hgrow5) HQ.out.2.ne2
      have cf5 := k5.free 1
      have cg5 := k5.cell 1 _ rfl
      clear hown5 hgrow5 hat5 k5
      go_wp2_with fail
      go_ret
      exact ⟨_, _, L ++ [(x, y, false)], by rw [HO.out]; rfl, by simp, HQ.out.1.trans HR.out.1, by rw [HO.out]; exact HR.out.2⟩
end Go.Proofs.YtadmmmehphhecaaGreatDoor
/- The walks of the reference's one and two. Numbers of 64 bits. -/
namespace Go.Proofs.YtadmmmehphhecaaGreatDoor
open Go.RowKit
theorem rone_any (b : Bool) (w : World) : Calls Tryz.prog 72 #[.bool b] w fun e w' => e = .returned (.int .i64 (if b then 1 else 0)) ∧ w = w' := by
  cases b
  all_goals
    go_enter Tryz.func72, Tryz.ntmps72
    go_wp2_with fail
    go_ret
    exact ⟨rfl, rfl⟩
def RTwoPost (op : List UInt8) (a b : Int) (w : World) (e : Ending) (w' : World) : Prop :=
  w = w' ∧ match twoV op a b with
    | .ok n => e = .returned (.tuple #[.int .i64 n, .int .i64 0])
    | .error er => e = .returned (.tuple #[.int .i64 0, .int .i64 er])
theorem RTwoPost.ok {op : List UInt8} {a b n m : Int} {w : World} (h : twoV op a b = .ok n) (hm : m = n) : RTwoPost op a b w (.returned (.tuple #[.int .i64 m, .int .i64 0])) w := by
  subst hm; refine ⟨rfl, ?_⟩; rw [h]
theorem RTwoPost.bad {op : List UInt8} {a b er : Int} {w : World} (h : twoV op a b = .error er) : RTwoPost op a b w (.returned (.tuple #[.int .i64 0, .int .i64 er])) w := by
  refine ⟨rfl, ?_⟩; rw [h]
set_option maxRecDepth 100000 in
set_option maxHeartbeats 4000000 in
theorem rtwo_cmp (op : List UInt8) (a b : Int) (w : World) (hop : op = [60] ∨ op = [60, 61] ∨ op = [62] ∨ op = [62, 61] ∨ op = [61, 61] ∨ op = [33, 61]) : Calls Tryz.prog 70 #[.string ⟨op.toArray⟩, .int .i64 a, .int .i64 b] w (RTwoPost op a b w) := by
  rcases hop with rfl | rfl | rfl | rfl | rfl | rfl
  · by_cases h : a < b
    · have HB : Hid (twoV [60] a b = .ok 1) := hid (by simp [twoV, h])
      go_enter Tryz.func70, Tryz.ntmps70
      go_wp2_with fail
      ((with_reducible refine (rone_any _ _).mono ?_); rintro e1 w1 ⟨rfl, rfl⟩)
      go_wp2_with fail
      go_ret2
      exact RTwoPost.ok HB.out (by simp [*])
    · have HB : Hid (twoV [60] a b = .ok 0) := hid (by simp [twoV, h])
      go_enter Tryz.func70, Tryz.ntmps70
      go_wp2_with fail
      ((with_reducible refine (rone_any _ _).mono ?_); rintro e1 w1 ⟨rfl, rfl⟩)
      go_wp2_with fail
      go_ret2
      exact RTwoPost.ok HB.out (by simp [*])
  · by_cases h : a ≤ b
    · have HB : Hid (twoV [60, 61] a b = .ok 1) := hid (by simp [twoV, h])
      go_enter Tryz.func70, Tryz.ntmps70
      go_wp2_with fail
      ((with_reducible refine (rone_any _ _).mono ?_); rintro e1 w1 ⟨rfl, rfl⟩)
      go_wp2_with fail
      go_ret2
      exact RTwoPost.ok HB.out (by simp [*])
    · have HB : Hid (twoV [60, 61] a b = .ok 0) := hid (by simp [twoV, h])
      go_enter Tryz.func70, Tryz.ntmps70
      go_wp2_with fail
      ((with_reducible refine (rone_any _ _).mono ?_); rintro e1 w1 ⟨rfl, rfl⟩)
      go_wp2_with fail
      go_ret2
      exact RTwoPost.ok HB.out (by simp [*])
  · by_cases h : b < a
    · have HB : Hid (twoV [62] a b = .ok 1) := hid (by simp [twoV, h])
      go_enter Tryz.func70, Tryz.ntmps70
      go_wp2_with fail
      ((with_reducible refine (rone_any _ _).mono ?_); rintro e1 w1 ⟨rfl, rfl⟩)
      go_wp2_with fail
      go_ret2
      exact RTwoPost.ok HB.out (by simp [*])
    · have HB : Hid (twoV [62] a b = .ok 0) := hid (by simp [twoV, h])
      go_enter Tryz.func70, Tryz.ntmps70
      go_wp2_with fail
      ((with_reducible refine (rone_any _ _).mono ?_); rintro e1 w1 ⟨rfl, rfl⟩)
      go_wp2_with fail
      go_ret2
      exact RTwoPost.ok HB.out (by simp [*])
  · by_cases h : b ≤ a
    · have HB : Hid (twoV [62, 61] a b = .ok 1) := hid (by simp [twoV, h])
      go_enter Tryz.func70, Tryz.ntmps70
      go_wp2_with fail
      ((with_reducible refine (rone_any _ _).mono ?_); rintro e1 w1 ⟨rfl, rfl⟩)
      go_wp2_with fail
      go_ret2
      exact RTwoPost.ok HB.out (by simp [*])
    · have HB : Hid (twoV [62, 61] a b = .ok 0) := hid (by simp [twoV, h])
      go_enter Tryz.func70, Tryz.ntmps70
      go_wp2_with fail
      ((with_reducible refine (rone_any _ _).mono ?_); rintro e1 w1 ⟨rfl, rfl⟩)
      go_wp2_with fail
      go_ret2
      exact RTwoPost.ok HB.out (by simp [*])
  · by_cases h : a = b
    · have HB : Hid (twoV [61, 61] a b = .ok 1) := hid (by simp [twoV, h])
      have hbq : (a == b) = true := by simpa using h
      go_enter Tryz.func70, Tryz.ntmps70
      go_wp2_with fail
      ((with_reducible refine (rone_any _ _).mono ?_); rintro e1 w1 ⟨rfl, rfl⟩)
      go_wp2_with fail
      go_ret2
      exact RTwoPost.ok HB.out (by simp [*])
    · have HB : Hid (twoV [61, 61] a b = .ok 0) := hid (by simp [twoV, h])
      have hbq : (a == b) = false := by simpa using h
      go_enter Tryz.func70, Tryz.ntmps70
      go_wp2_with fail
      ((with_reducible refine (rone_any _ _).mono ?_); rintro e1 w1 ⟨rfl, rfl⟩)
      go_wp2_with fail
      go_ret2
      exact RTwoPost.ok HB.out (by simp [*])
  · by_cases h : a = b
    · have HB : Hid (twoV [33, 61] a b = .ok 0) := hid (by simp [twoV, h])
      have hbq : (a == b) = true := by simpa using h
      go_enter Tryz.func70, Tryz.ntmps70
      go_wp2_with fail
      ((with_reducible refine (rone_any _ _).mono ?_); rintro e1 w1 ⟨rfl, rfl⟩)
      go_wp2_with fail
      go_ret2
      exact RTwoPost.ok HB.out (by simp [*])
    · have HB : Hid (twoV [33, 61] a b = .ok 1) := hid (by simp [twoV, h])
      have hbq : (a == b) = false := by simpa using h
      go_enter Tryz.func70, Tryz.ntmps70
      go_wp2_with fail
      ((with_reducible refine (rone_any _ _).mono ?_); rintro e1 w1 ⟨rfl, rfl⟩)
      go_wp2_with fail
      go_ret2
      exact RTwoPost.ok HB.out (by simp [*])
set_option maxRecDepth 100000 in
set_option maxHeartbeats 4000000 in
theorem rtwo_div (op : List UInt8) (a b : Int) (w : World) (hop : op = [47] ∨ op = [37]) : Calls Tryz.prog 70 #[.string ⟨op.toArray⟩, .int .i64 a, .int .i64 b] w (RTwoPost op a b w) := by
  by_cases hb0 : b = 0
  · subst hb0
    have HB : Hid (twoV op a 0 = .error 24) := hid (by rcases hop with rfl | rfl <;> simp [twoV])
    rcases hop with rfl | rfl
    all_goals
      go_enter Tryz.func70, Tryz.ntmps70
      go_wp2_with fail
      go_ret2
      exact RTwoPost.bad HB.out
  have hb1 : (b == 0) = false := by simpa using hb0
  by_cases hm : b = -1
  · subst hm
    rcases hop with rfl | rfl
    · go_enter Tryz.func70, Tryz.ntmps70
      go_wp2_with fail
      go_ret2
      refine RTwoPost.ok (n := wrap64 (-a)) (by simp [twoV]) ?_
      simp [wrap64]
    · go_enter Tryz.func70, Tryz.ntmps70
      go_wp2_with fail
      go_ret2
      exact RTwoPost.ok (n := 0) (by simp [twoV]) rfl
  have hm1 : (b == -1) = false := by simpa using hm
  rcases hop with rfl | rfl
  · go_enter Tryz.func70, Tryz.ntmps70
    go_wp2_with fail
    go_ret2
    exact RTwoPost.ok (n := wrap64 (a.tdiv b)) (by simp [twoV, hb0, hm]) rfl
  · go_enter Tryz.func70, Tryz.ntmps70
    go_wp2_with fail
    go_ret2
    exact RTwoPost.ok (n := a.tmod b) (by simp [twoV, hb0, hm]) rfl
set_option maxRecDepth 100000 in
set_option maxHeartbeats 4000000 in
theorem rtwo_mul (a b : Int) (w : World) : Calls Tryz.prog 70 #[.string ⟨[42].toArray⟩, .int .i64 a, .int .i64 b] w (RTwoPost [42] a b w) := by
  go_enter Tryz.func70, Tryz.ntmps70
  go_wp2_with fail
  go_ret2
  exact RTwoPost.ok (n := wrap64 (a * b)) (by simp [twoV]) rfl
set_option maxRecDepth 100000 in
set_option maxHeartbeats 4000000 in
theorem rtwo_add (a b : Int) (w : World) : Calls Tryz.prog 70 #[.string ⟨[43].toArray⟩, .int .i64 a, .int .i64 b] w (RTwoPost [43] a b w) := by
  go_enter Tryz.func70, Tryz.ntmps70
  go_wp2_with fail
  go_ret2
  exact RTwoPost.ok (n := wrap64 (a + b)) (by simp [twoV]) rfl
set_option maxRecDepth 100000 in
set_option maxHeartbeats 4000000 in
theorem rtwo_sub (a b : Int) (w : World) : Calls Tryz.prog 70 #[.string ⟨[45].toArray⟩, .int .i64 a, .int .i64 b] w (RTwoPost [45] a b w) := by
  go_enter Tryz.func70, Tryz.ntmps70
  go_wp2_with fail
  go_ret2
  exact RTwoPost.ok (n := wrap64 (a - b)) (by simp [twoV]) rfl
set_option maxRecDepth 100000 in
set_option maxHeartbeats 4000000 in
theorem rtwo_and (a b : Int) (w : World) : Calls Tryz.prog 70 #[.string ⟨[38].toArray⟩, .int .i64 a, .int .i64 b] w (RTwoPost [38] a b w) := by
  go_enter Tryz.func70, Tryz.ntmps70
  go_wp2_with fail
  go_ret2
  exact RTwoPost.ok (n := bits .and .i64 a b) (by simp [twoV]) rfl
set_option maxRecDepth 100000 in
set_option maxHeartbeats 4000000 in
theorem rtwo_xor (a b : Int) (w : World) : Calls Tryz.prog 70 #[.string ⟨[94].toArray⟩, .int .i64 a, .int .i64 b] w (RTwoPost [94] a b w) := by
  go_enter Tryz.func70, Tryz.ntmps70
  go_wp2_with fail
  go_ret2
  exact RTwoPost.ok (n := bits .xor .i64 a b) (by simp [twoV]) rfl
set_option maxRecDepth 100000 in
set_option maxHeartbeats 4000000 in
theorem rtwo_or (a b : Int) (w : World) : Calls Tryz.prog 70 #[.string ⟨[124].toArray⟩, .int .i64 a, .int .i64 b] w (RTwoPost [124] a b w) := by
  go_enter Tryz.func70, Tryz.ntmps70
  go_wp2_with fail
  go_ret2
  exact RTwoPost.ok (n := bits .or .i64 a b) (by simp [twoV]) rfl
theorem half_neg {x : Int} (h : I64 x) (hn : x < 0) : wrap64 (-1 - wrap64 ((wrap64 (-1 - x)).tdiv 2)) = x / 2 := by
  have h1 : wrap64 (-1 - x) = -1 - x := by unfold wrap64 I64 at *; omega
  rw [h1, Int.tdiv_eq_ediv_of_nonneg (by omega)]
  unfold wrap64 I64 at *; omega
theorem half_pos {x : Int} (h : I64 x) (hn : ¬ x < 0) : wrap64 (x.tdiv 2) = x / 2 := by
  rw [Int.tdiv_eq_ediv_of_nonneg (by omega)]
  unfold wrap64 I64 at *; omega
theorem wrap_id {a : Int} (h : I64 a) : wrap64 a = a := by unfold wrap64 I64 at *; omega
theorem wrap_dbl (a : Int) (j : Nat) : wrap64 (wrap64 (a * 2 ^ j) + wrap64 (a * 2 ^ j)) = wrap64 (a * 2 ^ (j + 1)) := by
  have : a * 2 ^ (j + 1) = a * 2 ^ j + a * 2 ^ j := by rw [Int.pow_succ, ← Int.mul_assoc]; omega
  rw [this]
  generalize a * 2 ^ j = x
  unfold wrap64; omega
theorem half_step (a : Int) (j : Nat) : a / 2 ^ (j + 1) = a / 2 ^ j / 2 := by
  rw [Int.pow_succ, Int.ediv_ediv_of_nonneg (Int.le_of_lt (Int.pow_pos (by decide)))]
set_option maxRecDepth 100000 in
set_option maxHeartbeats 4000000 in
theorem rtwo_shl (a b : Int) (w : World) (ha : I64 a) : Calls Tryz.prog 70 #[.string ⟨[60, 60].toArray⟩, .int .i64 a, .int .i64 b] w (RTwoPost [60, 60] a b w) := by
  have h63 := and63 b
  have HV : Hid (twoV [60, 60] a b = .ok (wrap64 (a * 2 ^ (b % 64).toNat))) := hid (by simp [twoV])
  obtain ⟨c, hc⟩ : ∃ c : Nat, (c : Int) = b % 64 := ⟨(b % 64).toNat, by omega⟩
  have hcl : c < 64 := by omega
  rw [← hc, Int.toNat_natCast] at HV
  rw [← hc] at h63
  clear hc
  have HA := hid ha
  clear ha
  go_enter Tryz.func70, Tryz.ntmps70
  go_wp2_with fail
  go_loop [1, 8] (fun v6 v7 => ∃ j : Nat, j ≤ c ∧ v7 = .int .i64 ((c - j : Nat) : Int) ∧ v6 = .int .i64 (wrap64 (a * 2 ^ j))) (fun v6 v7 => (intOf v7).toNat)
  case atStart => exact ⟨0, by omega, rfl, congrArg (Value.int .i64) (by rw [Int.pow_zero, Int.mul_one, wrap_id HA.out])⟩
  case round =>
    obtain ⟨j, hj, rfl, rfl⟩ := hrel
    by_cases hlt : j < c
    · have hpos : (0 : Int) < ((c - j : Nat) : Int) := by omega
      go_wp2_with fail
      go_round
      case rel => exact ⟨j + 1, by omega, congrArg (Value.int .i64) (by omega), congrArg (Value.int .i64) (wrap_dbl a j)⟩
      case measure => simp [intOf]; omega
    · have hpos : ¬ (0 : Int) < ((c - j : Nat) : Int) := by omega
      obtain rfl : j = c := by omega
      go_wp2_with fail
      go_ret2
      exact RTwoPost.ok HV.out rfl
set_option maxRecDepth 100000 in
set_option maxHeartbeats 4000000 in
theorem rtwo_shr (a b : Int) (w : World) (ha : I64 a) : Calls Tryz.prog 70 #[.string ⟨[62, 62].toArray⟩, .int .i64 a, .int .i64 b] w (RTwoPost [62, 62] a b w) := by
  have h63 := and63 b
  have HV : Hid (twoV [62, 62] a b = .ok (a / 2 ^ (b % 64).toNat)) := hid (by simp [twoV])
  obtain ⟨c, hc⟩ : ∃ c : Nat, (c : Int) = b % 64 := ⟨(b % 64).toNat, by omega⟩
  have hcl : c < 64 := by omega
  rw [← hc, Int.toNat_natCast] at HV
  rw [← hc] at h63
  clear hc
  have HR : Hid (∀ j : Nat, I64 (a / 2 ^ j)) := hid (fun j => shr_rng a j ha)
  clear ha
  go_enter Tryz.func70, Tryz.ntmps70
  go_wp2_with fail
  go_loop [1, 8] (fun v6 v7 => ∃ j : Nat, j ≤ c ∧ v7 = .int .i64 ((c - j : Nat) : Int) ∧ v6 = .int .i64 (a / 2 ^ j)) (fun v6 v7 => (intOf v7).toNat)
  case atStart => exact ⟨0, by omega, rfl, congrArg (Value.int .i64) (by simp)⟩
  case round =>
    obtain ⟨j, hj, rfl, rfl⟩ := hrel
    have hr := HR.out j
    have HS := hid (half_step a j)
    obtain ⟨x, hx⟩ : ∃ x, x = a / 2 ^ j := ⟨_, rfl⟩
    have HX := hid hx
    rw [← hx] at hr ⊢
    clear hx
    by_cases hlt : j < c
    · have hpos : (0 : Int) < ((c - j : Nat) : Int) := by omega
      by_cases hneg : x < 0
      · go_wp2_with fail
        go_round
        case rel => exact ⟨j + 1, by omega, congrArg (Value.int .i64) (by omega), congrArg (Value.int .i64) (by rw [HS.out, ← HX.out]; exact half_neg hr hneg)⟩
        case measure => simp [intOf]; omega
      · go_wp2_with fail
        go_round
        case rel => exact ⟨j + 1, by omega, congrArg (Value.int .i64) (by omega), congrArg (Value.int .i64) (by rw [HS.out, ← HX.out]; exact half_pos hr hneg)⟩
        case measure => simp [intOf]; omega
    · have hpos : ¬ (0 : Int) < ((c - j : Nat) : Int) := by omega
      obtain rfl : j = c := by omega
      go_wp2_with fail
      go_ret2
      exact RTwoPost.ok HV.out HX.out
/-- the marks between two that have values of their own -/
def binL : List (List UInt8) := [[42], [47], [37], [43], [45], [60], [60, 61], [62], [62, 61], [61, 61], [33, 61], [38], [94], [124], [60, 60], [62, 62]]
theorem rtwo_any (op : List UInt8) (a b : Int) (w : World) (h : op ∈ binL) (ha : I64 a) : Calls Tryz.prog 70 #[.string ⟨op.toArray⟩, .int .i64 a, .int .i64 b] w (RTwoPost op a b w) := by
  simp only [binL, List.mem_cons, List.not_mem_nil, or_false] at h
  rcases h with rfl | rfl | rfl | rfl | rfl | rfl | rfl | rfl | rfl | rfl | rfl | rfl | rfl | rfl | rfl | rfl
  · exact rtwo_mul a b w
  · exact rtwo_div _ a b w (.inl rfl)
  · exact rtwo_div _ a b w (.inr rfl)
  · exact rtwo_add a b w
  · exact rtwo_sub a b w
  · exact rtwo_cmp _ a b w (.inl rfl)
  · exact rtwo_cmp _ a b w (.inr (.inl rfl))
  · exact rtwo_cmp _ a b w (.inr (.inr (.inl rfl)))
  · exact rtwo_cmp _ a b w (.inr (.inr (.inr (.inl rfl))))
  · exact rtwo_cmp _ a b w (.inr (.inr (.inr (.inr (.inl rfl)))))
  · exact rtwo_cmp _ a b w (.inr (.inr (.inr (.inr (.inr rfl)))))
  · exact rtwo_and a b w
  · exact rtwo_xor a b w
  · exact rtwo_or a b w
  · exact rtwo_shl a b w ha
  · exact rtwo_shr a b w ha
end Go.Proofs.YtadmmmehphhecaaGreatDoor
/- The walk of the reference's value. -/
namespace Go.Proofs.YtadmmmehphhecaaGreatDoor
open Go.RowKit
def RValPost (e : Ex) (g B : Nat) (T L : Tab) (u1 u2 : Value) (w : World) (x : Ending) (w' : World) : Prop :=
  ∃ u1' u2' L', L'.length ≤ L.length + szF e ∧ RStep g w u1 u2 w' u1' u2' ∧ RTabAt w' B g (valF e T).2 L' u1' u2' ∧ match (valF e T).1 with
    | .ok n => x = .returned (.tuple #[.int .i64 n, .int .i64 0])
    | .error er => er ≠ 0 ∧ ∃ m, x = .returned (.tuple #[.int .i64 m, .int .i64 er])
def RValC (e : Ex) : Prop := ∀ (w : World) (g B : Nat) (T L : Tab) (u1 u2 v : Value), RdX w (RFree w g u1 u2) e v → RTabAt w B g T L u1 u2 → Short T → T.length + szF e ≤ 100000 → L.length + szF e ≤ 100000 → Calls Tryz.prog 38 #[v, .pointer (some ⟨g, 0, none⟩)] w (RValPost e g B T L u1 u2 w)
theorem RValC.call {e : Ex} (h : RValC e) (w : World) (g B : Nat) (T L : Tab) (u1 u2 v : Value) (hr : RdX w (RFree w g u1 u2) e v) (hT : RTabAt w B g T L u1 u2) (hS : Short T) (hl : T.length + szF e ≤ 100000) (hlL : L.length + szF e ≤ 100000) : Calls Tryz.prog 38 #[v, .pointer (some ⟨g, 0, none⟩)] w (RValPost e g B T L u1 u2 w) := h w g B T L u1 u2 v hr hT hS hl hlL
theorem RValPost.good {e : Ex} {g B : Nat} {T L T' L' : Tab} {u1 u2 u1' u2' : Value} {w w' : World} {n m : Int} (hL : L'.length ≤ L.length + szF e) (hst : RStep g w u1 u2 w' u1' u2') (ht : RTabAt w' B g T' L' u1' u2') (hv : valF e T = (.ok n, T')) (hm : m = n) : RValPost e g B T L u1 u2 w (.returned (.tuple #[.int .i64 m, .int .i64 0])) w' := by
  subst hm; exact ⟨u1', u2', L', hL, hst, by rw [hv]; exact ht, by rw [hv]⟩
theorem RValPost.bad {e : Ex} {g B : Nat} {T L T' L' : Tab} {u1 u2 u1' u2' : Value} {w w' : World} {er m : Int} (hL : L'.length ≤ L.length + szF e) (hst : RStep g w u1 u2 w' u1' u2') (ht : RTabAt w' B g T' L' u1' u2') (hv : valF e T = (.error er, T')) (h0 : er ≠ 0) : RValPost e g B T L u1 u2 w (.returned (.tuple #[.int .i64 m, .int .i64 er])) w' :=
  ⟨u1', u2', L', hL, hst, by rw [hv]; exact ht, by rw [hv]; exact ⟨h0, m, rfl⟩⟩
theorem rfree_new {w : World} {g B : Nat} {T L : Tab} {u1 u2 : Value} (hT : RTabAt w B g T L u1 u2) {w' : World} (hb : Below w.heap.size w w') {n : Nat} (h0 : w.heap.size ≤ n) (h1 : n < w'.heap.size) : RFree w' g u1 u2 n :=
  ⟨by have := hT.bk.lt; omega, fun e => by have := (hT.lt1 _ e.symm).1; omega, fun e => by have := (hT.lt2 _ e.symm).1; omega, h1⟩
theorem valF_two {op : List UInt8} (n : Int) (nm : List UInt8) (x y : Ex) (h : 0 < levF op) (hs : setF op = false) (hk : kidsF op = 2) (h1 : op ≠ [38, 38]) (h2 : op ≠ [124, 124]) (T : Tab) : valF (.mk op n nm (.cons x (.cons y .nil))) T = thenV (valF x T) fun a T1 => thenV (valF y T1) fun b T2 => (twoV op a b, T2) := by
  have e1 : op ≠ numO := by rintro rfl; revert h; decide
  have e2 : op ≠ nameO := by rintro rfl; revert h; decide
  have e3 : op ≠ [110, 101, 103] := by rintro rfl; revert h; decide
  have e4 : op ≠ [112, 111, 115] := by rintro rfl; revert h; decide
  have e5 : op ≠ [110, 111, 116] := by rintro rfl; revert h; decide
  have e6 : op ≠ [99, 111, 109] := by rintro rfl; revert h; decide
  have e7 : op ≠ [63] := by rintro rfl; revert h; decide
  show combV op n nm (valL (.cons x (.cons y .nil))) T = _
  unfold combV
  rw [if_neg (by simp [valL, hk]), if_neg (by rw [hs]; decide), if_neg e1, if_neg e2, if_neg e3, if_neg e4, if_neg e5, if_neg e6, if_neg h1, if_neg h2, if_neg e7]; rfl
def ErrNZ (x : Except Int Int) : Prop := ∀ er, x = .error er → er ≠ 0
theorem ErrNZ.ite {p : Prop} [Decidable p] {a b : Except Int Int} (h : ErrNZ a) (k : ErrNZ b) : ErrNZ (if p then a else b) := by split <;> assumption
theorem ErrNZ.ok (n : Int) : ErrNZ (.ok n) := fun er h => by cases h
theorem twoV_err {op : List UInt8} {a b er : Int} (h : twoV op a b = .error er) : er ≠ 0 := by
  have key : ErrNZ (twoV op a b) := by
    unfold twoV
    repeat' (refine ErrNZ.ite ?_ ?_)
    all_goals first
      | exact ErrNZ.ok _
      | exact (fun er h => by injection h with h; subst h; decide)
  exact key er h
theorem lev_bin {op : List UInt8} (h : 0 < levF op) (h1 : op ≠ [38, 38]) (h2 : op ≠ [124, 124]) : op ∈ binL := by
  have hm : op = [124, 124] ∨ op = [38, 38] ∨ op = [124] ∨ op = [94] ∨ op = [38] ∨ (op = [61, 61] ∨ op = [33, 61]) ∨ (op = [60] ∨ op = [60, 61] ∨ op = [62] ∨ op = [62, 61]) ∨ (op = [60, 60] ∨ op = [62, 62]) ∨ (op = [43] ∨ op = [45]) ∨ (op = [42] ∨ op = [47] ∨ op = [37]) := by
    unfold levF at h
    repeat' split at h
    all_goals first
      | (simp_all; done)
      | omega
  rcases hm with h | h | rfl | rfl | rfl | (rfl | rfl) | (rfl | rfl | rfl | rfl) | (rfl | rfl) | (rfl | rfl) | (rfl | rfl | rfl)
  · exact (h2 h).elim
  · exact (h1 h).elim
  all_goals decide
theorem set_bin {op : List UInt8} (h : setF op = true) (h1 : op ≠ [61]) : op.dropLast ∈ binL := by
  simp [setF, setL] at h
  rcases h with rfl | rfl | rfl | rfl | rfl | rfl | rfl | rfl | rfl | rfl | rfl
  · exact (h1 rfl).elim
  all_goals decide
theorem put_err {T : Tab} {x y : List UInt8} : (putF T x y).1 = 0 ∨ (putF T x y).1 = 26 := by
  induction T with
  | nil => exact .inl rfl
  | cons p r ih =>
    obtain ⟨n, v, f⟩ := p
    unfold putF
    split
    · split
      · exact .inr rfl
      · exact .inl rfl
    · exact ih
end Go.Proofs.YtadmmmehphhecaaGreatDoor
/- The walk of the reference's value: a part (printed by genVc.py). -/
namespace Go.Proofs.YtadmmmehphhecaaGreatDoor
open Go.RowKit
set_option maxRecDepth 100000 in
set_option maxHeartbeats 8000000 in
theorem rv_neg (n : Int) (nm : List UInt8) (x : Ex)  (ho : okF (.mk [110, 101, 103] n nm (.cons x .nil)) = true) (hxx : RValC x) : RValC (.mk [110, 101, 103] n nm (.cons x .nil)) := by
  have HSET : Hid (setF [110, 101, 103] = false) := hid (by decide)
  have hok := ho
  simp only [okF, okL, Bool.and_eq_true, Bool.and_true] at hok
  have HOx := hid hok.2
  clear hok
  have hkf : kidsF [110, 101, 103] = 1 := by decide
  intro w g B T L u1 u2 v hr hT hS hl hlL
  obtain ⟨A, cap, rfl, hcap, hkids⟩ := hr.form
  have HLEN : Hid (T.length + szF (.mk [110, 101, 103] n nm (.cons x .nil)) ≤ 100000 ∧ L.length + szF (.mk [110, 101, 103] n nm (.cons x .nil)) ≤ 100000) := hid ⟨hl, hlL⟩
  clear hl hlL
  dsimp only [Ex.op, Ex.num, Ex.name, Ex.kids, Exs.len, Nat.zero_add, Nat.reduceAdd] at *
  obtain ⟨b, off, rfl⟩ := hkids.form_ (by simp [Exs.len])
  obtain ⟨Ax, capx, hPx, qx0, qx1, qx2, qx3, hrx, hkids⟩ := hkids.un
  clear hkids
  have HKx := hid hxx
  have HS := hid hS
  clear hxx
  have kB := Bk.new w 37 #[.string ⟨#[110, 101, 103]⟩, .int .i64 n, .string ⟨nm.toArray⟩, .slice (some ⟨b, off, none⟩) 1 cap]
  have hB0 : Below w.heap.size w (w.alloc (.cells #[.string ⟨#[110, 101, 103]⟩, .int .i64 n, .string ⟨nm.toArray⟩, .slice (some ⟨b, off, none⟩) 1 cap] 37)) := (Below.refl _ _).alloc (Nat.le_refl _) _
  go_enter Tryz.func38, Tryz.ntmps38
  go_wp2_with fail
  obtain ⟨W0, hW0⟩ : ∃ W0, W0 = w.alloc (.cells #[.string ⟨#[110, 101, 103]⟩, .int .i64 n, .string ⟨nm.toArray⟩, .slice (some ⟨b, off, none⟩) 1 cap] 37) := ⟨_, rfl⟩
  rw [← hW0] at kB hB0
  rw [← hW0]
  clear hW0
  have hBd := hB0.drew
  have hlt0 := kB.lt
  obtain ⟨c0, c1, c2, c3⟩ := kB.cells4
  clear kB
  refine wp_region_held_drew (S := (fun w' => w'.cell? ⟨w.heap.size, 0, none⟩ = some (.string ⟨#[110, 101, 103]⟩) ∧ w'.cell? ⟨w.heap.size, 1, none⟩ = some (.int .i64 n) ∧ w'.cell? ⟨w.heap.size, 2, none⟩ = some (.string ⟨nm.toArray⟩) ∧ w'.cell? ⟨w.heap.size, 3, none⟩ = some (.slice (some ⟨b, off, none⟩) 1 cap))) (by kernel_rfl) ⟨c0, c1, c2, c3⟩ (fun hHeld => ?_)
  refine takeYes (i := 0) (v := .pointer (some ⟨w.heap.size, 0, none⟩)) rfl (by kernel_rfl) (by kernel_rfl) (by kernel_rfl) (fun _ _ _ h => h) (by rfl) ?_ (by assumption) ?_
  · intro w hSw; obtain ⟨sq0, sq1, sq2, sq3⟩ := hSw; go_simp
  try simp only [Act.put, List.setIfInBounds_toArray, List.set_cons_zero, List.set_cons_succ]
  refine takeYes (i := 1) (v := .string ⟨#[110, 101, 103]⟩) rfl (by kernel_rfl) (by kernel_rfl) (by kernel_rfl) (fun _ _ _ h => h) (by rfl) ?_ (by assumption) ?_
  · intro w hSw; obtain ⟨sq0, sq1, sq2, sq3⟩ := hSw; go_simp
  try simp only [Act.put, List.setIfInBounds_toArray, List.set_cons_zero, List.set_cons_succ]
  refine takeYes (i := 3) (v := .pointer (some ⟨w.heap.size, 3, none⟩)) rfl (by kernel_rfl) (by kernel_rfl) (by kernel_rfl) (fun _ _ _ h => h) (by rfl) ?_ (by assumption) ?_
  · intro w hSw; obtain ⟨sq0, sq1, sq2, sq3⟩ := hSw; go_simp
  try simp only [Act.put, List.setIfInBounds_toArray, List.set_cons_zero, List.set_cons_succ]
  refine takeYes (i := 4) (v := .slice (some ⟨b, off, none⟩) 1 cap) rfl (by kernel_rfl) (by kernel_rfl) (by kernel_rfl) (fun _ _ _ h => h) (by rfl) ?_ (by assumption) ?_
  · intro w hSw; obtain ⟨sq0, sq1, sq2, sq3⟩ := hSw; go_simp
  try simp only [Act.put, List.setIfInBounds_toArray, List.set_cons_zero, List.set_cons_succ]
  refine takeYes (i := 5) (v := .int .i64 1) rfl (by kernel_rfl) (by kernel_rfl) (by kernel_rfl) (fun _ _ _ h => h) (by rfl) ?_ (by assumption) ?_
  · intro w hSw; obtain ⟨sq0, sq1, sq2, sq3⟩ := hSw; go_simp
  try simp only [Act.put, List.setIfInBounds_toArray, List.set_cons_zero, List.set_cons_succ]
  refine wpAnyH_ready (rs := [2]) (by kernel_rfl) (by simp) ?_
  refine AllReadyH.cons rfl (fun K hK => ?_) AllReadyH.nil
  go_simp
  ((with_reducible refine (rkids_any [110, 101, 103] _).mono ?_); rintro e0 wy ⟨rfl, rfl⟩)
  rw [hkf]
  go_wp2_with fail
  refine hK.out _ _ ?_ (fun hHeld => ?_)
  · assumption
  clear hK K
  try simp only [Act.put, List.setIfInBounds_toArray, List.set_cons_zero, List.set_cons_succ]
  refine takeYes (i := 6) (v := .bool false) rfl (by kernel_rfl) (by kernel_rfl) (by kernel_rfl) (fun _ _ _ h => h) (by rfl) ?_ (by assumption) ?_
  · intro w hSw; obtain ⟨sq0, sq1, sq2, sq3⟩ := hSw; go_simp
  try simp only [Act.put, List.setIfInBounds_toArray, List.set_cons_zero, List.set_cons_succ]
  refine wpAnyH_done (by kernel_rfl) ?_ _
  obtain ⟨W, hW⟩ : ∃ W, W = W0.drew := ⟨_, rfl⟩
  have HFR := hid (show RFree W g u1 u2 w.heap.size by rw [hW]; exact rfree_new hT hBd (Nat.le_refl _) hlt0)
  have HT := hid (show RTabAt W B g T L u1 u2 by rw [hW]; exact hT.below hBd)
  have HST := hid (show RStep g w u1 u2 W u1 u2 by rw [hW]; exact RStep.below hBd)
  have hbW : Below W0.heap.size W0 W := by rw [hW]; exact (Below.refl _ _).drew
  have c0 := bel_cell hbW c0
  have c1 := bel_cell hbW c1
  have c2 := bel_cell hbW c2
  have c3 := bel_cell hbW c3
  have HFx := hid (HST.out.free hPx)
  have HXx := hid (hrx.rstep HST.out)
  have qx0 := cell_rstep HST.out hPx qx0
  have qx1 := cell_rstep HST.out hPx qx1
  have qx2 := cell_rstep HST.out hPx qx2
  have qx3 := cell_rstep HST.out hPx qx3
  rw [← hW]
  clear hbW hW hB0 hBd hlt0 hT hS
  clear hrx hPx
  go_wp2_with fail
  ((with_reducible refine (rsets_any [110, 101, 103] _).mono ?_); rintro e0 wy ⟨rfl, rfl⟩)
  rw [HSET.out]
  go_wp2_with fail
  ((with_reducible refine (HKx.out.call _ g B T L u1 u2 _ HXx.out HT.out HS.out (by have := HLEN.out; simp only [szF, szL] at *; omega) (by have := HLEN.out; simp only [szF, szL] at *; omega)).mono ?_); rintro e1 W1 ⟨x1, y1, L1, hL1, hst1, ht1, hres1⟩)
  obtain ⟨⟨r1, T1⟩, hv1⟩ : ∃ p, p = valF x T := ⟨_, rfl⟩
  rw [← hv1] at ht1 hres1
  dsimp only at ht1 hres1
  have HV1 := hid hv1.symm
  have haf1 := val_after HOx.out HS.out hv1.symm
  have HS1 := hid haf1.1
  have HTL1 := hid haf1.2.1
  have HR1 := hid haf1.2.2
  clear haf1
  have HT1 := hid ht1
  have HST1 := hid (HST.out.trans hst1)
  have HL1 := hid hL1
  have c0 := cell_rstep hst1 HFR.out c0
  have c1 := cell_rstep hst1 HFR.out c1
  have c2 := cell_rstep hst1 HFR.out c2
  have c3 := cell_rstep hst1 HFR.out c3
  have HFR := hid (hst1.free HFR.out)
  clear hst1 ht1 hL1 hv1
  cases r1 with
  | error er1 =>
    obtain ⟨h0, m, rfl⟩ := hres1
    have hne : (er1 != 0) = true := by simpa using h0
    have H0 := hid h0
    clear h0
    go_wp2_with fail
    go_ret2
    exact RValPost.bad (by have := HL1.out; have := HTL1.out; have := HLEN.out; simp only [szF, szL] at *; omega) HST1.out HT1.out (by show thenV (valF x T) _ = _; rw [HV1.out]; rfl) H0.out
  | ok a1 =>
    have HI1 := hid (HR1.out a1 rfl)
    obtain rfl := hres1
    go_wp2_with fail
    go_ret2
    exact RValPost.good (by have := HL1.out; have := HTL1.out; have := HLEN.out; simp only [szF, szL] at *; omega) HST1.out HT1.out (n := wrap64 (-a1)) (by show thenV (valF x T) _ = _; rw [HV1.out]; rfl) (by simp [wrap64])
set_option maxRecDepth 100000 in
set_option maxHeartbeats 8000000 in
theorem rv_pos (n : Int) (nm : List UInt8) (x : Ex)  (ho : okF (.mk [112, 111, 115] n nm (.cons x .nil)) = true) (hxx : RValC x) : RValC (.mk [112, 111, 115] n nm (.cons x .nil)) := by
  have HSET : Hid (setF [112, 111, 115] = false) := hid (by decide)
  have hok := ho
  simp only [okF, okL, Bool.and_eq_true, Bool.and_true] at hok
  have HOx := hid hok.2
  clear hok
  have hkf : kidsF [112, 111, 115] = 1 := by decide
  intro w g B T L u1 u2 v hr hT hS hl hlL
  obtain ⟨A, cap, rfl, hcap, hkids⟩ := hr.form
  have HLEN : Hid (T.length + szF (.mk [112, 111, 115] n nm (.cons x .nil)) ≤ 100000 ∧ L.length + szF (.mk [112, 111, 115] n nm (.cons x .nil)) ≤ 100000) := hid ⟨hl, hlL⟩
  clear hl hlL
  dsimp only [Ex.op, Ex.num, Ex.name, Ex.kids, Exs.len, Nat.zero_add, Nat.reduceAdd] at *
  obtain ⟨b, off, rfl⟩ := hkids.form_ (by simp [Exs.len])
  obtain ⟨Ax, capx, hPx, qx0, qx1, qx2, qx3, hrx, hkids⟩ := hkids.un
  clear hkids
  have HKx := hid hxx
  have HS := hid hS
  clear hxx
  have kB := Bk.new w 37 #[.string ⟨#[112, 111, 115]⟩, .int .i64 n, .string ⟨nm.toArray⟩, .slice (some ⟨b, off, none⟩) 1 cap]
  have hB0 : Below w.heap.size w (w.alloc (.cells #[.string ⟨#[112, 111, 115]⟩, .int .i64 n, .string ⟨nm.toArray⟩, .slice (some ⟨b, off, none⟩) 1 cap] 37)) := (Below.refl _ _).alloc (Nat.le_refl _) _
  go_enter Tryz.func38, Tryz.ntmps38
  go_wp2_with fail
  obtain ⟨W0, hW0⟩ : ∃ W0, W0 = w.alloc (.cells #[.string ⟨#[112, 111, 115]⟩, .int .i64 n, .string ⟨nm.toArray⟩, .slice (some ⟨b, off, none⟩) 1 cap] 37) := ⟨_, rfl⟩
  rw [← hW0] at kB hB0
  rw [← hW0]
  clear hW0
  have hBd := hB0.drew
  have hlt0 := kB.lt
  obtain ⟨c0, c1, c2, c3⟩ := kB.cells4
  clear kB
  refine wp_region_held_drew (S := (fun w' => w'.cell? ⟨w.heap.size, 0, none⟩ = some (.string ⟨#[112, 111, 115]⟩) ∧ w'.cell? ⟨w.heap.size, 1, none⟩ = some (.int .i64 n) ∧ w'.cell? ⟨w.heap.size, 2, none⟩ = some (.string ⟨nm.toArray⟩) ∧ w'.cell? ⟨w.heap.size, 3, none⟩ = some (.slice (some ⟨b, off, none⟩) 1 cap))) (by kernel_rfl) ⟨c0, c1, c2, c3⟩ (fun hHeld => ?_)
  refine takeYes (i := 0) (v := .pointer (some ⟨w.heap.size, 0, none⟩)) rfl (by kernel_rfl) (by kernel_rfl) (by kernel_rfl) (fun _ _ _ h => h) (by rfl) ?_ (by assumption) ?_
  · intro w hSw; obtain ⟨sq0, sq1, sq2, sq3⟩ := hSw; go_simp
  try simp only [Act.put, List.setIfInBounds_toArray, List.set_cons_zero, List.set_cons_succ]
  refine takeYes (i := 1) (v := .string ⟨#[112, 111, 115]⟩) rfl (by kernel_rfl) (by kernel_rfl) (by kernel_rfl) (fun _ _ _ h => h) (by rfl) ?_ (by assumption) ?_
  · intro w hSw; obtain ⟨sq0, sq1, sq2, sq3⟩ := hSw; go_simp
  try simp only [Act.put, List.setIfInBounds_toArray, List.set_cons_zero, List.set_cons_succ]
  refine takeYes (i := 3) (v := .pointer (some ⟨w.heap.size, 3, none⟩)) rfl (by kernel_rfl) (by kernel_rfl) (by kernel_rfl) (fun _ _ _ h => h) (by rfl) ?_ (by assumption) ?_
  · intro w hSw; obtain ⟨sq0, sq1, sq2, sq3⟩ := hSw; go_simp
  try simp only [Act.put, List.setIfInBounds_toArray, List.set_cons_zero, List.set_cons_succ]
  refine takeYes (i := 4) (v := .slice (some ⟨b, off, none⟩) 1 cap) rfl (by kernel_rfl) (by kernel_rfl) (by kernel_rfl) (fun _ _ _ h => h) (by rfl) ?_ (by assumption) ?_
  · intro w hSw; obtain ⟨sq0, sq1, sq2, sq3⟩ := hSw; go_simp
  try simp only [Act.put, List.setIfInBounds_toArray, List.set_cons_zero, List.set_cons_succ]
  refine takeYes (i := 5) (v := .int .i64 1) rfl (by kernel_rfl) (by kernel_rfl) (by kernel_rfl) (fun _ _ _ h => h) (by rfl) ?_ (by assumption) ?_
  · intro w hSw; obtain ⟨sq0, sq1, sq2, sq3⟩ := hSw; go_simp
  try simp only [Act.put, List.setIfInBounds_toArray, List.set_cons_zero, List.set_cons_succ]
  refine wpAnyH_ready (rs := [2]) (by kernel_rfl) (by simp) ?_
  refine AllReadyH.cons rfl (fun K hK => ?_) AllReadyH.nil
  go_simp
  ((with_reducible refine (rkids_any [112, 111, 115] _).mono ?_); rintro e0 wy ⟨rfl, rfl⟩)
  rw [hkf]
  go_wp2_with fail
  refine hK.out _ _ ?_ (fun hHeld => ?_)
  · assumption
  clear hK K
  try simp only [Act.put, List.setIfInBounds_toArray, List.set_cons_zero, List.set_cons_succ]
  refine takeYes (i := 6) (v := .bool false) rfl (by kernel_rfl) (by kernel_rfl) (by kernel_rfl) (fun _ _ _ h => h) (by rfl) ?_ (by assumption) ?_
  · intro w hSw; obtain ⟨sq0, sq1, sq2, sq3⟩ := hSw; go_simp
  try simp only [Act.put, List.setIfInBounds_toArray, List.set_cons_zero, List.set_cons_succ]
  refine wpAnyH_done (by kernel_rfl) ?_ _
  obtain ⟨W, hW⟩ : ∃ W, W = W0.drew := ⟨_, rfl⟩
  have HFR := hid (show RFree W g u1 u2 w.heap.size by rw [hW]; exact rfree_new hT hBd (Nat.le_refl _) hlt0)
  have HT := hid (show RTabAt W B g T L u1 u2 by rw [hW]; exact hT.below hBd)
  have HST := hid (show RStep g w u1 u2 W u1 u2 by rw [hW]; exact RStep.below hBd)
  have hbW : Below W0.heap.size W0 W := by rw [hW]; exact (Below.refl _ _).drew
  have c0 := bel_cell hbW c0
  have c1 := bel_cell hbW c1
  have c2 := bel_cell hbW c2
  have c3 := bel_cell hbW c3
  have HFx := hid (HST.out.free hPx)
  have HXx := hid (hrx.rstep HST.out)
  have qx0 := cell_rstep HST.out hPx qx0
  have qx1 := cell_rstep HST.out hPx qx1
  have qx2 := cell_rstep HST.out hPx qx2
  have qx3 := cell_rstep HST.out hPx qx3
  rw [← hW]
  clear hbW hW hB0 hBd hlt0 hT hS
  clear hrx hPx
  go_wp2_with fail
  ((with_reducible refine (rsets_any [112, 111, 115] _).mono ?_); rintro e0 wy ⟨rfl, rfl⟩)
  rw [HSET.out]
  go_wp2_with fail
  ((with_reducible refine (HKx.out.call _ g B T L u1 u2 _ HXx.out HT.out HS.out (by have := HLEN.out; simp only [szF, szL] at *; omega) (by have := HLEN.out; simp only [szF, szL] at *; omega)).mono ?_); rintro e1 W1 ⟨x1, y1, L1, hL1, hst1, ht1, hres1⟩)
  obtain ⟨⟨r1, T1⟩, hv1⟩ : ∃ p, p = valF x T := ⟨_, rfl⟩
  rw [← hv1] at ht1 hres1
  dsimp only at ht1 hres1
  have HV1 := hid hv1.symm
  have haf1 := val_after HOx.out HS.out hv1.symm
  have HS1 := hid haf1.1
  have HTL1 := hid haf1.2.1
  have HR1 := hid haf1.2.2
  clear haf1
  have HT1 := hid ht1
  have HST1 := hid (HST.out.trans hst1)
  have HL1 := hid hL1
  have c0 := cell_rstep hst1 HFR.out c0
  have c1 := cell_rstep hst1 HFR.out c1
  have c2 := cell_rstep hst1 HFR.out c2
  have c3 := cell_rstep hst1 HFR.out c3
  have HFR := hid (hst1.free HFR.out)
  clear hst1 ht1 hL1 hv1
  cases r1 with
  | error er1 =>
    obtain ⟨h0, m, rfl⟩ := hres1
    have hne : (er1 != 0) = true := by simpa using h0
    have H0 := hid h0
    clear h0
    go_wp2_with fail
    go_ret2
    exact RValPost.bad (by have := HL1.out; have := HTL1.out; have := HLEN.out; simp only [szF, szL] at *; omega) HST1.out HT1.out (by show valF x T = _; rw [HV1.out]) H0.out
  | ok a1 =>
    have HI1 := hid (HR1.out a1 rfl)
    obtain rfl := hres1
    go_wp2_with fail
    go_ret2
    exact RValPost.good (by have := HL1.out; have := HTL1.out; have := HLEN.out; simp only [szF, szL] at *; omega) HST1.out HT1.out (n := a1) (by show valF x T = _; rw [HV1.out]) rfl
set_option maxRecDepth 100000 in
set_option maxHeartbeats 8000000 in
theorem rv_not (n : Int) (nm : List UInt8) (x : Ex)  (ho : okF (.mk [110, 111, 116] n nm (.cons x .nil)) = true) (hxx : RValC x) : RValC (.mk [110, 111, 116] n nm (.cons x .nil)) := by
  have HSET : Hid (setF [110, 111, 116] = false) := hid (by decide)
  have hok := ho
  simp only [okF, okL, Bool.and_eq_true, Bool.and_true] at hok
  have HOx := hid hok.2
  clear hok
  have hkf : kidsF [110, 111, 116] = 1 := by decide
  intro w g B T L u1 u2 v hr hT hS hl hlL
  obtain ⟨A, cap, rfl, hcap, hkids⟩ := hr.form
  have HLEN : Hid (T.length + szF (.mk [110, 111, 116] n nm (.cons x .nil)) ≤ 100000 ∧ L.length + szF (.mk [110, 111, 116] n nm (.cons x .nil)) ≤ 100000) := hid ⟨hl, hlL⟩
  clear hl hlL
  dsimp only [Ex.op, Ex.num, Ex.name, Ex.kids, Exs.len, Nat.zero_add, Nat.reduceAdd] at *
  obtain ⟨b, off, rfl⟩ := hkids.form_ (by simp [Exs.len])
  obtain ⟨Ax, capx, hPx, qx0, qx1, qx2, qx3, hrx, hkids⟩ := hkids.un
  clear hkids
  have HKx := hid hxx
  have HS := hid hS
  clear hxx
  have kB := Bk.new w 37 #[.string ⟨#[110, 111, 116]⟩, .int .i64 n, .string ⟨nm.toArray⟩, .slice (some ⟨b, off, none⟩) 1 cap]
  have hB0 : Below w.heap.size w (w.alloc (.cells #[.string ⟨#[110, 111, 116]⟩, .int .i64 n, .string ⟨nm.toArray⟩, .slice (some ⟨b, off, none⟩) 1 cap] 37)) := (Below.refl _ _).alloc (Nat.le_refl _) _
  go_enter Tryz.func38, Tryz.ntmps38
  go_wp2_with fail
  obtain ⟨W0, hW0⟩ : ∃ W0, W0 = w.alloc (.cells #[.string ⟨#[110, 111, 116]⟩, .int .i64 n, .string ⟨nm.toArray⟩, .slice (some ⟨b, off, none⟩) 1 cap] 37) := ⟨_, rfl⟩
  rw [← hW0] at kB hB0
  rw [← hW0]
  clear hW0
  have hBd := hB0.drew
  have hlt0 := kB.lt
  obtain ⟨c0, c1, c2, c3⟩ := kB.cells4
  clear kB
  refine wp_region_held_drew (S := (fun w' => w'.cell? ⟨w.heap.size, 0, none⟩ = some (.string ⟨#[110, 111, 116]⟩) ∧ w'.cell? ⟨w.heap.size, 1, none⟩ = some (.int .i64 n) ∧ w'.cell? ⟨w.heap.size, 2, none⟩ = some (.string ⟨nm.toArray⟩) ∧ w'.cell? ⟨w.heap.size, 3, none⟩ = some (.slice (some ⟨b, off, none⟩) 1 cap))) (by kernel_rfl) ⟨c0, c1, c2, c3⟩ (fun hHeld => ?_)
  refine takeYes (i := 0) (v := .pointer (some ⟨w.heap.size, 0, none⟩)) rfl (by kernel_rfl) (by kernel_rfl) (by kernel_rfl) (fun _ _ _ h => h) (by rfl) ?_ (by assumption) ?_
  · intro w hSw; obtain ⟨sq0, sq1, sq2, sq3⟩ := hSw; go_simp
  try simp only [Act.put, List.setIfInBounds_toArray, List.set_cons_zero, List.set_cons_succ]
  refine takeYes (i := 1) (v := .string ⟨#[110, 111, 116]⟩) rfl (by kernel_rfl) (by kernel_rfl) (by kernel_rfl) (fun _ _ _ h => h) (by rfl) ?_ (by assumption) ?_
  · intro w hSw; obtain ⟨sq0, sq1, sq2, sq3⟩ := hSw; go_simp
  try simp only [Act.put, List.setIfInBounds_toArray, List.set_cons_zero, List.set_cons_succ]
  refine takeYes (i := 3) (v := .pointer (some ⟨w.heap.size, 3, none⟩)) rfl (by kernel_rfl) (by kernel_rfl) (by kernel_rfl) (fun _ _ _ h => h) (by rfl) ?_ (by assumption) ?_
  · intro w hSw; obtain ⟨sq0, sq1, sq2, sq3⟩ := hSw; go_simp
  try simp only [Act.put, List.setIfInBounds_toArray, List.set_cons_zero, List.set_cons_succ]
  refine takeYes (i := 4) (v := .slice (some ⟨b, off, none⟩) 1 cap) rfl (by kernel_rfl) (by kernel_rfl) (by kernel_rfl) (fun _ _ _ h => h) (by rfl) ?_ (by assumption) ?_
  · intro w hSw; obtain ⟨sq0, sq1, sq2, sq3⟩ := hSw; go_simp
  try simp only [Act.put, List.setIfInBounds_toArray, List.set_cons_zero, List.set_cons_succ]
  refine takeYes (i := 5) (v := .int .i64 1) rfl (by kernel_rfl) (by kernel_rfl) (by kernel_rfl) (fun _ _ _ h => h) (by rfl) ?_ (by assumption) ?_
  · intro w hSw; obtain ⟨sq0, sq1, sq2, sq3⟩ := hSw; go_simp
  try simp only [Act.put, List.setIfInBounds_toArray, List.set_cons_zero, List.set_cons_succ]
  refine wpAnyH_ready (rs := [2]) (by kernel_rfl) (by simp) ?_
  refine AllReadyH.cons rfl (fun K hK => ?_) AllReadyH.nil
  go_simp
  ((with_reducible refine (rkids_any [110, 111, 116] _).mono ?_); rintro e0 wy ⟨rfl, rfl⟩)
  rw [hkf]
  go_wp2_with fail
  refine hK.out _ _ ?_ (fun hHeld => ?_)
  · assumption
  clear hK K
  try simp only [Act.put, List.setIfInBounds_toArray, List.set_cons_zero, List.set_cons_succ]
  refine takeYes (i := 6) (v := .bool false) rfl (by kernel_rfl) (by kernel_rfl) (by kernel_rfl) (fun _ _ _ h => h) (by rfl) ?_ (by assumption) ?_
  · intro w hSw; obtain ⟨sq0, sq1, sq2, sq3⟩ := hSw; go_simp
  try simp only [Act.put, List.setIfInBounds_toArray, List.set_cons_zero, List.set_cons_succ]
  refine wpAnyH_done (by kernel_rfl) ?_ _
  obtain ⟨W, hW⟩ : ∃ W, W = W0.drew := ⟨_, rfl⟩
  have HFR := hid (show RFree W g u1 u2 w.heap.size by rw [hW]; exact rfree_new hT hBd (Nat.le_refl _) hlt0)
  have HT := hid (show RTabAt W B g T L u1 u2 by rw [hW]; exact hT.below hBd)
  have HST := hid (show RStep g w u1 u2 W u1 u2 by rw [hW]; exact RStep.below hBd)
  have hbW : Below W0.heap.size W0 W := by rw [hW]; exact (Below.refl _ _).drew
  have c0 := bel_cell hbW c0
  have c1 := bel_cell hbW c1
  have c2 := bel_cell hbW c2
  have c3 := bel_cell hbW c3
  have HFx := hid (HST.out.free hPx)
  have HXx := hid (hrx.rstep HST.out)
  have qx0 := cell_rstep HST.out hPx qx0
  have qx1 := cell_rstep HST.out hPx qx1
  have qx2 := cell_rstep HST.out hPx qx2
  have qx3 := cell_rstep HST.out hPx qx3
  rw [← hW]
  clear hbW hW hB0 hBd hlt0 hT hS
  clear hrx hPx
  go_wp2_with fail
  ((with_reducible refine (rsets_any [110, 111, 116] _).mono ?_); rintro e0 wy ⟨rfl, rfl⟩)
  rw [HSET.out]
  go_wp2_with fail
  ((with_reducible refine (HKx.out.call _ g B T L u1 u2 _ HXx.out HT.out HS.out (by have := HLEN.out; simp only [szF, szL] at *; omega) (by have := HLEN.out; simp only [szF, szL] at *; omega)).mono ?_); rintro e1 W1 ⟨x1, y1, L1, hL1, hst1, ht1, hres1⟩)
  obtain ⟨⟨r1, T1⟩, hv1⟩ : ∃ p, p = valF x T := ⟨_, rfl⟩
  rw [← hv1] at ht1 hres1
  dsimp only at ht1 hres1
  have HV1 := hid hv1.symm
  have haf1 := val_after HOx.out HS.out hv1.symm
  have HS1 := hid haf1.1
  have HTL1 := hid haf1.2.1
  have HR1 := hid haf1.2.2
  clear haf1
  have HT1 := hid ht1
  have HST1 := hid (HST.out.trans hst1)
  have HL1 := hid hL1
  have c0 := cell_rstep hst1 HFR.out c0
  have c1 := cell_rstep hst1 HFR.out c1
  have c2 := cell_rstep hst1 HFR.out c2
  have c3 := cell_rstep hst1 HFR.out c3
  have HFR := hid (hst1.free HFR.out)
  clear hst1 ht1 hL1 hv1
  cases r1 with
  | error er1 =>
    obtain ⟨h0, m, rfl⟩ := hres1
    have hne : (er1 != 0) = true := by simpa using h0
    have H0 := hid h0
    clear h0
    go_wp2_with fail
    go_ret2
    exact RValPost.bad (by have := HL1.out; have := HTL1.out; have := HLEN.out; simp only [szF, szL] at *; omega) HST1.out HT1.out (by show thenV (valF x T) _ = _; rw [HV1.out]; rfl) H0.out
  | ok a1 =>
    have HI1 := hid (HR1.out a1 rfl)
    obtain rfl := hres1
    by_cases ha : a1 = 0
    · have hb : (a1 == 0) = true := by simp [ha]
      have HA := hid ha
      clear ha
      go_wp2_with fail
      ((with_reducible refine (rone_any _ _).mono ?_); rintro e2 w2 ⟨rfl, rfl⟩)
      go_wp2_with fail
      go_ret2
      exact RValPost.good (by have := HL1.out; have := HTL1.out; have := HLEN.out; simp only [szF, szL] at *; omega) HST1.out HT1.out (n := 1) (by show thenV (valF x T) _ = _; rw [HV1.out, thenV_ok, if_pos HA.out]) rfl
    · have hb : (a1 == 0) = false := by simpa using ha
      have HA := hid ha
      clear ha
      go_wp2_with fail
      ((with_reducible refine (rone_any _ _).mono ?_); rintro e2 w2 ⟨rfl, rfl⟩)
      go_wp2_with fail
      go_ret2
      exact RValPost.good (by have := HL1.out; have := HTL1.out; have := HLEN.out; simp only [szF, szL] at *; omega) HST1.out HT1.out (n := 0) (by show thenV (valF x T) _ = _; rw [HV1.out, thenV_ok, if_neg HA.out]) rfl
set_option maxRecDepth 100000 in
set_option maxHeartbeats 8000000 in
theorem rv_com (n : Int) (nm : List UInt8) (x : Ex)  (ho : okF (.mk [99, 111, 109] n nm (.cons x .nil)) = true) (hxx : RValC x) : RValC (.mk [99, 111, 109] n nm (.cons x .nil)) := by
  have HSET : Hid (setF [99, 111, 109] = false) := hid (by decide)
  have hok := ho
  simp only [okF, okL, Bool.and_eq_true, Bool.and_true] at hok
  have HOx := hid hok.2
  clear hok
  have hkf : kidsF [99, 111, 109] = 1 := by decide
  intro w g B T L u1 u2 v hr hT hS hl hlL
  obtain ⟨A, cap, rfl, hcap, hkids⟩ := hr.form
  have HLEN : Hid (T.length + szF (.mk [99, 111, 109] n nm (.cons x .nil)) ≤ 100000 ∧ L.length + szF (.mk [99, 111, 109] n nm (.cons x .nil)) ≤ 100000) := hid ⟨hl, hlL⟩
  clear hl hlL
  dsimp only [Ex.op, Ex.num, Ex.name, Ex.kids, Exs.len, Nat.zero_add, Nat.reduceAdd] at *
  obtain ⟨b, off, rfl⟩ := hkids.form_ (by simp [Exs.len])
  obtain ⟨Ax, capx, hPx, qx0, qx1, qx2, qx3, hrx, hkids⟩ := hkids.un
  clear hkids
  have HKx := hid hxx
  have HS := hid hS
  clear hxx
  have kB := Bk.new w 37 #[.string ⟨#[99, 111, 109]⟩, .int .i64 n, .string ⟨nm.toArray⟩, .slice (some ⟨b, off, none⟩) 1 cap]
  have hB0 : Below w.heap.size w (w.alloc (.cells #[.string ⟨#[99, 111, 109]⟩, .int .i64 n, .string ⟨nm.toArray⟩, .slice (some ⟨b, off, none⟩) 1 cap] 37)) := (Below.refl _ _).alloc (Nat.le_refl _) _
  go_enter Tryz.func38, Tryz.ntmps38
  go_wp2_with fail
  obtain ⟨W0, hW0⟩ : ∃ W0, W0 = w.alloc (.cells #[.string ⟨#[99, 111, 109]⟩, .int .i64 n, .string ⟨nm.toArray⟩, .slice (some ⟨b, off, none⟩) 1 cap] 37) := ⟨_, rfl⟩
  rw [← hW0] at kB hB0
  rw [← hW0]
  clear hW0
  have hBd := hB0.drew
  have hlt0 := kB.lt
  obtain ⟨c0, c1, c2, c3⟩ := kB.cells4
  clear kB
  refine wp_region_held_drew (S := (fun w' => w'.cell? ⟨w.heap.size, 0, none⟩ = some (.string ⟨#[99, 111, 109]⟩) ∧ w'.cell? ⟨w.heap.size, 1, none⟩ = some (.int .i64 n) ∧ w'.cell? ⟨w.heap.size, 2, none⟩ = some (.string ⟨nm.toArray⟩) ∧ w'.cell? ⟨w.heap.size, 3, none⟩ = some (.slice (some ⟨b, off, none⟩) 1 cap))) (by kernel_rfl) ⟨c0, c1, c2, c3⟩ (fun hHeld => ?_)
  refine takeYes (i := 0) (v := .pointer (some ⟨w.heap.size, 0, none⟩)) rfl (by kernel_rfl) (by kernel_rfl) (by kernel_rfl) (fun _ _ _ h => h) (by rfl) ?_ (by assumption) ?_
  · intro w hSw; obtain ⟨sq0, sq1, sq2, sq3⟩ := hSw; go_simp
  try simp only [Act.put, List.setIfInBounds_toArray, List.set_cons_zero, List.set_cons_succ]
  refine takeYes (i := 1) (v := .string ⟨#[99, 111, 109]⟩) rfl (by kernel_rfl) (by kernel_rfl) (by kernel_rfl) (fun _ _ _ h => h) (by rfl) ?_ (by assumption) ?_
  · intro w hSw; obtain ⟨sq0, sq1, sq2, sq3⟩ := hSw; go_simp
  try simp only [Act.put, List.setIfInBounds_toArray, List.set_cons_zero, List.set_cons_succ]
  refine takeYes (i := 3) (v := .pointer (some ⟨w.heap.size, 3, none⟩)) rfl (by kernel_rfl) (by kernel_rfl) (by kernel_rfl) (fun _ _ _ h => h) (by rfl) ?_ (by assumption) ?_
  · intro w hSw; obtain ⟨sq0, sq1, sq2, sq3⟩ := hSw; go_simp
  try simp only [Act.put, List.setIfInBounds_toArray, List.set_cons_zero, List.set_cons_succ]
  refine takeYes (i := 4) (v := .slice (some ⟨b, off, none⟩) 1 cap) rfl (by kernel_rfl) (by kernel_rfl) (by kernel_rfl) (fun _ _ _ h => h) (by rfl) ?_ (by assumption) ?_
  · intro w hSw; obtain ⟨sq0, sq1, sq2, sq3⟩ := hSw; go_simp
  try simp only [Act.put, List.setIfInBounds_toArray, List.set_cons_zero, List.set_cons_succ]
  refine takeYes (i := 5) (v := .int .i64 1) rfl (by kernel_rfl) (by kernel_rfl) (by kernel_rfl) (fun _ _ _ h => h) (by rfl) ?_ (by assumption) ?_
  · intro w hSw; obtain ⟨sq0, sq1, sq2, sq3⟩ := hSw; go_simp
  try simp only [Act.put, List.setIfInBounds_toArray, List.set_cons_zero, List.set_cons_succ]
  refine wpAnyH_ready (rs := [2]) (by kernel_rfl) (by simp) ?_
  refine AllReadyH.cons rfl (fun K hK => ?_) AllReadyH.nil
  go_simp
  ((with_reducible refine (rkids_any [99, 111, 109] _).mono ?_); rintro e0 wy ⟨rfl, rfl⟩)
  rw [hkf]
  go_wp2_with fail
  refine hK.out _ _ ?_ (fun hHeld => ?_)
  · assumption
  clear hK K
  try simp only [Act.put, List.setIfInBounds_toArray, List.set_cons_zero, List.set_cons_succ]
  refine takeYes (i := 6) (v := .bool false) rfl (by kernel_rfl) (by kernel_rfl) (by kernel_rfl) (fun _ _ _ h => h) (by rfl) ?_ (by assumption) ?_
  · intro w hSw; obtain ⟨sq0, sq1, sq2, sq3⟩ := hSw; go_simp
  try simp only [Act.put, List.setIfInBounds_toArray, List.set_cons_zero, List.set_cons_succ]
  refine wpAnyH_done (by kernel_rfl) ?_ _
  obtain ⟨W, hW⟩ : ∃ W, W = W0.drew := ⟨_, rfl⟩
  have HFR := hid (show RFree W g u1 u2 w.heap.size by rw [hW]; exact rfree_new hT hBd (Nat.le_refl _) hlt0)
  have HT := hid (show RTabAt W B g T L u1 u2 by rw [hW]; exact hT.below hBd)
  have HST := hid (show RStep g w u1 u2 W u1 u2 by rw [hW]; exact RStep.below hBd)
  have hbW : Below W0.heap.size W0 W := by rw [hW]; exact (Below.refl _ _).drew
  have c0 := bel_cell hbW c0
  have c1 := bel_cell hbW c1
  have c2 := bel_cell hbW c2
  have c3 := bel_cell hbW c3
  have HFx := hid (HST.out.free hPx)
  have HXx := hid (hrx.rstep HST.out)
  have qx0 := cell_rstep HST.out hPx qx0
  have qx1 := cell_rstep HST.out hPx qx1
  have qx2 := cell_rstep HST.out hPx qx2
  have qx3 := cell_rstep HST.out hPx qx3
  rw [← hW]
  clear hbW hW hB0 hBd hlt0 hT hS
  clear hrx hPx
  go_wp2_with fail
  ((with_reducible refine (rsets_any [99, 111, 109] _).mono ?_); rintro e0 wy ⟨rfl, rfl⟩)
  rw [HSET.out]
  go_wp2_with fail
  ((with_reducible refine (HKx.out.call _ g B T L u1 u2 _ HXx.out HT.out HS.out (by have := HLEN.out; simp only [szF, szL] at *; omega) (by have := HLEN.out; simp only [szF, szL] at *; omega)).mono ?_); rintro e1 W1 ⟨x1, y1, L1, hL1, hst1, ht1, hres1⟩)
  obtain ⟨⟨r1, T1⟩, hv1⟩ : ∃ p, p = valF x T := ⟨_, rfl⟩
  rw [← hv1] at ht1 hres1
  dsimp only at ht1 hres1
  have HV1 := hid hv1.symm
  have haf1 := val_after HOx.out HS.out hv1.symm
  have HS1 := hid haf1.1
  have HTL1 := hid haf1.2.1
  have HR1 := hid haf1.2.2
  clear haf1
  have HT1 := hid ht1
  have HST1 := hid (HST.out.trans hst1)
  have HL1 := hid hL1
  have c0 := cell_rstep hst1 HFR.out c0
  have c1 := cell_rstep hst1 HFR.out c1
  have c2 := cell_rstep hst1 HFR.out c2
  have c3 := cell_rstep hst1 HFR.out c3
  have HFR := hid (hst1.free HFR.out)
  clear hst1 ht1 hL1 hv1
  cases r1 with
  | error er1 =>
    obtain ⟨h0, m, rfl⟩ := hres1
    have hne : (er1 != 0) = true := by simpa using h0
    have H0 := hid h0
    clear h0
    go_wp2_with fail
    go_ret2
    exact RValPost.bad (by have := HL1.out; have := HTL1.out; have := HLEN.out; simp only [szF, szL] at *; omega) HST1.out HT1.out (by show thenV (valF x T) _ = _; rw [HV1.out]; rfl) H0.out
  | ok a1 =>
    have HI1 := hid (HR1.out a1 rfl)
    obtain rfl := hres1
    go_wp2_with fail
    go_ret2
    exact RValPost.good (by have := HL1.out; have := HTL1.out; have := HLEN.out; simp only [szF, szL] at *; omega) HST1.out HT1.out (n := -1 - a1) (by show thenV (valF x T) _ = _; rw [HV1.out]; rfl) (by have := HI1.out; unfold wrap64 I64 at *; omega)
end Go.Proofs.YtadmmmehphhecaaGreatDoor
/- The walk of the reference's value: a part (printed by genVc.py). -/
namespace Go.Proofs.YtadmmmehphhecaaGreatDoor
open Go.RowKit
set_option maxRecDepth 100000 in
set_option maxHeartbeats 8000000 in
theorem rv_and (n : Int) (nm : List UInt8) (x : Ex) (y : Ex)  (ho : okF (.mk [38, 38] n nm (.cons x (.cons y .nil))) = true) (hxx : RValC x) (hxy : RValC y) : RValC (.mk [38, 38] n nm (.cons x (.cons y .nil))) := by
  have HSET : Hid (setF [38, 38] = false) := hid (by decide)
  have hok := ho
  simp only [okF, okL, Bool.and_eq_true, Bool.and_true] at hok
  have HOx := hid hok.2.1
  have HOy := hid hok.2.2
  clear hok
  have hkf : kidsF [38, 38] = 2 := by decide
  intro w g B T L u1 u2 v hr hT hS hl hlL
  obtain ⟨A, cap, rfl, hcap, hkids⟩ := hr.form
  have HLEN : Hid (T.length + szF (.mk [38, 38] n nm (.cons x (.cons y .nil))) ≤ 100000 ∧ L.length + szF (.mk [38, 38] n nm (.cons x (.cons y .nil))) ≤ 100000) := hid ⟨hl, hlL⟩
  clear hl hlL
  dsimp only [Ex.op, Ex.num, Ex.name, Ex.kids, Exs.len, Nat.zero_add, Nat.reduceAdd] at *
  obtain ⟨b, off, rfl⟩ := hkids.form_ (by simp [Exs.len])
  obtain ⟨Ax, capx, hPx, qx0, qx1, qx2, qx3, hrx, hkids⟩ := hkids.un
  obtain ⟨Ay, capy, hPy, qy0, qy1, qy2, qy3, hry, hkids⟩ := hkids.un
  clear hkids
  have HKx := hid hxx
  have HKy := hid hxy
  have HS := hid hS
  clear hxx hxy
  have kB := Bk.new w 37 #[.string ⟨#[38, 38]⟩, .int .i64 n, .string ⟨nm.toArray⟩, .slice (some ⟨b, off, none⟩) 2 cap]
  have hB0 : Below w.heap.size w (w.alloc (.cells #[.string ⟨#[38, 38]⟩, .int .i64 n, .string ⟨nm.toArray⟩, .slice (some ⟨b, off, none⟩) 2 cap] 37)) := (Below.refl _ _).alloc (Nat.le_refl _) _
  go_enter Tryz.func38, Tryz.ntmps38
  go_wp2_with fail
  obtain ⟨W0, hW0⟩ : ∃ W0, W0 = w.alloc (.cells #[.string ⟨#[38, 38]⟩, .int .i64 n, .string ⟨nm.toArray⟩, .slice (some ⟨b, off, none⟩) 2 cap] 37) := ⟨_, rfl⟩
  rw [← hW0] at kB hB0
  rw [← hW0]
  clear hW0
  have hBd := hB0.drew
  have hlt0 := kB.lt
  obtain ⟨c0, c1, c2, c3⟩ := kB.cells4
  clear kB
  refine wp_region_held_drew (S := (fun w' => w'.cell? ⟨w.heap.size, 0, none⟩ = some (.string ⟨#[38, 38]⟩) ∧ w'.cell? ⟨w.heap.size, 1, none⟩ = some (.int .i64 n) ∧ w'.cell? ⟨w.heap.size, 2, none⟩ = some (.string ⟨nm.toArray⟩) ∧ w'.cell? ⟨w.heap.size, 3, none⟩ = some (.slice (some ⟨b, off, none⟩) 2 cap))) (by kernel_rfl) ⟨c0, c1, c2, c3⟩ (fun hHeld => ?_)
  refine takeYes (i := 0) (v := .pointer (some ⟨w.heap.size, 0, none⟩)) rfl (by kernel_rfl) (by kernel_rfl) (by kernel_rfl) (fun _ _ _ h => h) (by rfl) ?_ (by assumption) ?_
  · intro w hSw; obtain ⟨sq0, sq1, sq2, sq3⟩ := hSw; go_simp
  try simp only [Act.put, List.setIfInBounds_toArray, List.set_cons_zero, List.set_cons_succ]
  refine takeYes (i := 1) (v := .string ⟨#[38, 38]⟩) rfl (by kernel_rfl) (by kernel_rfl) (by kernel_rfl) (fun _ _ _ h => h) (by rfl) ?_ (by assumption) ?_
  · intro w hSw; obtain ⟨sq0, sq1, sq2, sq3⟩ := hSw; go_simp
  try simp only [Act.put, List.setIfInBounds_toArray, List.set_cons_zero, List.set_cons_succ]
  refine takeYes (i := 3) (v := .pointer (some ⟨w.heap.size, 3, none⟩)) rfl (by kernel_rfl) (by kernel_rfl) (by kernel_rfl) (fun _ _ _ h => h) (by rfl) ?_ (by assumption) ?_
  · intro w hSw; obtain ⟨sq0, sq1, sq2, sq3⟩ := hSw; go_simp
  try simp only [Act.put, List.setIfInBounds_toArray, List.set_cons_zero, List.set_cons_succ]
  refine takeYes (i := 4) (v := .slice (some ⟨b, off, none⟩) 2 cap) rfl (by kernel_rfl) (by kernel_rfl) (by kernel_rfl) (fun _ _ _ h => h) (by rfl) ?_ (by assumption) ?_
  · intro w hSw; obtain ⟨sq0, sq1, sq2, sq3⟩ := hSw; go_simp
  try simp only [Act.put, List.setIfInBounds_toArray, List.set_cons_zero, List.set_cons_succ]
  refine takeYes (i := 5) (v := .int .i64 2) rfl (by kernel_rfl) (by kernel_rfl) (by kernel_rfl) (fun _ _ _ h => h) (by rfl) ?_ (by assumption) ?_
  · intro w hSw; obtain ⟨sq0, sq1, sq2, sq3⟩ := hSw; go_simp
  try simp only [Act.put, List.setIfInBounds_toArray, List.set_cons_zero, List.set_cons_succ]
  refine wpAnyH_ready (rs := [2]) (by kernel_rfl) (by simp) ?_
  refine AllReadyH.cons rfl (fun K hK => ?_) AllReadyH.nil
  go_simp
  ((with_reducible refine (rkids_any [38, 38] _).mono ?_); rintro e0 wy ⟨rfl, rfl⟩)
  rw [hkf]
  go_wp2_with fail
  refine hK.out _ _ ?_ (fun hHeld => ?_)
  · assumption
  clear hK K
  try simp only [Act.put, List.setIfInBounds_toArray, List.set_cons_zero, List.set_cons_succ]
  refine takeYes (i := 6) (v := .bool false) rfl (by kernel_rfl) (by kernel_rfl) (by kernel_rfl) (fun _ _ _ h => h) (by rfl) ?_ (by assumption) ?_
  · intro w hSw; obtain ⟨sq0, sq1, sq2, sq3⟩ := hSw; go_simp
  try simp only [Act.put, List.setIfInBounds_toArray, List.set_cons_zero, List.set_cons_succ]
  refine wpAnyH_done (by kernel_rfl) ?_ _
  obtain ⟨W, hW⟩ : ∃ W, W = W0.drew := ⟨_, rfl⟩
  have HFR := hid (show RFree W g u1 u2 w.heap.size by rw [hW]; exact rfree_new hT hBd (Nat.le_refl _) hlt0)
  have HT := hid (show RTabAt W B g T L u1 u2 by rw [hW]; exact hT.below hBd)
  have HST := hid (show RStep g w u1 u2 W u1 u2 by rw [hW]; exact RStep.below hBd)
  have hbW : Below W0.heap.size W0 W := by rw [hW]; exact (Below.refl _ _).drew
  have c0 := bel_cell hbW c0
  have c1 := bel_cell hbW c1
  have c2 := bel_cell hbW c2
  have c3 := bel_cell hbW c3
  have HFx := hid (HST.out.free hPx)
  have HXx := hid (hrx.rstep HST.out)
  have qx0 := cell_rstep HST.out hPx qx0
  have qx1 := cell_rstep HST.out hPx qx1
  have qx2 := cell_rstep HST.out hPx qx2
  have qx3 := cell_rstep HST.out hPx qx3
  have HFy := hid (HST.out.free hPy)
  have HXy := hid (hry.rstep HST.out)
  have qy0 := cell_rstep HST.out hPy qy0
  have qy1 := cell_rstep HST.out hPy qy1
  have qy2 := cell_rstep HST.out hPy qy2
  have qy3 := cell_rstep HST.out hPy qy3
  rw [← hW]
  clear hbW hW hB0 hBd hlt0 hT hS
  clear hrx hPx hry hPy
  have HVAL : Hid (∀ T, valF (.mk [38, 38] n nm (.cons x (.cons y .nil))) T = thenV (valF x T) (fun a T1 => if a = 0 then (.ok 0, T1) else thenV (valF y T1) fun b T2 => (.ok (if b = 0 then 0 else 1), T2))) := hid (fun _ => rfl)
  go_wp2_with fail
  ((with_reducible refine (rsets_any [38, 38] _).mono ?_); rintro e0 wy ⟨rfl, rfl⟩)
  rw [HSET.out]
  go_wp2_with fail
  ((with_reducible refine (HKx.out.call _ g B T L u1 u2 _ HXx.out HT.out HS.out (by have := HLEN.out; simp only [szF, szL] at *; omega) (by have := HLEN.out; simp only [szF, szL] at *; omega)).mono ?_); rintro e1 W1 ⟨x1, y1, L1, hL1, hst1, ht1, hres1⟩)
  obtain ⟨⟨r1, T1⟩, hv1⟩ : ∃ p, p = valF x T := ⟨_, rfl⟩
  rw [← hv1] at ht1 hres1
  dsimp only at ht1 hres1
  have HV1 := hid hv1.symm
  have haf1 := val_after HOx.out HS.out hv1.symm
  have HS1 := hid haf1.1
  have HTL1 := hid haf1.2.1
  have HR1 := hid haf1.2.2
  clear haf1
  have HT1 := hid ht1
  have HST1 := hid (HST.out.trans hst1)
  have HL1 := hid hL1
  have c0 := cell_rstep hst1 HFR.out c0
  have c1 := cell_rstep hst1 HFR.out c1
  have c2 := cell_rstep hst1 HFR.out c2
  have c3 := cell_rstep hst1 HFR.out c3
  have HFR := hid (hst1.free HFR.out)
  have qy0 := cell_rstep hst1 HFy.out qy0
  have qy1 := cell_rstep hst1 HFy.out qy1
  have qy2 := cell_rstep hst1 HFy.out qy2
  have qy3 := cell_rstep hst1 HFy.out qy3
  have HXy := hid (HXy.out.rstep hst1)
  have HFy := hid (hst1.free HFy.out)
  clear hst1 ht1 hL1 hv1
  cases r1 with
  | error er1 =>
    obtain ⟨h0, m, rfl⟩ := hres1
    have hne : (er1 != 0) = true := by simpa using h0
    have H0 := hid h0
    clear h0
    go_wp2_with fail
    go_ret2
    exact RValPost.bad (by have := HL1.out; have := HTL1.out; have := HLEN.out; simp only [szF, szL] at *; omega) HST1.out HT1.out (by rw [HVAL.out, HV1.out]; rfl) H0.out
  | ok a1 =>
    have HI1 := hid (HR1.out a1 rfl)
    obtain rfl := hres1
    by_cases ha : a1 = 0
    · have hb : (a1 == 0) = true := by simp [ha]
      have hb2 : (a1 != 0) = false := by simp [ha]
      have HA := hid ha
      clear ha
      go_wp2_with fail
      go_ret2
      exact RValPost.good (by have := HL1.out; have := HTL1.out; have := HLEN.out; simp only [szF, szL] at *; omega) HST1.out HT1.out (n := 0) (by rw [HVAL.out, HV1.out, thenV_ok, if_pos HA.out]) rfl
    · have hb : (a1 == 0) = false := by simpa using ha
      have hb2 : (a1 != 0) = true := by simpa using ha
      have HA := hid ha
      clear ha
      go_wp2_with fail
      ((with_reducible refine (HKy.out.call _ g B T1 L1 x1 y1 _ HXy.out HT1.out HS1.out (by have := HL1.out; have := HTL1.out; have := HLEN.out; simp only [szF, szL] at *; omega) (by have := HL1.out; have := HTL1.out; have := HLEN.out; simp only [szF, szL] at *; omega)).mono ?_); rintro e2 W2 ⟨x2, y2, L2, hL2, hst2, ht2, hres2⟩)
      obtain ⟨⟨r2, T2⟩, hv2⟩ : ∃ p, p = valF y T1 := ⟨_, rfl⟩
      rw [← hv2] at ht2 hres2
      dsimp only at ht2 hres2
      have HV2 := hid hv2.symm
      have haf2 := val_after HOy.out HS1.out hv2.symm
      have HS2 := hid haf2.1
      have HTL2 := hid haf2.2.1
      have HR2 := hid haf2.2.2
      clear haf2
      have HT2 := hid ht2
      have HST2 := hid (HST1.out.trans hst2)
      have HL2 := hid hL2
      have c0 := cell_rstep hst2 HFR.out c0
      have c1 := cell_rstep hst2 HFR.out c1
      have c2 := cell_rstep hst2 HFR.out c2
      have c3 := cell_rstep hst2 HFR.out c3
      have HFR := hid (hst2.free HFR.out)
      clear hst2 ht2 hL2 hv2
      cases r2 with
      | error er2 =>
        obtain ⟨h0, m, rfl⟩ := hres2
        have hne : (er2 != 0) = true := by simpa using h0
        have H0 := hid h0
        clear h0
        go_wp2_with fail
        go_ret2
        exact RValPost.bad (by have := HL1.out; have := HTL1.out; have := HL2.out; have := HTL2.out; have := HLEN.out; simp only [szF, szL] at *; omega) HST2.out HT2.out (by rw [HVAL.out, HV1.out, thenV_ok, if_neg HA.out, HV2.out]; rfl) H0.out
      | ok a2 =>
        have HI2 := hid (HR2.out a2 rfl)
        obtain rfl := hres2
        by_cases hb0 : a2 = 0
        · have hc : (a2 == 0) = true := by simp [hb0]
          have hc2 : (a2 != 0) = false := by simp [hb0]
          have HB0 := hid hb0
          clear hb0
          go_wp2_with fail
          ((with_reducible refine (rone_any _ _).mono ?_); rintro e3 w3 ⟨rfl, rfl⟩)
          go_wp2_with fail
          go_ret2
          exact RValPost.good (by have := HL1.out; have := HTL1.out; have := HL2.out; have := HTL2.out; have := HLEN.out; simp only [szF, szL] at *; omega) HST2.out HT2.out (n := 0) (by rw [HVAL.out, HV1.out, thenV_ok, if_neg HA.out, HV2.out, thenV_ok, if_pos HB0.out]) rfl
        · have hc : (a2 == 0) = false := by simpa using hb0
          have hc2 : (a2 != 0) = true := by simpa using hb0
          have HB0 := hid hb0
          clear hb0
          go_wp2_with fail
          ((with_reducible refine (rone_any _ _).mono ?_); rintro e3 w3 ⟨rfl, rfl⟩)
          go_wp2_with fail
          go_ret2
          exact RValPost.good (by have := HL1.out; have := HTL1.out; have := HL2.out; have := HTL2.out; have := HLEN.out; simp only [szF, szL] at *; omega) HST2.out HT2.out (n := 1) (by rw [HVAL.out, HV1.out, thenV_ok, if_neg HA.out, HV2.out, thenV_ok, if_neg HB0.out]) rfl
set_option maxRecDepth 100000 in
set_option maxHeartbeats 8000000 in
theorem rv_or (n : Int) (nm : List UInt8) (x : Ex) (y : Ex)  (ho : okF (.mk [124, 124] n nm (.cons x (.cons y .nil))) = true) (hxx : RValC x) (hxy : RValC y) : RValC (.mk [124, 124] n nm (.cons x (.cons y .nil))) := by
  have HSET : Hid (setF [124, 124] = false) := hid (by decide)
  have hok := ho
  simp only [okF, okL, Bool.and_eq_true, Bool.and_true] at hok
  have HOx := hid hok.2.1
  have HOy := hid hok.2.2
  clear hok
  have hkf : kidsF [124, 124] = 2 := by decide
  intro w g B T L u1 u2 v hr hT hS hl hlL
  obtain ⟨A, cap, rfl, hcap, hkids⟩ := hr.form
  have HLEN : Hid (T.length + szF (.mk [124, 124] n nm (.cons x (.cons y .nil))) ≤ 100000 ∧ L.length + szF (.mk [124, 124] n nm (.cons x (.cons y .nil))) ≤ 100000) := hid ⟨hl, hlL⟩
  clear hl hlL
  dsimp only [Ex.op, Ex.num, Ex.name, Ex.kids, Exs.len, Nat.zero_add, Nat.reduceAdd] at *
  obtain ⟨b, off, rfl⟩ := hkids.form_ (by simp [Exs.len])
  obtain ⟨Ax, capx, hPx, qx0, qx1, qx2, qx3, hrx, hkids⟩ := hkids.un
  obtain ⟨Ay, capy, hPy, qy0, qy1, qy2, qy3, hry, hkids⟩ := hkids.un
  clear hkids
  have HKx := hid hxx
  have HKy := hid hxy
  have HS := hid hS
  clear hxx hxy
  have kB := Bk.new w 37 #[.string ⟨#[124, 124]⟩, .int .i64 n, .string ⟨nm.toArray⟩, .slice (some ⟨b, off, none⟩) 2 cap]
  have hB0 : Below w.heap.size w (w.alloc (.cells #[.string ⟨#[124, 124]⟩, .int .i64 n, .string ⟨nm.toArray⟩, .slice (some ⟨b, off, none⟩) 2 cap] 37)) := (Below.refl _ _).alloc (Nat.le_refl _) _
  go_enter Tryz.func38, Tryz.ntmps38
  go_wp2_with fail
  obtain ⟨W0, hW0⟩ : ∃ W0, W0 = w.alloc (.cells #[.string ⟨#[124, 124]⟩, .int .i64 n, .string ⟨nm.toArray⟩, .slice (some ⟨b, off, none⟩) 2 cap] 37) := ⟨_, rfl⟩
  rw [← hW0] at kB hB0
  rw [← hW0]
  clear hW0
  have hBd := hB0.drew
  have hlt0 := kB.lt
  obtain ⟨c0, c1, c2, c3⟩ := kB.cells4
  clear kB
  refine wp_region_held_drew (S := (fun w' => w'.cell? ⟨w.heap.size, 0, none⟩ = some (.string ⟨#[124, 124]⟩) ∧ w'.cell? ⟨w.heap.size, 1, none⟩ = some (.int .i64 n) ∧ w'.cell? ⟨w.heap.size, 2, none⟩ = some (.string ⟨nm.toArray⟩) ∧ w'.cell? ⟨w.heap.size, 3, none⟩ = some (.slice (some ⟨b, off, none⟩) 2 cap))) (by kernel_rfl) ⟨c0, c1, c2, c3⟩ (fun hHeld => ?_)
  refine takeYes (i := 0) (v := .pointer (some ⟨w.heap.size, 0, none⟩)) rfl (by kernel_rfl) (by kernel_rfl) (by kernel_rfl) (fun _ _ _ h => h) (by rfl) ?_ (by assumption) ?_
  · intro w hSw; obtain ⟨sq0, sq1, sq2, sq3⟩ := hSw; go_simp
  try simp only [Act.put, List.setIfInBounds_toArray, List.set_cons_zero, List.set_cons_succ]
  refine takeYes (i := 1) (v := .string ⟨#[124, 124]⟩) rfl (by kernel_rfl) (by kernel_rfl) (by kernel_rfl) (fun _ _ _ h => h) (by rfl) ?_ (by assumption) ?_
  · intro w hSw; obtain ⟨sq0, sq1, sq2, sq3⟩ := hSw; go_simp
  try simp only [Act.put, List.setIfInBounds_toArray, List.set_cons_zero, List.set_cons_succ]
  refine takeYes (i := 3) (v := .pointer (some ⟨w.heap.size, 3, none⟩)) rfl (by kernel_rfl) (by kernel_rfl) (by kernel_rfl) (fun _ _ _ h => h) (by rfl) ?_ (by assumption) ?_
  · intro w hSw; obtain ⟨sq0, sq1, sq2, sq3⟩ := hSw; go_simp
  try simp only [Act.put, List.setIfInBounds_toArray, List.set_cons_zero, List.set_cons_succ]
  refine takeYes (i := 4) (v := .slice (some ⟨b, off, none⟩) 2 cap) rfl (by kernel_rfl) (by kernel_rfl) (by kernel_rfl) (fun _ _ _ h => h) (by rfl) ?_ (by assumption) ?_
  · intro w hSw; obtain ⟨sq0, sq1, sq2, sq3⟩ := hSw; go_simp
  try simp only [Act.put, List.setIfInBounds_toArray, List.set_cons_zero, List.set_cons_succ]
  refine takeYes (i := 5) (v := .int .i64 2) rfl (by kernel_rfl) (by kernel_rfl) (by kernel_rfl) (fun _ _ _ h => h) (by rfl) ?_ (by assumption) ?_
  · intro w hSw; obtain ⟨sq0, sq1, sq2, sq3⟩ := hSw; go_simp
  try simp only [Act.put, List.setIfInBounds_toArray, List.set_cons_zero, List.set_cons_succ]
  refine wpAnyH_ready (rs := [2]) (by kernel_rfl) (by simp) ?_
  refine AllReadyH.cons rfl (fun K hK => ?_) AllReadyH.nil
  go_simp
  ((with_reducible refine (rkids_any [124, 124] _).mono ?_); rintro e0 wy ⟨rfl, rfl⟩)
  rw [hkf]
  go_wp2_with fail
  refine hK.out _ _ ?_ (fun hHeld => ?_)
  · assumption
  clear hK K
  try simp only [Act.put, List.setIfInBounds_toArray, List.set_cons_zero, List.set_cons_succ]
  refine takeYes (i := 6) (v := .bool false) rfl (by kernel_rfl) (by kernel_rfl) (by kernel_rfl) (fun _ _ _ h => h) (by rfl) ?_ (by assumption) ?_
  · intro w hSw; obtain ⟨sq0, sq1, sq2, sq3⟩ := hSw; go_simp
  try simp only [Act.put, List.setIfInBounds_toArray, List.set_cons_zero, List.set_cons_succ]
  refine wpAnyH_done (by kernel_rfl) ?_ _
  obtain ⟨W, hW⟩ : ∃ W, W = W0.drew := ⟨_, rfl⟩
  have HFR := hid (show RFree W g u1 u2 w.heap.size by rw [hW]; exact rfree_new hT hBd (Nat.le_refl _) hlt0)
  have HT := hid (show RTabAt W B g T L u1 u2 by rw [hW]; exact hT.below hBd)
  have HST := hid (show RStep g w u1 u2 W u1 u2 by rw [hW]; exact RStep.below hBd)
  have hbW : Below W0.heap.size W0 W := by rw [hW]; exact (Below.refl _ _).drew
  have c0 := bel_cell hbW c0
  have c1 := bel_cell hbW c1
  have c2 := bel_cell hbW c2
  have c3 := bel_cell hbW c3
  have HFx := hid (HST.out.free hPx)
  have HXx := hid (hrx.rstep HST.out)
  have qx0 := cell_rstep HST.out hPx qx0
  have qx1 := cell_rstep HST.out hPx qx1
  have qx2 := cell_rstep HST.out hPx qx2
  have qx3 := cell_rstep HST.out hPx qx3
  have HFy := hid (HST.out.free hPy)
  have HXy := hid (hry.rstep HST.out)
  have qy0 := cell_rstep HST.out hPy qy0
  have qy1 := cell_rstep HST.out hPy qy1
  have qy2 := cell_rstep HST.out hPy qy2
  have qy3 := cell_rstep HST.out hPy qy3
  rw [← hW]
  clear hbW hW hB0 hBd hlt0 hT hS
  clear hrx hPx hry hPy
  have HVAL : Hid (∀ T, valF (.mk [124, 124] n nm (.cons x (.cons y .nil))) T = thenV (valF x T) (fun a T1 => if a = 0 then thenV (valF y T1) fun b T2 => (.ok (if b = 0 then 0 else 1), T2) else (.ok 1, T1))) := hid (fun _ => rfl)
  go_wp2_with fail
  ((with_reducible refine (rsets_any [124, 124] _).mono ?_); rintro e0 wy ⟨rfl, rfl⟩)
  rw [HSET.out]
  go_wp2_with fail
  ((with_reducible refine (HKx.out.call _ g B T L u1 u2 _ HXx.out HT.out HS.out (by have := HLEN.out; simp only [szF, szL] at *; omega) (by have := HLEN.out; simp only [szF, szL] at *; omega)).mono ?_); rintro e1 W1 ⟨x1, y1, L1, hL1, hst1, ht1, hres1⟩)
  obtain ⟨⟨r1, T1⟩, hv1⟩ : ∃ p, p = valF x T := ⟨_, rfl⟩
  rw [← hv1] at ht1 hres1
  dsimp only at ht1 hres1
  have HV1 := hid hv1.symm
  have haf1 := val_after HOx.out HS.out hv1.symm
  have HS1 := hid haf1.1
  have HTL1 := hid haf1.2.1
  have HR1 := hid haf1.2.2
  clear haf1
  have HT1 := hid ht1
  have HST1 := hid (HST.out.trans hst1)
  have HL1 := hid hL1
  have c0 := cell_rstep hst1 HFR.out c0
  have c1 := cell_rstep hst1 HFR.out c1
  have c2 := cell_rstep hst1 HFR.out c2
  have c3 := cell_rstep hst1 HFR.out c3
  have HFR := hid (hst1.free HFR.out)
  have qy0 := cell_rstep hst1 HFy.out qy0
  have qy1 := cell_rstep hst1 HFy.out qy1
  have qy2 := cell_rstep hst1 HFy.out qy2
  have qy3 := cell_rstep hst1 HFy.out qy3
  have HXy := hid (HXy.out.rstep hst1)
  have HFy := hid (hst1.free HFy.out)
  clear hst1 ht1 hL1 hv1
  cases r1 with
  | error er1 =>
    obtain ⟨h0, m, rfl⟩ := hres1
    have hne : (er1 != 0) = true := by simpa using h0
    have H0 := hid h0
    clear h0
    go_wp2_with fail
    go_ret2
    exact RValPost.bad (by have := HL1.out; have := HTL1.out; have := HLEN.out; simp only [szF, szL] at *; omega) HST1.out HT1.out (by rw [HVAL.out, HV1.out]; rfl) H0.out
  | ok a1 =>
    have HI1 := hid (HR1.out a1 rfl)
    obtain rfl := hres1
    by_cases ha : a1 = 0
    · have hb : (a1 == 0) = true := by simp [ha]
      have hb2 : (a1 != 0) = false := by simp [ha]
      have HA := hid ha
      clear ha
      go_wp2_with fail
      ((with_reducible refine (HKy.out.call _ g B T1 L1 x1 y1 _ HXy.out HT1.out HS1.out (by have := HL1.out; have := HTL1.out; have := HLEN.out; simp only [szF, szL] at *; omega) (by have := HL1.out; have := HTL1.out; have := HLEN.out; simp only [szF, szL] at *; omega)).mono ?_); rintro e2 W2 ⟨x2, y2, L2, hL2, hst2, ht2, hres2⟩)
      obtain ⟨⟨r2, T2⟩, hv2⟩ : ∃ p, p = valF y T1 := ⟨_, rfl⟩
      rw [← hv2] at ht2 hres2
      dsimp only at ht2 hres2
      have HV2 := hid hv2.symm
      have haf2 := val_after HOy.out HS1.out hv2.symm
      have HS2 := hid haf2.1
      have HTL2 := hid haf2.2.1
      have HR2 := hid haf2.2.2
      clear haf2
      have HT2 := hid ht2
      have HST2 := hid (HST1.out.trans hst2)
      have HL2 := hid hL2
      have c0 := cell_rstep hst2 HFR.out c0
      have c1 := cell_rstep hst2 HFR.out c1
      have c2 := cell_rstep hst2 HFR.out c2
      have c3 := cell_rstep hst2 HFR.out c3
      have HFR := hid (hst2.free HFR.out)
      clear hst2 ht2 hL2 hv2
      cases r2 with
      | error er2 =>
        obtain ⟨h0, m, rfl⟩ := hres2
        have hne : (er2 != 0) = true := by simpa using h0
        have H0 := hid h0
        clear h0
        go_wp2_with fail
        go_ret2
        exact RValPost.bad (by have := HL1.out; have := HTL1.out; have := HL2.out; have := HTL2.out; have := HLEN.out; simp only [szF, szL] at *; omega) HST2.out HT2.out (by rw [HVAL.out, HV1.out, thenV_ok, if_pos HA.out, HV2.out]; rfl) H0.out
      | ok a2 =>
        have HI2 := hid (HR2.out a2 rfl)
        obtain rfl := hres2
        by_cases hb0 : a2 = 0
        · have hc : (a2 == 0) = true := by simp [hb0]
          have hc2 : (a2 != 0) = false := by simp [hb0]
          have HB0 := hid hb0
          clear hb0
          go_wp2_with fail
          ((with_reducible refine (rone_any _ _).mono ?_); rintro e3 w3 ⟨rfl, rfl⟩)
          go_wp2_with fail
          go_ret2
          exact RValPost.good (by have := HL1.out; have := HTL1.out; have := HL2.out; have := HTL2.out; have := HLEN.out; simp only [szF, szL] at *; omega) HST2.out HT2.out (n := 0) (by rw [HVAL.out, HV1.out, thenV_ok, if_pos HA.out, HV2.out, thenV_ok, if_pos HB0.out]) rfl
        · have hc : (a2 == 0) = false := by simpa using hb0
          have hc2 : (a2 != 0) = true := by simpa using hb0
          have HB0 := hid hb0
          clear hb0
          go_wp2_with fail
          ((with_reducible refine (rone_any _ _).mono ?_); rintro e3 w3 ⟨rfl, rfl⟩)
          go_wp2_with fail
          go_ret2
          exact RValPost.good (by have := HL1.out; have := HTL1.out; have := HL2.out; have := HTL2.out; have := HLEN.out; simp only [szF, szL] at *; omega) HST2.out HT2.out (n := 1) (by rw [HVAL.out, HV1.out, thenV_ok, if_pos HA.out, HV2.out, thenV_ok, if_neg HB0.out]) rfl
    · have hb : (a1 == 0) = false := by simpa using ha
      have hb2 : (a1 != 0) = true := by simpa using ha
      have HA := hid ha
      clear ha
      go_wp2_with fail
      go_ret2
      exact RValPost.good (by have := HL1.out; have := HTL1.out; have := HLEN.out; simp only [szF, szL] at *; omega) HST1.out HT1.out (n := 1) (by rw [HVAL.out, HV1.out, thenV_ok, if_neg HA.out]) rfl
end Go.Proofs.YtadmmmehphhecaaGreatDoor
/- The walk of the reference's value: a part (printed by genVc.py). -/
namespace Go.Proofs.YtadmmmehphhecaaGreatDoor
open Go.RowKit
set_option maxRecDepth 100000 in
set_option maxHeartbeats 8000000 in
theorem rv_if (n : Int) (nm : List UInt8) (x : Ex) (y : Ex) (z : Ex)  (ho : okF (.mk [63] n nm (.cons x (.cons y (.cons z .nil)))) = true) (hxx : RValC x) (hxy : RValC y) (hxz : RValC z) : RValC (.mk [63] n nm (.cons x (.cons y (.cons z .nil)))) := by
  have HSET : Hid (setF [63] = false) := hid (by decide)
  have hok := ho
  simp only [okF, okL, Bool.and_eq_true, Bool.and_true] at hok
  have HOx := hid hok.2.1
  have HOy := hid hok.2.2.1
  have HOz := hid hok.2.2.2
  clear hok
  have hkf : kidsF [63] = 3 := by decide
  intro w g B T L u1 u2 v hr hT hS hl hlL
  obtain ⟨A, cap, rfl, hcap, hkids⟩ := hr.form
  have HLEN : Hid (T.length + szF (.mk [63] n nm (.cons x (.cons y (.cons z .nil)))) ≤ 100000 ∧ L.length + szF (.mk [63] n nm (.cons x (.cons y (.cons z .nil)))) ≤ 100000) := hid ⟨hl, hlL⟩
  clear hl hlL
  dsimp only [Ex.op, Ex.num, Ex.name, Ex.kids, Exs.len, Nat.zero_add, Nat.reduceAdd] at *
  obtain ⟨b, off, rfl⟩ := hkids.form_ (by simp [Exs.len])
  obtain ⟨Ax, capx, hPx, qx0, qx1, qx2, qx3, hrx, hkids⟩ := hkids.un
  obtain ⟨Ay, capy, hPy, qy0, qy1, qy2, qy3, hry, hkids⟩ := hkids.un
  obtain ⟨Az, capz, hPz, qz0, qz1, qz2, qz3, hrz, hkids⟩ := hkids.un
  clear hkids
  have HKx := hid hxx
  have HKy := hid hxy
  have HKz := hid hxz
  have HS := hid hS
  clear hxx hxy hxz
  have kB := Bk.new w 37 #[.string ⟨#[63]⟩, .int .i64 n, .string ⟨nm.toArray⟩, .slice (some ⟨b, off, none⟩) 3 cap]
  have hB0 : Below w.heap.size w (w.alloc (.cells #[.string ⟨#[63]⟩, .int .i64 n, .string ⟨nm.toArray⟩, .slice (some ⟨b, off, none⟩) 3 cap] 37)) := (Below.refl _ _).alloc (Nat.le_refl _) _
  go_enter Tryz.func38, Tryz.ntmps38
  go_wp2_with fail
  obtain ⟨W0, hW0⟩ : ∃ W0, W0 = w.alloc (.cells #[.string ⟨#[63]⟩, .int .i64 n, .string ⟨nm.toArray⟩, .slice (some ⟨b, off, none⟩) 3 cap] 37) := ⟨_, rfl⟩
  rw [← hW0] at kB hB0
  rw [← hW0]
  clear hW0
  have hBd := hB0.drew
  have hlt0 := kB.lt
  obtain ⟨c0, c1, c2, c3⟩ := kB.cells4
  clear kB
  refine wp_region_held_drew (S := (fun w' => w'.cell? ⟨w.heap.size, 0, none⟩ = some (.string ⟨#[63]⟩) ∧ w'.cell? ⟨w.heap.size, 1, none⟩ = some (.int .i64 n) ∧ w'.cell? ⟨w.heap.size, 2, none⟩ = some (.string ⟨nm.toArray⟩) ∧ w'.cell? ⟨w.heap.size, 3, none⟩ = some (.slice (some ⟨b, off, none⟩) 3 cap))) (by kernel_rfl) ⟨c0, c1, c2, c3⟩ (fun hHeld => ?_)
  refine takeYes (i := 0) (v := .pointer (some ⟨w.heap.size, 0, none⟩)) rfl (by kernel_rfl) (by kernel_rfl) (by kernel_rfl) (fun _ _ _ h => h) (by rfl) ?_ (by assumption) ?_
  · intro w hSw; obtain ⟨sq0, sq1, sq2, sq3⟩ := hSw; go_simp
  try simp only [Act.put, List.setIfInBounds_toArray, List.set_cons_zero, List.set_cons_succ]
  refine takeYes (i := 1) (v := .string ⟨#[63]⟩) rfl (by kernel_rfl) (by kernel_rfl) (by kernel_rfl) (fun _ _ _ h => h) (by rfl) ?_ (by assumption) ?_
  · intro w hSw; obtain ⟨sq0, sq1, sq2, sq3⟩ := hSw; go_simp
  try simp only [Act.put, List.setIfInBounds_toArray, List.set_cons_zero, List.set_cons_succ]
  refine takeYes (i := 3) (v := .pointer (some ⟨w.heap.size, 3, none⟩)) rfl (by kernel_rfl) (by kernel_rfl) (by kernel_rfl) (fun _ _ _ h => h) (by rfl) ?_ (by assumption) ?_
  · intro w hSw; obtain ⟨sq0, sq1, sq2, sq3⟩ := hSw; go_simp
  try simp only [Act.put, List.setIfInBounds_toArray, List.set_cons_zero, List.set_cons_succ]
  refine takeYes (i := 4) (v := .slice (some ⟨b, off, none⟩) 3 cap) rfl (by kernel_rfl) (by kernel_rfl) (by kernel_rfl) (fun _ _ _ h => h) (by rfl) ?_ (by assumption) ?_
  · intro w hSw; obtain ⟨sq0, sq1, sq2, sq3⟩ := hSw; go_simp
  try simp only [Act.put, List.setIfInBounds_toArray, List.set_cons_zero, List.set_cons_succ]
  refine takeYes (i := 5) (v := .int .i64 3) rfl (by kernel_rfl) (by kernel_rfl) (by kernel_rfl) (fun _ _ _ h => h) (by rfl) ?_ (by assumption) ?_
  · intro w hSw; obtain ⟨sq0, sq1, sq2, sq3⟩ := hSw; go_simp
  try simp only [Act.put, List.setIfInBounds_toArray, List.set_cons_zero, List.set_cons_succ]
  refine wpAnyH_ready (rs := [2]) (by kernel_rfl) (by simp) ?_
  refine AllReadyH.cons rfl (fun K hK => ?_) AllReadyH.nil
  go_simp
  ((with_reducible refine (rkids_any [63] _).mono ?_); rintro e0 wy ⟨rfl, rfl⟩)
  rw [hkf]
  go_wp2_with fail
  refine hK.out _ _ ?_ (fun hHeld => ?_)
  · assumption
  clear hK K
  try simp only [Act.put, List.setIfInBounds_toArray, List.set_cons_zero, List.set_cons_succ]
  refine takeYes (i := 6) (v := .bool false) rfl (by kernel_rfl) (by kernel_rfl) (by kernel_rfl) (fun _ _ _ h => h) (by rfl) ?_ (by assumption) ?_
  · intro w hSw; obtain ⟨sq0, sq1, sq2, sq3⟩ := hSw; go_simp
  try simp only [Act.put, List.setIfInBounds_toArray, List.set_cons_zero, List.set_cons_succ]
  refine wpAnyH_done (by kernel_rfl) ?_ _
  obtain ⟨W, hW⟩ : ∃ W, W = W0.drew := ⟨_, rfl⟩
  have HFR := hid (show RFree W g u1 u2 w.heap.size by rw [hW]; exact rfree_new hT hBd (Nat.le_refl _) hlt0)
  have HT := hid (show RTabAt W B g T L u1 u2 by rw [hW]; exact hT.below hBd)
  have HST := hid (show RStep g w u1 u2 W u1 u2 by rw [hW]; exact RStep.below hBd)
  have hbW : Below W0.heap.size W0 W := by rw [hW]; exact (Below.refl _ _).drew
  have c0 := bel_cell hbW c0
  have c1 := bel_cell hbW c1
  have c2 := bel_cell hbW c2
  have c3 := bel_cell hbW c3
  have HFx := hid (HST.out.free hPx)
  have HXx := hid (hrx.rstep HST.out)
  have qx0 := cell_rstep HST.out hPx qx0
  have qx1 := cell_rstep HST.out hPx qx1
  have qx2 := cell_rstep HST.out hPx qx2
  have qx3 := cell_rstep HST.out hPx qx3
  have HFy := hid (HST.out.free hPy)
  have HXy := hid (hry.rstep HST.out)
  have qy0 := cell_rstep HST.out hPy qy0
  have qy1 := cell_rstep HST.out hPy qy1
  have qy2 := cell_rstep HST.out hPy qy2
  have qy3 := cell_rstep HST.out hPy qy3
  have HFz := hid (HST.out.free hPz)
  have HXz := hid (hrz.rstep HST.out)
  have qz0 := cell_rstep HST.out hPz qz0
  have qz1 := cell_rstep HST.out hPz qz1
  have qz2 := cell_rstep HST.out hPz qz2
  have qz3 := cell_rstep HST.out hPz qz3
  rw [← hW]
  clear hbW hW hB0 hBd hlt0 hT hS
  clear hrx hPx hry hPy hrz hPz
  have HVAL : Hid (∀ T, valF (.mk [63] n nm (.cons x (.cons y (.cons z .nil)))) T = thenV (valF x T) (fun a T1 => if a = 0 then valF z T1 else valF y T1)) := hid (fun _ => rfl)
  go_wp2_with fail
  ((with_reducible refine (rsets_any [63] _).mono ?_); rintro e0 wy ⟨rfl, rfl⟩)
  rw [HSET.out]
  go_wp2_with fail
  ((with_reducible refine (HKx.out.call _ g B T L u1 u2 _ HXx.out HT.out HS.out (by have := HLEN.out; simp only [szF, szL] at *; omega) (by have := HLEN.out; simp only [szF, szL] at *; omega)).mono ?_); rintro e1 W1 ⟨x1, y1, L1, hL1, hst1, ht1, hres1⟩)
  obtain ⟨⟨r1, T1⟩, hv1⟩ : ∃ p, p = valF x T := ⟨_, rfl⟩
  rw [← hv1] at ht1 hres1
  dsimp only at ht1 hres1
  have HV1 := hid hv1.symm
  have haf1 := val_after HOx.out HS.out hv1.symm
  have HS1 := hid haf1.1
  have HTL1 := hid haf1.2.1
  have HR1 := hid haf1.2.2
  clear haf1
  have HT1 := hid ht1
  have HST1 := hid (HST.out.trans hst1)
  have HL1 := hid hL1
  have c0 := cell_rstep hst1 HFR.out c0
  have c1 := cell_rstep hst1 HFR.out c1
  have c2 := cell_rstep hst1 HFR.out c2
  have c3 := cell_rstep hst1 HFR.out c3
  have HFR := hid (hst1.free HFR.out)
  have qy0 := cell_rstep hst1 HFy.out qy0
  have qy1 := cell_rstep hst1 HFy.out qy1
  have qy2 := cell_rstep hst1 HFy.out qy2
  have qy3 := cell_rstep hst1 HFy.out qy3
  have HXy := hid (HXy.out.rstep hst1)
  have HFy := hid (hst1.free HFy.out)
  have qz0 := cell_rstep hst1 HFz.out qz0
  have qz1 := cell_rstep hst1 HFz.out qz1
  have qz2 := cell_rstep hst1 HFz.out qz2
  have qz3 := cell_rstep hst1 HFz.out qz3
  have HXz := hid (HXz.out.rstep hst1)
  have HFz := hid (hst1.free HFz.out)
  clear hst1 ht1 hL1 hv1
  cases r1 with
  | error er1 =>
    obtain ⟨h0, m, rfl⟩ := hres1
    have hne : (er1 != 0) = true := by simpa using h0
    have H0 := hid h0
    clear h0
    go_wp2_with fail
    go_ret2
    exact RValPost.bad (by have := HL1.out; have := HTL1.out; have := HLEN.out; simp only [szF, szL] at *; omega) HST1.out HT1.out (by rw [HVAL.out, HV1.out]; rfl) H0.out
  | ok a1 =>
    have HI1 := hid (HR1.out a1 rfl)
    obtain rfl := hres1
    by_cases ha : a1 = 0
    · have hb : (a1 == 0) = true := by simp [ha]
      have hb2 : (a1 != 0) = false := by simp [ha]
      have HA := hid ha
      clear ha
      go_wp2_with fail
      ((with_reducible refine (HKz.out.call _ g B T1 L1 x1 y1 _ HXz.out HT1.out HS1.out (by have := HL1.out; have := HTL1.out; have := HLEN.out; simp only [szF, szL] at *; omega) (by have := HL1.out; have := HTL1.out; have := HLEN.out; simp only [szF, szL] at *; omega)).mono ?_); rintro e2 W2 ⟨x2, y2, L2, hL2, hst2, ht2, hres2⟩)
      obtain ⟨⟨r2, T2⟩, hv2⟩ : ∃ p, p = valF z T1 := ⟨_, rfl⟩
      rw [← hv2] at ht2 hres2
      dsimp only at ht2 hres2
      have HV2 := hid hv2.symm
      have haf2 := val_after HOz.out HS1.out hv2.symm
      have HS2 := hid haf2.1
      have HTL2 := hid haf2.2.1
      have HR2 := hid haf2.2.2
      clear haf2
      have HT2 := hid ht2
      have HST2 := hid (HST1.out.trans hst2)
      have HL2 := hid hL2
      have c0 := cell_rstep hst2 HFR.out c0
      have c1 := cell_rstep hst2 HFR.out c1
      have c2 := cell_rstep hst2 HFR.out c2
      have c3 := cell_rstep hst2 HFR.out c3
      have HFR := hid (hst2.free HFR.out)
      clear hst2 ht2 hL2 hv2
      cases r2 with
      | error er2 =>
        obtain ⟨h0, m, rfl⟩ := hres2
        have hne : (er2 != 0) = true := by simpa using h0
        have H0 := hid h0
        clear h0
        go_wp2_with fail
        go_ret2
        exact RValPost.bad (by have := HL1.out; have := HTL1.out; have := HL2.out; have := HTL2.out; have := HLEN.out; simp only [szF, szL] at *; omega) HST2.out HT2.out (by rw [HVAL.out, HV1.out, thenV_ok, if_pos HA.out, HV2.out]) H0.out
      | ok a2 =>
        have HI2 := hid (HR2.out a2 rfl)
        obtain rfl := hres2
        go_wp2_with fail
        go_ret2
        exact RValPost.good (by have := HL1.out; have := HTL1.out; have := HL2.out; have := HTL2.out; have := HLEN.out; simp only [szF, szL] at *; omega) HST2.out HT2.out (by rw [HVAL.out, HV1.out, thenV_ok, if_pos HA.out, HV2.out]) rfl
    · have hb : (a1 == 0) = false := by simpa using ha
      have hb2 : (a1 != 0) = true := by simpa using ha
      have HA := hid ha
      clear ha
      go_wp2_with fail
      ((with_reducible refine (HKy.out.call _ g B T1 L1 x1 y1 _ HXy.out HT1.out HS1.out (by have := HL1.out; have := HTL1.out; have := HLEN.out; simp only [szF, szL] at *; omega) (by have := HL1.out; have := HTL1.out; have := HLEN.out; simp only [szF, szL] at *; omega)).mono ?_); rintro e2 W2 ⟨x2, y2, L2, hL2, hst2, ht2, hres2⟩)
      obtain ⟨⟨r2, T2⟩, hv2⟩ : ∃ p, p = valF y T1 := ⟨_, rfl⟩
      rw [← hv2] at ht2 hres2
      dsimp only at ht2 hres2
      have HV2 := hid hv2.symm
      have haf2 := val_after HOy.out HS1.out hv2.symm
      have HS2 := hid haf2.1
      have HTL2 := hid haf2.2.1
      have HR2 := hid haf2.2.2
      clear haf2
      have HT2 := hid ht2
      have HST2 := hid (HST1.out.trans hst2)
      have HL2 := hid hL2
      have c0 := cell_rstep hst2 HFR.out c0
      have c1 := cell_rstep hst2 HFR.out c1
      have c2 := cell_rstep hst2 HFR.out c2
      have c3 := cell_rstep hst2 HFR.out c3
      have HFR := hid (hst2.free HFR.out)
      clear hst2 ht2 hL2 hv2
      cases r2 with
      | error er2 =>
        obtain ⟨h0, m, rfl⟩ := hres2
        have hne : (er2 != 0) = true := by simpa using h0
        have H0 := hid h0
        clear h0
        go_wp2_with fail
        go_ret2
        exact RValPost.bad (by have := HL1.out; have := HTL1.out; have := HL2.out; have := HTL2.out; have := HLEN.out; simp only [szF, szL] at *; omega) HST2.out HT2.out (by rw [HVAL.out, HV1.out, thenV_ok, if_neg HA.out, HV2.out]) H0.out
      | ok a2 =>
        have HI2 := hid (HR2.out a2 rfl)
        obtain rfl := hres2
        go_wp2_with fail
        go_ret2
        exact RValPost.good (by have := HL1.out; have := HTL1.out; have := HL2.out; have := HTL2.out; have := HLEN.out; simp only [szF, szL] at *; omega) HST2.out HT2.out (by rw [HVAL.out, HV1.out, thenV_ok, if_neg HA.out, HV2.out]) rfl
end Go.Proofs.YtadmmmehphhecaaGreatDoor
/- The walk of the reference's value: a part (printed by genVc.py). -/
namespace Go.Proofs.YtadmmmehphhecaaGreatDoor
open Go.RowKit
set_option maxRecDepth 100000 in
set_option maxHeartbeats 8000000 in
theorem rv_two (op : List UInt8) (n : Int) (nm : List UInt8) (x : Ex) (y : Ex) (hop : 0 < levF op) (hset0 : setF op = false) (hkids0 : kidsF op = 2) (hne1 : op ≠ [38, 38]) (hne2 : op ≠ [124, 124]) (ho : okF (.mk op n nm (.cons x (.cons y .nil))) = true) (hxx : RValC x) (hxy : RValC y) : RValC (.mk op n nm (.cons x (.cons y .nil))) := by
  have HSET : Hid (setF op = false) := hid hset0
  have HVAL := hid (fun T => valF_two n nm x y hop hset0 hkids0 hne1 hne2 T)
  have HBIN := hid (lev_bin hop hne1 hne2)
  have f0 : (op == [110, 117, 109]) = false := by cases h9 : op == [110, 117, 109] with | false => rfl | true => (simp at h9; subst h9; revert hop; decide)
  have f1 : (op == [110, 97, 109, 101]) = false := by cases h9 : op == [110, 97, 109, 101] with | false => rfl | true => (simp at h9; subst h9; revert hop; decide)
  have f2 : (op == [110, 101, 103]) = false := by cases h9 : op == [110, 101, 103] with | false => rfl | true => (simp at h9; subst h9; revert hop; decide)
  have f3 : (op == [112, 111, 115]) = false := by cases h9 : op == [112, 111, 115] with | false => rfl | true => (simp at h9; subst h9; revert hop; decide)
  have f4 : (op == [110, 111, 116]) = false := by cases h9 : op == [110, 111, 116] with | false => rfl | true => (simp at h9; subst h9; revert hop; decide)
  have f5 : (op == [99, 111, 109]) = false := by cases h9 : op == [99, 111, 109] with | false => rfl | true => (simp at h9; subst h9; revert hop; decide)
  have f6 : (op == [63]) = false := by cases h9 : op == [63] with | false => rfl | true => (simp at h9; subst h9; revert hop; decide)
  have f7 : (op == [38, 38]) = false := by simpa using hne1
  have f8 : (op == [124, 124]) = false := by simpa using hne2
  clear hop hset0 hne1 hne2
  have hok := ho
  simp only [okF, okL, Bool.and_eq_true, Bool.and_true] at hok
  have HOx := hid hok.2.1
  have HOy := hid hok.2.2
  clear hok
  have hkf : kidsF op = 2 := hkids0
  intro w g B T L u1 u2 v hr hT hS hl hlL
  obtain ⟨A, cap, rfl, hcap, hkids⟩ := hr.form
  have HLEN : Hid (T.length + szF (.mk op n nm (.cons x (.cons y .nil))) ≤ 100000 ∧ L.length + szF (.mk op n nm (.cons x (.cons y .nil))) ≤ 100000) := hid ⟨hl, hlL⟩
  clear hl hlL
  dsimp only [Ex.op, Ex.num, Ex.name, Ex.kids, Exs.len, Nat.zero_add, Nat.reduceAdd] at *
  obtain ⟨b, off, rfl⟩ := hkids.form_ (by simp [Exs.len])
  obtain ⟨Ax, capx, hPx, qx0, qx1, qx2, qx3, hrx, hkids⟩ := hkids.un
  obtain ⟨Ay, capy, hPy, qy0, qy1, qy2, qy3, hry, hkids⟩ := hkids.un
  clear hkids
  have HKx := hid hxx
  have HKy := hid hxy
  have HS := hid hS
  clear hxx hxy
  have kB := Bk.new w 37 #[.string ⟨op.toArray⟩, .int .i64 n, .string ⟨nm.toArray⟩, .slice (some ⟨b, off, none⟩) 2 cap]
  have hB0 : Below w.heap.size w (w.alloc (.cells #[.string ⟨op.toArray⟩, .int .i64 n, .string ⟨nm.toArray⟩, .slice (some ⟨b, off, none⟩) 2 cap] 37)) := (Below.refl _ _).alloc (Nat.le_refl _) _
  go_enter Tryz.func38, Tryz.ntmps38
  go_wp2_with fail
  obtain ⟨W0, hW0⟩ : ∃ W0, W0 = w.alloc (.cells #[.string ⟨op.toArray⟩, .int .i64 n, .string ⟨nm.toArray⟩, .slice (some ⟨b, off, none⟩) 2 cap] 37) := ⟨_, rfl⟩
  rw [← hW0] at kB hB0
  rw [← hW0]
  clear hW0
  have hBd := hB0.drew
  have hlt0 := kB.lt
  obtain ⟨c0, c1, c2, c3⟩ := kB.cells4
  clear kB
  refine wp_region_held_drew (S := (fun w' => w'.cell? ⟨w.heap.size, 0, none⟩ = some (.string ⟨op.toArray⟩) ∧ w'.cell? ⟨w.heap.size, 1, none⟩ = some (.int .i64 n) ∧ w'.cell? ⟨w.heap.size, 2, none⟩ = some (.string ⟨nm.toArray⟩) ∧ w'.cell? ⟨w.heap.size, 3, none⟩ = some (.slice (some ⟨b, off, none⟩) 2 cap))) (by kernel_rfl) ⟨c0, c1, c2, c3⟩ (fun hHeld => ?_)
  refine takeYes (i := 0) (v := .pointer (some ⟨w.heap.size, 0, none⟩)) rfl (by kernel_rfl) (by kernel_rfl) (by kernel_rfl) (fun _ _ _ h => h) (by rfl) ?_ (by assumption) ?_
  · intro w hSw; obtain ⟨sq0, sq1, sq2, sq3⟩ := hSw; go_simp
  try simp only [Act.put, List.setIfInBounds_toArray, List.set_cons_zero, List.set_cons_succ]
  refine takeYes (i := 1) (v := .string ⟨op.toArray⟩) rfl (by kernel_rfl) (by kernel_rfl) (by kernel_rfl) (fun _ _ _ h => h) (by rfl) ?_ (by assumption) ?_
  · intro w hSw; obtain ⟨sq0, sq1, sq2, sq3⟩ := hSw; go_simp
  try simp only [Act.put, List.setIfInBounds_toArray, List.set_cons_zero, List.set_cons_succ]
  refine takeYes (i := 3) (v := .pointer (some ⟨w.heap.size, 3, none⟩)) rfl (by kernel_rfl) (by kernel_rfl) (by kernel_rfl) (fun _ _ _ h => h) (by rfl) ?_ (by assumption) ?_
  · intro w hSw; obtain ⟨sq0, sq1, sq2, sq3⟩ := hSw; go_simp
  try simp only [Act.put, List.setIfInBounds_toArray, List.set_cons_zero, List.set_cons_succ]
  refine takeYes (i := 4) (v := .slice (some ⟨b, off, none⟩) 2 cap) rfl (by kernel_rfl) (by kernel_rfl) (by kernel_rfl) (fun _ _ _ h => h) (by rfl) ?_ (by assumption) ?_
  · intro w hSw; obtain ⟨sq0, sq1, sq2, sq3⟩ := hSw; go_simp
  try simp only [Act.put, List.setIfInBounds_toArray, List.set_cons_zero, List.set_cons_succ]
  refine takeYes (i := 5) (v := .int .i64 2) rfl (by kernel_rfl) (by kernel_rfl) (by kernel_rfl) (fun _ _ _ h => h) (by rfl) ?_ (by assumption) ?_
  · intro w hSw; obtain ⟨sq0, sq1, sq2, sq3⟩ := hSw; go_simp
  try simp only [Act.put, List.setIfInBounds_toArray, List.set_cons_zero, List.set_cons_succ]
  refine wpAnyH_ready (rs := [2]) (by kernel_rfl) (by simp) ?_
  refine AllReadyH.cons rfl (fun K hK => ?_) AllReadyH.nil
  go_simp
  ((with_reducible refine (rkids_any op _).mono ?_); rintro e0 wy ⟨rfl, rfl⟩)
  rw [hkf]
  go_wp2_with fail
  refine hK.out _ _ ?_ (fun hHeld => ?_)
  · assumption
  clear hK K
  try simp only [Act.put, List.setIfInBounds_toArray, List.set_cons_zero, List.set_cons_succ]
  refine takeYes (i := 6) (v := .bool false) rfl (by kernel_rfl) (by kernel_rfl) (by kernel_rfl) (fun _ _ _ h => h) (by rfl) ?_ (by assumption) ?_
  · intro w hSw; obtain ⟨sq0, sq1, sq2, sq3⟩ := hSw; go_simp
  try simp only [Act.put, List.setIfInBounds_toArray, List.set_cons_zero, List.set_cons_succ]
  refine wpAnyH_done (by kernel_rfl) ?_ _
  obtain ⟨W, hW⟩ : ∃ W, W = W0.drew := ⟨_, rfl⟩
  have HFR := hid (show RFree W g u1 u2 w.heap.size by rw [hW]; exact rfree_new hT hBd (Nat.le_refl _) hlt0)
  have HT := hid (show RTabAt W B g T L u1 u2 by rw [hW]; exact hT.below hBd)
  have HST := hid (show RStep g w u1 u2 W u1 u2 by rw [hW]; exact RStep.below hBd)
  have hbW : Below W0.heap.size W0 W := by rw [hW]; exact (Below.refl _ _).drew
  have c0 := bel_cell hbW c0
  have c1 := bel_cell hbW c1
  have c2 := bel_cell hbW c2
  have c3 := bel_cell hbW c3
  have HFx := hid (HST.out.free hPx)
  have HXx := hid (hrx.rstep HST.out)
  have qx0 := cell_rstep HST.out hPx qx0
  have qx1 := cell_rstep HST.out hPx qx1
  have qx2 := cell_rstep HST.out hPx qx2
  have qx3 := cell_rstep HST.out hPx qx3
  have HFy := hid (HST.out.free hPy)
  have HXy := hid (hry.rstep HST.out)
  have qy0 := cell_rstep HST.out hPy qy0
  have qy1 := cell_rstep HST.out hPy qy1
  have qy2 := cell_rstep HST.out hPy qy2
  have qy3 := cell_rstep HST.out hPy qy3
  rw [← hW]
  clear hbW hW hB0 hBd hlt0 hT hS
  clear hrx hPx hry hPy
  go_wp2_with fail
  ((with_reducible refine (rsets_any op _).mono ?_); rintro e0 wy ⟨rfl, rfl⟩)
  rw [HSET.out]
  go_wp2_with fail
  ((with_reducible refine (HKx.out.call _ g B T L u1 u2 _ HXx.out HT.out HS.out (by have := HLEN.out; simp only [szF, szL] at *; omega) (by have := HLEN.out; simp only [szF, szL] at *; omega)).mono ?_); rintro e1 W1 ⟨x1, y1, L1, hL1, hst1, ht1, hres1⟩)
  obtain ⟨⟨r1, T1⟩, hv1⟩ : ∃ p, p = valF x T := ⟨_, rfl⟩
  rw [← hv1] at ht1 hres1
  dsimp only at ht1 hres1
  have HV1 := hid hv1.symm
  have haf1 := val_after HOx.out HS.out hv1.symm
  have HS1 := hid haf1.1
  have HTL1 := hid haf1.2.1
  have HR1 := hid haf1.2.2
  clear haf1
  have HT1 := hid ht1
  have HST1 := hid (HST.out.trans hst1)
  have HL1 := hid hL1
  have c0 := cell_rstep hst1 HFR.out c0
  have c1 := cell_rstep hst1 HFR.out c1
  have c2 := cell_rstep hst1 HFR.out c2
  have c3 := cell_rstep hst1 HFR.out c3
  have HFR := hid (hst1.free HFR.out)
  have qy0 := cell_rstep hst1 HFy.out qy0
  have qy1 := cell_rstep hst1 HFy.out qy1
  have qy2 := cell_rstep hst1 HFy.out qy2
  have qy3 := cell_rstep hst1 HFy.out qy3
  have HXy := hid (HXy.out.rstep hst1)
  have HFy := hid (hst1.free HFy.out)
  clear hst1 ht1 hL1 hv1
  cases r1 with
  | error er1 =>
    obtain ⟨h0, m, rfl⟩ := hres1
    have hne : (er1 != 0) = true := by simpa using h0
    have H0 := hid h0
    clear h0
    go_wp2_with fail
    go_ret2
    exact RValPost.bad (by have := HL1.out; have := HTL1.out; have := HLEN.out; simp only [szF, szL] at *; omega) HST1.out HT1.out (by rw [HVAL.out, HV1.out]; rfl) H0.out
  | ok a1 =>
    have HI1 := hid (HR1.out a1 rfl)
    obtain rfl := hres1
    go_wp2_with fail
    ((with_reducible refine (HKy.out.call _ g B T1 L1 x1 y1 _ HXy.out HT1.out HS1.out (by have := HL1.out; have := HTL1.out; have := HLEN.out; simp only [szF, szL] at *; omega) (by have := HL1.out; have := HTL1.out; have := HLEN.out; simp only [szF, szL] at *; omega)).mono ?_); rintro e2 W2 ⟨x2, y2, L2, hL2, hst2, ht2, hres2⟩)
    obtain ⟨⟨r2, T2⟩, hv2⟩ : ∃ p, p = valF y T1 := ⟨_, rfl⟩
    rw [← hv2] at ht2 hres2
    dsimp only at ht2 hres2
    have HV2 := hid hv2.symm
    have haf2 := val_after HOy.out HS1.out hv2.symm
    have HS2 := hid haf2.1
    have HTL2 := hid haf2.2.1
    have HR2 := hid haf2.2.2
    clear haf2
    have HT2 := hid ht2
    have HST2 := hid (HST1.out.trans hst2)
    have HL2 := hid hL2
    have c0 := cell_rstep hst2 HFR.out c0
    have c1 := cell_rstep hst2 HFR.out c1
    have c2 := cell_rstep hst2 HFR.out c2
    have c3 := cell_rstep hst2 HFR.out c3
    have HFR := hid (hst2.free HFR.out)
    clear hst2 ht2 hL2 hv2
    cases r2 with
    | error er2 =>
      obtain ⟨h0, m, rfl⟩ := hres2
      have hne : (er2 != 0) = true := by simpa using h0
      have H0 := hid h0
      clear h0
      go_wp2_with fail
      go_ret2
      exact RValPost.bad (by have := HL1.out; have := HTL1.out; have := HL2.out; have := HTL2.out; have := HLEN.out; simp only [szF, szL] at *; omega) HST2.out HT2.out (by rw [HVAL.out, HV1.out, thenV_ok, HV2.out]; rfl) H0.out
    | ok a2 =>
      have HI2 := hid (HR2.out a2 rfl)
      obtain rfl := hres2
      go_wp2_with fail
      ((with_reducible refine (rtwo_any op a1 a2 _ HBIN.out HI1.out).mono ?_); rintro e3 w3 ⟨rfl, hm⟩)
      cases htw : twoV op a1 a2 with
      | error er =>
        rw [htw] at hm
        dsimp only at hm
        subst hm
        have HTW := hid htw
        clear htw
        go_wp2_with fail
        go_ret2
        exact RValPost.bad (by have := HL1.out; have := HTL1.out; have := HL2.out; have := HTL2.out; have := HLEN.out; simp only [szF, szL] at *; omega) HST2.out HT2.out (by rw [HVAL.out, HV1.out, thenV_ok, HV2.out, thenV_ok, HTW.out]) (twoV_err HTW.out)
      | ok m =>
        rw [htw] at hm
        dsimp only at hm
        subst hm
        have HTW := hid htw
        clear htw
        go_wp2_with fail
        go_ret2
        exact RValPost.good (by have := HL1.out; have := HTL1.out; have := HL2.out; have := HTL2.out; have := HLEN.out; simp only [szF, szL] at *; omega) HST2.out HT2.out (by rw [HVAL.out, HV1.out, thenV_ok, HV2.out, thenV_ok, HTW.out]) rfl
set_option maxRecDepth 100000 in
set_option maxHeartbeats 8000000 in
theorem rv_num (n : Int) (nm : List UInt8)   (ho : okF (.mk [110, 117, 109] n nm .nil) = true)  : RValC (.mk [110, 117, 109] n nm .nil) := by
  have HSET : Hid (setF [110, 117, 109] = false) := hid (by decide)
  have hok := ho
  simp only [okF, okL, Bool.and_eq_true, Bool.and_true] at hok
  clear hok
  have hkf : kidsF [110, 117, 109] = 0 := by decide
  intro w g B T L u1 u2 v hr hT hS hl hlL
  obtain ⟨A, cap, rfl, hcap, hkids⟩ := hr.form
  have HLEN : Hid (T.length + szF (.mk [110, 117, 109] n nm .nil) ≤ 100000 ∧ L.length + szF (.mk [110, 117, 109] n nm .nil) ≤ 100000) := hid ⟨hl, hlL⟩
  clear hl hlL
  dsimp only [Ex.op, Ex.num, Ex.name, Ex.kids, Exs.len, Nat.zero_add, Nat.reduceAdd] at *
  have HS := hid hS
  have kB := Bk.new w 37 #[.string ⟨#[110, 117, 109]⟩, .int .i64 n, .string ⟨nm.toArray⟩, .slice A 0 cap]
  have hB0 : Below w.heap.size w (w.alloc (.cells #[.string ⟨#[110, 117, 109]⟩, .int .i64 n, .string ⟨nm.toArray⟩, .slice A 0 cap] 37)) := (Below.refl _ _).alloc (Nat.le_refl _) _
  go_enter Tryz.func38, Tryz.ntmps38
  go_wp2_with fail
  obtain ⟨W0, hW0⟩ : ∃ W0, W0 = w.alloc (.cells #[.string ⟨#[110, 117, 109]⟩, .int .i64 n, .string ⟨nm.toArray⟩, .slice A 0 cap] 37) := ⟨_, rfl⟩
  rw [← hW0] at kB hB0
  rw [← hW0]
  clear hW0
  have hBd := hB0.drew
  have hlt0 := kB.lt
  obtain ⟨c0, c1, c2, c3⟩ := kB.cells4
  clear kB
  refine wp_region_held_drew (S := (fun w' => w'.cell? ⟨w.heap.size, 0, none⟩ = some (.string ⟨#[110, 117, 109]⟩) ∧ w'.cell? ⟨w.heap.size, 1, none⟩ = some (.int .i64 n) ∧ w'.cell? ⟨w.heap.size, 2, none⟩ = some (.string ⟨nm.toArray⟩) ∧ w'.cell? ⟨w.heap.size, 3, none⟩ = some (.slice A 0 cap))) (by kernel_rfl) ⟨c0, c1, c2, c3⟩ (fun hHeld => ?_)
  refine takeYes (i := 0) (v := .pointer (some ⟨w.heap.size, 0, none⟩)) rfl (by kernel_rfl) (by kernel_rfl) (by kernel_rfl) (fun _ _ _ h => h) (by rfl) ?_ (by assumption) ?_
  · intro w hSw; obtain ⟨sq0, sq1, sq2, sq3⟩ := hSw; go_simp
  try simp only [Act.put, List.setIfInBounds_toArray, List.set_cons_zero, List.set_cons_succ]
  refine takeYes (i := 1) (v := .string ⟨#[110, 117, 109]⟩) rfl (by kernel_rfl) (by kernel_rfl) (by kernel_rfl) (fun _ _ _ h => h) (by rfl) ?_ (by assumption) ?_
  · intro w hSw; obtain ⟨sq0, sq1, sq2, sq3⟩ := hSw; go_simp
  try simp only [Act.put, List.setIfInBounds_toArray, List.set_cons_zero, List.set_cons_succ]
  refine takeYes (i := 3) (v := .pointer (some ⟨w.heap.size, 3, none⟩)) rfl (by kernel_rfl) (by kernel_rfl) (by kernel_rfl) (fun _ _ _ h => h) (by rfl) ?_ (by assumption) ?_
  · intro w hSw; obtain ⟨sq0, sq1, sq2, sq3⟩ := hSw; go_simp
  try simp only [Act.put, List.setIfInBounds_toArray, List.set_cons_zero, List.set_cons_succ]
  refine takeYes (i := 4) (v := .slice A 0 cap) rfl (by kernel_rfl) (by kernel_rfl) (by kernel_rfl) (fun _ _ _ h => h) (by rfl) ?_ (by assumption) ?_
  · intro w hSw; obtain ⟨sq0, sq1, sq2, sq3⟩ := hSw; go_simp
  try simp only [Act.put, List.setIfInBounds_toArray, List.set_cons_zero, List.set_cons_succ]
  refine takeYes (i := 5) (v := .int .i64 0) rfl (by kernel_rfl) (by kernel_rfl) (by kernel_rfl) (fun _ _ _ h => h) (by rfl) ?_ (by assumption) ?_
  · intro w hSw; obtain ⟨sq0, sq1, sq2, sq3⟩ := hSw; go_simp
  try simp only [Act.put, List.setIfInBounds_toArray, List.set_cons_zero, List.set_cons_succ]
  refine wpAnyH_ready (rs := [2]) (by kernel_rfl) (by simp) ?_
  refine AllReadyH.cons rfl (fun K hK => ?_) AllReadyH.nil
  go_simp
  ((with_reducible refine (rkids_any [110, 117, 109] _).mono ?_); rintro e0 wy ⟨rfl, rfl⟩)
  rw [hkf]
  go_wp2_with fail
  refine hK.out _ _ ?_ (fun hHeld => ?_)
  · assumption
  clear hK K
  try simp only [Act.put, List.setIfInBounds_toArray, List.set_cons_zero, List.set_cons_succ]
  refine takeYes (i := 6) (v := .bool false) rfl (by kernel_rfl) (by kernel_rfl) (by kernel_rfl) (fun _ _ _ h => h) (by rfl) ?_ (by assumption) ?_
  · intro w hSw; obtain ⟨sq0, sq1, sq2, sq3⟩ := hSw; go_simp
  try simp only [Act.put, List.setIfInBounds_toArray, List.set_cons_zero, List.set_cons_succ]
  refine wpAnyH_done (by kernel_rfl) ?_ _
  obtain ⟨W, hW⟩ : ∃ W, W = W0.drew := ⟨_, rfl⟩
  have HFR := hid (show RFree W g u1 u2 w.heap.size by rw [hW]; exact rfree_new hT hBd (Nat.le_refl _) hlt0)
  have HT := hid (show RTabAt W B g T L u1 u2 by rw [hW]; exact hT.below hBd)
  have HST := hid (show RStep g w u1 u2 W u1 u2 by rw [hW]; exact RStep.below hBd)
  have hbW : Below W0.heap.size W0 W := by rw [hW]; exact (Below.refl _ _).drew
  have c0 := bel_cell hbW c0
  have c1 := bel_cell hbW c1
  have c2 := bel_cell hbW c2
  have c3 := bel_cell hbW c3
  rw [← hW]
  clear hbW hW hB0 hBd hlt0 hT hS
  go_wp2_with fail
  go_ret2
  exact RValPost.good (by omega) HST.out HT.out (n := n) (by rfl) rfl
set_option maxRecDepth 100000 in
set_option maxHeartbeats 8000000 in
theorem rv_name (n : Int) (nm : List UInt8)   (ho : okF (.mk [110, 97, 109, 101] n nm .nil) = true)  : RValC (.mk [110, 97, 109, 101] n nm .nil) := by
  have HSET : Hid (setF [110, 97, 109, 101] = false) := hid (by decide)
  have hok := ho
  simp only [okF, okL, Bool.and_eq_true, Bool.and_true] at hok
  clear hok
  have hkf : kidsF [110, 97, 109, 101] = 0 := by decide
  intro w g B T L u1 u2 v hr hT hS hl hlL
  obtain ⟨A, cap, rfl, hcap, hkids⟩ := hr.form
  have HLEN : Hid (T.length + szF (.mk [110, 97, 109, 101] n nm .nil) ≤ 100000 ∧ L.length + szF (.mk [110, 97, 109, 101] n nm .nil) ≤ 100000) := hid ⟨hl, hlL⟩
  clear hl hlL
  dsimp only [Ex.op, Ex.num, Ex.name, Ex.kids, Exs.len, Nat.zero_add, Nat.reduceAdd] at *
  have HS := hid hS
  have kB := Bk.new w 37 #[.string ⟨#[110, 97, 109, 101]⟩, .int .i64 n, .string ⟨nm.toArray⟩, .slice A 0 cap]
  have hB0 : Below w.heap.size w (w.alloc (.cells #[.string ⟨#[110, 97, 109, 101]⟩, .int .i64 n, .string ⟨nm.toArray⟩, .slice A 0 cap] 37)) := (Below.refl _ _).alloc (Nat.le_refl _) _
  go_enter Tryz.func38, Tryz.ntmps38
  go_wp2_with fail
  obtain ⟨W0, hW0⟩ : ∃ W0, W0 = w.alloc (.cells #[.string ⟨#[110, 97, 109, 101]⟩, .int .i64 n, .string ⟨nm.toArray⟩, .slice A 0 cap] 37) := ⟨_, rfl⟩
  rw [← hW0] at kB hB0
  rw [← hW0]
  clear hW0
  have hBd := hB0.drew
  have hlt0 := kB.lt
  obtain ⟨c0, c1, c2, c3⟩ := kB.cells4
  clear kB
  refine wp_region_held_drew (S := (fun w' => w'.cell? ⟨w.heap.size, 0, none⟩ = some (.string ⟨#[110, 97, 109, 101]⟩) ∧ w'.cell? ⟨w.heap.size, 1, none⟩ = some (.int .i64 n) ∧ w'.cell? ⟨w.heap.size, 2, none⟩ = some (.string ⟨nm.toArray⟩) ∧ w'.cell? ⟨w.heap.size, 3, none⟩ = some (.slice A 0 cap))) (by kernel_rfl) ⟨c0, c1, c2, c3⟩ (fun hHeld => ?_)
  refine takeYes (i := 0) (v := .pointer (some ⟨w.heap.size, 0, none⟩)) rfl (by kernel_rfl) (by kernel_rfl) (by kernel_rfl) (fun _ _ _ h => h) (by rfl) ?_ (by assumption) ?_
  · intro w hSw; obtain ⟨sq0, sq1, sq2, sq3⟩ := hSw; go_simp
  try simp only [Act.put, List.setIfInBounds_toArray, List.set_cons_zero, List.set_cons_succ]
  refine takeYes (i := 1) (v := .string ⟨#[110, 97, 109, 101]⟩) rfl (by kernel_rfl) (by kernel_rfl) (by kernel_rfl) (fun _ _ _ h => h) (by rfl) ?_ (by assumption) ?_
  · intro w hSw; obtain ⟨sq0, sq1, sq2, sq3⟩ := hSw; go_simp
  try simp only [Act.put, List.setIfInBounds_toArray, List.set_cons_zero, List.set_cons_succ]
  refine takeYes (i := 3) (v := .pointer (some ⟨w.heap.size, 3, none⟩)) rfl (by kernel_rfl) (by kernel_rfl) (by kernel_rfl) (fun _ _ _ h => h) (by rfl) ?_ (by assumption) ?_
  · intro w hSw; obtain ⟨sq0, sq1, sq2, sq3⟩ := hSw; go_simp
  try simp only [Act.put, List.setIfInBounds_toArray, List.set_cons_zero, List.set_cons_succ]
  refine takeYes (i := 4) (v := .slice A 0 cap) rfl (by kernel_rfl) (by kernel_rfl) (by kernel_rfl) (fun _ _ _ h => h) (by rfl) ?_ (by assumption) ?_
  · intro w hSw; obtain ⟨sq0, sq1, sq2, sq3⟩ := hSw; go_simp
  try simp only [Act.put, List.setIfInBounds_toArray, List.set_cons_zero, List.set_cons_succ]
  refine takeYes (i := 5) (v := .int .i64 0) rfl (by kernel_rfl) (by kernel_rfl) (by kernel_rfl) (fun _ _ _ h => h) (by rfl) ?_ (by assumption) ?_
  · intro w hSw; obtain ⟨sq0, sq1, sq2, sq3⟩ := hSw; go_simp
  try simp only [Act.put, List.setIfInBounds_toArray, List.set_cons_zero, List.set_cons_succ]
  refine wpAnyH_ready (rs := [2]) (by kernel_rfl) (by simp) ?_
  refine AllReadyH.cons rfl (fun K hK => ?_) AllReadyH.nil
  go_simp
  ((with_reducible refine (rkids_any [110, 97, 109, 101] _).mono ?_); rintro e0 wy ⟨rfl, rfl⟩)
  rw [hkf]
  go_wp2_with fail
  refine hK.out _ _ ?_ (fun hHeld => ?_)
  · assumption
  clear hK K
  try simp only [Act.put, List.setIfInBounds_toArray, List.set_cons_zero, List.set_cons_succ]
  refine takeYes (i := 6) (v := .bool false) rfl (by kernel_rfl) (by kernel_rfl) (by kernel_rfl) (fun _ _ _ h => h) (by rfl) ?_ (by assumption) ?_
  · intro w hSw; obtain ⟨sq0, sq1, sq2, sq3⟩ := hSw; go_simp
  try simp only [Act.put, List.setIfInBounds_toArray, List.set_cons_zero, List.set_cons_succ]
  refine wpAnyH_done (by kernel_rfl) ?_ _
  obtain ⟨W, hW⟩ : ∃ W, W = W0.drew := ⟨_, rfl⟩
  have HFR := hid (show RFree W g u1 u2 w.heap.size by rw [hW]; exact rfree_new hT hBd (Nat.le_refl _) hlt0)
  have HT := hid (show RTabAt W B g T L u1 u2 by rw [hW]; exact hT.below hBd)
  have HST := hid (show RStep g w u1 u2 W u1 u2 by rw [hW]; exact RStep.below hBd)
  have hbW : Below W0.heap.size W0 W := by rw [hW]; exact (Below.refl _ _).drew
  have c0 := bel_cell hbW c0
  have c1 := bel_cell hbW c1
  have c2 := bel_cell hbW c2
  have c3 := bel_cell hbW c3
  rw [← hW]
  clear hbW hW hB0 hBd hlt0 hT hS
  have hsh := getF_short T nm HS.out
  have hl6 : T.length ≤ 1000000 := by have := HLEN.out; omega
  go_wp2_with fail
  ((with_reducible refine (rtnum_any T L nm g B u1 u2 _ HT.out hl6 hsh).mono ?_); rintro e1 w1 ⟨rfl, rfl⟩)
  obtain ⟨⟨p1, p2⟩, hp⟩ : ∃ p, p = numberF (Lib.trimS (getF T nm).1 blks) := ⟨_, rfl⟩
  have HNV : Hid (nameV T nm = if p2 = 0 then .ok p1 else .error p2) := hid (by unfold nameV; rw [← hp])
  rw [← hp]
  clear hp
  dsimp only [numV]
  go_wp2_with fail
  go_ret2
  by_cases h0 : p2 = 0
  · subst h0
    exact RValPost.good (by omega) HST.out HT.out (n := p1) (by show (nameV T nm, T) = _; rw [HNV.out, if_pos rfl]) rfl
  · exact RValPost.bad (by omega) HST.out HT.out (by show (nameV T nm, T) = _; rw [HNV.out, if_neg h0]) h0
set_option maxRecDepth 100000 in
set_option maxHeartbeats 8000000 in
theorem rv_mis (op : List UInt8) (n : Int) (nm : List UInt8) (k : Exs) (hk : ¬ (k.len : Int) = kidsF op) : RValC (.mk op n nm k) := by
  have hk' : ¬ kidsF op = (k.len : Int) := fun h => hk h.symm
  have HV : Hid (∀ T, valF (.mk op n nm k) T = (.error 1, T)) := hid (fun T => by show combV op n nm (valL k) T = _; unfold combV; rw [valL_map, List.length_map, Exs.toL_len, if_pos hk])
  intro w g B T L u1 u2 v hr hT hS hl hlL
  obtain ⟨A, cap, rfl, hcap, hkids⟩ := hr.form
  clear hl hlL
  dsimp only [Ex.op, Ex.num, Ex.name, Ex.kids] at *
  have HS := hid hS
  have kB := Bk.new w 37 #[.string ⟨op.toArray⟩, .int .i64 n, .string ⟨nm.toArray⟩, .slice A k.len cap]
  have hB0 : Below w.heap.size w (w.alloc (.cells #[.string ⟨op.toArray⟩, .int .i64 n, .string ⟨nm.toArray⟩, .slice A k.len cap] 37)) := (Below.refl _ _).alloc (Nat.le_refl _) _
  go_enter Tryz.func38, Tryz.ntmps38
  go_wp2_with fail
  obtain ⟨W0, hW0⟩ : ∃ W0, W0 = w.alloc (.cells #[.string ⟨op.toArray⟩, .int .i64 n, .string ⟨nm.toArray⟩, .slice A k.len cap] 37) := ⟨_, rfl⟩
  rw [← hW0] at kB hB0
  rw [← hW0]
  clear hW0
  have hBd := hB0.drew
  have hlt0 := kB.lt
  obtain ⟨c0, c1, c2, c3⟩ := kB.cells4
  clear kB
  refine wp_region_held_drew (S := (fun w' => w'.cell? ⟨w.heap.size, 0, none⟩ = some (.string ⟨op.toArray⟩) ∧ w'.cell? ⟨w.heap.size, 1, none⟩ = some (.int .i64 n) ∧ w'.cell? ⟨w.heap.size, 2, none⟩ = some (.string ⟨nm.toArray⟩) ∧ w'.cell? ⟨w.heap.size, 3, none⟩ = some (.slice A k.len cap))) (by kernel_rfl) ⟨c0, c1, c2, c3⟩ (fun hHeld => ?_)
  refine takeYes (i := 0) (v := .pointer (some ⟨w.heap.size, 0, none⟩)) rfl (by kernel_rfl) (by kernel_rfl) (by kernel_rfl) (fun _ _ _ h => h) (by rfl) ?_ (by assumption) ?_
  · intro w hSw; obtain ⟨sq0, sq1, sq2, sq3⟩ := hSw; go_simp
  try simp only [Act.put, List.setIfInBounds_toArray, List.set_cons_zero, List.set_cons_succ]
  refine takeYes (i := 1) (v := .string ⟨op.toArray⟩) rfl (by kernel_rfl) (by kernel_rfl) (by kernel_rfl) (fun _ _ _ h => h) (by rfl) ?_ (by assumption) ?_
  · intro w hSw; obtain ⟨sq0, sq1, sq2, sq3⟩ := hSw; go_simp
  try simp only [Act.put, List.setIfInBounds_toArray, List.set_cons_zero, List.set_cons_succ]
  refine takeYes (i := 3) (v := .pointer (some ⟨w.heap.size, 3, none⟩)) rfl (by kernel_rfl) (by kernel_rfl) (by kernel_rfl) (fun _ _ _ h => h) (by rfl) ?_ (by assumption) ?_
  · intro w hSw; obtain ⟨sq0, sq1, sq2, sq3⟩ := hSw; go_simp
  try simp only [Act.put, List.setIfInBounds_toArray, List.set_cons_zero, List.set_cons_succ]
  refine takeYes (i := 4) (v := .slice A k.len cap) rfl (by kernel_rfl) (by kernel_rfl) (by kernel_rfl) (fun _ _ _ h => h) (by rfl) ?_ (by assumption) ?_
  · intro w hSw; obtain ⟨sq0, sq1, sq2, sq3⟩ := hSw; go_simp
  try simp only [Act.put, List.setIfInBounds_toArray, List.set_cons_zero, List.set_cons_succ]
  refine takeYes (i := 5) (v := .int .i64 (k.len : Int)) rfl (by kernel_rfl) (by kernel_rfl) (by kernel_rfl) (fun _ _ _ h => h) (by rfl) ?_ (by assumption) ?_
  · intro w hSw; obtain ⟨sq0, sq1, sq2, sq3⟩ := hSw; go_simp
  try simp only [Act.put, List.setIfInBounds_toArray, List.set_cons_zero, List.set_cons_succ]
  refine wpAnyH_ready (rs := [2]) (by kernel_rfl) (by simp) ?_
  refine AllReadyH.cons rfl (fun K hK => ?_) AllReadyH.nil
  go_simp
  ((with_reducible refine (rkids_any op _).mono ?_); rintro e0 wy ⟨rfl, rfl⟩)
  skip
  go_wp2_with fail
  refine hK.out _ _ ?_ (fun hHeld => ?_)
  · assumption
  clear hK K
  try simp only [Act.put, List.setIfInBounds_toArray, List.set_cons_zero, List.set_cons_succ]
  refine takeYes (i := 6) (v := .bool true) rfl (by kernel_rfl) (by kernel_rfl) (by kernel_rfl) (fun _ _ _ h => h) (by rfl) ?_ (by assumption) ?_
  · intro w hSw; obtain ⟨sq0, sq1, sq2, sq3⟩ := hSw; go_simp
  try simp only [Act.put, List.setIfInBounds_toArray, List.set_cons_zero, List.set_cons_succ]
  refine wpAnyH_done (by kernel_rfl) ?_ _
  obtain ⟨W, hW⟩ : ∃ W, W = W0.drew := ⟨_, rfl⟩
  have HFR := hid (show RFree W g u1 u2 w.heap.size by rw [hW]; exact rfree_new hT hBd (Nat.le_refl _) hlt0)
  have HT := hid (show RTabAt W B g T L u1 u2 by rw [hW]; exact hT.below hBd)
  have HST := hid (show RStep g w u1 u2 W u1 u2 by rw [hW]; exact RStep.below hBd)
  have hbW : Below W0.heap.size W0 W := by rw [hW]; exact (Below.refl _ _).drew
  have c0 := bel_cell hbW c0
  have c1 := bel_cell hbW c1
  have c2 := bel_cell hbW c2
  have c3 := bel_cell hbW c3
  rw [← hW]
  clear hbW hW hB0 hBd hlt0 hT hS
  go_wp2_with fail
  go_ret2
  exact RValPost.bad (by omega) HST.out HT.out (HV.out T) (by decide)
end Go.Proofs.YtadmmmehphhecaaGreatDoor
/- The walk of the reference's value: a part (printed by genVc.py). -/
namespace Go.Proofs.YtadmmmehphhecaaGreatDoor
open Go.RowKit
set_option maxRecDepth 100000 in
set_option maxHeartbeats 8000000 in
theorem rv_set_eq (n : Int) (nm : List UInt8) (x : Ex)  (ho : okF (.mk [61] n nm (.cons x .nil)) = true) (hxx : RValC x) : RValC (.mk [61] n nm (.cons x .nil)) := by
  have HSET : Hid (setF [61] = true) := hid (by decide)
  have hok := ho
  simp only [okF, okL, Bool.and_eq_true, Bool.and_true] at hok
  have HOx := hid hok.2
  clear hok
  have hkf : kidsF [61] = 1 := by decide
  intro w g B T L u1 u2 v hr hT hS hl hlL
  obtain ⟨A, cap, rfl, hcap, hkids⟩ := hr.form
  have HLEN : Hid (T.length + szF (.mk [61] n nm (.cons x .nil)) ≤ 100000 ∧ L.length + szF (.mk [61] n nm (.cons x .nil)) ≤ 100000) := hid ⟨hl, hlL⟩
  clear hl hlL
  dsimp only [Ex.op, Ex.num, Ex.name, Ex.kids, Exs.len, Nat.zero_add, Nat.reduceAdd] at *
  obtain ⟨b, off, rfl⟩ := hkids.form_ (by simp [Exs.len])
  obtain ⟨Ax, capx, hPx, qx0, qx1, qx2, qx3, hrx, hkids⟩ := hkids.un
  clear hkids
  have HKx := hid hxx
  have HS := hid hS
  clear hxx
  have kB := Bk.new w 37 #[.string ⟨#[61]⟩, .int .i64 n, .string ⟨nm.toArray⟩, .slice (some ⟨b, off, none⟩) 1 cap]
  have hB0 : Below w.heap.size w (w.alloc (.cells #[.string ⟨#[61]⟩, .int .i64 n, .string ⟨nm.toArray⟩, .slice (some ⟨b, off, none⟩) 1 cap] 37)) := (Below.refl _ _).alloc (Nat.le_refl _) _
  go_enter Tryz.func38, Tryz.ntmps38
  go_wp2_with fail
  obtain ⟨W0, hW0⟩ : ∃ W0, W0 = w.alloc (.cells #[.string ⟨#[61]⟩, .int .i64 n, .string ⟨nm.toArray⟩, .slice (some ⟨b, off, none⟩) 1 cap] 37) := ⟨_, rfl⟩
  rw [← hW0] at kB hB0
  rw [← hW0]
  clear hW0
  have hBd := hB0.drew
  have hlt0 := kB.lt
  obtain ⟨c0, c1, c2, c3⟩ := kB.cells4
  clear kB
  refine wp_region_held_drew (S := (fun w' => w'.cell? ⟨w.heap.size, 0, none⟩ = some (.string ⟨#[61]⟩) ∧ w'.cell? ⟨w.heap.size, 1, none⟩ = some (.int .i64 n) ∧ w'.cell? ⟨w.heap.size, 2, none⟩ = some (.string ⟨nm.toArray⟩) ∧ w'.cell? ⟨w.heap.size, 3, none⟩ = some (.slice (some ⟨b, off, none⟩) 1 cap))) (by kernel_rfl) ⟨c0, c1, c2, c3⟩ (fun hHeld => ?_)
  refine takeYes (i := 0) (v := .pointer (some ⟨w.heap.size, 0, none⟩)) rfl (by kernel_rfl) (by kernel_rfl) (by kernel_rfl) (fun _ _ _ h => h) (by rfl) ?_ (by assumption) ?_
  · intro w hSw; obtain ⟨sq0, sq1, sq2, sq3⟩ := hSw; go_simp
  try simp only [Act.put, List.setIfInBounds_toArray, List.set_cons_zero, List.set_cons_succ]
  refine takeYes (i := 1) (v := .string ⟨#[61]⟩) rfl (by kernel_rfl) (by kernel_rfl) (by kernel_rfl) (fun _ _ _ h => h) (by rfl) ?_ (by assumption) ?_
  · intro w hSw; obtain ⟨sq0, sq1, sq2, sq3⟩ := hSw; go_simp
  try simp only [Act.put, List.setIfInBounds_toArray, List.set_cons_zero, List.set_cons_succ]
  refine takeYes (i := 3) (v := .pointer (some ⟨w.heap.size, 3, none⟩)) rfl (by kernel_rfl) (by kernel_rfl) (by kernel_rfl) (fun _ _ _ h => h) (by rfl) ?_ (by assumption) ?_
  · intro w hSw; obtain ⟨sq0, sq1, sq2, sq3⟩ := hSw; go_simp
  try simp only [Act.put, List.setIfInBounds_toArray, List.set_cons_zero, List.set_cons_succ]
  refine takeYes (i := 4) (v := .slice (some ⟨b, off, none⟩) 1 cap) rfl (by kernel_rfl) (by kernel_rfl) (by kernel_rfl) (fun _ _ _ h => h) (by rfl) ?_ (by assumption) ?_
  · intro w hSw; obtain ⟨sq0, sq1, sq2, sq3⟩ := hSw; go_simp
  try simp only [Act.put, List.setIfInBounds_toArray, List.set_cons_zero, List.set_cons_succ]
  refine takeYes (i := 5) (v := .int .i64 1) rfl (by kernel_rfl) (by kernel_rfl) (by kernel_rfl) (fun _ _ _ h => h) (by rfl) ?_ (by assumption) ?_
  · intro w hSw; obtain ⟨sq0, sq1, sq2, sq3⟩ := hSw; go_simp
  try simp only [Act.put, List.setIfInBounds_toArray, List.set_cons_zero, List.set_cons_succ]
  refine wpAnyH_ready (rs := [2]) (by kernel_rfl) (by simp) ?_
  refine AllReadyH.cons rfl (fun K hK => ?_) AllReadyH.nil
  go_simp
  ((with_reducible refine (rkids_any [61] _).mono ?_); rintro e0 wy ⟨rfl, rfl⟩)
  rw [hkf]
  go_wp2_with fail
  refine hK.out _ _ ?_ (fun hHeld => ?_)
  · assumption
  clear hK K
  try simp only [Act.put, List.setIfInBounds_toArray, List.set_cons_zero, List.set_cons_succ]
  refine takeYes (i := 6) (v := .bool false) rfl (by kernel_rfl) (by kernel_rfl) (by kernel_rfl) (fun _ _ _ h => h) (by rfl) ?_ (by assumption) ?_
  · intro w hSw; obtain ⟨sq0, sq1, sq2, sq3⟩ := hSw; go_simp
  try simp only [Act.put, List.setIfInBounds_toArray, List.set_cons_zero, List.set_cons_succ]
  refine wpAnyH_done (by kernel_rfl) ?_ _
  obtain ⟨W, hW⟩ : ∃ W, W = W0.drew := ⟨_, rfl⟩
  have HFR := hid (show RFree W g u1 u2 w.heap.size by rw [hW]; exact rfree_new hT hBd (Nat.le_refl _) hlt0)
  have HT := hid (show RTabAt W B g T L u1 u2 by rw [hW]; exact hT.below hBd)
  have HST := hid (show RStep g w u1 u2 W u1 u2 by rw [hW]; exact RStep.below hBd)
  have hbW : Below W0.heap.size W0 W := by rw [hW]; exact (Below.refl _ _).drew
  have c0 := bel_cell hbW c0
  have c1 := bel_cell hbW c1
  have c2 := bel_cell hbW c2
  have c3 := bel_cell hbW c3
  have HFx := hid (HST.out.free hPx)
  have HXx := hid (hrx.rstep HST.out)
  have qx0 := cell_rstep HST.out hPx qx0
  have qx1 := cell_rstep HST.out hPx qx1
  have qx2 := cell_rstep HST.out hPx qx2
  have qx3 := cell_rstep HST.out hPx qx3
  rw [← hW]
  clear hbW hW hB0 hBd hlt0 hT hS
  clear hrx hPx
  have HVAL : Hid (∀ T, valF (.mk [61] n nm (.cons x .nil)) T = thenV (valF x T) fun n T1 => storeV nm n T1) := hid (fun _ => rfl)
  go_wp2_with fail
  ((with_reducible refine (rsets_any [61] _).mono ?_); rintro e0 wy ⟨rfl, rfl⟩)
  rw [HSET.out]
  go_wp2_with fail
  ((with_reducible refine (HKx.out.call _ g B T L u1 u2 _ HXx.out HT.out HS.out (by have := HLEN.out; simp only [szF, szL] at *; omega) (by have := HLEN.out; simp only [szF, szL] at *; omega)).mono ?_); rintro e1 W1 ⟨x1, y1, L1, hL1, hst1, ht1, hres1⟩)
  obtain ⟨⟨r1, T1⟩, hv1⟩ : ∃ p, p = valF x T := ⟨_, rfl⟩
  rw [← hv1] at ht1 hres1
  dsimp only at ht1 hres1
  have HV1 := hid hv1.symm
  have haf1 := val_after HOx.out HS.out hv1.symm
  have HS1 := hid haf1.1
  have HTL1 := hid haf1.2.1
  have HR1 := hid haf1.2.2
  clear haf1
  have HT1 := hid ht1
  have HST1 := hid (HST.out.trans hst1)
  have HL1 := hid hL1
  have c0 := cell_rstep hst1 HFR.out c0
  have c1 := cell_rstep hst1 HFR.out c1
  have c2 := cell_rstep hst1 HFR.out c2
  have c3 := cell_rstep hst1 HFR.out c3
  have HFR := hid (hst1.free HFR.out)
  clear hst1 ht1 hL1 hv1
  cases r1 with
  | error er1 =>
    obtain ⟨h0, m, rfl⟩ := hres1
    have hne : (er1 != 0) = true := by simpa using h0
    have H0 := hid h0
    clear h0
    go_wp2_with fail
    go_ret2
    exact RValPost.bad (by have := HL1.out; have := HTL1.out; have := HLEN.out; simp only [szF, szL] at *; omega) HST1.out HT1.out (by rw [HVAL.out, HV1.out]; rfl) H0.out
  | ok a1 =>
    have HI1 := hid (HR1.out a1 rfl)
    obtain rfl := hres1
    go_wp2_with fail
    refine wp_region_held_drew (S := (fun w' => w'.cell? ⟨w.heap.size, 2, none⟩ = some (.string ⟨nm.toArray⟩))) (by kernel_rfl) c2 (fun hHeld => ?_)
    refine takeYes (i := 0) (v := .int .i64 a1) rfl (by kernel_rfl) (by kernel_rfl) (by kernel_rfl) (fun _ _ _ h => h) (by rfl) ?_ (by assumption) ?_
    · intro w hSw; have sq0 := hSw; go_simp
    try simp only [Act.put, List.setIfInBounds_toArray, List.set_cons_zero, List.set_cons_succ]
    refine takeYes (i := 1) (v := .pointer (some ⟨g, 0, none⟩)) rfl (by kernel_rfl) (by kernel_rfl) (by kernel_rfl) (fun _ _ _ h => h) (by rfl) ?_ (by assumption) ?_
    · intro w hSw; have sq0 := hSw; go_simp
    try simp only [Act.put, List.setIfInBounds_toArray, List.set_cons_zero, List.set_cons_succ]
    refine takeYes (i := 2) (v := .pointer (some ⟨w.heap.size, 2, none⟩)) rfl (by kernel_rfl) (by kernel_rfl) (by kernel_rfl) (fun _ _ _ h => h) (by rfl) ?_ (by assumption) ?_
    · intro w hSw; have sq0 := hSw; go_simp
    try simp only [Act.put, List.setIfInBounds_toArray, List.set_cons_zero, List.set_cons_succ]
    refine takeYes (i := 3) (v := .string ⟨nm.toArray⟩) rfl (by kernel_rfl) (by kernel_rfl) (by kernel_rfl) (fun _ _ _ h => h) (by rfl) ?_ (by assumption) ?_
    · intro w hSw; have sq0 := hSw; go_simp
    try simp only [Act.put, List.setIfInBounds_toArray, List.set_cons_zero, List.set_cons_succ]
    refine takeYes (i := 4) (v := .int .i64 a1) rfl (by kernel_rfl) (by kernel_rfl) (by kernel_rfl) (fun _ _ _ h => h) (by rfl) ?_ (by assumption) ?_
    · intro w hSw; have sq0 := hSw; go_simp
    try simp only [Act.put, List.setIfInBounds_toArray, List.set_cons_zero, List.set_cons_succ]
    refine wpAnyH_ready (rs := [5]) (by kernel_rfl) (by simp) ?_
    refine AllReadyH.cons rfl (fun K hK => ?_) AllReadyH.nil
    go_simp
    ((with_reducible refine (rtext_any a1 (I64.lo HI1.out) (I64.hi HI1.out) _).mono ?_); rintro e7 w7 ⟨rfl, hb7⟩)
    have hbT : Below W1.heap.size W1 w7 := ((Below.refl W1.heap.size W1).drew).trans hb7
    have HTt := hid (HT1.out.below hbT)
    have HSTt := hid (HST1.out.trans (RStep.below hbT))
    have HFt := hid ((RStep.below hbT : RStep g W1 x1 y1 w7 x1 y1).free HFR.out)
    have c2 := bel_cell hbT c2
    clear hb7 hbT
    go_wp2_with fail
    refine hK.out _ _ ?_ (fun hHeld => ?_)
    · exact c2
    clear hK K
    try simp only [Act.put, List.setIfInBounds_toArray, List.set_cons_zero, List.set_cons_succ]
    refine wpAnyH_ready (rs := [6]) (by kernel_rfl) (by simp) ?_
    refine AllReadyH.cons rfl (fun K hK => ?_) AllReadyH.nil
    go_simp
    ((with_reducible refine (rSet_any T1 L1 nm (Lib.itoa a1) g B x1 y1 _ HTt.out (by have := HL1.out; have := HTL1.out; have := HLEN.out; simp only [szF, szL] at *; omega) (by have := HL1.out; have := HTL1.out; have := HLEN.out; simp only [szF, szL] at *; omega)).mono ?_); rintro e8 w8 ⟨x8, y8, L8, rfl, hL8, hst8, ht8⟩)
    obtain ⟨pc, PT, hput⟩ : ∃ pc PT, putF T1 nm (Lib.itoa a1) = (pc, PT) := ⟨_, _, rfl⟩
    rw [hput] at ht8 ⊢
    dsimp only at ht8 ⊢
    have HPV : Hid (storeV nm a1 T1 = if pc = 0 then (.ok a1, PT) else (.error pc, PT)) := hid (by unfold storeV; rw [hput])
    have c2 := cell_rstep hst8 HFt.out c2
    have HT8 := hid ht8
    have HST8 := hid (HSTt.out.trans hst8)
    have HL8 := hid hL8
    clear hput hst8 ht8 hL8
    go_wp2_with fail
    refine hK.out _ _ ?_ (fun hHeld => ?_)
    · exact c2
    clear hK K
    try simp only [Act.put, List.setIfInBounds_toArray, List.set_cons_zero, List.set_cons_succ]
    refine takeYes (i := 7) (v := .int .i64 a1) rfl (by kernel_rfl) (by kernel_rfl) (by kernel_rfl) (fun _ _ _ h => h) (by rfl) ?_ (by assumption) ?_
    · intro w hSw; have sq0 := hSw; go_simp
    try simp only [Act.put, List.setIfInBounds_toArray, List.set_cons_zero, List.set_cons_succ]
    refine takeYes (i := 8) (v := .int .i64 pc) rfl (by kernel_rfl) (by kernel_rfl) (by kernel_rfl) (fun _ _ _ h => h) (by rfl) ?_ (by assumption) ?_
    · intro w hSw; have sq0 := hSw; go_simp
    try simp only [Act.put, List.setIfInBounds_toArray, List.set_cons_zero, List.set_cons_succ]
    refine wpAnyH_done (by kernel_rfl) ?_ _
    go_wp2_with fail
    go_ret2
    by_cases hpc : pc = 0
    · subst hpc
      exact RValPost.good (by have := HL1.out; have := HTL1.out; have := HL8.out; have := HLEN.out; simp only [szF, szL] at *; omega) HST8.out HT8.out (n := a1) (by rw [HVAL.out, HV1.out, thenV_ok]; rw [HPV.out, if_pos rfl]) rfl
    · exact RValPost.bad (by have := HL1.out; have := HTL1.out; have := HL8.out; have := HLEN.out; simp only [szF, szL] at *; omega) HST8.out HT8.out (by rw [HVAL.out, HV1.out, thenV_ok]; rw [HPV.out, if_neg hpc]) hpc
end Go.Proofs.YtadmmmehphhecaaGreatDoor
/- The walk of the reference's value: a part (printed by genVc.py). -/
namespace Go.Proofs.YtadmmmehphhecaaGreatDoor
open Go.RowKit
set_option maxRecDepth 100000 in
set_option maxHeartbeats 8000000 in
theorem rv_set_op (op : List UInt8) (n : Int) (nm : List UInt8) (x : Ex) (hop : setF op = true) (hne : op ≠ [61]) (hol : op.length ≤ 4) (ho : okF (.mk op n nm (.cons x .nil)) = true) (hxx : RValC x) : RValC (.mk op n nm (.cons x .nil)) := by
  have HSET : Hid (setF op = true) := hid hop
  have hkids0 : kidsF op = 1 := setF_kids hop
  have HVAL : Hid (∀ T, valF (.mk op n nm (.cons x .nil)) T = match nameV T nm with | .error e => (.error e, T) | .ok a => thenV (valF x T) fun b T1 => match twoV op.dropLast a b with | .error e => (.error e, T1) | .ok n => storeV nm n T1) := hid (fun T => by show combV op n nm _ T = _; unfold combV; rw [if_neg (by rw [setF_kids hop]; simp [valL]), if_pos hop]; unfold setV; rw [if_neg hne]; rfl)
  have HBIN := hid (set_bin hop hne)
  have b0 : (op == [61]) = false := by simpa using hne
  have b1 : (op != [61]) = true := by simpa using hne
  have b2 : (op == [110, 117, 109]) = false := by cases h9 : op == [110, 117, 109] with | false => rfl | true => (simp at h9; subst h9; revert hop; decide)
  have b3 : (op == [110, 97, 109, 101]) = false := by cases h9 : op == [110, 97, 109, 101] with | false => rfl | true => (simp at h9; subst h9; revert hop; decide)
  have h0l : 0 < op.length := by cases op with | nil => revert hop; decide | cons => simp
  have hdl : (⟨op.toArray⟩ : ByteArray).extract 0 (op.length - 1) = ⟨op.dropLast.toArray⟩ := by apply ByteArray.ext; simp [List.dropLast_eq_take]
  have hw1 : IntKind.i64.wrap ((op.length : Int) - 1) = (op.length : Int) - 1 := IntWalk.i64_in _ (by omega)
  clear hne
  have hok := ho
  simp only [okF, okL, Bool.and_eq_true, Bool.and_true] at hok
  have HOx := hid hok.2
  clear hok
  have hkf : kidsF op = 1 := hkids0
  intro w g B T L u1 u2 v hr hT hS hl hlL
  obtain ⟨A, cap, rfl, hcap, hkids⟩ := hr.form
  have HLEN : Hid (T.length + szF (.mk op n nm (.cons x .nil)) ≤ 100000 ∧ L.length + szF (.mk op n nm (.cons x .nil)) ≤ 100000) := hid ⟨hl, hlL⟩
  clear hl hlL
  dsimp only [Ex.op, Ex.num, Ex.name, Ex.kids, Exs.len, Nat.zero_add, Nat.reduceAdd] at *
  obtain ⟨b, off, rfl⟩ := hkids.form_ (by simp [Exs.len])
  obtain ⟨Ax, capx, hPx, qx0, qx1, qx2, qx3, hrx, hkids⟩ := hkids.un
  clear hkids
  have HKx := hid hxx
  have HS := hid hS
  clear hxx
  have kB := Bk.new w 37 #[.string ⟨op.toArray⟩, .int .i64 n, .string ⟨nm.toArray⟩, .slice (some ⟨b, off, none⟩) 1 cap]
  have hB0 : Below w.heap.size w (w.alloc (.cells #[.string ⟨op.toArray⟩, .int .i64 n, .string ⟨nm.toArray⟩, .slice (some ⟨b, off, none⟩) 1 cap] 37)) := (Below.refl _ _).alloc (Nat.le_refl _) _
  go_enter Tryz.func38, Tryz.ntmps38
  go_wp2_with fail
  obtain ⟨W0, hW0⟩ : ∃ W0, W0 = w.alloc (.cells #[.string ⟨op.toArray⟩, .int .i64 n, .string ⟨nm.toArray⟩, .slice (some ⟨b, off, none⟩) 1 cap] 37) := ⟨_, rfl⟩
  rw [← hW0] at kB hB0
  rw [← hW0]
  clear hW0
  have hBd := hB0.drew
  have hlt0 := kB.lt
  obtain ⟨c0, c1, c2, c3⟩ := kB.cells4
  clear kB
  refine wp_region_held_drew (S := (fun w' => w'.cell? ⟨w.heap.size, 0, none⟩ = some (.string ⟨op.toArray⟩) ∧ w'.cell? ⟨w.heap.size, 1, none⟩ = some (.int .i64 n) ∧ w'.cell? ⟨w.heap.size, 2, none⟩ = some (.string ⟨nm.toArray⟩) ∧ w'.cell? ⟨w.heap.size, 3, none⟩ = some (.slice (some ⟨b, off, none⟩) 1 cap))) (by kernel_rfl) ⟨c0, c1, c2, c3⟩ (fun hHeld => ?_)
  refine takeYes (i := 0) (v := .pointer (some ⟨w.heap.size, 0, none⟩)) rfl (by kernel_rfl) (by kernel_rfl) (by kernel_rfl) (fun _ _ _ h => h) (by rfl) ?_ (by assumption) ?_
  · intro w hSw; obtain ⟨sq0, sq1, sq2, sq3⟩ := hSw; go_simp
  try simp only [Act.put, List.setIfInBounds_toArray, List.set_cons_zero, List.set_cons_succ]
  refine takeYes (i := 1) (v := .string ⟨op.toArray⟩) rfl (by kernel_rfl) (by kernel_rfl) (by kernel_rfl) (fun _ _ _ h => h) (by rfl) ?_ (by assumption) ?_
  · intro w hSw; obtain ⟨sq0, sq1, sq2, sq3⟩ := hSw; go_simp
  try simp only [Act.put, List.setIfInBounds_toArray, List.set_cons_zero, List.set_cons_succ]
  refine takeYes (i := 3) (v := .pointer (some ⟨w.heap.size, 3, none⟩)) rfl (by kernel_rfl) (by kernel_rfl) (by kernel_rfl) (fun _ _ _ h => h) (by rfl) ?_ (by assumption) ?_
  · intro w hSw; obtain ⟨sq0, sq1, sq2, sq3⟩ := hSw; go_simp
  try simp only [Act.put, List.setIfInBounds_toArray, List.set_cons_zero, List.set_cons_succ]
  refine takeYes (i := 4) (v := .slice (some ⟨b, off, none⟩) 1 cap) rfl (by kernel_rfl) (by kernel_rfl) (by kernel_rfl) (fun _ _ _ h => h) (by rfl) ?_ (by assumption) ?_
  · intro w hSw; obtain ⟨sq0, sq1, sq2, sq3⟩ := hSw; go_simp
  try simp only [Act.put, List.setIfInBounds_toArray, List.set_cons_zero, List.set_cons_succ]
  refine takeYes (i := 5) (v := .int .i64 1) rfl (by kernel_rfl) (by kernel_rfl) (by kernel_rfl) (fun _ _ _ h => h) (by rfl) ?_ (by assumption) ?_
  · intro w hSw; obtain ⟨sq0, sq1, sq2, sq3⟩ := hSw; go_simp
  try simp only [Act.put, List.setIfInBounds_toArray, List.set_cons_zero, List.set_cons_succ]
  refine wpAnyH_ready (rs := [2]) (by kernel_rfl) (by simp) ?_
  refine AllReadyH.cons rfl (fun K hK => ?_) AllReadyH.nil
  go_simp
  ((with_reducible refine (rkids_any op _).mono ?_); rintro e0 wy ⟨rfl, rfl⟩)
  rw [hkf]
  go_wp2_with fail
  refine hK.out _ _ ?_ (fun hHeld => ?_)
  · assumption
  clear hK K
  try simp only [Act.put, List.setIfInBounds_toArray, List.set_cons_zero, List.set_cons_succ]
  refine takeYes (i := 6) (v := .bool false) rfl (by kernel_rfl) (by kernel_rfl) (by kernel_rfl) (fun _ _ _ h => h) (by rfl) ?_ (by assumption) ?_
  · intro w hSw; obtain ⟨sq0, sq1, sq2, sq3⟩ := hSw; go_simp
  try simp only [Act.put, List.setIfInBounds_toArray, List.set_cons_zero, List.set_cons_succ]
  refine wpAnyH_done (by kernel_rfl) ?_ _
  obtain ⟨W, hW⟩ : ∃ W, W = W0.drew := ⟨_, rfl⟩
  have HFR := hid (show RFree W g u1 u2 w.heap.size by rw [hW]; exact rfree_new hT hBd (Nat.le_refl _) hlt0)
  have HT := hid (show RTabAt W B g T L u1 u2 by rw [hW]; exact hT.below hBd)
  have HST := hid (show RStep g w u1 u2 W u1 u2 by rw [hW]; exact RStep.below hBd)
  have hbW : Below W0.heap.size W0 W := by rw [hW]; exact (Below.refl _ _).drew
  have c0 := bel_cell hbW c0
  have c1 := bel_cell hbW c1
  have c2 := bel_cell hbW c2
  have c3 := bel_cell hbW c3
  have HFx := hid (HST.out.free hPx)
  have HXx := hid (hrx.rstep HST.out)
  have qx0 := cell_rstep HST.out hPx qx0
  have qx1 := cell_rstep HST.out hPx qx1
  have qx2 := cell_rstep HST.out hPx qx2
  have qx3 := cell_rstep HST.out hPx qx3
  rw [← hW]
  clear hbW hW hB0 hBd hlt0 hT hS
  clear hrx hPx
  go_wp2_with fail
  ((with_reducible refine (rsets_any op _).mono ?_); rintro e0 wy ⟨rfl, rfl⟩)
  rw [HSET.out]
  have hsh := getF_short T nm HS.out
  have hl6 : T.length ≤ 1000000 := by have := HLEN.out; omega
  go_wp2_with fail
  ((with_reducible refine (rtnum_any T L nm g B u1 u2 _ HT.out hl6 hsh).mono ?_); rintro e9 w9 ⟨rfl, rfl⟩)
  obtain ⟨⟨p1, p2⟩, hp⟩ : ∃ p, p = numberF (Lib.trimS (getF T nm).1 blks) := ⟨_, rfl⟩
  have HNV : Hid (nameV T nm = if p2 = 0 then .ok p1 else .error p2) := hid (by unfold nameV; rw [← hp])
  have HPI : Hid (I64 p1) := hid (by have := number_rng (Lib.trimS (getF T nm).1 blks); rw [← hp] at this; exact this)
  rw [← hp]
  clear hp
  dsimp only [numV]
  by_cases h0 : p2 = 0
  · subst h0
    have HNV := hid (show nameV T nm = .ok p1 by have h9 := HNV.out; simpa using h9)
    go_wp2_with fail
    ((with_reducible refine (HKx.out.call _ g B T L u1 u2 _ HXx.out HT.out HS.out (by have := HLEN.out; simp only [szF, szL] at *; omega) (by have := HLEN.out; simp only [szF, szL] at *; omega)).mono ?_); rintro e1 W1 ⟨x1, y1, L1, hL1, hst1, ht1, hres1⟩)
    obtain ⟨⟨r1, T1⟩, hv1⟩ : ∃ p, p = valF x T := ⟨_, rfl⟩
    rw [← hv1] at ht1 hres1
    dsimp only at ht1 hres1
    have HV1 := hid hv1.symm
    have haf1 := val_after HOx.out HS.out hv1.symm
    have HS1 := hid haf1.1
    have HTL1 := hid haf1.2.1
    have HR1 := hid haf1.2.2
    clear haf1
    have HT1 := hid ht1
    have HST1 := hid (HST.out.trans hst1)
    have HL1 := hid hL1
    have c0 := cell_rstep hst1 HFR.out c0
    have c1 := cell_rstep hst1 HFR.out c1
    have c2 := cell_rstep hst1 HFR.out c2
    have c3 := cell_rstep hst1 HFR.out c3
    have HFR := hid (hst1.free HFR.out)
    clear hst1 ht1 hL1 hv1
    cases r1 with
    | error er1 =>
      obtain ⟨h0, m, rfl⟩ := hres1
      have hne : (er1 != 0) = true := by simpa using h0
      have H0 := hid h0
      clear h0
      go_wp2_with fail
      go_ret2
      exact RValPost.bad (by have := HL1.out; have := HTL1.out; have := HLEN.out; simp only [szF, szL] at *; omega) HST1.out HT1.out (by rw [HVAL.out, HNV.out]; show thenV (valF x T) _ = _; rw [HV1.out]; rfl) H0.out
    | ok a1 =>
      have HI1 := hid (HR1.out a1 rfl)
      obtain rfl := hres1
      go_wp2_with fail
      ((with_reducible refine (rtwo_any op.dropLast p1 a1 _ HBIN.out HPI.out).mono ?_); rintro e3 w3 ⟨rfl, hm⟩)
      cases htw : twoV op.dropLast p1 a1 with
      | error er =>
        rw [htw] at hm
        dsimp only at hm
        subst hm
        have HTW := hid htw
        clear htw
        have hne3 : (er != 0) = true := by simpa using twoV_err HTW.out
        go_wp2_with fail
        go_ret2
        exact RValPost.bad (by have := HL1.out; have := HTL1.out; have := HLEN.out; simp only [szF, szL] at *; omega) HST1.out HT1.out (by rw [HVAL.out, HNV.out]; show thenV (valF x T) _ = _; rw [HV1.out, thenV_ok, HTW.out]) (twoV_err HTW.out)
      | ok m =>
        rw [htw] at hm
        dsimp only at hm
        subst hm
        have HTW := hid htw
        have HIM := hid (two_rng HPI.out HI1.out htw)
        clear htw
        go_wp2_with fail
        refine wp_region_held_drew (S := (fun w' => w'.cell? ⟨w.heap.size, 2, none⟩ = some (.string ⟨nm.toArray⟩))) (by kernel_rfl) c2 (fun hHeld => ?_)
        refine takeYes (i := 0) (v := .int .i64 m) rfl (by kernel_rfl) (by kernel_rfl) (by kernel_rfl) (fun _ _ _ h => h) (by rfl) ?_ (by assumption) ?_
        · intro w hSw; have sq0 := hSw; go_simp
        try simp only [Act.put, List.setIfInBounds_toArray, List.set_cons_zero, List.set_cons_succ]
        refine takeYes (i := 1) (v := .pointer (some ⟨g, 0, none⟩)) rfl (by kernel_rfl) (by kernel_rfl) (by kernel_rfl) (fun _ _ _ h => h) (by rfl) ?_ (by assumption) ?_
        · intro w hSw; have sq0 := hSw; go_simp
        try simp only [Act.put, List.setIfInBounds_toArray, List.set_cons_zero, List.set_cons_succ]
        refine takeYes (i := 2) (v := .pointer (some ⟨w.heap.size, 2, none⟩)) rfl (by kernel_rfl) (by kernel_rfl) (by kernel_rfl) (fun _ _ _ h => h) (by rfl) ?_ (by assumption) ?_
        · intro w hSw; have sq0 := hSw; go_simp
        try simp only [Act.put, List.setIfInBounds_toArray, List.set_cons_zero, List.set_cons_succ]
        refine takeYes (i := 3) (v := .string ⟨nm.toArray⟩) rfl (by kernel_rfl) (by kernel_rfl) (by kernel_rfl) (fun _ _ _ h => h) (by rfl) ?_ (by assumption) ?_
        · intro w hSw; have sq0 := hSw; go_simp
        try simp only [Act.put, List.setIfInBounds_toArray, List.set_cons_zero, List.set_cons_succ]
        refine takeYes (i := 4) (v := .int .i64 m) rfl (by kernel_rfl) (by kernel_rfl) (by kernel_rfl) (fun _ _ _ h => h) (by rfl) ?_ (by assumption) ?_
        · intro w hSw; have sq0 := hSw; go_simp
        try simp only [Act.put, List.setIfInBounds_toArray, List.set_cons_zero, List.set_cons_succ]
        refine wpAnyH_ready (rs := [5]) (by kernel_rfl) (by simp) ?_
        refine AllReadyH.cons rfl (fun K hK => ?_) AllReadyH.nil
        go_simp
        ((with_reducible refine (rtext_any m (I64.lo HIM.out) (I64.hi HIM.out) _).mono ?_); rintro e7 w7 ⟨rfl, hb7⟩)
        have hbT : Below W1.heap.size W1 w7 := ((Below.refl W1.heap.size W1).drew).trans hb7
        have HTt := hid (HT1.out.below hbT)
        have HSTt := hid (HST1.out.trans (RStep.below hbT))
        have HFt := hid ((RStep.below hbT : RStep g W1 x1 y1 w7 x1 y1).free HFR.out)
        have c2 := bel_cell hbT c2
        clear hb7 hbT
        go_wp2_with fail
        refine hK.out _ _ ?_ (fun hHeld => ?_)
        · exact c2
        clear hK K
        try simp only [Act.put, List.setIfInBounds_toArray, List.set_cons_zero, List.set_cons_succ]
        refine wpAnyH_ready (rs := [6]) (by kernel_rfl) (by simp) ?_
        refine AllReadyH.cons rfl (fun K hK => ?_) AllReadyH.nil
        go_simp
        ((with_reducible refine (rSet_any T1 L1 nm (Lib.itoa m) g B x1 y1 _ HTt.out (by have := HL1.out; have := HTL1.out; have := HLEN.out; simp only [szF, szL] at *; omega) (by have := HL1.out; have := HTL1.out; have := HLEN.out; simp only [szF, szL] at *; omega)).mono ?_); rintro e8 w8 ⟨x8, y8, L8, rfl, hL8, hst8, ht8⟩)
        obtain ⟨pc, PT, hput⟩ : ∃ pc PT, putF T1 nm (Lib.itoa m) = (pc, PT) := ⟨_, _, rfl⟩
        rw [hput] at ht8 ⊢
        dsimp only at ht8 ⊢
        have HPV : Hid (storeV nm m T1 = if pc = 0 then (.ok m, PT) else (.error pc, PT)) := hid (by unfold storeV; rw [hput])
        have c2 := cell_rstep hst8 HFt.out c2
        have HT8 := hid ht8
        have HST8 := hid (HSTt.out.trans hst8)
        have HL8 := hid hL8
        clear hput hst8 ht8 hL8
        go_wp2_with fail
        refine hK.out _ _ ?_ (fun hHeld => ?_)
        · exact c2
        clear hK K
        try simp only [Act.put, List.setIfInBounds_toArray, List.set_cons_zero, List.set_cons_succ]
        refine takeYes (i := 7) (v := .int .i64 m) rfl (by kernel_rfl) (by kernel_rfl) (by kernel_rfl) (fun _ _ _ h => h) (by rfl) ?_ (by assumption) ?_
        · intro w hSw; have sq0 := hSw; go_simp
        try simp only [Act.put, List.setIfInBounds_toArray, List.set_cons_zero, List.set_cons_succ]
        refine takeYes (i := 8) (v := .int .i64 pc) rfl (by kernel_rfl) (by kernel_rfl) (by kernel_rfl) (fun _ _ _ h => h) (by rfl) ?_ (by assumption) ?_
        · intro w hSw; have sq0 := hSw; go_simp
        try simp only [Act.put, List.setIfInBounds_toArray, List.set_cons_zero, List.set_cons_succ]
        refine wpAnyH_done (by kernel_rfl) ?_ _
        go_wp2_with fail
        go_ret2
        by_cases hpc : pc = 0
        · subst hpc
          exact RValPost.good (by have := HL1.out; have := HTL1.out; have := HL8.out; have := HLEN.out; simp only [szF, szL] at *; omega) HST8.out HT8.out (n := m) (by rw [HVAL.out, HNV.out]; show thenV (valF x T) _ = _; rw [HV1.out, thenV_ok, HTW.out]; show storeV nm m T1 = _; rw [HPV.out, if_pos rfl]) rfl
        · exact RValPost.bad (by have := HL1.out; have := HTL1.out; have := HL8.out; have := HLEN.out; simp only [szF, szL] at *; omega) HST8.out HT8.out (by rw [HVAL.out, HNV.out]; show thenV (valF x T) _ = _; rw [HV1.out, thenV_ok, HTW.out]; show storeV nm m T1 = _; rw [HPV.out, if_neg hpc]) hpc
  · have hne2 : (p2 != 0) = true := by simpa using h0
    have H0 := hid h0
    clear h0
    go_wp2_with fail
    go_ret2
    exact RValPost.bad (by omega) HST.out HT.out (by rw [HVAL.out, HNV.out, if_neg H0.out]) H0.out
end Go.Proofs.YtadmmmehphhecaaGreatDoor
