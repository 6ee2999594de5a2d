/- The walks of globs.thing and globs.group, for texts of up to a hundred thousand bytes. -/
import Derived.Test.YthnmdhcgnimdfaaDoorG2
import Derived.WalkSpells
set_option linter.unusedVariables false
set_option linter.unusedSimpArgs false
namespace Go.Proofs.YthnmdhcgnimdfaaDoor
open Go.RowKit
attribute [local go_sem ↓] Go.wp_at_zero Go.wp_at_succ
def ThingPost (c : Ch) (r : List Ch) (w : World) (e : Ending) (w' : World) : Prop :=
  Below w.heap.size w w' ∧ ((thingB c r = none ∧ e = .returned (.tuple #[.slice none 0 0, .int .i64 0])) ∨
   ∃ l k u, thingB c r = some (l, k) ∧ e = .returned (.tuple #[u, .int .i64 (k : Nat)]) ∧ Rd w' u l.length (rgs l))
theorem thing_cases (c : Ch) (r : List Ch) (h : namedB (c :: r) = none) :
    ((r.length ≤ 1 ∨ (2 ≤ r.length ∧ bareB r [45] = false) ∨ (2 ≤ r.length ∧ bareB r [45] = true ∧ bareB (r.drop 1) [93] = true)) ∧ thingB c r = some (rangeL c.1 c.1, 1)) ∨
    ∃ e : Ch, r[1]? = some e ∧ 2 ≤ r.length ∧ bareB r [45] = true ∧ bareB (r.drop 1) [93] = false ∧ thingB c r = some (rangeL c.1 e.1, 3) := by
  match r with
  | [] => left; exact ⟨.inl (by simp), by simp [thingB, h]⟩
  | [d] => left; exact ⟨.inl (by simp), by simp [thingB, h]⟩
  | d :: e :: q =>
    rw [bareB_one, bareB_one]
    by_cases h1 : d = (45, false)
    · by_cases h2 : e = (93, false)
      · left; exact ⟨.inr (.inr ⟨by simp, by simp [h1], by simp [h2]⟩), by rw [thingB, h]; simp [h2]⟩
      · right; exact ⟨e, by simp, by simp, by simp [h1], by simp [h2], by rw [thingB, h]; simp [h1, h2]⟩
    · left; exact ⟨.inr (.inl ⟨by simp, by simp [h1]⟩), by rw [thingB, h]; simp [h1]⟩
set_option maxRecDepth 100000 in
set_option maxHeartbeats 3000000 in
theorem thing_any (v : Value) (c : Ch) (r : List Ch) (w : World) (h : Rd w v (r.length + 1) (chs (c :: r))) (hl : r.length ≤ 999999) :
    Calls Tryd.prog 55 #[v, .bool false] w (ThingPost c r w) := by
  have HR := hid h
  obtain ⟨b, off, cap, rfl, hcap, hat⟩ := h.form (by simp [chs])
  clear h
  obtain ⟨c1, c2⟩ := (show At w b off (chs (c :: r)) from hat).ch 0 (by simp)
  simp only [Nat.zero_mul, Nat.add_zero, List.getElem_cons_zero] at c1 c2
  go_enter Tryd.func55, Tryd.ntmps55
  go_wp2_with fail
  ((with_reducible refine (named_any _ (c :: r) _ HR.out (by simp; omega)).mono ?_); rintro e w1 ⟨hb1, hnm⟩)
  rcases hnm with ⟨hnone, rfl⟩ | ⟨nm, nn, hsome, rfl⟩
  · have hA1 := (show At w b off (chs (c :: r)) from hat).below hb1
    have hc1 := bel_cell hb1 c1
    have hc2 := bel_cell hb1 c2
    have HC := hid ((hA1.chs_drop 1).rd (n := r.length) (cap := cap - 1) (by omega))
    have HC2 := hid ((hA1.chs_drop 2).rd (n := r.length - 1) (cap := cap - 2) (by omega))
    have hA2 := hA1.chs_drop 2
    have HE := hid hA2
    simp only [List.drop_succ_cons, List.drop_zero, Nat.one_mul] at HC HC2
    rcases thing_cases c r hnone with ⟨hsh, hth⟩ | ⟨e, he, h2r, hy1, hy2, hth⟩
    · have hrl : rangeL c.1 c.1 = [(c.1, c.1)] := by simp [rangeL]
      rw [hrl] at hth
      have hfin : ∀ w2, Below w1.heap.size w1 w2 → ThingPost c r w (.returned (.tuple #[.slice (some ⟨w2.heap.size, 0, none⟩) 1 1, .int .i64 1])) (w2.alloc (.cells #[.int .u8 (c.1.toNat : Int), .int .u8 (c.1.toNat : Int)] 121)) := fun w2 hb2 => by
        have hb := hb1.trans (hb2.mono hb1.size)
        refine ⟨hb.alloc hb.size _, .inr ⟨_, _, _, hth, rfl, _, 1, rfl, Nat.le_refl _, .inr ⟨_, _, rfl, ?_⟩⟩⟩
        exact At.new w2 _ _
      have HF := hid hfin
      clear hfin hat c1 c2 hnone hA1 hA2
      rcases hsh with hs | ⟨h2r, hno⟩ | ⟨h2r, hy1, hy2⟩
      · have hd : decide ((2 : Int) < (r.length : Int) + 1) = false := by simp; omega
        go_wp2_with fail
        go_ret2
        exact HF.out _ (Below.refl _ _)
      · have hd : decide ((2 : Int) < (r.length : Int) + 1) = true := by simp; omega
        have HN := hid hno
        clear hno
        go_wp2_with fail
        ((with_reducible refine (bare_any _ r ⟨#[45]⟩ _ HC.out (by omega) (by decide)).mono ?_); rintro e w2 ⟨rfl, hb2⟩)
        rw [HN.out]
        have hc1 := bel_cell hb2 hc1
        go_wp2_with fail
        go_ret2
        exact HF.out _ hb2
      · have hd : decide ((2 : Int) < (r.length : Int) + 1) = true := by simp; omega
        have HN1 := hid hy1
        have HN2 := hid hy2
        clear hy1 hy2
        go_wp2_with fail
        ((with_reducible refine (bare_any _ r ⟨#[45]⟩ _ HC.out (by omega) (by decide)).mono ?_); rintro e w2 ⟨rfl, hb2⟩)
        rw [HN1.out]
        have hc1 := bel_cell hb2 hc1
        go_wp2_with fail
        ((with_reducible refine (bare_any _ (r.drop 1) ⟨#[93]⟩ _ (by rw [List.length_drop]; exact HC2.out.below hb2) (by simp; omega) (by decide)).mono ?_); rintro e w3 ⟨rfl, hb3⟩)
        rw [HN2.out]
        have hc1 := bel_cell hb3 hc1
        go_wp2_with fail
        go_ret2
        exact HF.out _ (hb2.trans (hb3.mono hb2.size))
    · have hd : decide ((2 : Int) < (r.length : Int) + 1) = true := by simp; omega
      have hec : w1.cell? ⟨b, off + 4, none⟩ = some (.int .u8 (e.1.toNat : Int)) := by
        have h0 : (r.drop 1)[0]? = some e := by rw [List.getElem?_drop]; exact he
        obtain ⟨hlt, h0'⟩ := List.getElem?_eq_some_iff.1 h0
        have := (hA2.ch 0 (by simpa using hlt)).1
        rw [show ((c :: r).drop 2)[0]'(by simpa using hlt) = e from h0'] at this
        simpa using this
      have HN1 := hid hy1
      have HN2 := hid hy2
      have HTH := hid hth
      clear hy1 hy2 hat c1 c2 hnone hA1 hA2 he hth
      by_cases hgt : e.1.toNat < c.1.toNat
      all_goals
        go_wp2_with fail
        ((with_reducible refine (bare_any _ r ⟨#[45]⟩ _ HC.out (by omega) (by decide)).mono ?_); rintro e w2 ⟨rfl, hb2⟩)
        rw [HN1.out]
        have hc1 := bel_cell hb2 hc1
        have hec := bel_cell hb2 hec
        go_wp2_with fail
        ((with_reducible refine (bare_any _ (r.drop 1) ⟨#[93]⟩ _ (by rw [List.length_drop]; exact HC2.out.below hb2) (by simp; omega) (by decide)).mono ?_); rintro e w3 ⟨rfl, hb3⟩)
        rw [HN2.out]
        have hc1 := bel_cell hb3 hc1
        have hec := bel_cell hb3 hec
        have hB3 := (hb1.trans (hb2.mono hb1.size)).trans (hb3.mono (hb1.trans (hb2.mono hb1.size)).size)
        go_wp2_with fail
        go_quiet (fail)
        have hB4 := below_drewN hB3 nq
        clear hb1 hb2 hb3 hB3 hc1 hec
        go_wp2_with fail
        go_ret2
      · refine ⟨hB4, .inr ⟨_, _, _, HTH.out, rfl, ?_⟩⟩
        rw [rangeL, if_neg (by omega)]
        exact Rd.nil _
      · refine ⟨hB4.alloc hB4.size _, .inr ⟨_, _, _, HTH.out, rfl, ?_⟩⟩
        rw [rangeL, if_pos (by omega)]
        exact (At.new _ _ _).rd (Nat.le_refl _)
  · have HS := hid hsome
    clear hsome hat c1 c2
    go_wp2_with fail
    ((with_reducible refine (class_any nm _).mono ?_); rintro e w2 hcl)
    have hnl := fun (w : World) (a : Option Addr) (n c : Nat) => Lib.run_eql_slice_nil (P := Tryd.prog) w 67 121 a n c 0 0 Tryd.underlying67
    rcases hcl with ⟨hnil, rfl, rfl⟩ | ⟨hne, g, rfl, hat2, hb2⟩
    · go_wp2_with fail
      go_ret2
      exact ⟨hb1, .inl ⟨by simp [thingB, HS.out, hnil], rfl⟩⟩
    · have hth : thingB c r = some (classL nm, nn) := by simp [thingB, HS.out, hne]
      have HF := hid hth
      clear hth hne
      have hrd := hat2.rd (Nat.le_refl (classL nm).length)
      clear hat2
      generalize classL nm = cl at *
      go_wp2_with fail
      go_ret2
      exact ⟨hb1.trans (hb2.mono hb1.size), .inr ⟨_, _, _, HF.out, rfl, hrd⟩⟩
end Go.Proofs.YthnmdhcgnimdfaaDoor
