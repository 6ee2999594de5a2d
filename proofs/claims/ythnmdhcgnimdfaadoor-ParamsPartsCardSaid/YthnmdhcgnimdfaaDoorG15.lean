/- The walk of marks.Part, and what the parts of joined texts are. -/
import Derived.Test.YthnmdhcgnimdfaaDoorG14
import Derived.Deep.LoopGhost
set_option linter.unusedVariables false
set_option linter.unusedSimpArgs false
namespace Go.Proofs.YthnmdhcgnimdfaaDoor
open Go.RowKit
attribute [local go_sem ↓] Go.wp_at_zero Go.wp_at_succ
theorem Tryd.info22 : (Tryd.prog.info? 22).map (fun i => (i.zero, i.size, i.bytes)) = some (some (.slice none 0 0), 1, 24) := by kernel_rfl
/-- what stands between bare bytes -/
def partL (b : UInt8) : List Ch → List (List Ch)
  | [] => [[]]
  | c :: r => if c = (b, false) then [] :: partL b r else match partL b r with
    | [] => [[c]]
    | p :: ps => (c :: p) :: ps
theorem partL_ne (b : UInt8) (t : List Ch) : partL b t ≠ [] := by
  cases t with
  | nil => simp [partL]
  | cons c r => unfold partL; split; simp; split <;> simp
theorem partL_clean (b : UInt8) (p t : List Ch) (h : ∀ c ∈ p, c ≠ (b, false)) : partL b (p ++ (b, false) :: t) = p :: partL b t := by
  induction p with
  | nil => simp [partL]
  | cons c r ih =>
    have hc := h c (by simp)
    rw [List.cons_append, partL, if_neg hc, ih fun x hx => h x (by simp [hx])]
theorem partL_last (b : UInt8) (p : List Ch) (h : ∀ c ∈ p, c ≠ (b, false)) : partL b p = [p] := by
  induction p with
  | nil => rfl
  | cons c r ih =>
    have hc := h c (by simp)
    rw [partL, if_neg hc, ih fun x hx => h x (by simp [hx])]
theorem find_parts (b : UInt8) (t : List Ch) : (findL t b = -1 ∧ partL b t = [t]) ∨ ∃ i : Nat, i < t.length ∧ findL t b = i ∧ partL b t = t.take i :: partL b (t.drop (i + 1)) := by
  unfold findL
  cases h : t.findIdx? (· == (b, false)) with
  | none =>
    left
    rw [List.findIdx?_eq_none_iff] at h
    exact ⟨rfl, partL_last b t fun c hc => by simpa using h c hc⟩
  | some i =>
    right
    rw [List.findIdx?_eq_some_iff_getElem] at h
    obtain ⟨hi, he, hb⟩ := h
    refine ⟨i, hi, rfl, ?_⟩
    have e : t = t.take i ++ (b, false) :: t.drop (i + 1) := by
      have h1 : t[i] = (b, false) := by simpa using he
      rw [← h1, ← List.drop_eq_getElem_cons hi, List.take_append_drop]
    conv => lhs; rw [e]
    rw [partL_clean]
    intro c hc
    obtain ⟨j, hj, rfl⟩ := List.mem_iff_getElem.1 hc
    have hj2 : j < i := by rw [List.length_take] at hj; omega
    have := hb j hj2
    rw [List.getElem_take]
    simpa using this
theorem partL_len (b : UInt8) (t : List Ch) : (partL b t).length ≤ t.length + 1 := by
  induction t with
  | nil => simp [partL]
  | cons c r ih =>
    unfold partL
    split
    · simp; omega
    · split
      · simp
      · rename_i p ps h; rw [h] at ih; simp at ih ⊢; omega
/-- rows of marked bytes -/
def RdR (w : World) (v : Value) (ll : List (List Ch)) : Prop :=
  ∃ vs : List Value, vs.length = ll.length ∧ Rd w v vs.length vs ∧ ∀ (i : Nat) (u : Value) (l : List Ch), vs[i]? = some u → ll[i]? = some l → Rd w u l.length (chs l)
theorem RdR.below {w w' : World} {v : Value} {ll} (h : RdR w v ll) (hb : Below w.heap.size w w') : RdR w' v ll := by
  obtain ⟨vs, h1, h2, h3⟩ := h
  exact ⟨vs, h1, h2.below hb, fun i u l a b => (h3 i u l a b).below hb⟩
/-- how far Part has come -/
structure PInv (B : Nat) (w : World) (b : UInt8) (t t' : List Ch) (done : List (List Ch)) (vs : List Value) (vt vo : Value) (wr : World) : Prop where
  rd : Rd w vt t'.length (chs t')
  ln : vs.length = done.length
  ow : wr.ownsRow B 22 1 vo vs.length vs
  rs : ∀ (i : Nat) (u : Value) (l : List Ch), vs[i]? = some u → done[i]? = some l → wr.ownsRow B 55 2 u l.length (chs l)
  hp : partL b t = done ++ partL b t'
  hl : vs.length + t'.length ≤ t.length
  hb : Below B w wr
theorem PInv.push {B : Nat} {w : World} {b : UInt8} {t t' p : List Ch} {done : List (List Ch)} {vs : List Value} {vt vo : Value} {wr : World} (h : PInv B w b t t' done vs vt vo wr) (hB : B = w.heap.size) {w1 w2 : World} {u vo' : Value}
    (hu : w1.ownsRow wr.heap.size 55 2 u p.length (chs p)) (hb1 : Below wr.heap.size wr w1) (hown : w2.ownsRow B 22 1 vo' (vs.length + 1) (vs ++ [u])) (hg : (w1.alloc (.cells #[u] 22)).grownBy w2 vo.ownBlock) :
    (done ++ [p]).length = (vs ++ [u]).length ∧ (∀ (i : Nat) (v : Value) (l : List Ch), (vs ++ [u])[i]? = some v → (done ++ [p])[i]? = some l → w2.ownsRow B 55 2 v l.length (chs l)) ∧ Below B w w2 := by
  have how := own_below h.ow hb1
  have hsz := h.hb.size
  refine ⟨by simp [h.ln], fun i v l a c => ?_, ?_⟩
  · by_cases hi : i < vs.length
    · rw [List.getElem?_append_left hi] at a
      rw [List.getElem?_append_left (by rw [← h.ln]; exact hi)] at c
      have h1 := own_below (h.rs i v l a c) hb1
      exact (h1.alloc _).kept hg (own_ne h1 how (by decide))
    · rw [List.getElem?_append_right (by omega)] at a
      rw [List.getElem?_append_right (by rw [← h.ln]; omega)] at c
      have h0 : i - vs.length = 0 := by
        rcases Nat.eq_zero_or_pos (i - vs.length) with e | e
        · exact e
        · rw [List.getElem?_eq_none (by simp; omega)] at a; cases a
      rw [h0] at a; rw [← h.ln, h0] at c
      cases a; cases c
      have h1 := own_low hu (show B ≤ wr.heap.size by rw [hB]; omega)
      exact (h1.alloc _).kept hg (own_ne h1 how (by decide))
  · have hbw := h.hb.trans (hb1.mono (by rw [hB]; omega))
    exact (hbw.alloc (by rw [hB]; exact hbw.size) _).grown hg (by have := hbw.size; simp; omega) (fun k e => (how.lt k e).1)
set_option maxRecDepth 100000 in
set_option maxHeartbeats 2000000 in
theorem part_any (v : Value) (t : List Ch) (b : UInt8) (w : World) (h : Rd w v t.length (chs t)) (hl : t.length ≤ 100000) :
    Calls Tryd.prog 19 #[v, .int .u8 (b.toNat : Int)] w fun e w' => ∃ v', e = .returned v' ∧ RdR w' v' (partL b t) ∧ Below w.heap.size w w' := by
  obtain ⟨i0, hi, hz0, hz1, hz2⟩ := info_parts Tryd.info22
  have hown0 : (w.alloc (.cells #[] 22)).ownsRow w.heap.size 22 1 (.slice (some ⟨w.heap.size, 0, none⟩) 0 0) 0 [] := World.ownsRow_made w #[] 0 (Nat.le_refl _) (by unfold maxLen; omega) (by simp)
  have hinit : PInv w.heap.size w b t t [] [] v (.slice (some ⟨w.heap.size, 0, none⟩) 0 0) (w.alloc (.cells #[] 22)) := ⟨h, rfl, hown0, fun i u l a => by simp at a, rfl, by simp, (Below.refl _ _).alloc (Nat.le_refl _) _⟩
  obtain ⟨A, cap, rfl, _, _⟩ := h.open_
  clear h
  go_enter Tryd.func19, Tryd.ntmps19
  go_wp2_with fail
  go_loopg [0, 5] t.length (fun g vt vo wr => ∃ t' done vs, g = t'.length ∧ PInv w.heap.size w b t t' done vs vt vo wr)
  case atStart => exact ⟨t, [], [], rfl, hinit⟩
  case round =>
    clear hinit hown0
    obtain ⟨t', done, vs, rfl, hinv⟩ := hrel
    obtain ⟨A', cap', rfl, hcap', _⟩ := hinv.rd.open_
    obtain ⟨oa, oc, rfl⟩ := own_slice hinv.ow
    have hrd := hinv.rd.below hinv.hb
    have hpl : vs.length + t'.length ≤ 100000 := by have := hinv.hl; omega
    have hsz := hinv.hb.size
    have HI := hid hinv
    clear hinv
    rcases find_parts b t' with ⟨hf, hp⟩ | ⟨i, hi', hf, hp⟩
    · have HF := hid hf
      have HP := hid hp
      clear hf hp
      go_wp2_with fail
      ((with_reducible refine (find_any _ t' b _ hrd (by omega)).mono ?_); rintro e w1 ⟨rfl, hb1⟩)
      rw [HF.out]
      go_wp2_with fail
      ((with_reducible refine (clone_any _ t' _ (hrd.below hb1) (by omega)).mono ?_); rintro e w2 ⟨v2, rfl, ho2, hb2⟩)
      have hb12 := hb1.trans (hb2.mono hb1.size)
      have how := own_below HI.out.ow hb12
      obtain ⟨ca, cc, rfl⟩ := own_slice ho2
      have ho2 := own_low ho2 hb1.size
      clear hb1 hb2 hrd
      have hv1 : ∀ u ∈ [Value.slice ca t'.length cc], u.oneCell' = true := by simp [Value.oneCell']
      have hq2 := hb12.size
      go_wp2_with (at_builtin; refine wpList_append_lies _ rfl _ _ 43 rfl w.heap.size 22 i0 _ 1 24 Tryd.underlying43 hi hz0 hz1 hz2 rfl (by decide) (.slice oa vs.length oc) vs.length vs rfl (how.alloc _) ⟨w2.heap.size, 0, none⟩ 1 1 [.slice ca t'.length cc] rfl rfl (World.news_of_block (cs := #[.slice ca t'.length cc]) (t := 22) (fr := (0, 0)) (heap_alloc_new w2 _)) hv1 (by omega) (by unfold maxLen; omega) (by omega) (by simp; omega) (w2.heap.size + 1) (by simp) ?_)
      intro g capn w3 hown3 hgrow hat3 hlt3
      obtain ⟨hpl1, hpl2, hpl3⟩ := HI.out.push rfl ho2 hb12 hown3 hgrow
      have HFin : Hid (RdR w3 (.slice (some ⟨g, 0, none⟩) (vs.length + 1) capn) (partL b t)) := hid (by
        rw [HI.out.hp, HP.out]
        refine ⟨vs ++ [.slice ca t'.length cc], hpl1.symm, ?_, fun j u l a c => Rd.of_own (hpl2 j u l a c)⟩
        have := Rd.of_own hown3
        simpa using this)
      clear hown3 hgrow hat3 hlt3 hpl1 hpl2 how HI ho2 hb12
      go_wp2_with fail
      go_ret
      exact ⟨_, rfl, HFin.out, hpl3⟩
    · have HF := hid hf
      have HP := hid hp
      have hnn : decide ((i : Int) < 0) = false := by simp
      have hcut0 : ∀ w, (Instr.slice 22 (.slice A' t'.length cap') none (some (.int .i64 (i : Int))) none).run Tryd.prog w = .ok (.slice (cutA A' cap' 0 2) i cap') w := run_cut0 (P := Tryd.prog) 22 55 Tryd.underlying22 2 sz55 A' t'.length cap' i (by omega)
      have hcut1 : ∀ w, (Instr.slice 22 (.slice A' t'.length cap') (some (.int .i64 ((i : Int) + 1))) none none).run Tryd.prog w = .ok (.slice (cutA A' cap' (i + 1) 2) (t'.length - (i + 1)) (cap' - (i + 1))) w := fun w => by
        have := run_cut (P := Tryd.prog) 22 55 Tryd.underlying22 2 sz55 A' t'.length cap' (i + 1) (by omega) w
        rw [← this]; rfl
      have hrd0 : Rd w (.slice A' t'.length cap') t'.length (chs t') := HI.out.rd
      have HR0 : Hid (Rd wr (.slice (cutA A' cap' 0 2) i cap') (t'.take i).length (chs (t'.take i))) := hid (by
        have := hrd.chs_mid 0 i (by omega) (by omega)
        simpa using this)
      have HR1 := hid (hrd0.chs_cut (i + 1) (by omega))
      have htl : (t'.take i).length = i := by rw [List.length_take]; omega
      have HTL := hid htl
      clear hf hp hrd0 htl
      go_wp2_with fail
      ((with_reducible refine (find_any _ t' b _ hrd (by omega)).mono ?_); rintro e w1 ⟨rfl, hb1⟩)
      rw [HF.out]
      go_wp2_with fail
      ((with_reducible refine (clone_any _ (t'.take i) _ (HR0.out.below hb1) (by rw [HTL.out]; omega)).mono ?_); rintro e w2 ⟨v2, rfl, ho2, hb2⟩)
      have hb12 := hb1.trans (hb2.mono hb1.size)
      have how := own_below HI.out.ow hb12
      obtain ⟨ca, cc, rfl⟩ : ∃ a c, v2 = .slice a i c := by obtain ⟨a, c, h⟩ := own_slice ho2; exact ⟨a, c, by rw [h, HTL.out]⟩
      have ho2 := own_low ho2 hb1.size
      clear hb1 hb2 hrd
      have hv1 : ∀ u ∈ [Value.slice ca i cc], u.oneCell' = true := by simp [Value.oneCell']
      have hq2 := hb12.size
      go_wp2_with (at_builtin; refine wpList_append_lies _ rfl _ _ 43 rfl w.heap.size 22 i0 _ 1 24 Tryd.underlying43 hi hz0 hz1 hz2 rfl (by decide) (.slice oa vs.length oc) vs.length vs rfl (how.alloc _) ⟨w2.heap.size, 0, none⟩ 1 1 [.slice ca i cc] rfl rfl (World.news_of_block (cs := #[.slice ca i cc]) (t := 22) (fr := (0, 0)) (heap_alloc_new w2 _)) hv1 (by omega) (by unfold maxLen; omega) (by omega) (by simp; omega) (w2.heap.size + 1) (by simp) ?_)
      intro g capn w3 hown3 hgrow hat3 hlt3
      obtain ⟨hpl1, hpl2, hpl3⟩ := HI.out.push rfl ho2 hb12 hown3 hgrow
      have HFin : Hid (PInv w.heap.size w b t (t'.drop (i + 1)) (done ++ [t'.take i]) (vs ++ [.slice ca i cc]) (.slice (cutA A' cap' (i + 1) 2) (t'.length - (i + 1)) (cap' - (i + 1))) (.slice (some ⟨g, 0, none⟩) (vs.length + 1) capn) w3) := hid {
        rd := HR1.out
        ln := hpl1.symm
        ow := by rw [List.length_append]; exact hown3
        rs := hpl2
        hp := by rw [HI.out.hp, HP.out]; simp
        hl := by have := HI.out.hl; simp; omega
        hb := hpl3 }
      clear hown3 hgrow hat3 hlt3 hpl1 hpl2 how HI ho2 hb12
      go_wp2_with fail
      go_roundg (t'.drop (i + 1)).length
      case measure => simp; omega
      case rel => exact ⟨_, _, _, rfl, HFin.out⟩
end Go.Proofs.YthnmdhcgnimdfaaDoor
