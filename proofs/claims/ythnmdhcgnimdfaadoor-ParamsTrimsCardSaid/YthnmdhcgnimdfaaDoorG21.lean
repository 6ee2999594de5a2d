/- The walk of whelkref02.Compile without paths, for texts of up to ten thousand bytes. -/
import Derived.Test.YthnmdhcgnimdfaaDoorG20
set_option linter.unusedVariables false
set_option linter.unusedSimpArgs false
namespace Go.Proofs.YthnmdhcgnimdfaaDoor
open Go.RowKit
attribute [local go_sem ↓] Go.wp_at_zero Go.wp_at_succ
theorem Tryd.info76 : (Tryd.prog.info? 76).map (fun i => (i.zero, i.size, i.bytes)) = some (some (.agg #[.int .i64 0, .int .u8 0, .bool false, .slice none 0 0]), 4, 40) := by kernel_rfl
theorem isB_at {t : List Ch} {p : Nat} {b : UInt8} (hp : p < t.length) (h : isB t p b = true) : t[p].2 = false ∧ t[p].1 = b := by
  unfold isB at h
  rw [List.getElem?_eq_getElem hp] at h
  have : t[p] = (b, false) := by simpa using h
  rw [this]; exact ⟨rfl, rfl⟩
theorem isB_not {t : List Ch} {p : Nat} {b : UInt8} (hp : p < t.length) (h : isB t p b = false) (hq : t[p].2 = false) : t[p].1 ≠ b := by
  intro e
  unfold isB at h
  rw [List.getElem?_eq_getElem hp] at h
  have : t[p] = (b, false) := Prod.ext e hq
  rw [this] at h; simp at h
section
variable {t : List Ch} {p : Nat} (hp : p < t.length)
theorem it_star (h : isB t p 42 = true) : item1 t[p] (t.drop (p + 1)) = (⟨3, 0, false, []⟩, 1) := item1_star (isB_at hp h).1 (isB_at hp h).2
theorem it_any (h : isB t p 63 = true) : item1 t[p] (t.drop (p + 1)) = (⟨2, 0, false, []⟩, 1) := item1_any (isB_at hp h).1 (isB_at hp h).2
theorem it_grp (h : isB t p 91 = true) {ng : Bool} {l : List Rg} {k : Nat} (hg : grp (t.drop (p + 1)) = some (ng, l, k)) : item1 t[p] (t.drop (p + 1)) = (⟨4, 0, ng, l⟩, k + 1) := item1_grp (isB_at hp h).1 (isB_at hp h).2 hg
theorem it_grp0 (h : isB t p 91 = true) (hg : grp (t.drop (p + 1)) = none) : item1 t[p] (t.drop (p + 1)) = (⟨1, t[p].1, false, []⟩, 1) := item1_grp0 (isB_at hp h).1 (isB_at hp h).2 hg
theorem it_esc (h : isB t p 92 = true) (h2 : p + 1 < t.length) : item1 t[p] (t.drop (p + 1)) = (⟨1, t[p + 1].1, false, []⟩, 2) := by
  rw [drop_at h2]; exact item1_esc (isB_at hp h).1 (isB_at hp h).2
theorem it_esc0 (h : isB t p 92 = true) (h2 : ¬ p + 1 < t.length) : item1 t[p] (t.drop (p + 1)) = (⟨1, t[p].1, false, []⟩, 1) := by
  rw [List.drop_eq_nil_of_le (by omega)]; exact item1_esc0 (isB_at hp h).1 (isB_at hp h).2
theorem it_else (h1 : isB t p 42 = false) (h2 : isB t p 63 = false) (h3 : isB t p 91 = false) (h4 : isB t p 92 = false) : item1 t[p] (t.drop (p + 1)) = (⟨1, t[p].1, false, []⟩, 1) := by
  cases hq : t[p].2 with
  | true => exact item1_q hq
  | false => exact item1_else (isB_not hp h2 hq) (isB_not hp h1 hq) (isB_not hp h4 hq) (isB_not hp h3 hq)
end
/-- what holds at the head of a round -/
structure RInv (w : World) (t : List Ch) (p : Nat) (ps : List (It × Value)) (vo : Value) (wr : World) : Prop where
  ow : wr.ownsRow w.heap.size 76 4 vo ps.length (itc ps)
  rs : ∀ q ∈ ps, wr.ownsRow w.heap.size 104 2 q.2 q.1.rs.length (rgs q.1.rs)
  hc : compile t = cgo (ps.map Prod.fst) (t.drop p)
  hl : ps.length ≤ p
  hp : p ≤ t.length
  hb : Below w.heap.size w wr
theorem RInv.below {w wr wx : World} {t : List Ch} {p : Nat} {ps : List (It × Value)} {vo : Value} (g : RInv w t p ps vo wr) (h : Below wr.heap.size wr wx) : RInv w t p ps vo wx :=
  ⟨own_below g.ow h, fun q hq => own_below (g.rs q hq) h, g.hc, g.hl, g.hp, g.hb.trans (h.mono g.hb.size)⟩
theorem RInv.next {w wr : World} {t : List Ch} {p : Nat} {ps : List (It × Value)} {vo : Value} (g : RInv w t p ps vo wr) (hp : p < t.length) {x : It} {n : Nat} (hi : item1 t[p] (t.drop (p + 1)) = (x, n)) :
    1 ≤ n ∧ p + n ≤ t.length ∧ compile t = cgo (push (ps.map Prod.fst) x) (t.drop (p + n)) := by
  have h1 := item1_le t[p] (t.drop (p + 1))
  rw [hi, List.length_drop] at h1
  obtain ⟨h1, h2⟩ := h1
  dsimp only at h1 h2
  refine ⟨h1, by omega, ?_⟩
  rw [g.hc, drop_at hp, cgo_cons, hi, ← drop_at hp, List.drop_drop]
theorem RInv.app {w wr w3 : World} {t : List Ch} {p : Nat} {ps : List (It × Value)} {vo v' u : Value} (g : RInv w t p ps vo wr) (hp : p < t.length) {x : It} {n : Nat} (hi : item1 t[p] (t.drop (p + 1)) = (x, n))
    (hno : push (ps.map Prod.fst) x = ps.map Prod.fst ++ [x]) (hou : wr.ownsRow w.heap.size 104 2 u x.rs.length (rgs x.rs))
    (hown3 : w3.ownsRow w.heap.size 76 4 v' (ps.length + 1) (itc ps ++ [.int .i64 x.kind, .int .u8 (x.b.toNat : Int), .bool x.neg, u]))
    (hgrow : (wr.alloc (.cells #[.int .i64 x.kind, .int .u8 (x.b.toNat : Int), .bool x.neg, u] 76)).grownBy w3 vo.ownBlock) : RInv w t (p + n) (ps ++ [(x, u)]) v' w3 := by
  obtain ⟨h1, h2, h3⟩ := g.next hp hi
  refine ⟨by rw [itc_append, List.length_append]; exact hown3, fun q hq => ?_, by rw [List.map_append, h3, hno]; rfl, by have := g.hl; simp; omega, h2, (g.hb.alloc g.hb.size _).grown hgrow (by simp; have := g.hb.size; omega) (fun k e => (g.ow.lt k e).1)⟩
  rcases List.mem_append.1 hq with hq | hq
  · exact ((g.rs q hq).alloc _).kept hgrow (own_ne (g.rs q hq) g.ow (by decide))
  · rw [List.mem_singleton] at hq; subst hq
    exact (hou.alloc _).kept hgrow (own_ne hou g.ow (by decide))
theorem RInv.pass {w wr : World} {t : List Ch} {p : Nat} {ps : List (It × Value)} {vo : Value} (g : RInv w t p ps vo wr) (hp : p < t.length) {x : It} {n : Nat} (hi : item1 t[p] (t.drop (p + 1)) = (x, n))
    (hno : push (ps.map Prod.fst) x = ps.map Prod.fst) : RInv w t (p + n) ps vo wr := by
  obtain ⟨h1, h2, h3⟩ := g.next hp hi
  exact ⟨g.ow, g.rs, by rw [h3, hno], by have := g.hl; omega, h2, g.hb⟩
theorem push_plain (out : List It) (x : It) (h : isStar x = false) : push out x = out ++ [x] := by unfold push; rw [if_neg (by simp [h])]
set_option maxRecDepth 100000 in
set_option maxHeartbeats 4000000 in
theorem refcompile_any (v : Value) (t : List Ch) (w : World) (h : Rd w v t.length (chs t)) (hl : t.length ≤ 10000) :
    Calls Tryd.prog 25 #[v, .bool false] w fun e w' => ∃ v', e = .returned v' ∧ RdI w' v' (compile t) ∧ (compile t).length ≤ t.length ∧ Below w.heap.size w w' := by
  obtain ⟨i0, hi0, hz0, hz1, hz2⟩ := info_parts Tryd.info76
  have HR := hid h
  have hinit : Hid (RInv w t 0 [] (.slice none 0 0) w) := hid ⟨World.ownsRow_nil _ _ _ _, by simp, rfl, by simp, by omega, Below.refl _ _⟩
  have hAt : 0 < t.length → ∃ g off cap, v = .slice (some ⟨g, off, none⟩) t.length cap ∧ t.length ≤ cap ∧ At w g off (chs t) := fun h0 => h.form (by intro e; have := chs_len t; rw [e] at this; simp at this; omega)
  have HAT := hid hAt
  clear hAt
  obtain ⟨A, cap, rfl, hcap, _⟩ := h.open_
  clear h
  go_enter Tryd.func25, Tryd.ntmps25
  go_wp2_with fail
  go_loopw [5, 6] (fun vo vi wr => ∃ (p : Nat) (ps : List (It × Value)) (u : Value), p ≤ t.length ∧ vi = .int .i64 p ∧ vo = u ∧ Hid (RInv w t p ps u wr)) (fun _ vi _ => t.length - (intOf vi).toNat)
  case atStart => exact ⟨0, [], _, by omega, rfl, rfl, hinit⟩
  case round =>
    clear hinit
    obtain ⟨p, ps, u, hp, rfl, rfl, HG⟩ := hrel
    obtain ⟨oa, oc, rfl⟩ := own_slice HG.out.ow
    have hpl : ps.length ≤ p := HG.out.hl
    have hsz : w.heap.size ≤ wr.heap.size := HG.out.hb.size
    have hown := HG.out.ow
    by_cases hlt : p < t.length
    · obtain ⟨g, off, cap', hA, _, hat⟩ := HAT.out (by omega)
      injection hA with hA1 _ hA3
      subst hA1 hA3
      have HA : Hid (At w g off (chs t)) := hid hat
      clear hat
      cases h42 : isB t p 42
      · have H42 := hid h42
        clear h42
        cases h63 : isB t p 63
        · have H63 := hid h63
          clear h63
          cases h91 : isB t p 91
          · have H91 := hid h91
            clear h91
            cases h92 : isB t p 92
            · have H92 := hid h92
              have HIT := hid (it_else hlt H42.out H63.out H91.out h92)
              clear h92
              go_wp2_with fail
              ((with_reducible refine (is_of _ t (p) 42 (i := (p : Int)) (bi := 42) rfl rfl _ (HR.out.below HG.out.hb) (by omega) (by omega)).mono ?_); rintro e w1 ⟨rfl, rfl⟩)
              rw [H42.out]
              go_wp2_with fail
              ((with_reducible refine (is_of _ t (p) 63 (i := (p : Int)) (bi := 63) rfl rfl _ (HR.out.below HG.out.hb) (by omega) (by omega)).mono ?_); rintro e w1 ⟨rfl, rfl⟩)
              rw [H63.out]
              go_wp2_with fail
              ((with_reducible refine (is_of _ t (p) 91 (i := (p : Int)) (bi := 91) rfl rfl _ (HR.out.below HG.out.hb) (by omega) (by omega)).mono ?_); rintro e w1 ⟨rfl, rfl⟩)
              rw [H91.out]
              go_wp2_with fail
              ((with_reducible refine (is_of _ t (p) 92 (i := (p : Int)) (bi := 92) rfl rfl _ (HR.out.below HG.out.hb) (by omega) (by omega)).mono ?_); rintro e w1 ⟨rfl, rfl⟩)
              rw [H92.out]
              obtain ⟨x, hx⟩ : ∃ x : UInt8, x = t[p].1 := ⟨_, rfl⟩
              have c1 := ((HA.out.below HG.out.hb).ch (p) (by omega)).1
              rw [← hx] at c1 HIT
              clear hx
              go_wp2_with (at_builtin; refine wpList_append_lies _ rfl _ _ 51 rfl w.heap.size 76 i0 _ 4 40 Tryd.underlying51 hi0 hz0 hz1 hz2 rfl (by decide) (.slice oa ps.length oc) ps.length (itc ps) rfl (hown.alloc _) ⟨wr.heap.size, 0, none⟩ 1 1 [.int .i64 1, .int .u8 (x.toNat : Int), .bool false, .slice none 0 0] rfl rfl (World.news_of_block (cs := #[.int .i64 1, .int .u8 (x.toNat : Int), .bool false, .slice none 0 0]) (t := 76) (fr := (0, 0)) (heap_alloc_new wr _)) (by simp [Value.oneCell']) (by omega) (by unfold maxLen; omega) (by omega) (by simp; omega) (wr.heap.size + 1) (by simp) ?_)
              intro ga capn w3 hown3 hgrow hat3 hlt3
              have HF := hid (HG.out.app (x := ⟨1, x, false, []⟩) (u := .slice none 0 0) hlt HIT.out (push_plain _ _ rfl) (World.ownsRow_nil _ _ _ _) hown3 hgrow)
              clear hown3 hgrow hat3 hlt3 hown
              go_wp2_with fail
              go_roundw
              case rel => exact ⟨p + 1, ps ++ [(⟨1, x, false, []⟩, .slice none 0 0)], _, by omega, by go_num, rfl, HF⟩
              case measure => simp [intOf]; omega
            · have H92 := hid h92
              clear h92
              by_cases h1 : p + 1 < t.length
              · have HIT := hid (it_esc hlt H92.out h1)
                go_wp2_with fail
                ((with_reducible refine (is_of _ t (p) 42 (i := (p : Int)) (bi := 42) rfl rfl _ (HR.out.below HG.out.hb) (by omega) (by omega)).mono ?_); rintro e w1 ⟨rfl, rfl⟩)
                rw [H42.out]
                go_wp2_with fail
                ((with_reducible refine (is_of _ t (p) 63 (i := (p : Int)) (bi := 63) rfl rfl _ (HR.out.below HG.out.hb) (by omega) (by omega)).mono ?_); rintro e w1 ⟨rfl, rfl⟩)
                rw [H63.out]
                go_wp2_with fail
                ((with_reducible refine (is_of _ t (p) 91 (i := (p : Int)) (bi := 91) rfl rfl _ (HR.out.below HG.out.hb) (by omega) (by omega)).mono ?_); rintro e w1 ⟨rfl, rfl⟩)
                rw [H91.out]
                go_wp2_with fail
                ((with_reducible refine (is_of _ t (p) 92 (i := (p : Int)) (bi := 92) rfl rfl _ (HR.out.below HG.out.hb) (by omega) (by omega)).mono ?_); rintro e w1 ⟨rfl, rfl⟩)
                rw [H92.out]
                obtain ⟨x, hx⟩ : ∃ x : UInt8, x = t[p + 1].1 := ⟨_, rfl⟩
                have c1 := ((HA.out.below HG.out.hb).ch (p + 1) (by omega)).1
                rw [← hx] at c1 HIT
                clear hx
                go_wp2_with (at_builtin; refine wpList_append_lies _ rfl _ _ 51 rfl w.heap.size 76 i0 _ 4 40 Tryd.underlying51 hi0 hz0 hz1 hz2 rfl (by decide) (.slice oa ps.length oc) ps.length (itc ps) rfl (hown.alloc _) ⟨wr.heap.size, 0, none⟩ 1 1 [.int .i64 1, .int .u8 (x.toNat : Int), .bool false, .slice none 0 0] rfl rfl (World.news_of_block (cs := #[.int .i64 1, .int .u8 (x.toNat : Int), .bool false, .slice none 0 0]) (t := 76) (fr := (0, 0)) (heap_alloc_new wr _)) (by simp [Value.oneCell']) (by omega) (by unfold maxLen; omega) (by omega) (by simp; omega) (wr.heap.size + 1) (by simp) ?_)
                intro ga capn w3 hown3 hgrow hat3 hlt3
                have HF := hid (HG.out.app (x := ⟨1, x, false, []⟩) (u := .slice none 0 0) hlt HIT.out (push_plain _ _ rfl) (World.ownsRow_nil _ _ _ _) hown3 hgrow)
                clear hown3 hgrow hat3 hlt3 hown
                go_wp2_with fail
                go_roundw
                case rel => exact ⟨p + 2, ps ++ [(⟨1, x, false, []⟩, .slice none 0 0)], _, by omega, by go_num, rfl, HF⟩
                case measure => simp [intOf]; omega
              · have HIT := hid (it_esc0 hlt H92.out h1)
                have hd1 : decide ((p : Int) + 1 < (t.length : Int)) = false := by simp; omega
                go_wp2_with fail
                ((with_reducible refine (is_of _ t (p) 42 (i := (p : Int)) (bi := 42) rfl rfl _ (HR.out.below HG.out.hb) (by omega) (by omega)).mono ?_); rintro e w1 ⟨rfl, rfl⟩)
                rw [H42.out]
                go_wp2_with fail
                ((with_reducible refine (is_of _ t (p) 63 (i := (p : Int)) (bi := 63) rfl rfl _ (HR.out.below HG.out.hb) (by omega) (by omega)).mono ?_); rintro e w1 ⟨rfl, rfl⟩)
                rw [H63.out]
                go_wp2_with fail
                ((with_reducible refine (is_of _ t (p) 91 (i := (p : Int)) (bi := 91) rfl rfl _ (HR.out.below HG.out.hb) (by omega) (by omega)).mono ?_); rintro e w1 ⟨rfl, rfl⟩)
                rw [H91.out]
                go_wp2_with fail
                ((with_reducible refine (is_of _ t (p) 92 (i := (p : Int)) (bi := 92) rfl rfl _ (HR.out.below HG.out.hb) (by omega) (by omega)).mono ?_); rintro e w1 ⟨rfl, rfl⟩)
                rw [H92.out]
                obtain ⟨x, hx⟩ : ∃ x : UInt8, x = t[p].1 := ⟨_, rfl⟩
                have c1 := ((HA.out.below HG.out.hb).ch (p) (by omega)).1
                rw [← hx] at c1 HIT
                clear hx
                go_wp2_with (at_builtin; refine wpList_append_lies _ rfl _ _ 51 rfl w.heap.size 76 i0 _ 4 40 Tryd.underlying51 hi0 hz0 hz1 hz2 rfl (by decide) (.slice oa ps.length oc) ps.length (itc ps) rfl (hown.alloc _) ⟨wr.heap.size, 0, none⟩ 1 1 [.int .i64 1, .int .u8 (x.toNat : Int), .bool false, .slice none 0 0] rfl rfl (World.news_of_block (cs := #[.int .i64 1, .int .u8 (x.toNat : Int), .bool false, .slice none 0 0]) (t := 76) (fr := (0, 0)) (heap_alloc_new wr _)) (by simp [Value.oneCell']) (by omega) (by unfold maxLen; omega) (by omega) (by simp; omega) (wr.heap.size + 1) (by simp) ?_)
                intro ga capn w3 hown3 hgrow hat3 hlt3
                have HF := hid (HG.out.app (x := ⟨1, x, false, []⟩) (u := .slice none 0 0) hlt HIT.out (push_plain _ _ rfl) (World.ownsRow_nil _ _ _ _) hown3 hgrow)
                clear hown3 hgrow hat3 hlt3 hown
                go_wp2_with fail
                go_roundw
                case rel => exact ⟨p + 1, ps ++ [(⟨1, x, false, []⟩, .slice none 0 0)], _, by omega, by go_num, rfl, HF⟩
                case measure => simp [intOf]; omega
          · have H91 := hid h91
            have H92 : Hid (isB t p 92 = false) := hid (by
              cases h : isB t p 92
              · rfl
              · have e1 := (isB_at hlt h91).2; have e2 := (isB_at hlt h).2; rw [e1] at e2; cases e2)
            clear h91
            go_wp2_with fail
            ((with_reducible refine (is_of _ t (p) 42 (i := (p : Int)) (bi := 42) rfl rfl _ (HR.out.below HG.out.hb) (by omega) (by omega)).mono ?_); rintro e w1 ⟨rfl, rfl⟩)
            rw [H42.out]
            go_wp2_with fail
            ((with_reducible refine (is_of _ t (p) 63 (i := (p : Int)) (bi := 63) rfl rfl _ (HR.out.below HG.out.hb) (by omega) (by omega)).mono ?_); rintro e w1 ⟨rfl, rfl⟩)
            rw [H63.out]
            go_wp2_with fail
            ((with_reducible refine (is_of _ t (p) 91 (i := (p : Int)) (bi := 91) rfl rfl _ (HR.out.below HG.out.hb) (by omega) (by omega)).mono ?_); rintro e w1 ⟨rfl, rfl⟩)
            rw [H91.out]
            go_wp2_with fail
            ((with_reducible refine (refgroup_any _ t p _ (HR.out.below HG.out.hb) (by omega) hlt).mono ?_); rintro e w2 ⟨hb2, hgr⟩)
            have HG2 := hid (HG.out.below hb2)
            have hsz2 := Nat.le_trans hsz hb2.size
            rcases hgr with ⟨hnone, rfl⟩ | ⟨ng, l, k, u, hsome, rfl, hou⟩
            · have HIT := hid (it_grp0 hlt H91.out hnone)
              have HG := hid (HG2.out.below ((Below.refl w2.heap.size w2).alloc (Nat.le_refl _) (.cells #[.int .i64 0, .int .u8 0, .bool false, .slice none 0 0] 76)))
              have hown := HG.out.ow
              have hsz : w.heap.size ≤ w2.heap.size + 1 := by omega
              clear hnone HG2 hb2
              go_wp2_with fail
              generalize hwr : w2.alloc (.cells #[.int .i64 0, .int .u8 0, .bool false, .slice none 0 0] 76) = wr at *
              have hsz : w.heap.size ≤ wr.heap.size := HG.out.hb.size
              clear hwr
              ((with_reducible refine (is_of _ t (p) 92 (i := (p : Int)) (bi := 92) rfl rfl _ (HR.out.below HG.out.hb) (by omega) (by omega)).mono ?_); rintro e w1 ⟨rfl, rfl⟩)
              rw [H92.out]
              obtain ⟨x, hx⟩ : ∃ x : UInt8, x = t[p].1 := ⟨_, rfl⟩
              have c1 := ((HA.out.below HG.out.hb).ch (p) (by omega)).1
              rw [← hx] at c1 HIT
              clear hx
              go_wp2_with (at_builtin; refine wpList_append_lies _ rfl _ _ 51 rfl w.heap.size 76 i0 _ 4 40 Tryd.underlying51 hi0 hz0 hz1 hz2 rfl (by decide) (.slice oa ps.length oc) ps.length (itc ps) rfl (hown.alloc _) ⟨wr.heap.size, 0, none⟩ 1 1 [.int .i64 1, .int .u8 (x.toNat : Int), .bool false, .slice none 0 0] rfl rfl (World.news_of_block (cs := #[.int .i64 1, .int .u8 (x.toNat : Int), .bool false, .slice none 0 0]) (t := 76) (fr := (0, 0)) (heap_alloc_new wr _)) (by simp [Value.oneCell']) (by omega) (by unfold maxLen; omega) (by omega) (by simp; omega) (wr.heap.size + 1) (by simp) ?_)
              intro ga capn w3 hown3 hgrow hat3 hlt3
              have HF := hid (HG.out.app (x := ⟨1, x, false, []⟩) (u := .slice none 0 0) hlt HIT.out (push_plain _ _ rfl) (World.ownsRow_nil _ _ _ _) hown3 hgrow)
              clear hown3 hgrow hat3 hlt3 hown
              go_wp2_with fail
              go_roundw
              case rel => exact ⟨p + 1, ps ++ [(⟨1, x, false, []⟩, .slice none 0 0)], _, by omega, by go_num, rfl, HF⟩
              case measure => simp [intOf]; omega
            · have HIT := hid (it_grp hlt H91.out hsome)
              obtain ⟨ua, uc, rfl⟩ := own_slice hou
              have HG3 := hid (HG2.out.below ((Below.refl w2.heap.size w2).alloc (Nat.le_refl _) (.cells #[.int .i64 4, .int .u8 0, .bool ng, .slice ua l.length uc] 76)))
              have HOU := hid ((own_low hou hsz).alloc (.cells #[.int .i64 4, .int .u8 0, .bool ng, .slice ua l.length uc] 76))
              have hnx := HG.out.next hlt HIT.out
              obtain ⟨_, hnx, _⟩ := hnx
              have hkp : decide ((0 : Int) < (p : Int) + (k : Int) + 1) = true := by simp; omega
              have hown := HG3.out.ow
              clear hsome HG2 hb2 hou
              have hA1 : (⟨w2.heap.size, 0, none⟩ : Addr) = ⟨w2.heap.size, 0, none⟩ := rfl
              have kx := Bk.new w2 76 #[.int .i64 4, .int .u8 0, .bool ng, .slice ua l.length uc]
              clear hA1
              go_upto_region 13 with fail
              generalize hwr : w2.alloc (.cells #[.int .i64 4, .int .u8 0, .bool ng, .slice ua l.length uc] 76) = wy at *
              obtain ⟨p0, p1, p2, p3⟩ := kx.cells4
              have hszy : w.heap.size ≤ wy.heap.size := HG3.out.hb.size
              clear hwr kx hsz2
              go_wp2_with (at_builtin; refine wpList_append_lies _ rfl _ _ 51 rfl w.heap.size 76 i0 _ 4 40 Tryd.underlying51 hi0 hz0 hz1 hz2 rfl (by decide) (.slice oa ps.length oc) ps.length (itc ps) rfl (hown.alloc _) ⟨wy.heap.size, 0, none⟩ 1 1 [.int .i64 4, .int .u8 0, .bool ng, .slice ua l.length uc] rfl rfl (World.news_of_block (cs := #[.int .i64 4, .int .u8 0, .bool ng, .slice ua l.length uc]) (t := 76) (fr := (0, 0)) (heap_alloc_new wy _)) (by simp [Value.oneCell']) (by omega) (by unfold maxLen; omega) (by omega) (by simp; omega) (wy.heap.size + 1) (by simp) ?_)
              intro ga capn w3 hown3 hgrow hat3 hlt3
              have HF := hid (HG3.out.app (x := ⟨4, 0, ng, l⟩) (u := .slice ua l.length uc) hlt HIT.out (push_plain _ _ rfl) HOU.out hown3 hgrow)
              clear hown3 hgrow hat3 hlt3 hown
              go_wp2_with fail
              go_roundw
              case rel => exact ⟨p + (k + 1), ps ++ [(⟨4, 0, ng, l⟩, .slice ua l.length uc)], _, by omega, by go_num, rfl, HF⟩
              case measure => simp [intOf]; omega
        · have H63 := hid h63
          have HIT := hid (it_any hlt h63)
          clear h63
          go_wp2_with fail
          ((with_reducible refine (is_of _ t (p) 42 (i := (p : Int)) (bi := 42) rfl rfl _ (HR.out.below HG.out.hb) (by omega) (by omega)).mono ?_); rintro e w1 ⟨rfl, rfl⟩)
          rw [H42.out]
          go_wp2_with fail
          ((with_reducible refine (is_of _ t (p) 63 (i := (p : Int)) (bi := 63) rfl rfl _ (HR.out.below HG.out.hb) (by omega) (by omega)).mono ?_); rintro e w1 ⟨rfl, rfl⟩)
          rw [H63.out]
          go_wp2_with (at_builtin; refine wpList_append_lies _ rfl _ _ 51 rfl w.heap.size 76 i0 _ 4 40 Tryd.underlying51 hi0 hz0 hz1 hz2 rfl (by decide) (.slice oa ps.length oc) ps.length (itc ps) rfl (hown.alloc _) ⟨wr.heap.size, 0, none⟩ 1 1 [.int .i64 2, .int .u8 0, .bool false, .slice none 0 0] rfl rfl (World.news_of_block (cs := #[.int .i64 2, .int .u8 0, .bool false, .slice none 0 0]) (t := 76) (fr := (0, 0)) (heap_alloc_new wr _)) (by simp [Value.oneCell']) (by omega) (by unfold maxLen; omega) (by omega) (by simp; omega) (wr.heap.size + 1) (by simp) ?_)
          intro ga capn w3 hown3 hgrow hat3 hlt3
          have HF := hid (HG.out.app (x := ⟨2, 0, false, []⟩) (u := .slice none 0 0) hlt HIT.out (push_plain _ _ rfl) (World.ownsRow_nil _ _ _ _) hown3 hgrow)
          clear hown3 hgrow hat3 hlt3 hown
          go_wp2_with fail
          go_roundw
          case rel => exact ⟨p + 1, ps ++ [(⟨2, 0, false, []⟩, .slice none 0 0)], _, by omega, by go_num, rfl, HF⟩
          case measure => simp [intOf]; omega
      · have H42 := hid h42
        have HIT := hid (it_star hlt h42)
        clear h42
        rcases List.eq_nil_or_concat ps with hps | ⟨qs, q, hps⟩
        · have HP : Hid (push (ps.map Prod.fst) ⟨3, 0, false, []⟩ = ps.map Prod.fst ++ [⟨3, 0, false, []⟩]) := hid (by rw [hps]; simp [push])
          have h0 : ((ps.length : Int) == 0) = true := by rw [hps]; rfl
          clear hps
          go_wp2_with fail
          ((with_reducible refine (is_of _ t (p) 42 (i := (p : Int)) (bi := 42) rfl rfl _ (HR.out.below HG.out.hb) (by omega) (by omega)).mono ?_); rintro e w1 ⟨rfl, rfl⟩)
          rw [H42.out]
          go_wp2_with (at_builtin; refine wpList_append_lies _ rfl _ _ 51 rfl w.heap.size 76 i0 _ 4 40 Tryd.underlying51 hi0 hz0 hz1 hz2 rfl (by decide) (.slice oa ps.length oc) ps.length (itc ps) rfl (hown.alloc _) ⟨wr.heap.size, 0, none⟩ 1 1 [.int .i64 3, .int .u8 0, .bool false, .slice none 0 0] rfl rfl (World.news_of_block (cs := #[.int .i64 3, .int .u8 0, .bool false, .slice none 0 0]) (t := 76) (fr := (0, 0)) (heap_alloc_new wr _)) (by simp [Value.oneCell']) (by omega) (by unfold maxLen; omega) (by omega) (by simp; omega) (wr.heap.size + 1) (by simp) ?_)
          intro ga capn w3 hown3 hgrow hat3 hlt3
          have HF := hid (HG.out.app (x := ⟨3, 0, false, []⟩) (u := .slice none 0 0) hlt HIT.out HP.out (World.ownsRow_nil _ _ _ _) hown3 hgrow)
          clear hown3 hgrow hat3 hlt3 hown
          go_wp2_with fail
          go_roundw
          case rel => exact ⟨p + 1, ps ++ [(⟨3, 0, false, []⟩, .slice none 0 0)], _, by omega, by go_num, rfl, HF⟩
          case measure => simp [intOf]; omega
        · rw [List.concat_eq_append] at hps
          have hql : ps.length = qs.length + 1 := by rw [hps]; simp
          have h0 : ((ps.length : Int) == 0) = false := by rw [hql]; rfl
          obtain ⟨gg, capg, hv, _, _⟩ := hown.form (by omega)
          have hoa : oa = some ⟨gg, 0, none⟩ := by injection hv
          subst hoa
          have hcl : wr.cell? ⟨gg, qs.length * 4, none⟩ = some (.int .i64 q.1.kind) := by
            have h1 := At.of_own hown
            have h2 := (itc_at ps qs.length (by omega)).1
            have h3 : ps[qs.length]'(by omega) = q := by simp [hps]
            rw [h3] at h2
            have := h1 _ _ h2
            rwa [Nat.zero_add] at this
          have hsub : ((ps.length : Int) - 1) = (qs.length : Int) := by omega
          have hq0 : (0 : Int) ≤ (qs.length : Int) := Int.natCast_nonneg _
          have hq1 : (qs.length : Int) < (ps.length : Int) := by omega
          by_cases hp3 : q.1.kind = 3
          · have HP : Hid (push (ps.map Prod.fst) ⟨3, 0, false, []⟩ = ps.map Prod.fst) := hid (by unfold push; rw [if_pos ⟨rfl, by rw [hps]; simp [isStar, hp3]⟩])
            have HF := hid (HG.out.pass hlt HIT.out HP.out)
            rw [hp3] at hcl
            clear hps hp3 hql
            go_wp2_with fail
            ((with_reducible refine (is_of _ t (p) 42 (i := (p : Int)) (bi := 42) rfl rfl _ (HR.out.below HG.out.hb) (by omega) (by omega)).mono ?_); rintro e w1 ⟨rfl, rfl⟩)
            rw [H42.out]
            go_wp2_with fail
            go_roundw
            case rel => exact ⟨p + 1, ps, _, by omega, by go_num, rfl, HF⟩
            case measure => simp [intOf]; omega
          · have HP : Hid (push (ps.map Prod.fst) ⟨3, 0, false, []⟩ = ps.map Prod.fst ++ [⟨3, 0, false, []⟩]) := hid (by unfold push; rw [if_neg (by rintro ⟨_, h⟩; rw [hps] at h; simp [isStar, hp3] at h)])
            have hp3' : (q.1.kind == 3) = false := by simpa using hp3
            clear hps hp3 hql
            go_wp2_with fail
            ((with_reducible refine (is_of _ t (p) 42 (i := (p : Int)) (bi := 42) rfl rfl _ (HR.out.below HG.out.hb) (by omega) (by omega)).mono ?_); rintro e w1 ⟨rfl, rfl⟩)
            rw [H42.out]
            go_wp2_with (at_builtin; refine wpList_append_lies _ rfl _ _ 51 rfl w.heap.size 76 i0 _ 4 40 Tryd.underlying51 hi0 hz0 hz1 hz2 rfl (by decide) (.slice (some ⟨gg, 0, none⟩) ps.length oc) ps.length (itc ps) rfl (hown.alloc _) ⟨wr.heap.size, 0, none⟩ 1 1 [.int .i64 3, .int .u8 0, .bool false, .slice none 0 0] rfl rfl (World.news_of_block (cs := #[.int .i64 3, .int .u8 0, .bool false, .slice none 0 0]) (t := 76) (fr := (0, 0)) (heap_alloc_new wr _)) (by simp [Value.oneCell']) (by omega) (by unfold maxLen; omega) (by omega) (by simp; omega) (wr.heap.size + 1) (by simp) ?_)
            intro ga capn w3 hown3 hgrow hat3 hlt3
            have HF := hid (HG.out.app (x := ⟨3, 0, false, []⟩) (u := .slice none 0 0) hlt HIT.out HP.out (World.ownsRow_nil _ _ _ _) hown3 hgrow)
            clear hown3 hgrow hat3 hlt3 hown
            go_wp2_with fail
            go_roundw
            case rel => exact ⟨p + 1, ps ++ [(⟨3, 0, false, []⟩, .slice none 0 0)], _, by omega, by go_num, rfl, HF⟩
            case measure => simp [intOf]; omega
    · have HF : Hid (RdI wr (.slice oa ps.length oc) (compile t) ∧ (compile t).length ≤ t.length ∧ Below w.heap.size w wr) := hid (by
        have h1 := HG.out.hc
        rw [List.drop_eq_nil_of_le (by omega), cgo_nil] at h1
        exact ⟨⟨ps, h1.symm, Rd.of_own HG.out.ow, fun q hq => Rd.of_own (HG.out.rs q hq)⟩, by rw [h1, List.length_map]; omega, HG.out.hb⟩)
      clear HG hown
      go_wp2_with fail
      go_ret
      exact ⟨_, rfl, HF.out⟩
end Go.Proofs.YthnmdhcgnimdfaaDoor
