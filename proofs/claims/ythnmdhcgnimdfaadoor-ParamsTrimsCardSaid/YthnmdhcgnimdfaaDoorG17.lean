/- The walks of whelkref01.Plain and whelkref02.in: the bytes alone; whether a byte lies in ranges. -/
import Derived.Test.YthnmdhcgnimdfaaDoorG16
import Derived.Test.YthnmdhcgnimdfaaDoorG6
set_option linter.unusedVariables false
set_option linter.unusedSimpArgs false
namespace Go.Proofs.YthnmdhcgnimdfaaDoor
open Go.RowKit
attribute [local go_sem ↓] Go.wp_at_zero Go.wp_at_succ
set_option maxHeartbeats 800000 in
theorem refin_any (v : Value) (rs : List Rg) (c : UInt8) (w : World) (h : Rd w v rs.length (rgs rs)) (hl : rs.length ≤ 1000000) :
    Calls Tryd.prog 61 #[v, .int .u8 (c.toNat : Int)] w fun e w' => e = .returned (.bool (inR rs c)) ∧ w = w' := by
  obtain ⟨A, cap, rfl, hcap, hx⟩ := h.open_
  clear h
  go_enter Tryd.func61, Tryd.ntmps61
  go_wp2_with fail
  go_loop [5] (fun i => ∃ k : Nat, k ≤ rs.length ∧ i = .int .i64 k ∧ Hid (inR (rs.take k) c = false)) (fun i => rs.length - (intOf i).toNat)
  case atStart => exact ⟨0, Nat.zero_le _, rfl, hid rfl⟩
  case round =>
    obtain ⟨k, hk, rfl, HH⟩ := hrel
    by_cases hlt : k < rs.length
    · rcases hx with hx | ⟨b, off, rfl, hc⟩
      · exact (rgs_ne hlt hx).elim
      · obtain ⟨c1, c2⟩ := (show At w b off (rgs rs) from hc).rg k hlt
        have HS := hid (inR_snoc rs k hlt c)
        have HO := hid (inR_of rs k hlt c)
        have HD := hid (show inR1 rs[k] c = (decide (rs[k].1.toNat ≤ c.toNat) && decide (c.toNat ≤ rs[k].2.toNat)) from rfl)
        clear hc
        generalize rs[k] = r at *
        obtain ⟨ra, rb⟩ := r
        dsimp only at c1 c2 HD
        by_cases h1 : ra.toNat ≤ c.toNat
        · by_cases h2 : c.toNat ≤ rb.toNat
          · have HIN := hid (HO.out (by rw [HD.out]; simp [h1, h2]))
            go_wp2_with fail
            go_ret
            exact ⟨ret_bool HIN.out.symm, rfl⟩
          · have HN : Hid (inR1 (ra, rb) c = false) := hid (by rw [HD.out]; simp [h1]; omega)
            go_wp2_with fail
            go_round
            case rel => exact ⟨k + 1, by omega, by go_num, hid (by rw [HS.out, HH.out, HN.out]; rfl)⟩
            case measure => simp [intOf]; omega
        · have HN : Hid (inR1 (ra, rb) c = false) := hid (by rw [HD.out]; simp [h1])
          go_wp2_with fail
          go_round
          case rel => exact ⟨k + 1, by omega, by go_num, hid (by rw [HS.out, HH.out, HN.out]; rfl)⟩
          case measure => simp [intOf]; omega
    · have HIN : Hid (inR rs c = false) := hid (by have := HH.out; rwa [List.take_of_length_le (by omega)] at this)
      clear HH hx
      go_wp2_with fail
      go_ret
      exact ⟨ret_bool HIN.out.symm, rfl⟩
theorem bys_len (l : List UInt8) : (bys l).length = l.length := by simp [bys]
theorem run_bytes_own {w : World} {base : Nat} {v : Value} {l : List UInt8} (h : w.ownsRow base 5 1 v l.length (bys l)) : (convert 42 9 v).run Tryd.prog w = .ok (.string ⟨l.toArray⟩) w := by
  rcases h.2 with ⟨rfl, h0⟩ | ⟨g, cap, cur, rfl, _⟩
  · have : l = [] := List.eq_nil_of_length_eq_zero h0
    subst this
    rw [run_convert_bytes_string (P := Tryd.prog) w 42 9 5 none 0 0 Tryd.underlying42 Tryd.underlying5 Tryd.underlying9]
    rfl
  · exact run_convert_bytes_back (P := Tryd.prog) w 42 9 5 ⟨g, 0, none⟩ cap l Tryd.underlying42 Tryd.underlying5 Tryd.underlying9 (fun j hj => h.cells (g := g) rfl j _ (by simp [bys, List.getElem?_eq_getElem hj]))
set_option maxHeartbeats 800000 in
theorem refplain_any (v : Value) (t : List Ch) (w : World) (h : Rd w v t.length (chs t)) (hl : t.length ≤ 100000) :
    Calls Tryd.prog 59 #[v] w fun e w' => e = .returned (.string ⟨(t.map Prod.fst).toArray⟩) ∧ Below w.heap.size w w' := by
  obtain ⟨A, cap, rfl, hcap, hx⟩ := h.open_
  clear h
  obtain ⟨i0, hi, hz0, hz1, hz2⟩ := info_parts Tryd.info5
  go_enter Tryd.func59, Tryd.ntmps59
  go_wp2_with fail
  go_loopw [3, 4] (fun vo i wr => ∃ k : Nat, k ≤ t.length ∧ i = .int .i64 k ∧ wr.ownsRow w.heap.size 5 1 vo k (bys ((t.take k).map Prod.fst)) ∧ Below w.heap.size w wr) (fun _ i _ => t.length - (intOf i).toNat)
  case atStart => exact ⟨0, Nat.zero_le _, rfl, World.ownsRow_nil _ _ _ _, Below.refl _ _⟩
  case round =>
    obtain ⟨k, hk, rfl, hown, hb⟩ := hrel
    obtain ⟨oa, oc, rfl⟩ := own_slice hown
    by_cases hlt : k < t.length
    · rcases hx with hx | ⟨b, off, rfl, hc⟩
      · exact (chs_ne hlt hx).elim
      · obtain ⟨c1, c2⟩ := (show At w b off (chs t) from hc).below hb |>.ch k hlt
        have HS : Hid (bys ((t.take (k + 1)).map Prod.fst) = bys ((t.take k).map Prod.fst) ++ [.int .u8 (t[k].1.toNat : Int)]) := hid (by
          rw [List.take_succ_eq_append_getElem hlt, List.map_append]; simp [bys])
        have hsz := hb.size
        clear hc
        generalize t[k] = c at *
        go_wp2_with (at_builtin; refine wpList_append_lies _ rfl _ _ 42 rfl w.heap.size 5 i0 _ 1 1 Tryd.underlying42 hi hz0 hz1 hz2 rfl (by decide) (.slice oa k oc) k (bys ((t.take k).map Prod.fst)) rfl (hown.alloc _) ⟨wr.heap.size, 0, none⟩ 1 1 [.int .u8 (c.1.toNat : Int)] rfl rfl (World.news_of_block (cs := #[.int .u8 (c.1.toNat : Int)]) (t := 5) (fr := (0, 0)) (heap_alloc_new wr _)) (by simp [Value.oneCell']) (by omega) (by unfold maxLen; omega) (by omega) (by simp; omega) (wr.heap.size + 1) (by simp) ?_)
        intro g capn w3 hown3 hgrow hat3 hlt3
        have hbF := (hb.alloc hsz (.cells #[.int .u8 (c.1.toNat : Int)] 5)).grown hgrow (by simp; omega) (fun j hj => (hown.lt j hj).1)
        clear hgrow hat3 hlt3 hown hb
        go_wp2_with fail
        go_roundw
        case rel => exact ⟨k + 1, by omega, by go_num, by rw [HS.out]; simpa [List.map_take] using hown3, hbF⟩
        case measure => simp [intOf]; omega
    · obtain rfl : k = t.length := by omega
      rw [List.take_length] at hown
      have hcv := run_bytes_own (l := t.map Prod.fst) (by rw [List.length_map]; exact hown)
      clear hown hx
      go_wp2_with fail
      go_ret
      exact ⟨rfl, hb⟩
end Go.Proofs.YthnmdhcgnimdfaaDoor
