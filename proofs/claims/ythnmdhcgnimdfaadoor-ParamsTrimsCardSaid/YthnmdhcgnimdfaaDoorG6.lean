/- The walks of (globs.Item).fits, globs.matches with no place held hard, globs.Match: for up to ten thousand items with few ranges, and texts of up to ten thousand bytes. -/
import Derived.Test.YthnmdhcgnimdfaaDoorG5
import Derived.Test.YthnmdhcgnimdfaaDoorMat
set_option linter.unusedVariables false
set_option linter.unusedSimpArgs false
namespace Go.Proofs.YthnmdhcgnimdfaaDoor
open Go.RowKit
attribute [local go_sem ↓] Go.wp_at_zero Go.wp_at_succ
theorem At.rg {w : World} {b off : Nat} {l : List Rg} (h : At w b off (rgs l)) (k : Nat) (hk : k < l.length) :
    w.cell? ⟨b, off + k * 2, none⟩ = some (.int .u8 (l[k].1.toNat : Int)) ∧ w.cell? ⟨b, off + k * 2 + 1, none⟩ = some (.int .u8 (l[k].2.toNat : Int)) :=
  ⟨h _ _ (rgs_at l k hk).1, h _ _ (rgs_at l k hk).2⟩
theorem rgs_ne {l : List Rg} {k : Nat} (h : k < l.length) (e : rgs l = []) : False := by have := rgs_len l; rw [e] at this; simp at this; omega
def inR1 (r : Rg) (b : UInt8) : Bool := decide (r.1.toNat ≤ b.toNat) && decide (b.toNat ≤ r.2.toNat)
theorem inR_snoc (l : List Rg) (k : Nat) (h : k < l.length) (b : UInt8) : inR (l.take (k + 1)) b = (inR (l.take k) b || inR1 l[k] b) := by
  unfold inR; rw [List.take_succ_eq_append_getElem h, List.any_append]; simp [inR1]
theorem inR_of (l : List Rg) (k : Nat) (h : k < l.length) (b : UInt8) (e : inR1 l[k] b = true) : inR l b = true := by
  simp only [inR, List.any_eq_true]; exact ⟨l[k], List.getElem_mem h, e⟩
theorem fits_4 {x : It} (b : UInt8) (h : x.kind = 4) : fitsB x b = (inR x.rs b != x.neg) := by unfold fitsB; rw [h]; rfl
set_option maxRecDepth 100000 in
set_option maxHeartbeats 3000000 in
theorem fits_any (x : It) (u : Value) (c : UInt8) (w : World) (h : Rd w u x.rs.length (rgs x.rs)) (hl : x.rs.length ≤ 1000000) :
    Calls Tryd.prog 76 #[.agg #[.int .i64 x.kind, .int .u8 (x.b.toNat : Int), .bool x.neg, u], .int .u8 (c.toNat : Int)] w fun e w' => e = .returned (.bool (fitsB x c)) ∧ Below w.heap.size w w' := by
  obtain ⟨A, cap, rfl, hcap, hx⟩ := h.open_
  clear h
  obtain ⟨kd, xb, ng, rs⟩ := x
  dsimp only at hcap hx hl ⊢
  have k0 := Bk.new w 69 #[.int .i64 kd, .int .u8 (xb.toNat : Int), .bool ng, .slice A rs.length cap]
  have hb0 := (Below.refl w.heap.size w).alloc (Nat.le_refl _) (.cells #[.int .i64 kd, .int .u8 (xb.toNat : Int), .bool ng, .slice A rs.length cap] 69)
  by_cases h1 : kd = 1
  · subst h1
    have hf : fitsB ⟨1, xb, ng, rs⟩ c = ((xb.toNat : Int) == (c.toNat : Int)) := by rw [u8_eq]; rfl
    rw [hf]
    go_enter Tryd.func76, Tryd.ntmps76
    go_wp2_with fail
    go_ret
    exact ⟨rfl, hb0⟩
  by_cases h2 : kd = 2
  · subst h2
    go_enter Tryd.func76, Tryd.ntmps76
    go_wp2_with fail
    go_ret
    exact ⟨rfl, hb0⟩
  have e1 : (kd == 1) = false := by simpa using h1
  have e2 : (kd == 2) = false := by simpa using h2
  by_cases h4 : kd = 4
  · have HF := hid (fits_4 (x := ⟨kd, xb, ng, rs⟩) c h4)
    dsimp only at HF
    subst h4
    clear h1 h2 e1 e2
    go_enter Tryd.func76, Tryd.ntmps76
    go_wp2_with fail
    go_loopw [22] (fun i wr => ∃ k : Nat, k ≤ rs.length ∧ i = .int .i64 k ∧ inR (rs.take k) c = false ∧ Below w.heap.size w wr ∧ Bk wr w.heap.size 69 #[.int .i64 4, .int .u8 (xb.toNat : Int), .bool ng, .slice A rs.length cap]) (fun i _ => rs.length - (intOf i).toNat)
    case atStart => exact ⟨0, Nat.zero_le _, rfl, rfl, hb0, k0⟩
    case round =>
      clear hb0 k0
      obtain ⟨k, hk, rfl, hh, hb, k0⟩ := hrel
      have HH := hid hh
      clear hh
      obtain ⟨p0, p1, p2, p3⟩ := k0.cells4
      have hlt0 := k0.lt
      by_cases hlt : k < rs.length
      · rcases hx with hx | ⟨b, off, rfl, hc⟩
        · exact (rgs_ne hlt hx).elim
        · obtain ⟨c1, c2⟩ := (show At w b off (rgs rs) from hc).below hb |>.rg k hlt
          have hbw : b < w.heap.size := (show At w b off (rgs rs) from hc).lt (by rw [rgs_len]; omega)
          have HS := hid (inR_snoc rs k hlt c)
          have HO := hid (inR_of rs k hlt c)
          have HD := hid (show inR1 rs[k] c = (decide (rs[k].1.toNat ≤ c.toNat) && decide (c.toNat ≤ rs[k].2.toNat)) from rfl)
          clear hc
          generalize rs[k] = r at *
          obtain ⟨ra, rb⟩ := r
          dsimp only at c1 c2 HD
          by_cases h1 : ra.toNat ≤ c.toNat
          · by_cases h2 : c.toNat ≤ rb.toNat
            · have hin : inR rs c = true := HO.out (by rw [HD.out]; simp [h1, h2])
              have hr : fitsB ⟨4, xb, ng, rs⟩ c = !ng := by rw [HF.out, hin]; simp
              have HR := hid hr
              clear hin hr
              go_wp2_with fail
              go_ret
              exact ⟨ret_bool HR.out.symm, hb.alloc hb.size _⟩
            · have hn : inR1 (ra, rb) c = false := by rw [HD.out]; simp [h1]; omega
              have HN := hid hn
              have hbF := hb.alloc hb.size (.cells #[.int .u8 (ra.toNat : Int), .int .u8 (rb.toNat : Int)] 121)
              have kF := k0.alloc (.cells #[.int .u8 (ra.toNat : Int), .int .u8 (rb.toNat : Int)] 121)
              clear hn hb k0
              go_wp2_with fail
              go_roundw
              case rel => exact ⟨k + 1, by omega, by go_num, by rw [HS.out, HH.out, HN.out]; rfl, hbF, kF⟩
              case measure => simp [intOf]; omega
          · have hn : inR1 (ra, rb) c = false := by rw [HD.out]; simp [h1]
            have HN := hid hn
            have hbF := hb.alloc hb.size (.cells #[.int .u8 (ra.toNat : Int), .int .u8 (rb.toNat : Int)] 121)
            have kF := k0.alloc (.cells #[.int .u8 (ra.toNat : Int), .int .u8 (rb.toNat : Int)] 121)
            clear hn hb k0
            go_wp2_with fail
            go_roundw
            case rel => exact ⟨k + 1, by omega, by go_num, by rw [HS.out, HH.out, HN.out]; rfl, hbF, kF⟩
            case measure => simp [intOf]; omega
      · have hin : inR rs c = false := by have := HH.out; rwa [List.take_of_length_le (by omega)] at this
        have hr : fitsB ⟨4, xb, ng, rs⟩ c = ng := by rw [HF.out, hin]; simp
        have HR := hid hr
        clear hin hr
        go_wp2_with fail
        go_ret
        exact ⟨ret_bool HR.out.symm, hb⟩
  · have e4 : (kd == 4) = false := by simpa using h4
    have hr : fitsB ⟨kd, xb, ng, rs⟩ c = false := by unfold fitsB; dsimp only; rw [if_neg h1, if_neg h2, if_neg h4]
    rw [hr]
    clear h1 h2 h4 hr
    go_enter Tryd.func76, Tryd.ntmps76
    go_wp2_with fail
    go_ret
    exact ⟨rfl, hb0⟩
end Go.Proofs.YthnmdhcgnimdfaaDoor
