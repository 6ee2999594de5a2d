/- An append whose source may be nil or empty; the walks of slices.Grow at nil, slices.Concat, marks.Join: the rows one behind the other, for up to a million elements. -/
import Derived.Test.YtfadbbpnhppkpaaW7
import Derived.Lib.AppendZeros
import Derived.Maps.AppendAt
set_option linter.unusedVariables false
set_option linter.unusedSimpArgs false
namespace Go.Proofs.Ytfadbbpnhppkpaa
open Go.RowKit
attribute [local go_sem ↓] Go.wp_at_zero Go.wp_at_succ
section
variable {P : Program} (w : World)
theorem run_append_rd (base : Nat) (t ty e : TypeId) (i : TypeInfo) (z : Value) (size bytes : Nat) (ht : P.underlying t = some (.slice e)) (hi : P.info? e = some i) (hz : i.zero = some z)
    (hsize : i.size = size) (hby : i.bytes = bytes) (hzs : z.cells.size = size) (hsz : 0 < size)
    (v : Value) (n : Nat) (xs : List Value) (hown : w.ownsRow base e size v n xs)
    (u : Value) (m : Nat) (news : List Value) (hr : Rd w u m news) (hnl : news.length = m * size) (h1 : ∀ u ∈ news, u.oneCell' = true)
    (h63 : n + m ≤ maxLen) (hbytes : (n + m) * bytes ≤ 140737488355328) (hbase : base ≤ w.heap.size) :
    ∃ v' w', (Builtin.append_ #[t, t] ty #[v, u]).run P w = .ok v' w' ∧ w'.ownsRow base e size v' (n + m) (xs ++ news) ∧ w.grownBy w' v.ownBlock ∧
      (v'.ownBlock = v.ownBlock ∨ v'.ownBlock = some w.heap.size) := by
  obtain ⟨A, c, rfl, hc, hx⟩ := hr
  rcases A with _ | ad
  · have hn : news = [] := by
      rcases hx with h | ⟨b, off, h, _⟩
      · exact h
      · cases h
    subst hn
    have hm : m = 0 := by
      rcases Nat.eq_zero_or_pos m with h0 | h0
      · exact h0
      · have := Nat.mul_pos h0 hsz; simp at hnl; omega
    subst hm
    refine ⟨v, w, ?_, by simpa using hown, World.grownBy.refl w _, .inl rfl⟩
    rcases hown.2 with ⟨rfl, rfl⟩ | ⟨g, cap, cur, rfl, _, _, hnc, _⟩
    · simp [Builtin.append_, run_underlying ht, sizeOf, typeInfo, hi, Builtin.lenOf, Builtin.firstCells]
    · simp [Builtin.append_, run_underlying ht, sizeOf, typeInfo, hi, Builtin.lenOf, Builtin.firstCells, hnc, storeCells]
  · have hcells : ∀ j u, news[j]? = some u → w.cell? (ad.add j) = some u := by
      intro j u hu
      rcases hx with rfl | ⟨b, off, h, hat⟩
      · simp at hu
      · injection h with h
        subst h
        rw [Addr.add_lit]; exact hat j u hu
    obtain ⟨v', w', hrun, h2, h3, _, h5⟩ := run_append_own_at (P := P) w base t ty e i z size bytes ht hi hz hsize hby hzs hsz v n xs hown ad m c news hnl hcells h1 h63 hbytes hbase
    exact ⟨v', w', hrun, h2, h3, h5⟩
theorem wpList_append_rd {ops : Array Oper} {rest : List Oper} {o : Oper} {a : Act} {Q : Exit → Act → World → Prop} (hgd : o.guard = none) (s x : Operand) (t : TypeId)
    (ho : o.op = .call { callee := .builtin .append, args := #[s, x], argTypes := #[t, t] })
    (base : Nat) (e : TypeId) (i : TypeInfo) (z : Value) (size bytes : Nat) (ht : P.underlying t = some (.slice e)) (hi : P.info? e = some i) (hz : i.zero = some z)
    (hsize : i.size = size) (hby : i.bytes = bytes) (hzs : z.cells.size = size) (hsz : 0 < size)
    (v : Value) (n : Nat) (xs : List Value) (hs : a.eval s = v) (hown : w.ownsRow base e size v n xs)
    (u : Value) (m : Nat) (news : List Value) (hx : a.eval x = u) (hr : Rd w u m news) (hnl : news.length = m * size) (h1 : ∀ u ∈ news, u.oneCell' = true)
    (h63 : n + m ≤ maxLen) (hbytes : (n + m) * bytes ≤ 140737488355328) (hbase : base ≤ w.heap.size)
    (h : ∀ v' w', w'.ownsRow base e size v' (n + m) (xs ++ news) → w.grownBy w' v.ownBlock → (v'.ownBlock = v.ownBlock ∨ v'.ownBlock = some w.heap.size) → wpList P ops Q rest (a.put o.dst v') w') : wpList P ops Q (o :: rest) a w :=
  wpList_plain hgd fun _ hK => by
    obtain ⟨v', w', hrun, h2, h3, h4⟩ := run_append_rd (P := P) w base t o.type e i z size bytes ht hi hz hsize hby hzs hsz v n xs hown u m news hr hnl h1 h63 hbytes hbase
    unfold Oper.wp execOp
    simp only [ho, resolve, invoke, builtin, Sem.run_bind, Sem.run_pure, Result.andThen_ok, List.map_toArray, List.map_cons, List.map_nil, hs, hx, hrun]
    exact hK _ _ (h v' w' h2 h3 h4)
end

set_option maxHeartbeats 400000 in
theorem grow_any (n : Nat) (w : World) (hn : n ≤ 100000000) :
    Calls Try.prog 32 #[.slice none 0 0, .int .i64 n] w fun e w' => ∃ v', e = .returned v' ∧ w'.ownsRow w.heap.size 49 2 v' 0 [] ∧ Below w.heap.size w w' := by
  obtain ⟨i0, hi, hz0, hz1, hz2⟩ := info_parts Try.info49
  rcases Nat.eq_zero_or_pos n with h0 | h0
  · subst h0
    go_enter Try.func32, Try.ntmps32
    go_wp2
    go_ret
    exact ⟨_, rfl, World.ownsRow_nil _ _ _ _, Below.refl _ _⟩
  · have h1 : decide ((n : Int) < 0) = false := by simp
    have h2 : decide ((0 : Int) < (n : Int)) = true := by simp; omega
    have hr : ∀ ty, (Builtin.append_ #[40, 3] ty #[.slice none 0 0, .int .i64 (n : Int)]).run Try.prog w = _ := fun ty => Lib.run_append_nil_zeros (P := Try.prog) w 40 3 ty 49 i0 _ .i64 .i64 Try.underlying40 Try.underlying3 hi hz0 n h0 (by omega) (by omega) (by rw [hz2]; omega)
    go_enter Try.func32, Try.ntmps32
    go_wp2_with (at_builtin; refine Lib.wpList_append_run _ rfl _ _ _ _ rfl _ _ rfl rfl _ _ (hr _) ?_)
    go_ret
    refine ⟨_, rfl, World.ownsRow_made w.drew _ _ (Nat.le_refl _) (grownCap_le_maxLen _ _ _ _ (by unfold maxLen; omega)) ?_, ((Below.refl _ _).drew).alloc (Nat.le_refl _) _⟩
    have := grownCap_ge w n 0 49
    rw [Array.size_append, size_zeroCells, size_zeroCells]
    show n * 2 + (grownCap w n 0 49 - n) * 2 = grownCap w n 0 49 * 2
    omega
/-- rows one behind the other -/
def RdX (w : World) (v : Value) (vs : List Value) (ll : List (List (UInt8 × Bool))) : Prop :=
  vs.length = ll.length ∧ Rd w v vs.length vs ∧ ∀ (i : Nat) (u : Value) (l : List (UInt8 × Bool)), vs[i]? = some u → ll[i]? = some l → Rd w u l.length (chs l)
def tot (ll : List (List (UInt8 × Bool))) : Nat := ll.flatten.length
theorem tot_snoc (ll : List (List (UInt8 × Bool))) (k : Nat) (h : k < ll.length) : tot (ll.take (k + 1)) = tot (ll.take k) + ll[k].length := by
  unfold tot; rw [List.take_succ_eq_append_getElem h]; simp only [List.flatten_append, List.length_append, List.flatten_cons, List.flatten_nil, List.append_nil]
theorem flat_snoc (ll : List (List (UInt8 × Bool))) (k : Nat) (h : k < ll.length) : (ll.take (k + 1)).flatten = (ll.take k).flatten ++ ll[k] := by
  rw [List.take_succ_eq_append_getElem h]; simp only [List.flatten_append, List.flatten_cons, List.flatten_nil, List.append_nil]
theorem tot_le (ll : List (List (UInt8 × Bool))) (k : Nat) : tot (ll.take k) ≤ tot ll := by
  have : tot ll = tot (ll.take k) + tot (ll.drop k) := by unfold tot; rw [← List.length_append, ← List.flatten_append, List.take_append_drop]
  omega
set_option maxRecDepth 100000 in
set_option maxHeartbeats 800000 in
theorem concat_any (v : Value) (ll : List (List (UInt8 × Bool))) (w : World) (h : RdR w v ll) (hn : ll.length ≤ 1000000) (hl : tot ll ≤ 1000000) :
    Calls Try.prog 29 #[v] w fun e w' => ∃ v', e = .returned v' ∧ Rd w' v' ll.flatten.length (chs ll.flatten) ∧ Below w.heap.size w w' := by
  obtain ⟨vs, hvl, hru, hus⟩ := h
  obtain ⟨A, cap, rfl, hcap, hx⟩ := hru.open_
  have HVL := hid hvl
  rw [hvl] at hcap ⊢
  clear hvl hru
  obtain ⟨i0, hi, hz0, hz1, hz2⟩ := info_parts Try.info49
  go_enter Try.func29, Try.ntmps29
  go_wp2
  go_loop [3, 11] (fun s i => ∃ k : Nat, k ≤ ll.length ∧ i = .int .i64 k ∧ s = .int .i64 (tot (ll.take k))) (fun _ i => ll.length - (intOf i).toNat)
  case atStart => exact ⟨0, Nat.zero_le _, rfl, rfl⟩
  case round =>
    obtain ⟨k, hk, rfl, rfl⟩ := hrel
    by_cases hlt : k < ll.length
    · have hku : k < vs.length := by rw [HVL.out]; exact hlt
      rcases hx with hx | ⟨b, off, rfl, hc⟩
      · rw [hx] at hku; simp at hku
      · have hcell := hc k vs[k] (List.getElem?_eq_getElem hku)
        obtain ⟨a0, c0, e0, hc0, _⟩ := hus k vs[k] ll[k] (List.getElem?_eq_getElem hku) (List.getElem?_eq_getElem hlt)
        rw [e0] at hcell
        have HS := hid (tot_snoc ll k hlt)
        have ht1 := tot_le ll (k + 1)
        rw [HS.out] at ht1
        have hnn : decide (((tot (ll.take k) : Int) + (ll[k].length : Int)) < 0) = false := by simp; omega
        clear hc hus e0
        generalize tot (ll.take k) = tk at *
        generalize ll[k].length = lk at *
        go_wp2
        go_round
        case rel => exact ⟨k + 1, by omega, by go_num, by rw [HS.out]; go_num⟩
        case measure => simp [intOf]; omega
    · obtain rfl : k = ll.length := by omega
      rw [List.take_length]
      have HF := hid (show tot ll = ll.flatten.length from rfl)
      have HL := hid (tot_le ll)
      generalize tot ll = tl at *
      go_wp2_with fail
      refine (grow_any tl _ (by omega)).mono ?_; rintro e w1 ⟨v1, rfl, hown, hb1⟩
      go_wp2
      go_loopw [6, 27] (fun vn i wr => ∃ k : Nat, k ≤ ll.length ∧ i = .int .i64 k ∧ wr.ownsRow w.heap.size 49 2 vn (tot (ll.take k)) (chs (ll.take k).flatten) ∧ Below w.heap.size w wr) (fun _ i _ => ll.length - (intOf i).toNat)
      case atStart => exact ⟨0, Nat.zero_le _, rfl, hown, hb1⟩
      case round =>
        obtain ⟨k, hk, rfl, hown, hb⟩ := hrel
        by_cases hlt : k < ll.length
        · have hku : k < vs.length := by rw [HVL.out]; exact hlt
          rcases hx with hx | ⟨b, off, rfl, hc⟩
          · rw [hx] at hku; simp at hku
          · have hcell := (show At w b off vs from hc).below hb k vs[k] (List.getElem?_eq_getElem hku)
            have hrd := (hus k vs[k] ll[k] (List.getElem?_eq_getElem hku) (List.getElem?_eq_getElem hlt)).below hb
            have HT := hid (tot_snoc ll k hlt)
            have HS := hid (flat_snoc ll k hlt)
            have ht1 := HL.out (k + 1)
            rw [HT.out] at ht1
            have hsz := hb.size
            clear hc hus
            generalize vs[k] = vk at *
            go_wp2_with (at_builtin; refine wpList_append_rd _ rfl _ _ 40 rfl w.heap.size 49 i0 _ 2 2 Try.underlying40 hi hz0 hz1 hz2 rfl (by decide) _ (tot (ll.take k)) (chs (ll.take k).flatten) rfl hown vk ll[k].length (chs ll[k]) rfl hrd (chs_len _) (chs_one _) (by unfold maxLen; omega) (by omega) (by omega) ?_)
            intro v' w2 hown2 hgrow hat
            have hbF := hb.grown hgrow hsz (fun j hj => (hown.lt j hj).1)
            clear hgrow hat hown hb hrd hcell
            go_wp2
            go_roundw
            case rel => exact ⟨k + 1, by omega, by go_num, by rw [HS.out, HT.out, chs_append]; exact hown2, hbF⟩
            case measure => simp [intOf]; omega
        · obtain rfl : k = ll.length := by omega
          have hown' := Rd.of_own hown
          rw [List.take_length] at hown'
          go_wp2
          go_ret
          exact ⟨_, rfl, hown', hb⟩
set_option maxHeartbeats 400000 in
theorem join_any (v : Value) (ll : List (List (UInt8 × Bool))) (w : World) (h : RdR w v ll) (hn : ll.length ≤ 1000000) (hl : tot ll ≤ 1000000) :
    Calls Try.prog 21 #[v] w fun e w' => ∃ v', e = .returned v' ∧ Rd w' v' ll.flatten.length (chs ll.flatten) ∧ Below w.heap.size w w' := by
  go_enter Try.func21, Try.ntmps21
  go_wp2_with fail
  refine (concat_any v ll _ h hn hl).mono ?_; rintro e w1 ⟨v1, rfl, hr, hb⟩
  go_wp2
  go_ret
  exact ⟨_, rfl, hr, hb⟩
end Go.Proofs.Ytfadbbpnhppkpaa
