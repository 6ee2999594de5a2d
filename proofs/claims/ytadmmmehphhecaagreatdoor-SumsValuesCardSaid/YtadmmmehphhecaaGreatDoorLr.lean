/- The walks of value and set of sums.valuer. -/
import Derived.Test.YtadmmmehphhecaaGreatDoorLq
import Derived.Deep.RegionHeld3
import Derived.Deep.RegionWith
import Derived.Deep.DeepMust
set_option linter.unusedVariables false
set_option linter.unusedSimpArgs false
namespace Go.Proofs.YtadmmmehphhecaaGreatDoor
open Go.RowKit
theorem TabAt.own_big {w : World} {B g : Nat} {T : Tab} {u : Value} (h : TabAt w B g T u) (hB : GBig B) : ∀ b, u.ownBlock = some b → GBig b := by
  intro b hb
  rcases h.2.1.2 with ⟨rfl, _⟩ | ⟨g', cap, cur, rfl, hge, _⟩
  · simp [Value.ownBlock] at hb
  · have : g' = b := by simpa [Value.ownBlock] using hb
    subst this; unfold GBig at *; omega
theorem TabAt.own_lt {w : World} {B g : Nat} {T : Tab} {u : Value} (h : TabAt w B g T u) : ∀ b, u.ownBlock = some b → b < w.heap.size := by
  intro b hb
  rcases h.2.1.2 with ⟨rfl, _⟩ | ⟨g', cap, cur, rfl, _, hh, _⟩
  · simp [Value.ownBlock] at hb
  · have : g' = b := by simpa [Value.ownBlock] using hb
    subst this
    rcases Nat.lt_or_ge g' w.heap.size with h1 | h1
    · exact h1
    · rw [Array.getElem?_eq_none h1] at hh; cases hh
theorem Laid.step {w w' : World} {g : Nat} {u u' : Value} (h : Laid w) (k : TStep g w u w' u') (hg : GBig g) (hu : ∀ b, u.ownBlock = some b → GBig b) : Laid w' :=
  h.as fun i hi hlt => k.block i ⟨by unfold GBig at hg; omega, fun e => by have := hu i e.symm; unfold GBig at this; omega, hlt⟩
/-- what a value is reckoned in -/
structure VIn (w : World) (g B : Nat) (T : Tab) (u : Value) : Prop where
  tab : TabAt w B g T u
  laid : Laid w
  bb : GBig B
  bg : GBig g
  short : Short T
theorem VIn.step {w w' : World} {g B : Nat} {T T' : Tab} {u u' : Value} (h : VIn w g B T u) (k : TStep g w u w' u') (ht : TabAt w' B g T' u') (hs : Short T') : VIn w' g B T' u' :=
  ⟨ht, h.laid.step k h.bg (h.tab.own_big h.bb), h.bb, h.bg, hs⟩
theorem VIn.below {w w' : World} {g B : Nat} {T : Tab} {u : Value} (h : VIn w g B T u) (k : Below w.heap.size w w') : VIn w' g B T u := h.step (TStep.below k) (h.tab.below k) h.short
theorem VIn.new {w : World} {g B : Nat} {T : Tab} {u : Value} (h : VIn w g B T u) {w' : World} (hb : Below w.heap.size w w') {n : Nat} (h0 : w.heap.size ≤ n) (h1 : n < w'.heap.size) : Free w' g u n :=
  ⟨by have := h.tab.1.lt; omega, fun e => by have := h.tab.own_lt n e.symm; omega, h1⟩
def ValPost (e : Ex) (g B : Nat) (T : Tab) (u : Value) (w : World) (x : Ending) (w' : World) : Prop :=
  ∃ u', TStep g w u w' u' ∧ TabAt w' B g (valF e T).2 u' ∧ match (valF e T).1 with
    | .ok n => x = .returned (.int .i64 n)
    | .error er => x = .panicked (errV er)
def ValC (e : Ex) : Prop := ∀ (w : World) (g B : Nat) (T : Tab) (u v : Value), RdX w (Free w g u) e v → VIn w g B T u → T.length + szF e ≤ 100000 → Calls Tryz.prog 37 #[vw g, v] w (ValPost e g B T u w)
theorem ValC.call {e : Ex} (h : ValC e) (w : World) (g B : Nat) (T : Tab) (u v : Value) (hr : RdX w (Free w g u) e v) (hV : VIn w g B T u) (hl : T.length + szF e ≤ 100000) : Calls Tryz.prog 37 #[.agg #[.iface TSt (.pointer (some ⟨g, 0, none⟩))], v] w (ValPost e g B T u w) := h w g B T u v hr hV hl
theorem ValPost.good {e : Ex} {g B : Nat} {T T' : Tab} {u u' : Value} {w w' : World} {n m : Int} (hst : TStep g w u w' u') (ht : TabAt w' B g T' u') (hv : valF e T = (.ok n, T')) (hm : m = n) : ValPost e g B T u w (.returned (.int .i64 m)) w' := by
  subst hm; exact ⟨u', hst, by rw [hv]; exact ht, by rw [hv]⟩
theorem ValPost.bad {e : Ex} {g B : Nat} {T T' : Tab} {u u' : Value} {w w' : World} {er : Int} (hst : TStep g w u w' u') (ht : TabAt w' B g T' u') (hv : valF e T = (.error er, T')) : ValPost e g B T u w (.panicked (errV er)) w' :=
  ⟨u', hst, by rw [hv]; exact ht, by rw [hv]⟩
theorem com_eq (n : Int) (h : I64 n) : bits .xor .i64 (if IntKind.i64.signed = true then -1 else 9223372036854775807) n = -1 - n := by
  show IntKind.i64.wrap ((BitVec.ofInt 64 (-1) ^^^ BitVec.ofInt 64 n).toNat : Int) = -1 - n
  have h1 : BitVec.ofInt 64 (-1) ^^^ BitVec.ofInt 64 n = ~~~ (BitVec.ofInt 64 n) := by
    rw [show BitVec.ofInt 64 (-1) = BitVec.allOnes 64 by decide]; exact BitVec.allOnes_xor
  rw [h1, BitVec.toNat_not, BitVec.toNat_ofInt, IntWalk.i64_left]
  unfold wrap64 I64 at *; omega
theorem thenV_ok (n : Int) (T : Tab) (f : Int → Tab → VR) : thenV (.ok n, T) f = f n T := rfl
theorem I64.lo {n : Int} (h : I64 n) : -9223372036854775808 ≤ n := h.1
theorem I64.hi {n : Int} (h : I64 n) : n ≤ 9223372036854775807 := h.2
/-- what a value leaves -/
theorem val_after {e : Ex} {T T1 : Tab} {r : Except Int Int} (ho : okF e = true) (hs : Short T) (h : valF e T = (r, T1)) : Short T1 ∧ T1.length ≤ T.length + szF e ∧ ∀ n, r = .ok n → I64 n := by
  have := val_good e ho T hs
  rw [h] at this; exact this
set_option maxRecDepth 100000 in
set_option maxHeartbeats 4000000 in
theorem val_kids (op : List UInt8) (n : Int) (nm : List UInt8) (k : Exs) (hmis : ¬ (k.len : Int) = kidsF op) : ValC (.mk op n nm k) := by
  have hval : ∀ T, valF (.mk op n nm k) T = (.error 1, T) := by intro T; show combV op n nm (valL k) T = _; unfold combV; rw [valL_map, List.length_map, Exs.toL_len, if_pos hmis]
  have HVAL := hid hval
  clear hval
  intro w g B T u v hr hV hlen
  obtain ⟨A, cap, rfl, hcap, hkids⟩ := hr.form
  dsimp only [Ex.op, Ex.num, Ex.name, Ex.kids, Exs.len, Nat.zero_add, Nat.reduceAdd] at *
  unfold vw
  have kV : Bk ((w.alloc (.cells #[.iface TSt (.pointer (some ⟨g, 0, none⟩))] 78)).alloc (.cells #[.string ⟨op.toArray⟩, .int .i64 n, .string ⟨nm.toArray⟩, .slice A k.len cap] 30)) w.heap.size 78 #[.iface TSt (.pointer (some ⟨g, 0, none⟩))] := (Bk.new w 78 #[.iface TSt (.pointer (some ⟨g, 0, none⟩))]).alloc _
  have kE : Bk ((w.alloc (.cells #[.iface TSt (.pointer (some ⟨g, 0, none⟩))] 78)).alloc (.cells #[.string ⟨op.toArray⟩, .int .i64 n, .string ⟨nm.toArray⟩, .slice A k.len cap] 30)) (w.heap.size + 1) 30 #[.string ⟨op.toArray⟩, .int .i64 n, .string ⟨nm.toArray⟩, .slice A k.len cap] := heap2_1 w _ _
  have hB0 : Below w.heap.size w ((w.alloc (.cells #[.iface TSt (.pointer (some ⟨g, 0, none⟩))] 78)).alloc (.cells #[.string ⟨op.toArray⟩, .int .i64 n, .string ⟨nm.toArray⟩, .slice A k.len cap] 30)) := ((Below.refl _ _).alloc (Nat.le_refl _) _).alloc (by simp) _
  have hsz0 : ((w.alloc (.cells #[.iface TSt (.pointer (some ⟨g, 0, none⟩))] 78)).alloc (.cells #[.string ⟨op.toArray⟩, .int .i64 n, .string ⟨nm.toArray⟩, .slice A k.len cap] 30)).heap.size = w.heap.size + 1 + 1 := by simp
  go_enter Tryz.func37, Tryz.ntmps37
  go_wp2_with fail
  obtain ⟨W0, hW0⟩ : ∃ W0, W0 = ((w.alloc (.cells #[.iface TSt (.pointer (some ⟨g, 0, none⟩))] 78)).alloc (.cells #[.string ⟨op.toArray⟩, .int .i64 n, .string ⟨nm.toArray⟩, .slice A k.len cap] 30)) := ⟨_, rfl⟩
  rw [← hW0] at kV kE hB0 hsz0 
  rw [← hW0]
  clear hW0 
  have v0 := kV.cell 0 _ rfl
  obtain ⟨c0, c1, c2, c3⟩ := kE.cells4
  have fV : Free W0 g u w.heap.size := hV.new hB0 (Nat.le_refl _) (by omega)
  have fE : Free W0 g u (w.heap.size + 1) := hV.new hB0 (by omega) (by omega)
  have ST := hid (TStep.below (g := g) (u := u) hB0)
  have VI := hid (hV.below hB0)
  have HS0 := hid hV.short
  clear kV kE hB0 hsz0 hV hr hcap hkids 
  have stq := TStep.below (g := g) (u := u) ((Below.refl W0.heap.size W0).drew)
  have v0 := cell_step stq fV v0
  have c0 := cell_step stq fE c0
  have c1 := cell_step stq fE c1
  have c2 := cell_step stq fE c2
  have c3 := cell_step stq fE c3
  have fV := stq.free fV
  have fE := stq.free fE
  have ST := hid (ST.out.trans stq)
  have VI := hid (VI.out.below ((Below.refl W0.heap.size W0).drew))
  clear stq
  refine wp_region_held_drew (S := (fun w' => w'.cell? ⟨w.heap.size, 0, none⟩ = some (.iface TSt (.pointer (some ⟨g, 0, none⟩))) ∧ w'.cell? ⟨w.heap.size + 1, 0, none⟩ = some (.string ⟨op.toArray⟩) ∧ w'.cell? ⟨w.heap.size + 1, 1, none⟩ = some (.int .i64 n) ∧ w'.cell? ⟨w.heap.size + 1, 2, none⟩ = some (.string ⟨nm.toArray⟩) ∧ w'.cell? ⟨w.heap.size + 1, 3, none⟩ = some (.slice A k.len cap))) (by kernel_rfl) ⟨v0, c0, c1, c2, c3⟩ (fun hHeld => ?_)
  refine takeYes (i := 0) (v := .pointer (some ⟨w.heap.size + 1, 3, none⟩)) rfl (by kernel_rfl) (by kernel_rfl) (by kernel_rfl) (fun _ _ _ h => h) (by rfl) ?_ (by assumption) ?_
  · intro w hSw; obtain ⟨sq0, sq1, sq2, sq3, sq4⟩ := hSw; go_simp
  try simp only [Act.put, List.setIfInBounds_toArray, List.set_cons_zero, List.set_cons_succ]
  refine takeYes (i := 1) (v := .slice A k.len cap) rfl (by kernel_rfl) (by kernel_rfl) (by kernel_rfl) (fun _ _ _ h => h) (by rfl) ?_ (by assumption) ?_
  · intro w hSw; obtain ⟨sq0, sq1, sq2, sq3, sq4⟩ := hSw; go_simp
  try simp only [Act.put, List.setIfInBounds_toArray, List.set_cons_zero, List.set_cons_succ]
  refine takeYes (i := 2) (v := .int .i64 (k.len : Int)) rfl (by kernel_rfl) (by kernel_rfl) (by kernel_rfl) (fun _ _ _ h => h) (by rfl) ?_ (by assumption) ?_
  · intro w hSw; obtain ⟨sq0, sq1, sq2, sq3, sq4⟩ := hSw; go_simp
  try simp only [Act.put, List.setIfInBounds_toArray, List.set_cons_zero, List.set_cons_succ]
  refine takeYes (i := 3) (v := .pointer (some ⟨w.heap.size + 1, 0, none⟩)) rfl (by kernel_rfl) (by kernel_rfl) (by kernel_rfl) (fun _ _ _ h => h) (by rfl) ?_ (by assumption) ?_
  · intro w hSw; obtain ⟨sq0, sq1, sq2, sq3, sq4⟩ := hSw; go_simp
  try simp only [Act.put, List.setIfInBounds_toArray, List.set_cons_zero, List.set_cons_succ]
  refine takeYes (i := 4) (v := .string ⟨op.toArray⟩) rfl (by kernel_rfl) (by kernel_rfl) (by kernel_rfl) (fun _ _ _ h => h) (by rfl) ?_ (by assumption) ?_
  · intro w hSw; obtain ⟨sq0, sq1, sq2, sq3, sq4⟩ := hSw; go_simp
  try simp only [Act.put, List.setIfInBounds_toArray, List.set_cons_zero, List.set_cons_succ]
  refine wpAnyH_ready (rs := [5]) (by kernel_rfl) (by simp) ?_
  refine AllReadyH.cons rfl (fun K hK => ?_) AllReadyH.nil
  go_simp
  ((with_reducible refine (kids_any _ _).mono ?_); rintro e1 w1 ⟨rfl, hby⟩)
  have stq := TStep.below (g := g) (u := u) hby
  have v0 := cell_step stq fV v0
  have c0 := cell_step stq fE c0
  have c1 := cell_step stq fE c1
  have c2 := cell_step stq fE c2
  have c3 := cell_step stq fE c3
  have fV := stq.free fV
  have fE := stq.free fE
  have ST := hid (ST.out.trans stq)
  have VI := hid (VI.out.below hby)
  clear stq hby
  go_wp2_with fail
  refine hK.out _ _ ?_ (fun hHeld => ?_)
  · exact ⟨v0, c0, c1, c2, c3⟩
  clear hK K
  try simp only [Act.put, List.setIfInBounds_toArray, List.set_cons_zero, List.set_cons_succ]
  refine takeYes (i := 6) (v := .bool true) rfl (by kernel_rfl) (by kernel_rfl) (by kernel_rfl) (fun _ _ _ h => h) (by rfl) ?_ (by assumption) ?_
  · intro w hSw; obtain ⟨sq0, sq1, sq2, sq3, sq4⟩ := hSw; go_simp
  try simp only [Act.put, List.setIfInBounds_toArray, List.set_cons_zero, List.set_cons_succ]
  refine wpAnyH_done (by kernel_rfl) ?_ _
  go_wp2_with fail
  ((with_reducible refine (may_bad 1 (by decide) _).mono ?_); rintro e1 w2 ⟨rfl, rfl⟩)
  exact ⟨rfl, ValPost.bad ST.out VI.out.tab (HVAL.out T)⟩
set_option maxRecDepth 100000 in
set_option maxHeartbeats 4000000 in
theorem val_num (n : Int) (nm : List UInt8)  : ValC (.mk [110, 117, 109] n nm .nil) := by
  intro w g B T u v hr hV hlen
  obtain ⟨A, cap, rfl, hcap, hkids⟩ := hr.form
  dsimp only [Ex.op, Ex.num, Ex.name, Ex.kids, Exs.len, Nat.zero_add, Nat.reduceAdd] at *
  unfold vw
  have kV : Bk ((w.alloc (.cells #[.iface TSt (.pointer (some ⟨g, 0, none⟩))] 78)).alloc (.cells #[.string ⟨#[110, 117, 109]⟩, .int .i64 n, .string ⟨nm.toArray⟩, .slice A 0 cap] 30)) w.heap.size 78 #[.iface TSt (.pointer (some ⟨g, 0, none⟩))] := (Bk.new w 78 #[.iface TSt (.pointer (some ⟨g, 0, none⟩))]).alloc _
  have kE : Bk ((w.alloc (.cells #[.iface TSt (.pointer (some ⟨g, 0, none⟩))] 78)).alloc (.cells #[.string ⟨#[110, 117, 109]⟩, .int .i64 n, .string ⟨nm.toArray⟩, .slice A 0 cap] 30)) (w.heap.size + 1) 30 #[.string ⟨#[110, 117, 109]⟩, .int .i64 n, .string ⟨nm.toArray⟩, .slice A 0 cap] := heap2_1 w _ _
  have hB0 : Below w.heap.size w ((w.alloc (.cells #[.iface TSt (.pointer (some ⟨g, 0, none⟩))] 78)).alloc (.cells #[.string ⟨#[110, 117, 109]⟩, .int .i64 n, .string ⟨nm.toArray⟩, .slice A 0 cap] 30)) := ((Below.refl _ _).alloc (Nat.le_refl _) _).alloc (by simp) _
  have hsz0 : ((w.alloc (.cells #[.iface TSt (.pointer (some ⟨g, 0, none⟩))] 78)).alloc (.cells #[.string ⟨#[110, 117, 109]⟩, .int .i64 n, .string ⟨nm.toArray⟩, .slice A 0 cap] 30)).heap.size = w.heap.size + 1 + 1 := by simp
  go_enter Tryz.func37, Tryz.ntmps37
  go_wp2_with fail
  obtain ⟨W0, hW0⟩ : ∃ W0, W0 = ((w.alloc (.cells #[.iface TSt (.pointer (some ⟨g, 0, none⟩))] 78)).alloc (.cells #[.string ⟨#[110, 117, 109]⟩, .int .i64 n, .string ⟨nm.toArray⟩, .slice A 0 cap] 30)) := ⟨_, rfl⟩
  rw [← hW0] at kV kE hB0 hsz0 
  rw [← hW0]
  clear hW0 
  have v0 := kV.cell 0 _ rfl
  obtain ⟨c0, c1, c2, c3⟩ := kE.cells4
  have fV : Free W0 g u w.heap.size := hV.new hB0 (Nat.le_refl _) (by omega)
  have fE : Free W0 g u (w.heap.size + 1) := hV.new hB0 (by omega) (by omega)
  have ST := hid (TStep.below (g := g) (u := u) hB0)
  have VI := hid (hV.below hB0)
  have HS0 := hid hV.short
  clear kV kE hB0 hsz0 hV hr hcap hkids 
  have stq := TStep.below (g := g) (u := u) ((Below.refl W0.heap.size W0).drew)
  have v0 := cell_step stq fV v0
  have c0 := cell_step stq fE c0
  have c1 := cell_step stq fE c1
  have c2 := cell_step stq fE c2
  have c3 := cell_step stq fE c3
  have fV := stq.free fV
  have fE := stq.free fE
  have ST := hid (ST.out.trans stq)
  have VI := hid (VI.out.below ((Below.refl W0.heap.size W0).drew))
  clear stq
  have HKF : Hid (kidsF [110, 117, 109] = 0) := hid (by decide)
  refine wp_region_held_drew (S := (fun w' => w'.cell? ⟨w.heap.size, 0, none⟩ = some (.iface TSt (.pointer (some ⟨g, 0, none⟩))) ∧ w'.cell? ⟨w.heap.size + 1, 0, none⟩ = some (.string ⟨#[110, 117, 109]⟩) ∧ w'.cell? ⟨w.heap.size + 1, 1, none⟩ = some (.int .i64 n) ∧ w'.cell? ⟨w.heap.size + 1, 2, none⟩ = some (.string ⟨nm.toArray⟩) ∧ w'.cell? ⟨w.heap.size + 1, 3, none⟩ = some (.slice A 0 cap))) (by kernel_rfl) ⟨v0, c0, c1, c2, c3⟩ (fun hHeld => ?_)
  refine takeYes (i := 0) (v := .pointer (some ⟨w.heap.size + 1, 3, none⟩)) rfl (by kernel_rfl) (by kernel_rfl) (by kernel_rfl) (fun _ _ _ h => h) (by rfl) ?_ (by assumption) ?_
  · intro w hSw; obtain ⟨sq0, sq1, sq2, sq3, sq4⟩ := hSw; go_simp
  try simp only [Act.put, List.setIfInBounds_toArray, List.set_cons_zero, List.set_cons_succ]
  refine takeYes (i := 1) (v := .slice A 0 cap) rfl (by kernel_rfl) (by kernel_rfl) (by kernel_rfl) (fun _ _ _ h => h) (by rfl) ?_ (by assumption) ?_
  · intro w hSw; obtain ⟨sq0, sq1, sq2, sq3, sq4⟩ := hSw; go_simp
  try simp only [Act.put, List.setIfInBounds_toArray, List.set_cons_zero, List.set_cons_succ]
  refine takeYes (i := 2) (v := .int .i64 0) rfl (by kernel_rfl) (by kernel_rfl) (by kernel_rfl) (fun _ _ _ h => h) (by rfl) ?_ (by assumption) ?_
  · intro w hSw; obtain ⟨sq0, sq1, sq2, sq3, sq4⟩ := hSw; go_simp
  try simp only [Act.put, List.setIfInBounds_toArray, List.set_cons_zero, List.set_cons_succ]
  refine takeYes (i := 3) (v := .pointer (some ⟨w.heap.size + 1, 0, none⟩)) rfl (by kernel_rfl) (by kernel_rfl) (by kernel_rfl) (fun _ _ _ h => h) (by rfl) ?_ (by assumption) ?_
  · intro w hSw; obtain ⟨sq0, sq1, sq2, sq3, sq4⟩ := hSw; go_simp
  try simp only [Act.put, List.setIfInBounds_toArray, List.set_cons_zero, List.set_cons_succ]
  refine takeYes (i := 4) (v := .string ⟨#[110, 117, 109]⟩) rfl (by kernel_rfl) (by kernel_rfl) (by kernel_rfl) (fun _ _ _ h => h) (by rfl) ?_ (by assumption) ?_
  · intro w hSw; obtain ⟨sq0, sq1, sq2, sq3, sq4⟩ := hSw; go_simp
  try simp only [Act.put, List.setIfInBounds_toArray, List.set_cons_zero, List.set_cons_succ]
  refine wpAnyH_ready (rs := [5]) (by kernel_rfl) (by simp) ?_
  refine AllReadyH.cons rfl (fun K hK => ?_) AllReadyH.nil
  go_simp
  ((with_reducible refine (kids_any _ _).mono ?_); rintro e1 w1 ⟨rfl, hby⟩)
  rw [HKF.out]
  have stq := TStep.below (g := g) (u := u) hby
  have v0 := cell_step stq fV v0
  have c0 := cell_step stq fE c0
  have c1 := cell_step stq fE c1
  have c2 := cell_step stq fE c2
  have c3 := cell_step stq fE c3
  have fV := stq.free fV
  have fE := stq.free fE
  have ST := hid (ST.out.trans stq)
  have VI := hid (VI.out.below hby)
  clear stq hby
  go_wp2_with fail
  refine hK.out _ _ ?_ (fun hHeld => ?_)
  · exact ⟨v0, c0, c1, c2, c3⟩
  clear hK K
  try simp only [Act.put, List.setIfInBounds_toArray, List.set_cons_zero, List.set_cons_succ]
  refine takeYes (i := 6) (v := .bool false) rfl (by kernel_rfl) (by kernel_rfl) (by kernel_rfl) (fun _ _ _ h => h) (by rfl) ?_ (by assumption) ?_
  · intro w hSw; obtain ⟨sq0, sq1, sq2, sq3, sq4⟩ := hSw; go_simp
  try simp only [Act.put, List.setIfInBounds_toArray, List.set_cons_zero, List.set_cons_succ]
  refine wpAnyH_done (by kernel_rfl) ?_ _
  go_wp2_with fail
  ((with_reducible refine (isSet_any [110, 117, 109] _).mono ?_); rintro e1 w2 ⟨rfl, rfl⟩)
  rw [show setF [110, 117, 109] = false by decide]
  go_wp2_with fail
  go_ret
  exact ValPost.good ST.out VI.out.tab rfl rfl
theorem nameC (w : World) (g B : Nat) (T : Tab) (u : Value) (x : List UInt8) (h : VIn w g B T u) (hl : T.length ≤ 1000000) : Calls Tryz.prog 66 #[.agg #[.iface TSt (.pointer (some ⟨g, 0, none⟩))], .string ⟨x.toArray⟩] w (NamePost T x w) := name_any T x g B u w h.tab hl h.short h.laid
set_option maxRecDepth 100000 in
set_option maxHeartbeats 4000000 in
theorem val_name (n : Int) (nm : List UInt8)  : ValC (.mk [110, 97, 109, 101] n nm .nil) := by
  intro w g B T u v hr hV hlen
  obtain ⟨A, cap, rfl, hcap, hkids⟩ := hr.form
  dsimp only [Ex.op, Ex.num, Ex.name, Ex.kids, Exs.len, Nat.zero_add, Nat.reduceAdd] at *
  unfold vw
  have kV : Bk ((w.alloc (.cells #[.iface TSt (.pointer (some ⟨g, 0, none⟩))] 78)).alloc (.cells #[.string ⟨#[110, 97, 109, 101]⟩, .int .i64 n, .string ⟨nm.toArray⟩, .slice A 0 cap] 30)) w.heap.size 78 #[.iface TSt (.pointer (some ⟨g, 0, none⟩))] := (Bk.new w 78 #[.iface TSt (.pointer (some ⟨g, 0, none⟩))]).alloc _
  have kE : Bk ((w.alloc (.cells #[.iface TSt (.pointer (some ⟨g, 0, none⟩))] 78)).alloc (.cells #[.string ⟨#[110, 97, 109, 101]⟩, .int .i64 n, .string ⟨nm.toArray⟩, .slice A 0 cap] 30)) (w.heap.size + 1) 30 #[.string ⟨#[110, 97, 109, 101]⟩, .int .i64 n, .string ⟨nm.toArray⟩, .slice A 0 cap] := heap2_1 w _ _
  have hB0 : Below w.heap.size w ((w.alloc (.cells #[.iface TSt (.pointer (some ⟨g, 0, none⟩))] 78)).alloc (.cells #[.string ⟨#[110, 97, 109, 101]⟩, .int .i64 n, .string ⟨nm.toArray⟩, .slice A 0 cap] 30)) := ((Below.refl _ _).alloc (Nat.le_refl _) _).alloc (by simp) _
  have hsz0 : ((w.alloc (.cells #[.iface TSt (.pointer (some ⟨g, 0, none⟩))] 78)).alloc (.cells #[.string ⟨#[110, 97, 109, 101]⟩, .int .i64 n, .string ⟨nm.toArray⟩, .slice A 0 cap] 30)).heap.size = w.heap.size + 1 + 1 := by simp
  go_enter Tryz.func37, Tryz.ntmps37
  go_wp2_with fail
  obtain ⟨W0, hW0⟩ : ∃ W0, W0 = ((w.alloc (.cells #[.iface TSt (.pointer (some ⟨g, 0, none⟩))] 78)).alloc (.cells #[.string ⟨#[110, 97, 109, 101]⟩, .int .i64 n, .string ⟨nm.toArray⟩, .slice A 0 cap] 30)) := ⟨_, rfl⟩
  rw [← hW0] at kV kE hB0 hsz0 
  rw [← hW0]
  clear hW0 
  have v0 := kV.cell 0 _ rfl
  obtain ⟨c0, c1, c2, c3⟩ := kE.cells4
  have fV : Free W0 g u w.heap.size := hV.new hB0 (Nat.le_refl _) (by omega)
  have fE : Free W0 g u (w.heap.size + 1) := hV.new hB0 (by omega) (by omega)
  have ST := hid (TStep.below (g := g) (u := u) hB0)
  have VI := hid (hV.below hB0)
  have HS0 := hid hV.short
  clear kV kE hB0 hsz0 hV hr hcap hkids 
  have stq := TStep.below (g := g) (u := u) ((Below.refl W0.heap.size W0).drew)
  have v0 := cell_step stq fV v0
  have c0 := cell_step stq fE c0
  have c1 := cell_step stq fE c1
  have c2 := cell_step stq fE c2
  have c3 := cell_step stq fE c3
  have fV := stq.free fV
  have fE := stq.free fE
  have ST := hid (ST.out.trans stq)
  have VI := hid (VI.out.below ((Below.refl W0.heap.size W0).drew))
  clear stq
  have HKF : Hid (kidsF [110, 97, 109, 101] = 0) := hid (by decide)
  refine wp_region_held_drew (S := (fun w' => w'.cell? ⟨w.heap.size, 0, none⟩ = some (.iface TSt (.pointer (some ⟨g, 0, none⟩))) ∧ w'.cell? ⟨w.heap.size + 1, 0, none⟩ = some (.string ⟨#[110, 97, 109, 101]⟩) ∧ w'.cell? ⟨w.heap.size + 1, 1, none⟩ = some (.int .i64 n) ∧ w'.cell? ⟨w.heap.size + 1, 2, none⟩ = some (.string ⟨nm.toArray⟩) ∧ w'.cell? ⟨w.heap.size + 1, 3, none⟩ = some (.slice A 0 cap))) (by kernel_rfl) ⟨v0, c0, c1, c2, c3⟩ (fun hHeld => ?_)
  refine takeYes (i := 0) (v := .pointer (some ⟨w.heap.size + 1, 3, none⟩)) rfl (by kernel_rfl) (by kernel_rfl) (by kernel_rfl) (fun _ _ _ h => h) (by rfl) ?_ (by assumption) ?_
  · intro w hSw; obtain ⟨sq0, sq1, sq2, sq3, sq4⟩ := hSw; go_simp
  try simp only [Act.put, List.setIfInBounds_toArray, List.set_cons_zero, List.set_cons_succ]
  refine takeYes (i := 1) (v := .slice A 0 cap) rfl (by kernel_rfl) (by kernel_rfl) (by kernel_rfl) (fun _ _ _ h => h) (by rfl) ?_ (by assumption) ?_
  · intro w hSw; obtain ⟨sq0, sq1, sq2, sq3, sq4⟩ := hSw; go_simp
  try simp only [Act.put, List.setIfInBounds_toArray, List.set_cons_zero, List.set_cons_succ]
  refine takeYes (i := 2) (v := .int .i64 0) rfl (by kernel_rfl) (by kernel_rfl) (by kernel_rfl) (fun _ _ _ h => h) (by rfl) ?_ (by assumption) ?_
  · intro w hSw; obtain ⟨sq0, sq1, sq2, sq3, sq4⟩ := hSw; go_simp
  try simp only [Act.put, List.setIfInBounds_toArray, List.set_cons_zero, List.set_cons_succ]
  refine takeYes (i := 3) (v := .pointer (some ⟨w.heap.size + 1, 0, none⟩)) rfl (by kernel_rfl) (by kernel_rfl) (by kernel_rfl) (fun _ _ _ h => h) (by rfl) ?_ (by assumption) ?_
  · intro w hSw; obtain ⟨sq0, sq1, sq2, sq3, sq4⟩ := hSw; go_simp
  try simp only [Act.put, List.setIfInBounds_toArray, List.set_cons_zero, List.set_cons_succ]
  refine takeYes (i := 4) (v := .string ⟨#[110, 97, 109, 101]⟩) rfl (by kernel_rfl) (by kernel_rfl) (by kernel_rfl) (fun _ _ _ h => h) (by rfl) ?_ (by assumption) ?_
  · intro w hSw; obtain ⟨sq0, sq1, sq2, sq3, sq4⟩ := hSw; go_simp
  try simp only [Act.put, List.setIfInBounds_toArray, List.set_cons_zero, List.set_cons_succ]
  refine wpAnyH_ready (rs := [5]) (by kernel_rfl) (by simp) ?_
  refine AllReadyH.cons rfl (fun K hK => ?_) AllReadyH.nil
  go_simp
  ((with_reducible refine (kids_any _ _).mono ?_); rintro e1 w1 ⟨rfl, hby⟩)
  rw [HKF.out]
  have stq := TStep.below (g := g) (u := u) hby
  have v0 := cell_step stq fV v0
  have c0 := cell_step stq fE c0
  have c1 := cell_step stq fE c1
  have c2 := cell_step stq fE c2
  have c3 := cell_step stq fE c3
  have fV := stq.free fV
  have fE := stq.free fE
  have ST := hid (ST.out.trans stq)
  have VI := hid (VI.out.below hby)
  clear stq hby
  go_wp2_with fail
  refine hK.out _ _ ?_ (fun hHeld => ?_)
  · exact ⟨v0, c0, c1, c2, c3⟩
  clear hK K
  try simp only [Act.put, List.setIfInBounds_toArray, List.set_cons_zero, List.set_cons_succ]
  refine takeYes (i := 6) (v := .bool false) rfl (by kernel_rfl) (by kernel_rfl) (by kernel_rfl) (fun _ _ _ h => h) (by rfl) ?_ (by assumption) ?_
  · intro w hSw; obtain ⟨sq0, sq1, sq2, sq3, sq4⟩ := hSw; go_simp
  try simp only [Act.put, List.setIfInBounds_toArray, List.set_cons_zero, List.set_cons_succ]
  refine wpAnyH_done (by kernel_rfl) ?_ _
  go_wp2_with fail
  ((with_reducible refine (isSet_any [110, 97, 109, 101] _).mono ?_); rintro e1 w2 ⟨rfl, rfl⟩)
  rw [show setF [110, 97, 109, 101] = false by decide]
  go_wp2_with fail
  ((with_reducible refine (nameC _ g B T u nm VI.out (by omega)).mono ?_); rintro e1 w2 ⟨hb2, hm⟩)
  have HST2 := hid (ST.out.trans (TStep.below (g := g) (u := u) hb2))
  have HT2 := hid (VI.out.tab.below hb2)
  cases hn : nameV T nm with
  | error er =>
    rw [hn] at hm; dsimp only at hm; subst hm
    exact ⟨rfl, ValPost.bad HST2.out HT2.out (by rw [← hn]; rfl)⟩
  | ok n2 =>
    rw [hn] at hm; dsimp only at hm; subst hm
    have HN := hid hn
    clear hn hb2
    go_wp2_with fail
    go_ret
    exact ValPost.good HST2.out HT2.out (show _ = _ by rw [← HN.out]; rfl) rfl
set_option maxRecDepth 100000 in
set_option maxHeartbeats 4000000 in
theorem val_neg (n : Int) (nm : List UInt8) (x : Ex) (hkx : ValC x) (hox : okF x = true) : ValC (.mk [110, 101, 103] n nm (.cons x .nil)) := by
  have HKx := hid hkx
  have HOx := hid hox
  clear hkx hox
  have HSZ : Hid (szF x ≤ szF (.mk [110, 101, 103] n nm (.cons x .nil))) := hid (by simp only [szF, szL]; omega)
  intro w g B T u v hr hV hlen
  obtain ⟨A, cap, rfl, hcap, hkids⟩ := hr.form
  dsimp only [Ex.op, Ex.num, Ex.name, Ex.kids, Exs.len, Nat.zero_add, Nat.reduceAdd] at *
  obtain ⟨b, off, rfl⟩ := hkids.form_ (by simp [Exs.len])
  obtain ⟨Ax, capx, hPx, qx0, qx1, qx2, qx3, hrx, hkids⟩ := hkids.un
  unfold vw
  have kV : Bk ((w.alloc (.cells #[.iface TSt (.pointer (some ⟨g, 0, none⟩))] 78)).alloc (.cells #[.string ⟨#[110, 101, 103]⟩, .int .i64 n, .string ⟨nm.toArray⟩, .slice (some ⟨b, off, none⟩) 1 cap] 30)) w.heap.size 78 #[.iface TSt (.pointer (some ⟨g, 0, none⟩))] := (Bk.new w 78 #[.iface TSt (.pointer (some ⟨g, 0, none⟩))]).alloc _
  have kE : Bk ((w.alloc (.cells #[.iface TSt (.pointer (some ⟨g, 0, none⟩))] 78)).alloc (.cells #[.string ⟨#[110, 101, 103]⟩, .int .i64 n, .string ⟨nm.toArray⟩, .slice (some ⟨b, off, none⟩) 1 cap] 30)) (w.heap.size + 1) 30 #[.string ⟨#[110, 101, 103]⟩, .int .i64 n, .string ⟨nm.toArray⟩, .slice (some ⟨b, off, none⟩) 1 cap] := heap2_1 w _ _
  have hB0 : Below w.heap.size w ((w.alloc (.cells #[.iface TSt (.pointer (some ⟨g, 0, none⟩))] 78)).alloc (.cells #[.string ⟨#[110, 101, 103]⟩, .int .i64 n, .string ⟨nm.toArray⟩, .slice (some ⟨b, off, none⟩) 1 cap] 30)) := ((Below.refl _ _).alloc (Nat.le_refl _) _).alloc (by simp) _
  have hsz0 : ((w.alloc (.cells #[.iface TSt (.pointer (some ⟨g, 0, none⟩))] 78)).alloc (.cells #[.string ⟨#[110, 101, 103]⟩, .int .i64 n, .string ⟨nm.toArray⟩, .slice (some ⟨b, off, none⟩) 1 cap] 30)).heap.size = w.heap.size + 1 + 1 := by simp
  have px0 : ((w.alloc (.cells #[.iface TSt (.pointer (some ⟨g, 0, none⟩))] 78)).alloc (.cells #[.string ⟨#[110, 101, 103]⟩, .int .i64 n, .string ⟨nm.toArray⟩, .slice (some ⟨b, off, none⟩) 1 cap] 30)).cell? ⟨b, off, none⟩ = some (.string ⟨x.op.toArray⟩) := al (al qx0)
  have px1 : ((w.alloc (.cells #[.iface TSt (.pointer (some ⟨g, 0, none⟩))] 78)).alloc (.cells #[.string ⟨#[110, 101, 103]⟩, .int .i64 n, .string ⟨nm.toArray⟩, .slice (some ⟨b, off, none⟩) 1 cap] 30)).cell? ⟨b, off + 1, none⟩ = some (.int .i64 x.num) := al (al qx1)
  have px2 : ((w.alloc (.cells #[.iface TSt (.pointer (some ⟨g, 0, none⟩))] 78)).alloc (.cells #[.string ⟨#[110, 101, 103]⟩, .int .i64 n, .string ⟨nm.toArray⟩, .slice (some ⟨b, off, none⟩) 1 cap] 30)).cell? ⟨b, off + 2, none⟩ = some (.string ⟨x.name.toArray⟩) := al (al qx2)
  have px3 : ((w.alloc (.cells #[.iface TSt (.pointer (some ⟨g, 0, none⟩))] 78)).alloc (.cells #[.string ⟨#[110, 101, 103]⟩, .int .i64 n, .string ⟨nm.toArray⟩, .slice (some ⟨b, off, none⟩) 1 cap] 30)).cell? ⟨b, off + 3, none⟩ = some (.slice Ax x.kids.len capx) := al (al qx3)
  go_enter Tryz.func37, Tryz.ntmps37
  go_wp2_with fail
  obtain ⟨W0, hW0⟩ : ∃ W0, W0 = ((w.alloc (.cells #[.iface TSt (.pointer (some ⟨g, 0, none⟩))] 78)).alloc (.cells #[.string ⟨#[110, 101, 103]⟩, .int .i64 n, .string ⟨nm.toArray⟩, .slice (some ⟨b, off, none⟩) 1 cap] 30)) := ⟨_, rfl⟩
  rw [← hW0] at kV kE hB0 hsz0 px0 px1 px2 px3
  rw [← hW0]
  clear hW0 qx0 qx1 qx2 qx3
  have v0 := kV.cell 0 _ rfl
  obtain ⟨c0, c1, c2, c3⟩ := kE.cells4
  have fV : Free W0 g u w.heap.size := hV.new hB0 (Nat.le_refl _) (by omega)
  have fE : Free W0 g u (w.heap.size + 1) := hV.new hB0 (by omega) (by omega)
  have fB : Free W0 g u b := (TStep.below (g := g) (u := u) hB0).free hPx
  have ST := hid (TStep.below (g := g) (u := u) hB0)
  have VI := hid (hV.below hB0)
  have HS0 := hid hV.short
  have HXx := hid (hrx.step (TStep.below (g := g) (u := u) hB0))
  clear kV kE hB0 hsz0 hV hr hcap hkids hrx hPx
  have hszx := HSZ.out
  have stq := TStep.below (g := g) (u := u) ((Below.refl W0.heap.size W0).drew)
  have v0 := cell_step stq fV v0
  have c0 := cell_step stq fE c0
  have c1 := cell_step stq fE c1
  have c2 := cell_step stq fE c2
  have c3 := cell_step stq fE c3
  have px0 := cell_step stq fB px0
  have px1 := cell_step stq fB px1
  have px2 := cell_step stq fB px2
  have px3 := cell_step stq fB px3
  have fV := stq.free fV
  have fE := stq.free fE
  have fB := stq.free fB
  have ST := hid (ST.out.trans stq)
  have HXx := hid (HXx.out.step stq)
  have VI := hid (VI.out.below ((Below.refl W0.heap.size W0).drew))
  clear stq
  have HKF : Hid (kidsF [110, 101, 103] = 1) := hid (by decide)
  refine wp_region_held_drew (S := (fun w' => w'.cell? ⟨w.heap.size, 0, none⟩ = some (.iface TSt (.pointer (some ⟨g, 0, none⟩))) ∧ w'.cell? ⟨w.heap.size + 1, 0, none⟩ = some (.string ⟨#[110, 101, 103]⟩) ∧ w'.cell? ⟨w.heap.size + 1, 1, none⟩ = some (.int .i64 n) ∧ w'.cell? ⟨w.heap.size + 1, 2, none⟩ = some (.string ⟨nm.toArray⟩) ∧ w'.cell? ⟨w.heap.size + 1, 3, none⟩ = some (.slice (some ⟨b, off, none⟩) 1 cap) ∧ w'.cell? ⟨b, off, none⟩ = some (.string ⟨x.op.toArray⟩) ∧ w'.cell? ⟨b, off + 1, none⟩ = some (.int .i64 x.num) ∧ w'.cell? ⟨b, off + 2, none⟩ = some (.string ⟨x.name.toArray⟩) ∧ w'.cell? ⟨b, off + 3, none⟩ = some (.slice Ax x.kids.len capx))) (by kernel_rfl) ⟨v0, c0, c1, c2, c3, px0, px1, px2, px3⟩ (fun hHeld => ?_)
  refine takeYes (i := 0) (v := .pointer (some ⟨w.heap.size + 1, 3, none⟩)) rfl (by kernel_rfl) (by kernel_rfl) (by kernel_rfl) (fun _ _ _ h => h) (by rfl) ?_ (by assumption) ?_
  · intro w hSw; obtain ⟨sq0, sq1, sq2, sq3, sq4, sq5, sq6, sq7, sq8⟩ := hSw; go_simp
  try simp only [Act.put, List.setIfInBounds_toArray, List.set_cons_zero, List.set_cons_succ]
  refine takeYes (i := 1) (v := .slice (some ⟨b, off, none⟩) 1 cap) rfl (by kernel_rfl) (by kernel_rfl) (by kernel_rfl) (fun _ _ _ h => h) (by rfl) ?_ (by assumption) ?_
  · intro w hSw; obtain ⟨sq0, sq1, sq2, sq3, sq4, sq5, sq6, sq7, sq8⟩ := hSw; go_simp
  try simp only [Act.put, List.setIfInBounds_toArray, List.set_cons_zero, List.set_cons_succ]
  refine takeYes (i := 2) (v := .int .i64 1) rfl (by kernel_rfl) (by kernel_rfl) (by kernel_rfl) (fun _ _ _ h => h) (by rfl) ?_ (by assumption) ?_
  · intro w hSw; obtain ⟨sq0, sq1, sq2, sq3, sq4, sq5, sq6, sq7, sq8⟩ := hSw; go_simp
  try simp only [Act.put, List.setIfInBounds_toArray, List.set_cons_zero, List.set_cons_succ]
  refine takeYes (i := 3) (v := .pointer (some ⟨w.heap.size + 1, 0, none⟩)) rfl (by kernel_rfl) (by kernel_rfl) (by kernel_rfl) (fun _ _ _ h => h) (by rfl) ?_ (by assumption) ?_
  · intro w hSw; obtain ⟨sq0, sq1, sq2, sq3, sq4, sq5, sq6, sq7, sq8⟩ := hSw; go_simp
  try simp only [Act.put, List.setIfInBounds_toArray, List.set_cons_zero, List.set_cons_succ]
  refine takeYes (i := 4) (v := .string ⟨#[110, 101, 103]⟩) rfl (by kernel_rfl) (by kernel_rfl) (by kernel_rfl) (fun _ _ _ h => h) (by rfl) ?_ (by assumption) ?_
  · intro w hSw; obtain ⟨sq0, sq1, sq2, sq3, sq4, sq5, sq6, sq7, sq8⟩ := hSw; go_simp
  try simp only [Act.put, List.setIfInBounds_toArray, List.set_cons_zero, List.set_cons_succ]
  refine wpAnyH_ready (rs := [5]) (by kernel_rfl) (by simp) ?_
  refine AllReadyH.cons rfl (fun K hK => ?_) AllReadyH.nil
  go_simp
  ((with_reducible refine (kids_any _ _).mono ?_); rintro e1 w1 ⟨rfl, hby⟩)
  rw [HKF.out]
  have stq := TStep.below (g := g) (u := u) hby
  have v0 := cell_step stq fV v0
  have c0 := cell_step stq fE c0
  have c1 := cell_step stq fE c1
  have c2 := cell_step stq fE c2
  have c3 := cell_step stq fE c3
  have px0 := cell_step stq fB px0
  have px1 := cell_step stq fB px1
  have px2 := cell_step stq fB px2
  have px3 := cell_step stq fB px3
  have fV := stq.free fV
  have fE := stq.free fE
  have fB := stq.free fB
  have ST := hid (ST.out.trans stq)
  have HXx := hid (HXx.out.step stq)
  have VI := hid (VI.out.below hby)
  clear stq hby
  go_wp2_with fail
  refine hK.out _ _ ?_ (fun hHeld => ?_)
  · exact ⟨v0, c0, c1, c2, c3, px0, px1, px2, px3⟩
  clear hK K
  try simp only [Act.put, List.setIfInBounds_toArray, List.set_cons_zero, List.set_cons_succ]
  refine takeYes (i := 6) (v := .bool false) rfl (by kernel_rfl) (by kernel_rfl) (by kernel_rfl) (fun _ _ _ h => h) (by rfl) ?_ (by assumption) ?_
  · intro w hSw; obtain ⟨sq0, sq1, sq2, sq3, sq4, sq5, sq6, sq7, sq8⟩ := hSw; go_simp
  try simp only [Act.put, List.setIfInBounds_toArray, List.set_cons_zero, List.set_cons_succ]
  refine wpAnyH_done (by kernel_rfl) ?_ _
  go_wp2_with fail
  ((with_reducible refine (isSet_any [110, 101, 103] _).mono ?_); rintro e1 w2 ⟨rfl, rfl⟩)
  rw [show setF [110, 101, 103] = false by decide]
  go_wp2_with fail
  have stq := TStep.below (g := g) (u := u) ((Below.refl w1.heap.size w1).drew)
  have v0 := cell_step stq fV v0
  have c0 := cell_step stq fE c0
  have c1 := cell_step stq fE c1
  have c2 := cell_step stq fE c2
  have c3 := cell_step stq fE c3
  have px0 := cell_step stq fB px0
  have px1 := cell_step stq fB px1
  have px2 := cell_step stq fB px2
  have px3 := cell_step stq fB px3
  have fV := stq.free fV
  have fE := stq.free fE
  have fB := stq.free fB
  have ST := hid (ST.out.trans stq)
  have HXx := hid (HXx.out.step stq)
  have VI := hid (VI.out.below ((Below.refl w1.heap.size w1).drew))
  clear stq
  refine wp_region_held_drew (S := (fun w' => w'.cell? ⟨w.heap.size, 0, none⟩ = some (.iface TSt (.pointer (some ⟨g, 0, none⟩))) ∧ w'.cell? ⟨w.heap.size + 1, 0, none⟩ = some (.string ⟨#[110, 101, 103]⟩) ∧ w'.cell? ⟨w.heap.size + 1, 1, none⟩ = some (.int .i64 n) ∧ w'.cell? ⟨w.heap.size + 1, 2, none⟩ = some (.string ⟨nm.toArray⟩) ∧ w'.cell? ⟨w.heap.size + 1, 3, none⟩ = some (.slice (some ⟨b, off, none⟩) 1 cap) ∧ w'.cell? ⟨b, off, none⟩ = some (.string ⟨x.op.toArray⟩) ∧ w'.cell? ⟨b, off + 1, none⟩ = some (.int .i64 x.num) ∧ w'.cell? ⟨b, off + 2, none⟩ = some (.string ⟨x.name.toArray⟩) ∧ w'.cell? ⟨b, off + 3, none⟩ = some (.slice Ax x.kids.len capx))) (by kernel_rfl) ⟨v0, c0, c1, c2, c3, px0, px1, px2, px3⟩ (fun hHeld => ?_)
  refine takeYes (i := 0) (v := .agg #[.iface TSt (.pointer (some ⟨g, 0, none⟩))]) rfl (by kernel_rfl) (by kernel_rfl) (by kernel_rfl) (fun _ _ _ h => h) (by rfl) ?_ (by assumption) ?_
  · intro w hSw; obtain ⟨sq0, sq1, sq2, sq3, sq4, sq5, sq6, sq7, sq8⟩ := hSw; go_simp
  try simp only [Act.put, List.setIfInBounds_toArray, List.set_cons_zero, List.set_cons_succ]
  refine takeYes (i := 1) (v := .pointer (some ⟨w.heap.size + 1, 3, none⟩)) rfl (by kernel_rfl) (by kernel_rfl) (by kernel_rfl) (fun _ _ _ h => h) (by rfl) ?_ (by assumption) ?_
  · intro w hSw; obtain ⟨sq0, sq1, sq2, sq3, sq4, sq5, sq6, sq7, sq8⟩ := hSw; go_simp
  try simp only [Act.put, List.setIfInBounds_toArray, List.set_cons_zero, List.set_cons_succ]
  refine takeYes (i := 2) (v := .slice (some ⟨b, off, none⟩) 1 cap) rfl (by kernel_rfl) (by kernel_rfl) (by kernel_rfl) (fun _ _ _ h => h) (by rfl) ?_ (by assumption) ?_
  · intro w hSw; obtain ⟨sq0, sq1, sq2, sq3, sq4, sq5, sq6, sq7, sq8⟩ := hSw; go_simp
  try simp only [Act.put, List.setIfInBounds_toArray, List.set_cons_zero, List.set_cons_succ]
  refine takeYes (i := 3) (v := .pointer (some ⟨b, off, none⟩)) rfl (by kernel_rfl) (by kernel_rfl) (by kernel_rfl) (fun _ _ _ h => h) (by rfl) ?_ (by assumption) ?_
  · intro w hSw; obtain ⟨sq0, sq1, sq2, sq3, sq4, sq5, sq6, sq7, sq8⟩ := hSw; go_simp
  try simp only [Act.put, List.setIfInBounds_toArray, List.set_cons_zero, List.set_cons_succ]
  refine takeYes (i := 4) (v := .agg #[.string ⟨x.op.toArray⟩, .int .i64 x.num, .string ⟨x.name.toArray⟩, .slice Ax x.kids.len capx]) rfl (by kernel_rfl) (by kernel_rfl) (by kernel_rfl) (fun _ _ _ h => h) (by rfl) ?_ (by assumption) ?_
  · intro w hSw; obtain ⟨sq0, sq1, sq2, sq3, sq4, sq5, sq6, sq7, sq8⟩ := hSw; go_simp
  try simp only [Act.put, List.setIfInBounds_toArray, List.set_cons_zero, List.set_cons_succ]
  refine wpAnyH_ready (rs := [5]) (by kernel_rfl) (by simp) ?_
  refine AllReadyH.cons rfl (fun K hK => ?_) AllReadyH.nil
  go_simp
  ((with_reducible refine (HKx.out.call _ g B T u _ HXx.out VI.out (by omega)).mono ?_); rintro e1 w5 ⟨u5, hst, htab, hm⟩)
  obtain ⟨r5, T5, hv5⟩ : ∃ r T1, valF x T = (r, T1) := ⟨_, _, rfl⟩
  rw [hv5] at htab hm
  obtain ⟨ha, hb, hc⟩ := val_after HOx.out VI.out.short hv5
  have v0 := cell_step hst fV v0
  have c0 := cell_step hst fE c0
  have c1 := cell_step hst fE c1
  have c2 := cell_step hst fE c2
  have c3 := cell_step hst fE c3
  have px0 := cell_step hst fB px0
  have px1 := cell_step hst fB px1
  have px2 := cell_step hst fB px2
  have px3 := cell_step hst fB px3
  have fV := hst.free fV
  have fE := hst.free fE
  have fB := hst.free fB
  have ST := hid (ST.out.trans hst)
  have HXx := hid (HXx.out.step hst)
  have VI := hid (VI.out.step hst htab ha)
  have HT5 := hid htab
  have HV5 := hid hv5
  clear hst htab ha hv5
  rcases r5 with er | n5
  · (dsimp only at hm; subst hm; exact ⟨rfl, ValPost.bad ST.out VI.out.tab (show thenV (valF x T) _ = _ by rw [HV5.out]; rfl)⟩)
  dsimp only at hm
  subst hm
  have HI5 := hid (hc _ rfl)
  clear hc
  go_wp2_with fail
  refine hK.out _ _ ?_ (fun hHeld => ?_)
  · exact ⟨v0, c0, c1, c2, c3, px0, px1, px2, px3⟩
  clear hK K
  try simp only [Act.put, List.setIfInBounds_toArray, List.set_cons_zero, List.set_cons_succ]
  refine takeYes (i := 6) (v := .int .i64 (IntKind.i64.wrap (-n5))) rfl (by kernel_rfl) (by kernel_rfl) (by kernel_rfl) (fun _ _ _ h => h) (by rfl) ?_ (by assumption) ?_
  · intro w hSw; obtain ⟨sq0, sq1, sq2, sq3, sq4, sq5, sq6, sq7, sq8⟩ := hSw; go_simp
  try simp only [Act.put, List.setIfInBounds_toArray, List.set_cons_zero, List.set_cons_succ]
  refine takeYes (i := 7) (v := .int .i64 (IntKind.i64.wrap (-n5))) rfl (by kernel_rfl) (by kernel_rfl) (by kernel_rfl) (fun _ _ _ h => h) (by rfl) ?_ (by assumption) ?_
  · intro w hSw; obtain ⟨sq0, sq1, sq2, sq3, sq4, sq5, sq6, sq7, sq8⟩ := hSw; go_simp
  try simp only [Act.put, List.setIfInBounds_toArray, List.set_cons_zero, List.set_cons_succ]
  refine wpAnyH_done (by kernel_rfl) ?_ _
  go_wp2_with fail
  go_ret
  exact ValPost.good ST.out HT5.out (show thenV (valF x T) _ = _ by rw [HV5.out]; rfl) (IntWalk.i64_left _)
set_option maxRecDepth 100000 in
set_option maxHeartbeats 4000000 in
theorem val_pos (n : Int) (nm : List UInt8) (x : Ex) (hkx : ValC x) (hox : okF x = true) : ValC (.mk [112, 111, 115] n nm (.cons x .nil)) := by
  have HKx := hid hkx
  have HOx := hid hox
  clear hkx hox
  have HSZ : Hid (szF x ≤ szF (.mk [112, 111, 115] n nm (.cons x .nil))) := hid (by simp only [szF, szL]; omega)
  intro w g B T u v hr hV hlen
  obtain ⟨A, cap, rfl, hcap, hkids⟩ := hr.form
  dsimp only [Ex.op, Ex.num, Ex.name, Ex.kids, Exs.len, Nat.zero_add, Nat.reduceAdd] at *
  obtain ⟨b, off, rfl⟩ := hkids.form_ (by simp [Exs.len])
  obtain ⟨Ax, capx, hPx, qx0, qx1, qx2, qx3, hrx, hkids⟩ := hkids.un
  unfold vw
  have kV : Bk ((w.alloc (.cells #[.iface TSt (.pointer (some ⟨g, 0, none⟩))] 78)).alloc (.cells #[.string ⟨#[112, 111, 115]⟩, .int .i64 n, .string ⟨nm.toArray⟩, .slice (some ⟨b, off, none⟩) 1 cap] 30)) w.heap.size 78 #[.iface TSt (.pointer (some ⟨g, 0, none⟩))] := (Bk.new w 78 #[.iface TSt (.pointer (some ⟨g, 0, none⟩))]).alloc _
  have kE : Bk ((w.alloc (.cells #[.iface TSt (.pointer (some ⟨g, 0, none⟩))] 78)).alloc (.cells #[.string ⟨#[112, 111, 115]⟩, .int .i64 n, .string ⟨nm.toArray⟩, .slice (some ⟨b, off, none⟩) 1 cap] 30)) (w.heap.size + 1) 30 #[.string ⟨#[112, 111, 115]⟩, .int .i64 n, .string ⟨nm.toArray⟩, .slice (some ⟨b, off, none⟩) 1 cap] := heap2_1 w _ _
  have hB0 : Below w.heap.size w ((w.alloc (.cells #[.iface TSt (.pointer (some ⟨g, 0, none⟩))] 78)).alloc (.cells #[.string ⟨#[112, 111, 115]⟩, .int .i64 n, .string ⟨nm.toArray⟩, .slice (some ⟨b, off, none⟩) 1 cap] 30)) := ((Below.refl _ _).alloc (Nat.le_refl _) _).alloc (by simp) _
  have hsz0 : ((w.alloc (.cells #[.iface TSt (.pointer (some ⟨g, 0, none⟩))] 78)).alloc (.cells #[.string ⟨#[112, 111, 115]⟩, .int .i64 n, .string ⟨nm.toArray⟩, .slice (some ⟨b, off, none⟩) 1 cap] 30)).heap.size = w.heap.size + 1 + 1 := by simp
  have px0 : ((w.alloc (.cells #[.iface TSt (.pointer (some ⟨g, 0, none⟩))] 78)).alloc (.cells #[.string ⟨#[112, 111, 115]⟩, .int .i64 n, .string ⟨nm.toArray⟩, .slice (some ⟨b, off, none⟩) 1 cap] 30)).cell? ⟨b, off, none⟩ = some (.string ⟨x.op.toArray⟩) := al (al qx0)
  have px1 : ((w.alloc (.cells #[.iface TSt (.pointer (some ⟨g, 0, none⟩))] 78)).alloc (.cells #[.string ⟨#[112, 111, 115]⟩, .int .i64 n, .string ⟨nm.toArray⟩, .slice (some ⟨b, off, none⟩) 1 cap] 30)).cell? ⟨b, off + 1, none⟩ = some (.int .i64 x.num) := al (al qx1)
  have px2 : ((w.alloc (.cells #[.iface TSt (.pointer (some ⟨g, 0, none⟩))] 78)).alloc (.cells #[.string ⟨#[112, 111, 115]⟩, .int .i64 n, .string ⟨nm.toArray⟩, .slice (some ⟨b, off, none⟩) 1 cap] 30)).cell? ⟨b, off + 2, none⟩ = some (.string ⟨x.name.toArray⟩) := al (al qx2)
  have px3 : ((w.alloc (.cells #[.iface TSt (.pointer (some ⟨g, 0, none⟩))] 78)).alloc (.cells #[.string ⟨#[112, 111, 115]⟩, .int .i64 n, .string ⟨nm.toArray⟩, .slice (some ⟨b, off, none⟩) 1 cap] 30)).cell? ⟨b, off + 3, none⟩ = some (.slice Ax x.kids.len capx) := al (al qx3)
  go_enter Tryz.func37, Tryz.ntmps37
  go_wp2_with fail
  obtain ⟨W0, hW0⟩ : ∃ W0, W0 = ((w.alloc (.cells #[.iface TSt (.pointer (some ⟨g, 0, none⟩))] 78)).alloc (.cells #[.string ⟨#[112, 111, 115]⟩, .int .i64 n, .string ⟨nm.toArray⟩, .slice (some ⟨b, off, none⟩) 1 cap] 30)) := ⟨_, rfl⟩
  rw [← hW0] at kV kE hB0 hsz0 px0 px1 px2 px3
  rw [← hW0]
  clear hW0 qx0 qx1 qx2 qx3
  have v0 := kV.cell 0 _ rfl
  obtain ⟨c0, c1, c2, c3⟩ := kE.cells4
  have fV : Free W0 g u w.heap.size := hV.new hB0 (Nat.le_refl _) (by omega)
  have fE : Free W0 g u (w.heap.size + 1) := hV.new hB0 (by omega) (by omega)
  have fB : Free W0 g u b := (TStep.below (g := g) (u := u) hB0).free hPx
  have ST := hid (TStep.below (g := g) (u := u) hB0)
  have VI := hid (hV.below hB0)
  have HS0 := hid hV.short
  have HXx := hid (hrx.step (TStep.below (g := g) (u := u) hB0))
  clear kV kE hB0 hsz0 hV hr hcap hkids hrx hPx
  have hszx := HSZ.out
  have stq := TStep.below (g := g) (u := u) ((Below.refl W0.heap.size W0).drew)
  have v0 := cell_step stq fV v0
  have c0 := cell_step stq fE c0
  have c1 := cell_step stq fE c1
  have c2 := cell_step stq fE c2
  have c3 := cell_step stq fE c3
  have px0 := cell_step stq fB px0
  have px1 := cell_step stq fB px1
  have px2 := cell_step stq fB px2
  have px3 := cell_step stq fB px3
  have fV := stq.free fV
  have fE := stq.free fE
  have fB := stq.free fB
  have ST := hid (ST.out.trans stq)
  have HXx := hid (HXx.out.step stq)
  have VI := hid (VI.out.below ((Below.refl W0.heap.size W0).drew))
  clear stq
  have HKF : Hid (kidsF [112, 111, 115] = 1) := hid (by decide)
  refine wp_region_held_drew (S := (fun w' => w'.cell? ⟨w.heap.size, 0, none⟩ = some (.iface TSt (.pointer (some ⟨g, 0, none⟩))) ∧ w'.cell? ⟨w.heap.size + 1, 0, none⟩ = some (.string ⟨#[112, 111, 115]⟩) ∧ w'.cell? ⟨w.heap.size + 1, 1, none⟩ = some (.int .i64 n) ∧ w'.cell? ⟨w.heap.size + 1, 2, none⟩ = some (.string ⟨nm.toArray⟩) ∧ w'.cell? ⟨w.heap.size + 1, 3, none⟩ = some (.slice (some ⟨b, off, none⟩) 1 cap) ∧ w'.cell? ⟨b, off, none⟩ = some (.string ⟨x.op.toArray⟩) ∧ w'.cell? ⟨b, off + 1, none⟩ = some (.int .i64 x.num) ∧ w'.cell? ⟨b, off + 2, none⟩ = some (.string ⟨x.name.toArray⟩) ∧ w'.cell? ⟨b, off + 3, none⟩ = some (.slice Ax x.kids.len capx))) (by kernel_rfl) ⟨v0, c0, c1, c2, c3, px0, px1, px2, px3⟩ (fun hHeld => ?_)
  refine takeYes (i := 0) (v := .pointer (some ⟨w.heap.size + 1, 3, none⟩)) rfl (by kernel_rfl) (by kernel_rfl) (by kernel_rfl) (fun _ _ _ h => h) (by rfl) ?_ (by assumption) ?_
  · intro w hSw; obtain ⟨sq0, sq1, sq2, sq3, sq4, sq5, sq6, sq7, sq8⟩ := hSw; go_simp
  try simp only [Act.put, List.setIfInBounds_toArray, List.set_cons_zero, List.set_cons_succ]
  refine takeYes (i := 1) (v := .slice (some ⟨b, off, none⟩) 1 cap) rfl (by kernel_rfl) (by kernel_rfl) (by kernel_rfl) (fun _ _ _ h => h) (by rfl) ?_ (by assumption) ?_
  · intro w hSw; obtain ⟨sq0, sq1, sq2, sq3, sq4, sq5, sq6, sq7, sq8⟩ := hSw; go_simp
  try simp only [Act.put, List.setIfInBounds_toArray, List.set_cons_zero, List.set_cons_succ]
  refine takeYes (i := 2) (v := .int .i64 1) rfl (by kernel_rfl) (by kernel_rfl) (by kernel_rfl) (fun _ _ _ h => h) (by rfl) ?_ (by assumption) ?_
  · intro w hSw; obtain ⟨sq0, sq1, sq2, sq3, sq4, sq5, sq6, sq7, sq8⟩ := hSw; go_simp
  try simp only [Act.put, List.setIfInBounds_toArray, List.set_cons_zero, List.set_cons_succ]
  refine takeYes (i := 3) (v := .pointer (some ⟨w.heap.size + 1, 0, none⟩)) rfl (by kernel_rfl) (by kernel_rfl) (by kernel_rfl) (fun _ _ _ h => h) (by rfl) ?_ (by assumption) ?_
  · intro w hSw; obtain ⟨sq0, sq1, sq2, sq3, sq4, sq5, sq6, sq7, sq8⟩ := hSw; go_simp
  try simp only [Act.put, List.setIfInBounds_toArray, List.set_cons_zero, List.set_cons_succ]
  refine takeYes (i := 4) (v := .string ⟨#[112, 111, 115]⟩) rfl (by kernel_rfl) (by kernel_rfl) (by kernel_rfl) (fun _ _ _ h => h) (by rfl) ?_ (by assumption) ?_
  · intro w hSw; obtain ⟨sq0, sq1, sq2, sq3, sq4, sq5, sq6, sq7, sq8⟩ := hSw; go_simp
  try simp only [Act.put, List.setIfInBounds_toArray, List.set_cons_zero, List.set_cons_succ]
  refine wpAnyH_ready (rs := [5]) (by kernel_rfl) (by simp) ?_
  refine AllReadyH.cons rfl (fun K hK => ?_) AllReadyH.nil
  go_simp
  ((with_reducible refine (kids_any _ _).mono ?_); rintro e1 w1 ⟨rfl, hby⟩)
  rw [HKF.out]
  have stq := TStep.below (g := g) (u := u) hby
  have v0 := cell_step stq fV v0
  have c0 := cell_step stq fE c0
  have c1 := cell_step stq fE c1
  have c2 := cell_step stq fE c2
  have c3 := cell_step stq fE c3
  have px0 := cell_step stq fB px0
  have px1 := cell_step stq fB px1
  have px2 := cell_step stq fB px2
  have px3 := cell_step stq fB px3
  have fV := stq.free fV
  have fE := stq.free fE
  have fB := stq.free fB
  have ST := hid (ST.out.trans stq)
  have HXx := hid (HXx.out.step stq)
  have VI := hid (VI.out.below hby)
  clear stq hby
  go_wp2_with fail
  refine hK.out _ _ ?_ (fun hHeld => ?_)
  · exact ⟨v0, c0, c1, c2, c3, px0, px1, px2, px3⟩
  clear hK K
  try simp only [Act.put, List.setIfInBounds_toArray, List.set_cons_zero, List.set_cons_succ]
  refine takeYes (i := 6) (v := .bool false) rfl (by kernel_rfl) (by kernel_rfl) (by kernel_rfl) (fun _ _ _ h => h) (by rfl) ?_ (by assumption) ?_
  · intro w hSw; obtain ⟨sq0, sq1, sq2, sq3, sq4, sq5, sq6, sq7, sq8⟩ := hSw; go_simp
  try simp only [Act.put, List.setIfInBounds_toArray, List.set_cons_zero, List.set_cons_succ]
  refine wpAnyH_done (by kernel_rfl) ?_ _
  go_wp2_with fail
  ((with_reducible refine (isSet_any [112, 111, 115] _).mono ?_); rintro e1 w2 ⟨rfl, rfl⟩)
  rw [show setF [112, 111, 115] = false by decide]
  go_wp2_with fail
  have stq := TStep.below (g := g) (u := u) ((Below.refl w1.heap.size w1).drew)
  have v0 := cell_step stq fV v0
  have c0 := cell_step stq fE c0
  have c1 := cell_step stq fE c1
  have c2 := cell_step stq fE c2
  have c3 := cell_step stq fE c3
  have px0 := cell_step stq fB px0
  have px1 := cell_step stq fB px1
  have px2 := cell_step stq fB px2
  have px3 := cell_step stq fB px3
  have fV := stq.free fV
  have fE := stq.free fE
  have fB := stq.free fB
  have ST := hid (ST.out.trans stq)
  have HXx := hid (HXx.out.step stq)
  have VI := hid (VI.out.below ((Below.refl w1.heap.size w1).drew))
  clear stq
  refine wp_region_held_drew (S := (fun w' => w'.cell? ⟨w.heap.size, 0, none⟩ = some (.iface TSt (.pointer (some ⟨g, 0, none⟩))) ∧ w'.cell? ⟨w.heap.size + 1, 0, none⟩ = some (.string ⟨#[112, 111, 115]⟩) ∧ w'.cell? ⟨w.heap.size + 1, 1, none⟩ = some (.int .i64 n) ∧ w'.cell? ⟨w.heap.size + 1, 2, none⟩ = some (.string ⟨nm.toArray⟩) ∧ w'.cell? ⟨w.heap.size + 1, 3, none⟩ = some (.slice (some ⟨b, off, none⟩) 1 cap) ∧ w'.cell? ⟨b, off, none⟩ = some (.string ⟨x.op.toArray⟩) ∧ w'.cell? ⟨b, off + 1, none⟩ = some (.int .i64 x.num) ∧ w'.cell? ⟨b, off + 2, none⟩ = some (.string ⟨x.name.toArray⟩) ∧ w'.cell? ⟨b, off + 3, none⟩ = some (.slice Ax x.kids.len capx))) (by kernel_rfl) ⟨v0, c0, c1, c2, c3, px0, px1, px2, px3⟩ (fun hHeld => ?_)
  refine takeYes (i := 0) (v := .agg #[.iface TSt (.pointer (some ⟨g, 0, none⟩))]) rfl (by kernel_rfl) (by kernel_rfl) (by kernel_rfl) (fun _ _ _ h => h) (by rfl) ?_ (by assumption) ?_
  · intro w hSw; obtain ⟨sq0, sq1, sq2, sq3, sq4, sq5, sq6, sq7, sq8⟩ := hSw; go_simp
  try simp only [Act.put, List.setIfInBounds_toArray, List.set_cons_zero, List.set_cons_succ]
  refine takeYes (i := 1) (v := .pointer (some ⟨w.heap.size + 1, 3, none⟩)) rfl (by kernel_rfl) (by kernel_rfl) (by kernel_rfl) (fun _ _ _ h => h) (by rfl) ?_ (by assumption) ?_
  · intro w hSw; obtain ⟨sq0, sq1, sq2, sq3, sq4, sq5, sq6, sq7, sq8⟩ := hSw; go_simp
  try simp only [Act.put, List.setIfInBounds_toArray, List.set_cons_zero, List.set_cons_succ]
  refine takeYes (i := 2) (v := .slice (some ⟨b, off, none⟩) 1 cap) rfl (by kernel_rfl) (by kernel_rfl) (by kernel_rfl) (fun _ _ _ h => h) (by rfl) ?_ (by assumption) ?_
  · intro w hSw; obtain ⟨sq0, sq1, sq2, sq3, sq4, sq5, sq6, sq7, sq8⟩ := hSw; go_simp
  try simp only [Act.put, List.setIfInBounds_toArray, List.set_cons_zero, List.set_cons_succ]
  refine takeYes (i := 3) (v := .pointer (some ⟨b, off, none⟩)) rfl (by kernel_rfl) (by kernel_rfl) (by kernel_rfl) (fun _ _ _ h => h) (by rfl) ?_ (by assumption) ?_
  · intro w hSw; obtain ⟨sq0, sq1, sq2, sq3, sq4, sq5, sq6, sq7, sq8⟩ := hSw; go_simp
  try simp only [Act.put, List.setIfInBounds_toArray, List.set_cons_zero, List.set_cons_succ]
  refine takeYes (i := 4) (v := .agg #[.string ⟨x.op.toArray⟩, .int .i64 x.num, .string ⟨x.name.toArray⟩, .slice Ax x.kids.len capx]) rfl (by kernel_rfl) (by kernel_rfl) (by kernel_rfl) (fun _ _ _ h => h) (by rfl) ?_ (by assumption) ?_
  · intro w hSw; obtain ⟨sq0, sq1, sq2, sq3, sq4, sq5, sq6, sq7, sq8⟩ := hSw; go_simp
  try simp only [Act.put, List.setIfInBounds_toArray, List.set_cons_zero, List.set_cons_succ]
  refine wpAnyH_ready (rs := [5]) (by kernel_rfl) (by simp) ?_
  refine AllReadyH.cons rfl (fun K hK => ?_) AllReadyH.nil
  go_simp
  ((with_reducible refine (HKx.out.call _ g B T u _ HXx.out VI.out (by omega)).mono ?_); rintro e1 w5 ⟨u5, hst, htab, hm⟩)
  obtain ⟨r5, T5, hv5⟩ : ∃ r T1, valF x T = (r, T1) := ⟨_, _, rfl⟩
  rw [hv5] at htab hm
  obtain ⟨ha, hb, hc⟩ := val_after HOx.out VI.out.short hv5
  have v0 := cell_step hst fV v0
  have c0 := cell_step hst fE c0
  have c1 := cell_step hst fE c1
  have c2 := cell_step hst fE c2
  have c3 := cell_step hst fE c3
  have px0 := cell_step hst fB px0
  have px1 := cell_step hst fB px1
  have px2 := cell_step hst fB px2
  have px3 := cell_step hst fB px3
  have fV := hst.free fV
  have fE := hst.free fE
  have fB := hst.free fB
  have ST := hid (ST.out.trans hst)
  have HXx := hid (HXx.out.step hst)
  have VI := hid (VI.out.step hst htab ha)
  have HT5 := hid htab
  have HV5 := hid hv5
  clear hst htab ha hv5
  rcases r5 with er | n5
  · (dsimp only at hm; subst hm; exact ⟨rfl, ValPost.bad ST.out VI.out.tab (show valF x T = _ from HV5.out)⟩)
  dsimp only at hm
  subst hm
  have HI5 := hid (hc _ rfl)
  clear hc
  go_wp2_with fail
  refine hK.out _ _ ?_ (fun hHeld => ?_)
  · exact ⟨v0, c0, c1, c2, c3, px0, px1, px2, px3⟩
  clear hK K
  try simp only [Act.put, List.setIfInBounds_toArray, List.set_cons_zero, List.set_cons_succ]
  refine takeYes (i := 6) (v := .int .i64 n5) rfl (by kernel_rfl) (by kernel_rfl) (by kernel_rfl) (fun _ _ _ h => h) (by rfl) ?_ (by assumption) ?_
  · intro w hSw; obtain ⟨sq0, sq1, sq2, sq3, sq4, sq5, sq6, sq7, sq8⟩ := hSw; go_simp
  try simp only [Act.put, List.setIfInBounds_toArray, List.set_cons_zero, List.set_cons_succ]
  refine wpAnyH_done (by kernel_rfl) ?_ _
  go_wp2_with fail
  go_ret
  exact ValPost.good ST.out HT5.out (show valF x T = _ from HV5.out) rfl
set_option maxRecDepth 100000 in
set_option maxHeartbeats 4000000 in
theorem val_not (n : Int) (nm : List UInt8) (x : Ex) (hkx : ValC x) (hox : okF x = true) : ValC (.mk [110, 111, 116] n nm (.cons x .nil)) := by
  have HKx := hid hkx
  have HOx := hid hox
  clear hkx hox
  have HSZ : Hid (szF x ≤ szF (.mk [110, 111, 116] n nm (.cons x .nil))) := hid (by simp only [szF, szL]; omega)
  intro w g B T u v hr hV hlen
  obtain ⟨A, cap, rfl, hcap, hkids⟩ := hr.form
  dsimp only [Ex.op, Ex.num, Ex.name, Ex.kids, Exs.len, Nat.zero_add, Nat.reduceAdd] at *
  obtain ⟨b, off, rfl⟩ := hkids.form_ (by simp [Exs.len])
  obtain ⟨Ax, capx, hPx, qx0, qx1, qx2, qx3, hrx, hkids⟩ := hkids.un
  unfold vw
  have kV : Bk ((w.alloc (.cells #[.iface TSt (.pointer (some ⟨g, 0, none⟩))] 78)).alloc (.cells #[.string ⟨#[110, 111, 116]⟩, .int .i64 n, .string ⟨nm.toArray⟩, .slice (some ⟨b, off, none⟩) 1 cap] 30)) w.heap.size 78 #[.iface TSt (.pointer (some ⟨g, 0, none⟩))] := (Bk.new w 78 #[.iface TSt (.pointer (some ⟨g, 0, none⟩))]).alloc _
  have kE : Bk ((w.alloc (.cells #[.iface TSt (.pointer (some ⟨g, 0, none⟩))] 78)).alloc (.cells #[.string ⟨#[110, 111, 116]⟩, .int .i64 n, .string ⟨nm.toArray⟩, .slice (some ⟨b, off, none⟩) 1 cap] 30)) (w.heap.size + 1) 30 #[.string ⟨#[110, 111, 116]⟩, .int .i64 n, .string ⟨nm.toArray⟩, .slice (some ⟨b, off, none⟩) 1 cap] := heap2_1 w _ _
  have hB0 : Below w.heap.size w ((w.alloc (.cells #[.iface TSt (.pointer (some ⟨g, 0, none⟩))] 78)).alloc (.cells #[.string ⟨#[110, 111, 116]⟩, .int .i64 n, .string ⟨nm.toArray⟩, .slice (some ⟨b, off, none⟩) 1 cap] 30)) := ((Below.refl _ _).alloc (Nat.le_refl _) _).alloc (by simp) _
  have hsz0 : ((w.alloc (.cells #[.iface TSt (.pointer (some ⟨g, 0, none⟩))] 78)).alloc (.cells #[.string ⟨#[110, 111, 116]⟩, .int .i64 n, .string ⟨nm.toArray⟩, .slice (some ⟨b, off, none⟩) 1 cap] 30)).heap.size = w.heap.size + 1 + 1 := by simp
  have px0 : ((w.alloc (.cells #[.iface TSt (.pointer (some ⟨g, 0, none⟩))] 78)).alloc (.cells #[.string ⟨#[110, 111, 116]⟩, .int .i64 n, .string ⟨nm.toArray⟩, .slice (some ⟨b, off, none⟩) 1 cap] 30)).cell? ⟨b, off, none⟩ = some (.string ⟨x.op.toArray⟩) := al (al qx0)
  have px1 : ((w.alloc (.cells #[.iface TSt (.pointer (some ⟨g, 0, none⟩))] 78)).alloc (.cells #[.string ⟨#[110, 111, 116]⟩, .int .i64 n, .string ⟨nm.toArray⟩, .slice (some ⟨b, off, none⟩) 1 cap] 30)).cell? ⟨b, off + 1, none⟩ = some (.int .i64 x.num) := al (al qx1)
  have px2 : ((w.alloc (.cells #[.iface TSt (.pointer (some ⟨g, 0, none⟩))] 78)).alloc (.cells #[.string ⟨#[110, 111, 116]⟩, .int .i64 n, .string ⟨nm.toArray⟩, .slice (some ⟨b, off, none⟩) 1 cap] 30)).cell? ⟨b, off + 2, none⟩ = some (.string ⟨x.name.toArray⟩) := al (al qx2)
  have px3 : ((w.alloc (.cells #[.iface TSt (.pointer (some ⟨g, 0, none⟩))] 78)).alloc (.cells #[.string ⟨#[110, 111, 116]⟩, .int .i64 n, .string ⟨nm.toArray⟩, .slice (some ⟨b, off, none⟩) 1 cap] 30)).cell? ⟨b, off + 3, none⟩ = some (.slice Ax x.kids.len capx) := al (al qx3)
  go_enter Tryz.func37, Tryz.ntmps37
  go_wp2_with fail
  obtain ⟨W0, hW0⟩ : ∃ W0, W0 = ((w.alloc (.cells #[.iface TSt (.pointer (some ⟨g, 0, none⟩))] 78)).alloc (.cells #[.string ⟨#[110, 111, 116]⟩, .int .i64 n, .string ⟨nm.toArray⟩, .slice (some ⟨b, off, none⟩) 1 cap] 30)) := ⟨_, rfl⟩
  rw [← hW0] at kV kE hB0 hsz0 px0 px1 px2 px3
  rw [← hW0]
  clear hW0 qx0 qx1 qx2 qx3
  have v0 := kV.cell 0 _ rfl
  obtain ⟨c0, c1, c2, c3⟩ := kE.cells4
  have fV : Free W0 g u w.heap.size := hV.new hB0 (Nat.le_refl _) (by omega)
  have fE : Free W0 g u (w.heap.size + 1) := hV.new hB0 (by omega) (by omega)
  have fB : Free W0 g u b := (TStep.below (g := g) (u := u) hB0).free hPx
  have ST := hid (TStep.below (g := g) (u := u) hB0)
  have VI := hid (hV.below hB0)
  have HS0 := hid hV.short
  have HXx := hid (hrx.step (TStep.below (g := g) (u := u) hB0))
  clear kV kE hB0 hsz0 hV hr hcap hkids hrx hPx
  have hszx := HSZ.out
  have stq := TStep.below (g := g) (u := u) ((Below.refl W0.heap.size W0).drew)
  have v0 := cell_step stq fV v0
  have c0 := cell_step stq fE c0
  have c1 := cell_step stq fE c1
  have c2 := cell_step stq fE c2
  have c3 := cell_step stq fE c3
  have px0 := cell_step stq fB px0
  have px1 := cell_step stq fB px1
  have px2 := cell_step stq fB px2
  have px3 := cell_step stq fB px3
  have fV := stq.free fV
  have fE := stq.free fE
  have fB := stq.free fB
  have ST := hid (ST.out.trans stq)
  have HXx := hid (HXx.out.step stq)
  have VI := hid (VI.out.below ((Below.refl W0.heap.size W0).drew))
  clear stq
  have HKF : Hid (kidsF [110, 111, 116] = 1) := hid (by decide)
  refine wp_region_held_drew (S := (fun w' => w'.cell? ⟨w.heap.size, 0, none⟩ = some (.iface TSt (.pointer (some ⟨g, 0, none⟩))) ∧ w'.cell? ⟨w.heap.size + 1, 0, none⟩ = some (.string ⟨#[110, 111, 116]⟩) ∧ w'.cell? ⟨w.heap.size + 1, 1, none⟩ = some (.int .i64 n) ∧ w'.cell? ⟨w.heap.size + 1, 2, none⟩ = some (.string ⟨nm.toArray⟩) ∧ w'.cell? ⟨w.heap.size + 1, 3, none⟩ = some (.slice (some ⟨b, off, none⟩) 1 cap) ∧ w'.cell? ⟨b, off, none⟩ = some (.string ⟨x.op.toArray⟩) ∧ w'.cell? ⟨b, off + 1, none⟩ = some (.int .i64 x.num) ∧ w'.cell? ⟨b, off + 2, none⟩ = some (.string ⟨x.name.toArray⟩) ∧ w'.cell? ⟨b, off + 3, none⟩ = some (.slice Ax x.kids.len capx))) (by kernel_rfl) ⟨v0, c0, c1, c2, c3, px0, px1, px2, px3⟩ (fun hHeld => ?_)
  refine takeYes (i := 0) (v := .pointer (some ⟨w.heap.size + 1, 3, none⟩)) rfl (by kernel_rfl) (by kernel_rfl) (by kernel_rfl) (fun _ _ _ h => h) (by rfl) ?_ (by assumption) ?_
  · intro w hSw; obtain ⟨sq0, sq1, sq2, sq3, sq4, sq5, sq6, sq7, sq8⟩ := hSw; go_simp
  try simp only [Act.put, List.setIfInBounds_toArray, List.set_cons_zero, List.set_cons_succ]
  refine takeYes (i := 1) (v := .slice (some ⟨b, off, none⟩) 1 cap) rfl (by kernel_rfl) (by kernel_rfl) (by kernel_rfl) (fun _ _ _ h => h) (by rfl) ?_ (by assumption) ?_
  · intro w hSw; obtain ⟨sq0, sq1, sq2, sq3, sq4, sq5, sq6, sq7, sq8⟩ := hSw; go_simp
  try simp only [Act.put, List.setIfInBounds_toArray, List.set_cons_zero, List.set_cons_succ]
  refine takeYes (i := 2) (v := .int .i64 1) rfl (by kernel_rfl) (by kernel_rfl) (by kernel_rfl) (fun _ _ _ h => h) (by rfl) ?_ (by assumption) ?_
  · intro w hSw; obtain ⟨sq0, sq1, sq2, sq3, sq4, sq5, sq6, sq7, sq8⟩ := hSw; go_simp
  try simp only [Act.put, List.setIfInBounds_toArray, List.set_cons_zero, List.set_cons_succ]
  refine takeYes (i := 3) (v := .pointer (some ⟨w.heap.size + 1, 0, none⟩)) rfl (by kernel_rfl) (by kernel_rfl) (by kernel_rfl) (fun _ _ _ h => h) (by rfl) ?_ (by assumption) ?_
  · intro w hSw; obtain ⟨sq0, sq1, sq2, sq3, sq4, sq5, sq6, sq7, sq8⟩ := hSw; go_simp
  try simp only [Act.put, List.setIfInBounds_toArray, List.set_cons_zero, List.set_cons_succ]
  refine takeYes (i := 4) (v := .string ⟨#[110, 111, 116]⟩) rfl (by kernel_rfl) (by kernel_rfl) (by kernel_rfl) (fun _ _ _ h => h) (by rfl) ?_ (by assumption) ?_
  · intro w hSw; obtain ⟨sq0, sq1, sq2, sq3, sq4, sq5, sq6, sq7, sq8⟩ := hSw; go_simp
  try simp only [Act.put, List.setIfInBounds_toArray, List.set_cons_zero, List.set_cons_succ]
  refine wpAnyH_ready (rs := [5]) (by kernel_rfl) (by simp) ?_
  refine AllReadyH.cons rfl (fun K hK => ?_) AllReadyH.nil
  go_simp
  ((with_reducible refine (kids_any _ _).mono ?_); rintro e1 w1 ⟨rfl, hby⟩)
  rw [HKF.out]
  have stq := TStep.below (g := g) (u := u) hby
  have v0 := cell_step stq fV v0
  have c0 := cell_step stq fE c0
  have c1 := cell_step stq fE c1
  have c2 := cell_step stq fE c2
  have c3 := cell_step stq fE c3
  have px0 := cell_step stq fB px0
  have px1 := cell_step stq fB px1
  have px2 := cell_step stq fB px2
  have px3 := cell_step stq fB px3
  have fV := stq.free fV
  have fE := stq.free fE
  have fB := stq.free fB
  have ST := hid (ST.out.trans stq)
  have HXx := hid (HXx.out.step stq)
  have VI := hid (VI.out.below hby)
  clear stq hby
  go_wp2_with fail
  refine hK.out _ _ ?_ (fun hHeld => ?_)
  · exact ⟨v0, c0, c1, c2, c3, px0, px1, px2, px3⟩
  clear hK K
  try simp only [Act.put, List.setIfInBounds_toArray, List.set_cons_zero, List.set_cons_succ]
  refine takeYes (i := 6) (v := .bool false) rfl (by kernel_rfl) (by kernel_rfl) (by kernel_rfl) (fun _ _ _ h => h) (by rfl) ?_ (by assumption) ?_
  · intro w hSw; obtain ⟨sq0, sq1, sq2, sq3, sq4, sq5, sq6, sq7, sq8⟩ := hSw; go_simp
  try simp only [Act.put, List.setIfInBounds_toArray, List.set_cons_zero, List.set_cons_succ]
  refine wpAnyH_done (by kernel_rfl) ?_ _
  go_wp2_with fail
  ((with_reducible refine (isSet_any [110, 111, 116] _).mono ?_); rintro e1 w2 ⟨rfl, rfl⟩)
  rw [show setF [110, 111, 116] = false by decide]
  go_wp2_with fail
  have stq := TStep.below (g := g) (u := u) ((Below.refl w1.heap.size w1).drew)
  have v0 := cell_step stq fV v0
  have c0 := cell_step stq fE c0
  have c1 := cell_step stq fE c1
  have c2 := cell_step stq fE c2
  have c3 := cell_step stq fE c3
  have px0 := cell_step stq fB px0
  have px1 := cell_step stq fB px1
  have px2 := cell_step stq fB px2
  have px3 := cell_step stq fB px3
  have fV := stq.free fV
  have fE := stq.free fE
  have fB := stq.free fB
  have ST := hid (ST.out.trans stq)
  have HXx := hid (HXx.out.step stq)
  have VI := hid (VI.out.below ((Below.refl w1.heap.size w1).drew))
  clear stq
  refine wp_region_held_drew (S := (fun w' => w'.cell? ⟨w.heap.size, 0, none⟩ = some (.iface TSt (.pointer (some ⟨g, 0, none⟩))) ∧ w'.cell? ⟨w.heap.size + 1, 0, none⟩ = some (.string ⟨#[110, 111, 116]⟩) ∧ w'.cell? ⟨w.heap.size + 1, 1, none⟩ = some (.int .i64 n) ∧ w'.cell? ⟨w.heap.size + 1, 2, none⟩ = some (.string ⟨nm.toArray⟩) ∧ w'.cell? ⟨w.heap.size + 1, 3, none⟩ = some (.slice (some ⟨b, off, none⟩) 1 cap) ∧ w'.cell? ⟨b, off, none⟩ = some (.string ⟨x.op.toArray⟩) ∧ w'.cell? ⟨b, off + 1, none⟩ = some (.int .i64 x.num) ∧ w'.cell? ⟨b, off + 2, none⟩ = some (.string ⟨x.name.toArray⟩) ∧ w'.cell? ⟨b, off + 3, none⟩ = some (.slice Ax x.kids.len capx))) (by kernel_rfl) ⟨v0, c0, c1, c2, c3, px0, px1, px2, px3⟩ (fun hHeld => ?_)
  refine takeYes (i := 0) (v := .agg #[.iface TSt (.pointer (some ⟨g, 0, none⟩))]) rfl (by kernel_rfl) (by kernel_rfl) (by kernel_rfl) (fun _ _ _ h => h) (by rfl) ?_ (by assumption) ?_
  · intro w hSw; obtain ⟨sq0, sq1, sq2, sq3, sq4, sq5, sq6, sq7, sq8⟩ := hSw; go_simp
  try simp only [Act.put, List.setIfInBounds_toArray, List.set_cons_zero, List.set_cons_succ]
  refine takeYes (i := 1) (v := .pointer (some ⟨w.heap.size + 1, 3, none⟩)) rfl (by kernel_rfl) (by kernel_rfl) (by kernel_rfl) (fun _ _ _ h => h) (by rfl) ?_ (by assumption) ?_
  · intro w hSw; obtain ⟨sq0, sq1, sq2, sq3, sq4, sq5, sq6, sq7, sq8⟩ := hSw; go_simp
  try simp only [Act.put, List.setIfInBounds_toArray, List.set_cons_zero, List.set_cons_succ]
  refine takeYes (i := 2) (v := .slice (some ⟨b, off, none⟩) 1 cap) rfl (by kernel_rfl) (by kernel_rfl) (by kernel_rfl) (fun _ _ _ h => h) (by rfl) ?_ (by assumption) ?_
  · intro w hSw; obtain ⟨sq0, sq1, sq2, sq3, sq4, sq5, sq6, sq7, sq8⟩ := hSw; go_simp
  try simp only [Act.put, List.setIfInBounds_toArray, List.set_cons_zero, List.set_cons_succ]
  refine takeYes (i := 3) (v := .pointer (some ⟨b, off, none⟩)) rfl (by kernel_rfl) (by kernel_rfl) (by kernel_rfl) (fun _ _ _ h => h) (by rfl) ?_ (by assumption) ?_
  · intro w hSw; obtain ⟨sq0, sq1, sq2, sq3, sq4, sq5, sq6, sq7, sq8⟩ := hSw; go_simp
  try simp only [Act.put, List.setIfInBounds_toArray, List.set_cons_zero, List.set_cons_succ]
  refine takeYes (i := 4) (v := .agg #[.string ⟨x.op.toArray⟩, .int .i64 x.num, .string ⟨x.name.toArray⟩, .slice Ax x.kids.len capx]) rfl (by kernel_rfl) (by kernel_rfl) (by kernel_rfl) (fun _ _ _ h => h) (by rfl) ?_ (by assumption) ?_
  · intro w hSw; obtain ⟨sq0, sq1, sq2, sq3, sq4, sq5, sq6, sq7, sq8⟩ := hSw; go_simp
  try simp only [Act.put, List.setIfInBounds_toArray, List.set_cons_zero, List.set_cons_succ]
  refine wpAnyH_ready (rs := [5]) (by kernel_rfl) (by simp) ?_
  refine AllReadyH.cons rfl (fun K hK => ?_) AllReadyH.nil
  go_simp
  ((with_reducible refine (HKx.out.call _ g B T u _ HXx.out VI.out (by omega)).mono ?_); rintro e1 w5 ⟨u5, hst, htab, hm⟩)
  obtain ⟨r5, T5, hv5⟩ : ∃ r T1, valF x T = (r, T1) := ⟨_, _, rfl⟩
  rw [hv5] at htab hm
  obtain ⟨ha, hb, hc⟩ := val_after HOx.out VI.out.short hv5
  have v0 := cell_step hst fV v0
  have c0 := cell_step hst fE c0
  have c1 := cell_step hst fE c1
  have c2 := cell_step hst fE c2
  have c3 := cell_step hst fE c3
  have px0 := cell_step hst fB px0
  have px1 := cell_step hst fB px1
  have px2 := cell_step hst fB px2
  have px3 := cell_step hst fB px3
  have fV := hst.free fV
  have fE := hst.free fE
  have fB := hst.free fB
  have ST := hid (ST.out.trans hst)
  have HXx := hid (HXx.out.step hst)
  have VI := hid (VI.out.step hst htab ha)
  have HT5 := hid htab
  have HV5 := hid hv5
  clear hst htab ha hv5
  rcases r5 with er | n5
  · (dsimp only at hm; subst hm; exact ⟨rfl, ValPost.bad ST.out VI.out.tab (show thenV (valF x T) _ = _ by rw [HV5.out]; rfl)⟩)
  dsimp only at hm
  subst hm
  have HI5 := hid (hc _ rfl)
  clear hc
  go_wp2_with fail
  refine hK.out _ _ ?_ (fun hHeld => ?_)
  · exact ⟨v0, c0, c1, c2, c3, px0, px1, px2, px3⟩
  clear hK K
  try simp only [Act.put, List.setIfInBounds_toArray, List.set_cons_zero, List.set_cons_succ]
  refine takeYes (i := 6) (v := .bool (n5 == 0)) rfl (by kernel_rfl) (by kernel_rfl) (by kernel_rfl) (fun _ _ _ h => h) (by rfl) ?_ (by assumption) ?_
  · intro w hSw; obtain ⟨sq0, sq1, sq2, sq3, sq4, sq5, sq6, sq7, sq8⟩ := hSw; go_simp
  try simp only [Act.put, List.setIfInBounds_toArray, List.set_cons_zero, List.set_cons_succ]
  refine wpAnyH_ready (rs := [7]) (by kernel_rfl) (by simp) ?_
  refine AllReadyH.cons rfl (fun K hK => ?_) AllReadyH.nil
  go_simp
  ((with_reducible refine (one_any _ _).mono ?_); rintro e1 w3 ⟨rfl, rfl⟩)
  obtain ⟨o, ho⟩ : ∃ o, o = (if (n5 == 0) = true then (1 : Int) else 0) := ⟨_, rfl⟩
  rw [← ho]
  have HOV := hid ho
  clear ho
  go_wp2_with fail
  refine hK.out _ _ ?_ (fun hHeld => ?_)
  · assumption
  clear hK K
  try simp only [Act.put, List.setIfInBounds_toArray, List.set_cons_zero, List.set_cons_succ]
  refine takeYes (i := 8) (v := .int .i64 o) rfl (by kernel_rfl) (by kernel_rfl) (by kernel_rfl) (fun _ _ _ h => h) (by rfl) ?_ (by assumption) ?_
  · intro w hSw; obtain ⟨sq0, sq1, sq2, sq3, sq4, sq5, sq6, sq7, sq8⟩ := hSw; go_simp
  try simp only [Act.put, List.setIfInBounds_toArray, List.set_cons_zero, List.set_cons_succ]
  refine wpAnyH_done (by kernel_rfl) ?_ _
  go_wp2_with fail
  go_ret
  exact ValPost.good ST.out HT5.out (show thenV (valF x T) _ = _ by rw [HV5.out]; rfl) (by rw [HOV.out]; simp)
set_option maxRecDepth 100000 in
set_option maxHeartbeats 4000000 in
theorem val_com (n : Int) (nm : List UInt8) (x : Ex) (hkx : ValC x) (hox : okF x = true) : ValC (.mk [99, 111, 109] n nm (.cons x .nil)) := by
  have HKx := hid hkx
  have HOx := hid hox
  clear hkx hox
  have HSZ : Hid (szF x ≤ szF (.mk [99, 111, 109] n nm (.cons x .nil))) := hid (by simp only [szF, szL]; omega)
  intro w g B T u v hr hV hlen
  obtain ⟨A, cap, rfl, hcap, hkids⟩ := hr.form
  dsimp only [Ex.op, Ex.num, Ex.name, Ex.kids, Exs.len, Nat.zero_add, Nat.reduceAdd] at *
  obtain ⟨b, off, rfl⟩ := hkids.form_ (by simp [Exs.len])
  obtain ⟨Ax, capx, hPx, qx0, qx1, qx2, qx3, hrx, hkids⟩ := hkids.un
  unfold vw
  have kV : Bk ((w.alloc (.cells #[.iface TSt (.pointer (some ⟨g, 0, none⟩))] 78)).alloc (.cells #[.string ⟨#[99, 111, 109]⟩, .int .i64 n, .string ⟨nm.toArray⟩, .slice (some ⟨b, off, none⟩) 1 cap] 30)) w.heap.size 78 #[.iface TSt (.pointer (some ⟨g, 0, none⟩))] := (Bk.new w 78 #[.iface TSt (.pointer (some ⟨g, 0, none⟩))]).alloc _
  have kE : Bk ((w.alloc (.cells #[.iface TSt (.pointer (some ⟨g, 0, none⟩))] 78)).alloc (.cells #[.string ⟨#[99, 111, 109]⟩, .int .i64 n, .string ⟨nm.toArray⟩, .slice (some ⟨b, off, none⟩) 1 cap] 30)) (w.heap.size + 1) 30 #[.string ⟨#[99, 111, 109]⟩, .int .i64 n, .string ⟨nm.toArray⟩, .slice (some ⟨b, off, none⟩) 1 cap] := heap2_1 w _ _
  have hB0 : Below w.heap.size w ((w.alloc (.cells #[.iface TSt (.pointer (some ⟨g, 0, none⟩))] 78)).alloc (.cells #[.string ⟨#[99, 111, 109]⟩, .int .i64 n, .string ⟨nm.toArray⟩, .slice (some ⟨b, off, none⟩) 1 cap] 30)) := ((Below.refl _ _).alloc (Nat.le_refl _) _).alloc (by simp) _
  have hsz0 : ((w.alloc (.cells #[.iface TSt (.pointer (some ⟨g, 0, none⟩))] 78)).alloc (.cells #[.string ⟨#[99, 111, 109]⟩, .int .i64 n, .string ⟨nm.toArray⟩, .slice (some ⟨b, off, none⟩) 1 cap] 30)).heap.size = w.heap.size + 1 + 1 := by simp
  have px0 : ((w.alloc (.cells #[.iface TSt (.pointer (some ⟨g, 0, none⟩))] 78)).alloc (.cells #[.string ⟨#[99, 111, 109]⟩, .int .i64 n, .string ⟨nm.toArray⟩, .slice (some ⟨b, off, none⟩) 1 cap] 30)).cell? ⟨b, off, none⟩ = some (.string ⟨x.op.toArray⟩) := al (al qx0)
  have px1 : ((w.alloc (.cells #[.iface TSt (.pointer (some ⟨g, 0, none⟩))] 78)).alloc (.cells #[.string ⟨#[99, 111, 109]⟩, .int .i64 n, .string ⟨nm.toArray⟩, .slice (some ⟨b, off, none⟩) 1 cap] 30)).cell? ⟨b, off + 1, none⟩ = some (.int .i64 x.num) := al (al qx1)
  have px2 : ((w.alloc (.cells #[.iface TSt (.pointer (some ⟨g, 0, none⟩))] 78)).alloc (.cells #[.string ⟨#[99, 111, 109]⟩, .int .i64 n, .string ⟨nm.toArray⟩, .slice (some ⟨b, off, none⟩) 1 cap] 30)).cell? ⟨b, off + 2, none⟩ = some (.string ⟨x.name.toArray⟩) := al (al qx2)
  have px3 : ((w.alloc (.cells #[.iface TSt (.pointer (some ⟨g, 0, none⟩))] 78)).alloc (.cells #[.string ⟨#[99, 111, 109]⟩, .int .i64 n, .string ⟨nm.toArray⟩, .slice (some ⟨b, off, none⟩) 1 cap] 30)).cell? ⟨b, off + 3, none⟩ = some (.slice Ax x.kids.len capx) := al (al qx3)
  go_enter Tryz.func37, Tryz.ntmps37
  go_wp2_with fail
  obtain ⟨W0, hW0⟩ : ∃ W0, W0 = ((w.alloc (.cells #[.iface TSt (.pointer (some ⟨g, 0, none⟩))] 78)).alloc (.cells #[.string ⟨#[99, 111, 109]⟩, .int .i64 n, .string ⟨nm.toArray⟩, .slice (some ⟨b, off, none⟩) 1 cap] 30)) := ⟨_, rfl⟩
  rw [← hW0] at kV kE hB0 hsz0 px0 px1 px2 px3
  rw [← hW0]
  clear hW0 qx0 qx1 qx2 qx3
  have v0 := kV.cell 0 _ rfl
  obtain ⟨c0, c1, c2, c3⟩ := kE.cells4
  have fV : Free W0 g u w.heap.size := hV.new hB0 (Nat.le_refl _) (by omega)
  have fE : Free W0 g u (w.heap.size + 1) := hV.new hB0 (by omega) (by omega)
  have fB : Free W0 g u b := (TStep.below (g := g) (u := u) hB0).free hPx
  have ST := hid (TStep.below (g := g) (u := u) hB0)
  have VI := hid (hV.below hB0)
  have HS0 := hid hV.short
  have HXx := hid (hrx.step (TStep.below (g := g) (u := u) hB0))
  clear kV kE hB0 hsz0 hV hr hcap hkids hrx hPx
  have hszx := HSZ.out
  have stq := TStep.below (g := g) (u := u) ((Below.refl W0.heap.size W0).drew)
  have v0 := cell_step stq fV v0
  have c0 := cell_step stq fE c0
  have c1 := cell_step stq fE c1
  have c2 := cell_step stq fE c2
  have c3 := cell_step stq fE c3
  have px0 := cell_step stq fB px0
  have px1 := cell_step stq fB px1
  have px2 := cell_step stq fB px2
  have px3 := cell_step stq fB px3
  have fV := stq.free fV
  have fE := stq.free fE
  have fB := stq.free fB
  have ST := hid (ST.out.trans stq)
  have HXx := hid (HXx.out.step stq)
  have VI := hid (VI.out.below ((Below.refl W0.heap.size W0).drew))
  clear stq
  have HKF : Hid (kidsF [99, 111, 109] = 1) := hid (by decide)
  refine wp_region_held_drew (S := (fun w' => w'.cell? ⟨w.heap.size, 0, none⟩ = some (.iface TSt (.pointer (some ⟨g, 0, none⟩))) ∧ w'.cell? ⟨w.heap.size + 1, 0, none⟩ = some (.string ⟨#[99, 111, 109]⟩) ∧ w'.cell? ⟨w.heap.size + 1, 1, none⟩ = some (.int .i64 n) ∧ w'.cell? ⟨w.heap.size + 1, 2, none⟩ = some (.string ⟨nm.toArray⟩) ∧ w'.cell? ⟨w.heap.size + 1, 3, none⟩ = some (.slice (some ⟨b, off, none⟩) 1 cap) ∧ w'.cell? ⟨b, off, none⟩ = some (.string ⟨x.op.toArray⟩) ∧ w'.cell? ⟨b, off + 1, none⟩ = some (.int .i64 x.num) ∧ w'.cell? ⟨b, off + 2, none⟩ = some (.string ⟨x.name.toArray⟩) ∧ w'.cell? ⟨b, off + 3, none⟩ = some (.slice Ax x.kids.len capx))) (by kernel_rfl) ⟨v0, c0, c1, c2, c3, px0, px1, px2, px3⟩ (fun hHeld => ?_)
  refine takeYes (i := 0) (v := .pointer (some ⟨w.heap.size + 1, 3, none⟩)) rfl (by kernel_rfl) (by kernel_rfl) (by kernel_rfl) (fun _ _ _ h => h) (by rfl) ?_ (by assumption) ?_
  · intro w hSw; obtain ⟨sq0, sq1, sq2, sq3, sq4, sq5, sq6, sq7, sq8⟩ := hSw; go_simp
  try simp only [Act.put, List.setIfInBounds_toArray, List.set_cons_zero, List.set_cons_succ]
  refine takeYes (i := 1) (v := .slice (some ⟨b, off, none⟩) 1 cap) rfl (by kernel_rfl) (by kernel_rfl) (by kernel_rfl) (fun _ _ _ h => h) (by rfl) ?_ (by assumption) ?_
  · intro w hSw; obtain ⟨sq0, sq1, sq2, sq3, sq4, sq5, sq6, sq7, sq8⟩ := hSw; go_simp
  try simp only [Act.put, List.setIfInBounds_toArray, List.set_cons_zero, List.set_cons_succ]
  refine takeYes (i := 2) (v := .int .i64 1) rfl (by kernel_rfl) (by kernel_rfl) (by kernel_rfl) (fun _ _ _ h => h) (by rfl) ?_ (by assumption) ?_
  · intro w hSw; obtain ⟨sq0, sq1, sq2, sq3, sq4, sq5, sq6, sq7, sq8⟩ := hSw; go_simp
  try simp only [Act.put, List.setIfInBounds_toArray, List.set_cons_zero, List.set_cons_succ]
  refine takeYes (i := 3) (v := .pointer (some ⟨w.heap.size + 1, 0, none⟩)) rfl (by kernel_rfl) (by kernel_rfl) (by kernel_rfl) (fun _ _ _ h => h) (by rfl) ?_ (by assumption) ?_
  · intro w hSw; obtain ⟨sq0, sq1, sq2, sq3, sq4, sq5, sq6, sq7, sq8⟩ := hSw; go_simp
  try simp only [Act.put, List.setIfInBounds_toArray, List.set_cons_zero, List.set_cons_succ]
  refine takeYes (i := 4) (v := .string ⟨#[99, 111, 109]⟩) rfl (by kernel_rfl) (by kernel_rfl) (by kernel_rfl) (fun _ _ _ h => h) (by rfl) ?_ (by assumption) ?_
  · intro w hSw; obtain ⟨sq0, sq1, sq2, sq3, sq4, sq5, sq6, sq7, sq8⟩ := hSw; go_simp
  try simp only [Act.put, List.setIfInBounds_toArray, List.set_cons_zero, List.set_cons_succ]
  refine wpAnyH_ready (rs := [5]) (by kernel_rfl) (by simp) ?_
  refine AllReadyH.cons rfl (fun K hK => ?_) AllReadyH.nil
  go_simp
  ((with_reducible refine (kids_any _ _).mono ?_); rintro e1 w1 ⟨rfl, hby⟩)
  rw [HKF.out]
  have stq := TStep.below (g := g) (u := u) hby
  have v0 := cell_step stq fV v0
  have c0 := cell_step stq fE c0
  have c1 := cell_step stq fE c1
  have c2 := cell_step stq fE c2
  have c3 := cell_step stq fE c3
  have px0 := cell_step stq fB px0
  have px1 := cell_step stq fB px1
  have px2 := cell_step stq fB px2
  have px3 := cell_step stq fB px3
  have fV := stq.free fV
  have fE := stq.free fE
  have fB := stq.free fB
  have ST := hid (ST.out.trans stq)
  have HXx := hid (HXx.out.step stq)
  have VI := hid (VI.out.below hby)
  clear stq hby
  go_wp2_with fail
  refine hK.out _ _ ?_ (fun hHeld => ?_)
  · exact ⟨v0, c0, c1, c2, c3, px0, px1, px2, px3⟩
  clear hK K
  try simp only [Act.put, List.setIfInBounds_toArray, List.set_cons_zero, List.set_cons_succ]
  refine takeYes (i := 6) (v := .bool false) rfl (by kernel_rfl) (by kernel_rfl) (by kernel_rfl) (fun _ _ _ h => h) (by rfl) ?_ (by assumption) ?_
  · intro w hSw; obtain ⟨sq0, sq1, sq2, sq3, sq4, sq5, sq6, sq7, sq8⟩ := hSw; go_simp
  try simp only [Act.put, List.setIfInBounds_toArray, List.set_cons_zero, List.set_cons_succ]
  refine wpAnyH_done (by kernel_rfl) ?_ _
  go_wp2_with fail
  ((with_reducible refine (isSet_any [99, 111, 109] _).mono ?_); rintro e1 w2 ⟨rfl, rfl⟩)
  rw [show setF [99, 111, 109] = false by decide]
  go_wp2_with fail
  have stq := TStep.below (g := g) (u := u) ((Below.refl w1.heap.size w1).drew)
  have v0 := cell_step stq fV v0
  have c0 := cell_step stq fE c0
  have c1 := cell_step stq fE c1
  have c2 := cell_step stq fE c2
  have c3 := cell_step stq fE c3
  have px0 := cell_step stq fB px0
  have px1 := cell_step stq fB px1
  have px2 := cell_step stq fB px2
  have px3 := cell_step stq fB px3
  have fV := stq.free fV
  have fE := stq.free fE
  have fB := stq.free fB
  have ST := hid (ST.out.trans stq)
  have HXx := hid (HXx.out.step stq)
  have VI := hid (VI.out.below ((Below.refl w1.heap.size w1).drew))
  clear stq
  refine wp_region_held_drew (S := (fun w' => w'.cell? ⟨w.heap.size, 0, none⟩ = some (.iface TSt (.pointer (some ⟨g, 0, none⟩))) ∧ w'.cell? ⟨w.heap.size + 1, 0, none⟩ = some (.string ⟨#[99, 111, 109]⟩) ∧ w'.cell? ⟨w.heap.size + 1, 1, none⟩ = some (.int .i64 n) ∧ w'.cell? ⟨w.heap.size + 1, 2, none⟩ = some (.string ⟨nm.toArray⟩) ∧ w'.cell? ⟨w.heap.size + 1, 3, none⟩ = some (.slice (some ⟨b, off, none⟩) 1 cap) ∧ w'.cell? ⟨b, off, none⟩ = some (.string ⟨x.op.toArray⟩) ∧ w'.cell? ⟨b, off + 1, none⟩ = some (.int .i64 x.num) ∧ w'.cell? ⟨b, off + 2, none⟩ = some (.string ⟨x.name.toArray⟩) ∧ w'.cell? ⟨b, off + 3, none⟩ = some (.slice Ax x.kids.len capx))) (by kernel_rfl) ⟨v0, c0, c1, c2, c3, px0, px1, px2, px3⟩ (fun hHeld => ?_)
  refine takeYes (i := 0) (v := .agg #[.iface TSt (.pointer (some ⟨g, 0, none⟩))]) rfl (by kernel_rfl) (by kernel_rfl) (by kernel_rfl) (fun _ _ _ h => h) (by rfl) ?_ (by assumption) ?_
  · intro w hSw; obtain ⟨sq0, sq1, sq2, sq3, sq4, sq5, sq6, sq7, sq8⟩ := hSw; go_simp
  try simp only [Act.put, List.setIfInBounds_toArray, List.set_cons_zero, List.set_cons_succ]
  refine takeYes (i := 1) (v := .pointer (some ⟨w.heap.size + 1, 3, none⟩)) rfl (by kernel_rfl) (by kernel_rfl) (by kernel_rfl) (fun _ _ _ h => h) (by rfl) ?_ (by assumption) ?_
  · intro w hSw; obtain ⟨sq0, sq1, sq2, sq3, sq4, sq5, sq6, sq7, sq8⟩ := hSw; go_simp
  try simp only [Act.put, List.setIfInBounds_toArray, List.set_cons_zero, List.set_cons_succ]
  refine takeYes (i := 2) (v := .slice (some ⟨b, off, none⟩) 1 cap) rfl (by kernel_rfl) (by kernel_rfl) (by kernel_rfl) (fun _ _ _ h => h) (by rfl) ?_ (by assumption) ?_
  · intro w hSw; obtain ⟨sq0, sq1, sq2, sq3, sq4, sq5, sq6, sq7, sq8⟩ := hSw; go_simp
  try simp only [Act.put, List.setIfInBounds_toArray, List.set_cons_zero, List.set_cons_succ]
  refine takeYes (i := 3) (v := .pointer (some ⟨b, off, none⟩)) rfl (by kernel_rfl) (by kernel_rfl) (by kernel_rfl) (fun _ _ _ h => h) (by rfl) ?_ (by assumption) ?_
  · intro w hSw; obtain ⟨sq0, sq1, sq2, sq3, sq4, sq5, sq6, sq7, sq8⟩ := hSw; go_simp
  try simp only [Act.put, List.setIfInBounds_toArray, List.set_cons_zero, List.set_cons_succ]
  refine takeYes (i := 4) (v := .agg #[.string ⟨x.op.toArray⟩, .int .i64 x.num, .string ⟨x.name.toArray⟩, .slice Ax x.kids.len capx]) rfl (by kernel_rfl) (by kernel_rfl) (by kernel_rfl) (fun _ _ _ h => h) (by rfl) ?_ (by assumption) ?_
  · intro w hSw; obtain ⟨sq0, sq1, sq2, sq3, sq4, sq5, sq6, sq7, sq8⟩ := hSw; go_simp
  try simp only [Act.put, List.setIfInBounds_toArray, List.set_cons_zero, List.set_cons_succ]
  refine wpAnyH_ready (rs := [5]) (by kernel_rfl) (by simp) ?_
  refine AllReadyH.cons rfl (fun K hK => ?_) AllReadyH.nil
  go_simp
  ((with_reducible refine (HKx.out.call _ g B T u _ HXx.out VI.out (by omega)).mono ?_); rintro e1 w5 ⟨u5, hst, htab, hm⟩)
  obtain ⟨r5, T5, hv5⟩ : ∃ r T1, valF x T = (r, T1) := ⟨_, _, rfl⟩
  rw [hv5] at htab hm
  obtain ⟨ha, hb, hc⟩ := val_after HOx.out VI.out.short hv5
  have v0 := cell_step hst fV v0
  have c0 := cell_step hst fE c0
  have c1 := cell_step hst fE c1
  have c2 := cell_step hst fE c2
  have c3 := cell_step hst fE c3
  have px0 := cell_step hst fB px0
  have px1 := cell_step hst fB px1
  have px2 := cell_step hst fB px2
  have px3 := cell_step hst fB px3
  have fV := hst.free fV
  have fE := hst.free fE
  have fB := hst.free fB
  have ST := hid (ST.out.trans hst)
  have HXx := hid (HXx.out.step hst)
  have VI := hid (VI.out.step hst htab ha)
  have HT5 := hid htab
  have HV5 := hid hv5
  clear hst htab ha hv5
  rcases r5 with er | n5
  · (dsimp only at hm; subst hm; exact ⟨rfl, ValPost.bad ST.out VI.out.tab (show thenV (valF x T) _ = _ by rw [HV5.out]; rfl)⟩)
  dsimp only at hm
  subst hm
  have HI5 := hid (hc _ rfl)
  clear hc
  go_wp2_with fail
  refine hK.out _ _ ?_ (fun hHeld => ?_)
  · exact ⟨v0, c0, c1, c2, c3, px0, px1, px2, px3⟩
  clear hK K
  try simp only [Act.put, List.setIfInBounds_toArray, List.set_cons_zero, List.set_cons_succ]
  refine takeYes (i := 6) (v := .int .i64 (bits .xor .i64 (if IntKind.i64.signed = true then -1 else 9223372036854775807) n5)) rfl (by kernel_rfl) (by kernel_rfl) (by kernel_rfl) (fun _ _ _ h => h) (by rfl) ?_ (by assumption) ?_
  · intro w hSw; obtain ⟨sq0, sq1, sq2, sq3, sq4, sq5, sq6, sq7, sq8⟩ := hSw; go_simp
  try simp only [Act.put, List.setIfInBounds_toArray, List.set_cons_zero, List.set_cons_succ]
  refine takeYes (i := 7) (v := .int .i64 (bits .xor .i64 (if IntKind.i64.signed = true then -1 else 9223372036854775807) n5)) rfl (by kernel_rfl) (by kernel_rfl) (by kernel_rfl) (fun _ _ _ h => h) (by rfl) ?_ (by assumption) ?_
  · intro w hSw; obtain ⟨sq0, sq1, sq2, sq3, sq4, sq5, sq6, sq7, sq8⟩ := hSw; go_simp
  try simp only [Act.put, List.setIfInBounds_toArray, List.set_cons_zero, List.set_cons_succ]
  refine wpAnyH_done (by kernel_rfl) ?_ _
  go_wp2_with fail
  go_ret
  exact ValPost.good ST.out HT5.out (show thenV (valF x T) _ = _ by rw [HV5.out]; rfl) (com_eq _ HI5.out)
end Go.Proofs.YtadmmmehphhecaaGreatDoor
