/- The walk of the parser's one, wherever whole and one hold further on. -/
import Derived.Test.YtadmmmehphhecaaGreatDoorF
set_option linter.unusedVariables false
set_option linter.unusedSimpArgs false
namespace Go.Proofs.YtadmmmehphhecaaGreatDoor
open Go.RowKit
abbrev TE : TypeId := 30
/-- what a parser's function comes to -/
def PPost (s : ByteArray) (g : Nat) (m : Md) (d : Nat) (t : PSt) (w : World) (e : Ending) (w' : World) : Prop :=
  ∃ r, Out s.data.toList m d t r ∧ w.grownBy w' (some g) ∧ match r with
    | .ok (x, t') => (∃ v, e = .returned v ∧ RdX w' (fun b => w.heap.size ≤ b) x v) ∧ PIn TP w' g s t' ∧ t.at_ ≤ t'.at_ ∧ t'.at_ + t'.text.length ≤ s.size ∧ t'.kd ≤ 2
    | .error (a, er) => e = .panicked (badV a er TW)
def PFun (K : FuncId) (s : ByteArray) (g : Nat) (m : Md) (d : Nat) (t : PSt) : Prop :=
  ∀ (w : World) (di : Int), di = (d : Int) → Laid w → PIn TP w g s t → Calls Tryz.prog K #[.pointer (some ⟨g, 0, none⟩), .int .i64 di] w (PPost s g m d t w)
theorem PFun.call {K : FuncId} {s : ByteArray} {g : Nat} {m : Md} {d : Nat} {t : PSt} (h : PFun K s g m d t) (w : World) (di : Int) (hd : di = (d : Int)) (hL : Laid w) (hp : PIn TP w g s t) :
    Calls Tryz.prog K #[.pointer (some ⟨g, 0, none⟩), .int .i64 di] w (PPost s g m d t w) := h w di hd hL hp
theorem PPost.bad {s : ByteArray} {g : Nat} {m : Md} {d : Nat} {t : PSt} {w w' : World} {e : Ending} {a : Nat} {er : Int} (ho : Out s.data.toList m d t (.error (a, er))) (hg : w.grownBy w' (some g)) (he : e = .panicked (badV a er TW)) : PPost s g m d t w e w' :=
  ⟨_, ho, hg, he⟩
theorem PPost.good {s : ByteArray} {g : Nat} {m : Md} {d : Nat} {t t' : PSt} {x : Ex} {v : Value} {w w' : World} {e : Ending} (ho : Out s.data.toList m d t (.ok (x, t'))) (hg : w.grownBy w' (some g)) (he : e = .returned v) (hx : RdX w' (fun b => w.heap.size ≤ b) x v)
    (hp : PIn TP w' g s t') (h1 : t.at_ ≤ t'.at_) (h2 : t'.at_ + t'.text.length ≤ s.size) (h3 : t'.kd ≤ 2) : PPost s g m d t w e w' :=
  ⟨_, ho, hg, ⟨v, he, hx⟩, hp, h1, h2, h3⟩
theorem leaf_rd (w : World) (P : Nat → Prop) (op : List UInt8) (n : Int) (nm : List UInt8) : RdX w P (.mk op n nm .nil) (.agg #[.string ⟨op.toArray⟩, .int .i64 n, .string ⟨nm.toArray⟩, .slice none 0 0]) := by
  unfold RdX; exact ⟨none, 0, rfl, Nat.le_refl _, by unfold RdL; trivial⟩
theorem PIn.kind0 {T : TypeId} {w : World} {g : Nat} {s : ByteArray} {t : PSt} (h : PIn T w g s t) (hk : t.kd = 0) : ∃ nm, Bk w g T #[.string s, .int .i64 (t.at_ : Int), .string ⟨t.text.toArray⟩, .int .i64 nm, .string ⟨#[]⟩] := by
  obtain ⟨nm, h, _⟩ := h; rw [hk] at h; exact ⟨nm, h⟩
theorem PIn.kind1 {T : TypeId} {w : World} {g : Nat} {s : ByteArray} {t : PSt} (h : PIn T w g s t) (hk : t.kd = 1) : Bk w g T #[.string s, .int .i64 (t.at_ : Int), .string ⟨t.text.toArray⟩, .int .i64 t.num, .string ⟨#[110, 117, 109]⟩] := by
  obtain ⟨nm, h, h2⟩ := h; rw [h2 hk] at h; rw [hk] at h; exact h
theorem PIn.kind2 {T : TypeId} {w : World} {g : Nat} {s : ByteArray} {t : PSt} (h : PIn T w g s t) (hk : t.kd ≠ 0) (hk1 : t.kd ≠ 1) : ∃ nm, Bk w g T #[.string s, .int .i64 (t.at_ : Int), .string ⟨t.text.toArray⟩, .int .i64 nm, .string ⟨#[110, 97, 109, 101]⟩] := by
  obtain ⟨nm, h, h2⟩ := h
  have e : kindS t.kd = [110, 97, 109, 101] := by
    match h3 : t.kd, hk, hk1 with
    | 0, hk, _ => exact (hk rfl).elim
    | 1, _, hk => exact (hk rfl).elim
    | n + 2, _, _ => rfl
  rw [e] at h; exact ⟨nm, h⟩
theorem PIn.alloc {T : TypeId} {w : World} {g : Nat} {s : ByteArray} {t : PSt} (h : PIn T w g s t) (o : Obj) : PIn T (w.alloc o) g s t := by
  obtain ⟨nm, h, h2⟩ := h; exact ⟨nm, h.alloc o, h2⟩
theorem PIn.lt {T : TypeId} {w : World} {g : Nat} {s : ByteArray} {t : PSt} (h : PIn T w g s t) : g < w.heap.size := by
  obtain ⟨nm, h, _⟩ := h; exact h.lt
theorem PIn.far {T : TypeId} {w : World} {g : Nat} {s : ByteArray} {t : PSt} (h : PIn T w g s t) {p : Addr} (hp : g ≠ p.block) (u : Value) : PIn T (w.setCell p u) g s t := by
  obtain ⟨nm, h, h2⟩ := h; exact ⟨nm, h.far hp u, h2⟩
theorem grown_alloc (w : World) (row : Option Nat) (o : Obj) : w.grownBy (w.alloc o) row := grown_of_below ((Below.refl _ _).alloc (Nat.le_refl _) o)
/-- a store into a block that is younger than a world changes nothing of it -/
theorem grown_new {w w1 : World} {row : Option Nat} (h : w.grownBy w1 row) {p : Addr} (hp : w.heap.size ≤ p.block) (u : Value) : w.grownBy (w1.setCell p u) row :=
  ⟨h.os, h.tape, h.output, by simpa [World.setCell] using h.size, fun k hk hr => (Below.heap_setCell _ _ _ _ (by omega)).trans (h.block k hk hr)⟩
theorem RdX.grownP {w w' : World} {P : Nat → Prop} {g : Nat} {e : Ex} {v : Value} (h : RdX w P e v) (hP : ∀ b, P b → b ≠ g) (hb : w.grownBy w' (some g)) : RdX w' P e v :=
  RdX.keep (fun b off u hp hu => ⟨hp, (World.cell?_of_block (w := w) (w' := w') (a := ⟨b, off, none⟩) (hb.block b (World.block_lt_of_cell? w _ hu) (by intro e; injection e with e; exact hP b hp e))).trans hu⟩) e v h
theorem RdX.far {w : World} {P : Nat → Prop} {e : Ex} {v : Value} (h : RdX w P e v) {p : Addr} (hP : ∀ b, P b → b ≠ p.block) (u : Value) : RdX (w.setCell p u) P e v :=
  RdX.keep (fun b off x hp hu => ⟨hp, Go.Proofs.YtadmmmehphhecaaGreatDoor.far hu (hP b hp)⟩) e v h
theorem RdX.low {w : World} {P Q : Nat → Prop} {e : Ex} {v : Value} (h : RdX w P e v) (hPQ : ∀ b, P b → Q b) : RdX w Q e v := RdX.keep (fun b off x hp hu => ⟨hPQ b hp, hu⟩) e v h
theorem RdX.alloc {w : World} {P : Nat → Prop} {e : Ex} {v : Value} (h : RdX w P e v) (o : Obj) : RdX (w.alloc o) P e v := h.below ((Below.refl _ _).alloc (Nat.le_refl _) o)
theorem RdL.alloc {w : World} {P : Nat → Prop} {e : Exs} {A : Option Addr} (h : RdL w P e A) (o : Obj) : RdL (w.alloc o) P e A := h.below ((Below.refl _ _).alloc (Nat.le_refl _) o)
theorem Bk.put4 {w1 : World} {b : Nat} {T : TypeId} {x0 x1 x2 x3 : Value} (h : Bk w1 b T #[x0, x1, x2, x3]) (a0 a1 a2 a3 : Value) : Bk ((((w1.setCell ⟨b, 0, none⟩ a0).setCell ⟨b, 1, none⟩ a1).setCell ⟨b, 2, none⟩ a2).setCell ⟨b, 3, none⟩ a3) b T #[a0, a1, a2, a3] :=
  (((h.set_ 0 a0).set_ 1 a1).set_ 2 a2).set_ 3 a3
theorem Bk.put4far {w1 : World} {b c : Nat} {T : TypeId} {cs : Array Value} (h : Bk w1 c T cs) (hn : c ≠ b) (a0 a1 a2 a3 : Value) : Bk ((((w1.setCell ⟨b, 0, none⟩ a0).setCell ⟨b, 1, none⟩ a1).setCell ⟨b, 2, none⟩ a2).setCell ⟨b, 3, none⟩ a3) c T cs :=
  (((h.far (p := ⟨b, 0, none⟩) hn a0).far (p := ⟨b, 1, none⟩) hn a1).far (p := ⟨b, 2, none⟩) hn a2).far (p := ⟨b, 3, none⟩) hn a3
theorem put4_laid {w1 : World} {b : Nat} (h : Laid w1) (hb : GBig b) (a0 a1 a2 a3 : Value) : Laid ((((w1.setCell ⟨b, 0, none⟩ a0).setCell ⟨b, 1, none⟩ a1).setCell ⟨b, 2, none⟩ a2).setCell ⟨b, 3, none⟩ a3) :=
  (((h.grown (grown_setCell (g := b) rfl a0) hb).grown (grown_setCell (g := b) rfl a1) hb).grown (grown_setCell (g := b) rfl a2) hb).grown (grown_setCell (g := b) rfl a3) hb
/-- one expression in a block of its own -/
theorem RdL.one {w : World} {P : Nat → Prop} {x : Ex} {N : Nat} {a0 a1 a2 a3 : Value} (hN : P N) (hk : Bk w N TE #[a0, a1, a2, a3]) (hx : RdX w P x (.agg #[a0, a1, a2, a3])) : RdL w P (.cons x .nil) (some ⟨N, 0, none⟩) := by
  unfold RdL
  obtain ⟨q0, q1, q2, q3⟩ := hk.cells4
  exact ⟨N, 0, a0, a1, a2, a3, rfl, hN, q0, q1, q2, q3, hx, by unfold RdL; trivial⟩
theorem RdX.mk {w : World} {P : Nat → Prop} {op nm : List UInt8} {n : Int} {k : Exs} {A : Option Addr} {l cap : Nat} (hl : k.len = l) (hc : l ≤ cap) (h : RdL w P k A) : RdX w P (.mk op n nm k) (.agg #[.string ⟨op.toArray⟩, .int .i64 n, .string ⟨nm.toArray⟩, .slice A l cap]) := by
  subst hl; unfold RdX; exact ⟨A, cap, rfl, hc, h⟩
section
variable {w w1 : World} {b : Nat} (a0 a1 a2 a3 : Value)
theorem put4_grown {row : Option Nat} (h : w.grownBy w1 row) (hb : w.heap.size ≤ b) : w.grownBy ((((w1.setCell ⟨b, 0, none⟩ a0).setCell ⟨b, 1, none⟩ a1).setCell ⟨b, 2, none⟩ a2).setCell ⟨b, 3, none⟩ a3) row :=
  grown_new (grown_new (grown_new (grown_new h hb a0) hb a1) hb a2) hb a3
theorem put4_pin {T : TypeId} {g : Nat} {s : ByteArray} {t : PSt} (h : PIn T w1 g s t) (hb : g ≠ b) : PIn T ((((w1.setCell ⟨b, 0, none⟩ a0).setCell ⟨b, 1, none⟩ a1).setCell ⟨b, 2, none⟩ a2).setCell ⟨b, 3, none⟩ a3) g s t :=
  (((h.far (p := ⟨b, 0, none⟩) hb a0).far (p := ⟨b, 1, none⟩) hb a1).far (p := ⟨b, 2, none⟩) hb a2).far (p := ⟨b, 3, none⟩) hb a3
theorem put4_rd {P : Nat → Prop} {e : Ex} {v : Value} (h : RdX w1 P e v) (hb : ∀ x, P x → x ≠ b) : RdX ((((w1.setCell ⟨b, 0, none⟩ a0).setCell ⟨b, 1, none⟩ a1).setCell ⟨b, 2, none⟩ a2).setCell ⟨b, 3, none⟩ a3) P e v :=
  (((h.far (p := ⟨b, 0, none⟩) hb a0).far (p := ⟨b, 1, none⟩) hb a1).far (p := ⟨b, 2, none⟩) hb a2).far (p := ⟨b, 3, none⟩) hb a3
end
set_option maxRecDepth 100000 in
set_option maxHeartbeats 4000000 in
theorem one_step (s : ByteArray) (g : Nat) (d : Nat) (t : PSt) (hs : s.size ≤ 100000) (hgb : GBig g) (hat : t.at_ + t.text.length ≤ s.size) (hd : d ≤ 40) (hkd : t.kd ≤ 2)
    (hW : d < 40 → ∀ t', t.at_ < t'.at_ → t'.at_ + t'.text.length ≤ s.size → t'.kd ≤ 2 → PFun 41 s g .whole (d + 1) t') (hO : d < 40 → ∀ t', t.at_ < t'.at_ → t'.at_ + t'.text.length ≤ s.size → t'.kd ≤ 2 → PFun 110 s g .one (d + 1) t') :
    PFun 110 s g .one d t := by
  intro w di hdi hL hp
  subst hdi
  have HGB := hid hgb
  have HL := hid hL
  have HP := hid hp
  have hg := hp.lt
  have hsl : s.data.toList.length = s.size := by simp
  have HNX := hid (fun t' (h : nextF s.data.toList t = .ok t') => next_le _ _ _ h (by rw [hsl]; exact hat))
  rw [hsl] at HNX
  have HWW := hid hW
  have HOO := hid hO
  clear hgb hL hp hW hO hsl
  by_cases h1 : t.kd = 1
  · have hk := HP.out.kind1 h1
    obtain ⟨c0, c1, c2, c3, c4⟩ := hk.cells5
    clear hk
    cases hn : nextF s.data.toList t with
    | ok t' =>
      have HN := hid hn
      have HLE := HNX.out t' hn
      obtain ⟨hle1, hle2, hle3⟩ := HLE
      have HO1 : Hid (Out s.data.toList .one d t (.ok (.mk numO t.num [] .nil, t'))) := hid (one_num (s := s.data.toList) (d := d) h1 hn)
      clear hn
      go_enter Tryz.func110, Tryz.ntmps110
      go_wp2_with fail
      ((with_reducible refine (next_any s g t _ ((HL.out.below ((Below.refl _ _).alloc (Nat.le_refl _) _)).below ((Below.refl _ _).alloc (Nat.le_refl _) _)) hs HGB.out ((HP.out.alloc _).alloc _) hat).mono ?_); rintro e w6 ⟨hg6, hres⟩)
      rw [HN.out] at hres
      obtain ⟨rfl, hp6⟩ := hres
      have HP6 := hid hp6
      have HG6 := hid (grownBy_trans (grownBy_trans (grown_alloc w (some g) (.cells #[.string ⟨#[]⟩, .int .i64 0, .string ⟨#[]⟩, .slice none 0 0] TE)) (grown_alloc _ _ (.cells #[.string ⟨#[110, 117, 109]⟩, .int .i64 t.num, .string ⟨#[]⟩, .slice none 0 0] TE))) hg6)
      have k0 := ((Bk.new w TE #[.string ⟨#[]⟩, .int .i64 0, .string ⟨#[]⟩, .slice none 0 0]).alloc (.cells #[.string ⟨#[110, 117, 109]⟩, .int .i64 t.num, .string ⟨#[]⟩, .slice none 0 0] TE)).grown hg6 (by intro e; injection e with e; omega)
      have k1 := (show Bk _ (w.heap.size + 1) TE #[.string ⟨#[110, 117, 109]⟩, .int .i64 t.num, .string ⟨#[]⟩, .slice none 0 0] from heap2_1 w _ _).grown hg6 (by intro e; injection e with e; omega)
      have HF := hid (PPost.good HO1.out (put4_grown (b := w.heap.size) (.string ⟨#[110, 117, 109]⟩) (.int .i64 t.num) (.string ⟨#[]⟩) (.slice none 0 0) HG6.out (Nat.le_refl _)) rfl (leaf_rd _ _ _ _ _) (put4_pin _ _ _ _ HP6.out (by omega)) (by omega) hle2 hle3)
      obtain ⟨q0, q1, q2, q3⟩ := k1.cells4
      obtain ⟨r0, r1, r2, r3⟩ := k0.cells4
      obtain ⟨g0, g1, g2, g3⟩ := k0.free4
      clear k0 k1 hp6 hg6
      go_wp2_with fail
      refine bodyPost_ret (v := .agg #[.string ⟨#[110, 117, 109]⟩, .int .i64 t.num, .string ⟨#[]⟩, .slice none 0 0]) (by simp [results, Tryz.results110, go_sem, r0, r1, r2, r3, g0, g1, g2, g3]) rfl ?_
      exact HF.out
    | error x =>
      obtain ⟨a, er⟩ := x
      have HN := hid hn
      have HO1 : Hid (Out s.data.toList .one d t (.error (a, er))) := hid (one_num (s := s.data.toList) (d := d) h1 hn)
      clear hn
      go_enter Tryz.func110, Tryz.ntmps110
      go_wp2_with fail
      ((with_reducible refine (next_any s g t _ ((HL.out.below ((Below.refl _ _).alloc (Nat.le_refl _) _)).below ((Below.refl _ _).alloc (Nat.le_refl _) _)) hs HGB.out ((HP.out.alloc _).alloc _) hat).mono ?_); rintro e w6 ⟨hg6, hres⟩)
      rw [HN.out] at hres
      dsimp only at hres
      subst hres
      refine ⟨rfl, PPost.bad HO1.out (grownBy_trans (grownBy_trans (grown_alloc w (some g) _) (grown_alloc _ _ _)) hg6) rfl⟩
  by_cases h2 : t.kd = 0
  case neg =>
    obtain ⟨nm, hk⟩ := HP.out.kind2 h2 h1
    obtain ⟨c0, c1, c2, c3, c4⟩ := hk.cells5
    clear hk
    cases hn : nextF s.data.toList t with
    | ok t' =>
      have HN := hid hn
      obtain ⟨hle1, hle2, hle3⟩ := HNX.out t' hn
      have HO1 : Hid (Out s.data.toList .one d t (.ok (.mk nameO 0 t.text .nil, t'))) := hid (one_name (s := s.data.toList) (d := d) h1 h2 hn)
      clear hn
      go_enter Tryz.func110, Tryz.ntmps110
      go_wp2_with fail
      ((with_reducible refine (next_any s g t _ ((HL.out.below ((Below.refl _ _).alloc (Nat.le_refl _) _)).below ((Below.refl _ _).alloc (Nat.le_refl _) _)) hs HGB.out ((HP.out.alloc _).alloc _) hat).mono ?_); rintro e w6 ⟨hg6, hres⟩)
      rw [HN.out] at hres
      obtain ⟨rfl, hp6⟩ := hres
      have HP6 := hid hp6
      have HG6 := hid (grownBy_trans (grownBy_trans (grown_alloc w (some g) (.cells #[.string ⟨#[]⟩, .int .i64 0, .string ⟨#[]⟩, .slice none 0 0] TE)) (grown_alloc _ _ (.cells #[.string ⟨#[110, 97, 109, 101]⟩, .int .i64 0, .string ⟨t.text.toArray⟩, .slice none 0 0] TE))) hg6)
      have k0 := ((Bk.new w TE #[.string ⟨#[]⟩, .int .i64 0, .string ⟨#[]⟩, .slice none 0 0]).alloc (.cells #[.string ⟨#[110, 97, 109, 101]⟩, .int .i64 0, .string ⟨t.text.toArray⟩, .slice none 0 0] TE)).grown hg6 (by intro e; injection e with e; omega)
      have k1 := (show Bk _ (w.heap.size + 1) TE #[.string ⟨#[110, 97, 109, 101]⟩, .int .i64 0, .string ⟨t.text.toArray⟩, .slice none 0 0] from heap2_1 w _ _).grown hg6 (by intro e; injection e with e; omega)
      have HF := hid (PPost.good HO1.out (put4_grown (b := w.heap.size) (.string ⟨#[110, 97, 109, 101]⟩) (.int .i64 0) (.string ⟨t.text.toArray⟩) (.slice none 0 0) HG6.out (Nat.le_refl _)) rfl (leaf_rd _ _ _ _ _) (put4_pin _ _ _ _ HP6.out (by omega)) (by omega) hle2 hle3)
      obtain ⟨q0, q1, q2, q3⟩ := k1.cells4
      obtain ⟨r0, r1, r2, r3⟩ := k0.cells4
      obtain ⟨g0, g1, g2, g3⟩ := k0.free4
      clear k0 k1 hp6 hg6
      go_wp2_with fail
      refine bodyPost_ret (v := .agg #[.string ⟨#[110, 97, 109, 101]⟩, .int .i64 0, .string ⟨t.text.toArray⟩, .slice none 0 0]) (by simp [results, Tryz.results110, go_sem, r0, r1, r2, r3, g0, g1, g2, g3]) rfl ?_
      exact HF.out
    | error x =>
      obtain ⟨a, er⟩ := x
      have HN := hid hn
      have HO1 : Hid (Out s.data.toList .one d t (.error (a, er))) := hid (one_name (s := s.data.toList) (d := d) h1 h2 hn)
      clear hn
      go_enter Tryz.func110, Tryz.ntmps110
      go_wp2_with fail
      ((with_reducible refine (next_any s g t _ ((HL.out.below ((Below.refl _ _).alloc (Nat.le_refl _) _)).below ((Below.refl _ _).alloc (Nat.le_refl _) _)) hs HGB.out ((HP.out.alloc _).alloc _) hat).mono ?_); rintro e w6 ⟨hg6, hres⟩)
      rw [HN.out] at hres
      dsimp only at hres
      subst hres
      refine ⟨rfl, PPost.bad HO1.out (grownBy_trans (grownBy_trans (grown_alloc w (some g) _) (grown_alloc _ _ _)) hg6) rfl⟩
  obtain ⟨nm, hk⟩ := HP.out.kind0 h2
  obtain ⟨c0, c1, c2, c3, c4⟩ := hk.cells5
  clear hk
  by_cases h3 : t.text = [40]
  · rw [h3] at c2
    by_cases hd40 : d = 40
    · have HO1 := hid (one_deep (s := s.data.toList) h2 h3 hd40)
      subst hd40
      rw [show ((40 : Nat) : Int) = 40 from rfl]
      go_enter Tryz.func110, Tryz.ntmps110
      go_wp2_with fail
      ((with_reducible refine (deeper_no g _ t.at_ (by go_simp)).mono ?_); rintro e w6 ⟨rfl, rfl⟩)
      refine ⟨rfl, PPost.bad HO1.out (grownBy_trans (grown_alloc w (some g) _) (grown_alloc _ _ _)) rfl⟩
    have hdl : (d : Int) < 40 := by omega
    have hd0 : (0 : Int) ≤ (d : Int) := by omega
    have HD1 : Hid ((d : Int) + 1 = ((d + 1 : Nat) : Int)) := hid (by omega)
    cases hn : nextF s.data.toList t with
    | error x =>
      obtain ⟨a, er⟩ := x
      have HN := hid hn
      have HO1 := hid (one_next (s := s.data.toList) h2 h3 hd40 hn)
      clear hn
      go_enter Tryz.func110, Tryz.ntmps110
      go_wp2_with fail
      ((with_reducible refine (deeper_yes g d _ hd0 hdl).mono ?_); rintro e w5 ⟨rfl, rfl⟩)
      go_wp2_with fail
      ((with_reducible refine (next_any s g t _ ((HL.out.below ((Below.refl _ _).alloc (Nat.le_refl _) _)).below ((Below.refl _ _).alloc (Nat.le_refl _) _)) hs HGB.out ((HP.out.alloc _).alloc _) hat).mono ?_); rintro e w6 ⟨hg6, hres⟩)
      rw [HN.out] at hres
      dsimp only at hres
      subst hres
      refine ⟨rfl, PPost.bad HO1.out (grownBy_trans (grownBy_trans (grown_alloc w (some g) _) (grown_alloc _ _ _)) hg6) rfl⟩
    | ok t' =>
      have HN := hid hn
      obtain ⟨hle1, hle2, hle3⟩ := HNX.out t' hn
      have hstr : t.at_ < t'.at_ := by rw [h3] at hle1; simp at hle1; omega
      go_enter Tryz.func110, Tryz.ntmps110
      go_wp2_with fail
      ((with_reducible refine (deeper_yes g d _ hd0 hdl).mono ?_); rintro e w5 ⟨rfl, rfl⟩)
      go_wp2_with fail
      ((with_reducible refine (next_any s g t _ ((HL.out.below ((Below.refl _ _).alloc (Nat.le_refl _) _)).below ((Below.refl _ _).alloc (Nat.le_refl _) _)) hs HGB.out ((HP.out.alloc _).alloc _) hat).mono ?_); rintro e w6 ⟨hg6, hres⟩)
      rw [HN.out] at hres
      obtain ⟨rfl, hp6⟩ := hres
      have HL6 := hid (((HL.out.below ((Below.refl _ _).alloc (Nat.le_refl _) _)).below ((Below.refl _ _).alloc (Nat.le_refl _) _)).grown hg6 HGB.out)
      have HG6 := hid (grownBy_trans (grownBy_trans (grown_alloc w (some g) (.cells #[.string ⟨#[]⟩, .int .i64 0, .string ⟨#[]⟩, .slice none 0 0] TE)) (grown_alloc _ _ (.cells #[.string ⟨#[]⟩, .int .i64 0, .string ⟨#[]⟩, .slice none 0 0] TE))) hg6)
      have k0 := ((Bk.new w TE #[.string ⟨#[]⟩, .int .i64 0, .string ⟨#[]⟩, .slice none 0 0]).alloc (.cells #[.string ⟨#[]⟩, .int .i64 0, .string ⟨#[]⟩, .slice none 0 0] TE)).grown hg6 (by intro e; injection e with e; omega)
      have k1 := (show Bk _ (w.heap.size + 1) TE #[.string ⟨#[]⟩, .int .i64 0, .string ⟨#[]⟩, .slice none 0 0] from heap2_1 w _ _).grown hg6 (by intro e; injection e with e; omega)
      clear hg6
      go_wp2_with fail
      ((with_reducible refine ((HWW.out (by omega) t' hstr hle2 hle3).call _ _ HD1.out HL6.out hp6).mono ?_); rintro e w7 ⟨r, hout, hg7, hres⟩)
      have HG7 := hid (grownBy_trans HG6.out hg7)
      have hsz6 : w.heap.size + 1 < w6.heap.size := k1.lt
      cases r with
      | error x =>
        obtain ⟨a, er⟩ := x
        dsimp only at hres
        subst hres
        exact ⟨rfl, PPost.bad (one_err (s := s.data.toList) h2 h3 hd40 hn hout) HG7.out rfl⟩
      | ok q =>
        obtain ⟨x, t2⟩ := q
        obtain ⟨⟨v, rfl, hx⟩, hp7, hm1, hm2, hm3⟩ := hres
        obtain ⟨A, cap, rfl, hcap, hkids⟩ := hx.form
        have k0 := k0.grown hg7 (by intro e; injection e with e; omega)
        have k1 := k1.grown hg7 (by intro e; injection e with e; omega)
        have HX := hid (put4_rd (b := w.heap.size + 1) (.string ⟨x.op.toArray⟩) (.int .i64 x.num) (.string ⟨x.name.toArray⟩) (.slice A x.kids.len cap) hx (fun b hb => by omega))
        have HP7 := hid (put4_pin (b := w.heap.size + 1) (.string ⟨x.op.toArray⟩) (.int .i64 x.num) (.string ⟨x.name.toArray⟩) (.slice A x.kids.len cap) hp7 (by omega))
        have HG8 := hid (put4_grown (b := w.heap.size + 1) (.string ⟨x.op.toArray⟩) (.int .i64 x.num) (.string ⟨x.name.toArray⟩) (.slice A x.kids.len cap) HG7.out (by omega))
        have HL8 := hid (put4_laid (b := w.heap.size + 1) (HL6.out.grown hg7 HGB.out) (by have := HGB.out; unfold GBig at *; omega) (.string ⟨x.op.toArray⟩) (.int .i64 x.num) (.string ⟨x.name.toArray⟩) (.slice A x.kids.len cap))
        have k0F := k0.put4far (b := w.heap.size + 1) (by omega) (.string ⟨x.op.toArray⟩) (.int .i64 x.num) (.string ⟨x.name.toArray⟩) (.slice A x.kids.len cap)
        have k1F := k1.put4 (.string ⟨x.op.toArray⟩) (.int .i64 x.num) (.string ⟨x.name.toArray⟩) (.slice A x.kids.len cap)
        obtain ⟨q0, q1, q2, q3⟩ := k1.cells4
        obtain ⟨f0, f1, f2, f3⟩ := k1.free4
        have HOUT := hid hout
        have HNN := hid hn
        clear k0 k1 hx hp7 hkids hg7 hout hn hp6
        go_wp2_with fail
        ((with_reducible refine (takes_any s g t2 [41] _ HL8.out hs HGB.out HP7.out hm2).mono ?_); rintro e w9 ⟨hg9, hres⟩)
        have HG9 := hid (grownBy_trans HG8.out hg9)
        cases hy : takesF s.data.toList t2 [41] with
        | error z =>
          obtain ⟨a, er⟩ := z
          rw [hy] at hres
          dsimp only at hres
          subst hres
          exact ⟨rfl, PPost.bad (one_in (s := s.data.toList) h2 h3 hd40 HNN.out HOUT.out hy) HG9.out rfl⟩
        | ok t3 =>
          rw [hy] at hres
          obtain ⟨rfl, hp9⟩ := hres
          have hy2 : nextF s.data.toList t2 = .ok t3 := by unfold takesF at hy; split at hy; exact hy; cases hy
          have hl3 := next_le _ _ _ hy2 (by simpa using hm2)
          obtain ⟨hn1, hn2, hn3⟩ := hl3
          have hn2 : t3.at_ + t3.text.length ≤ s.size := by simpa using hn2
          have HO1 : Hid (Out s.data.toList .one d t (.ok (x, t3))) := hid (one_in (s := s.data.toList) h2 h3 hd40 HNN.out HOUT.out hy)
          have k0 := k0F.grown hg9 (by intro e; injection e with e; omega)
          have k1 := k1F.grown hg9 (by intro e; injection e with e; omega)
          have HX9 := hid ((HX.out.grownP (fun b hb => by omega) hg9).low (Q := fun b => w.heap.size + 1 < b) (fun b hb => by omega))
          have HF := hid (PPost.good HO1.out (put4_grown (b := w.heap.size) (.string ⟨x.op.toArray⟩) (.int .i64 x.num) (.string ⟨x.name.toArray⟩) (.slice A x.kids.len cap) HG9.out (Nat.le_refl _)) rfl ((put4_rd _ _ _ _ HX9.out (fun b hb => by omega)).low (fun b hb => by omega)) (put4_pin _ _ _ _ hp9 (by omega)) (by omega) hn2 hn3)
          obtain ⟨q0, q1, q2, q3⟩ := k1.cells4
          obtain ⟨r0, r1, r2, r3⟩ := k0.cells4
          obtain ⟨g0, g1, g2, g3⟩ := k0.free4
          clear k0 k1 k0F k1F hp9 hg9 hy hy2
          go_wp2_with fail
          refine bodyPost_ret (v := .agg #[.string ⟨x.op.toArray⟩, .int .i64 x.num, .string ⟨x.name.toArray⟩, .slice A x.kids.len cap]) (by simp [results, Tryz.results110, go_sem, r0, r1, r2, r3, g0, g1, g2, g3]) rfl ?_
          exact HF.out
  have hne : (t.text == [40]) = false := by simpa using h3
  obtain ⟨ah, hah⟩ : ∃ ah, ah = aheadF t.text := ⟨_, rfl⟩
  have HAH := hid hah
  by_cases h4 : aheadF t.text ≠ []
  case neg =>
    have HO1 := hid (one_no (s := s.data.toList) (d := d) h2 h3 h4)
    obtain rfl : ah = [] := by rw [hah]; simpa using h4
    clear hah h4 h3
    go_enter Tryz.func110, Tryz.ntmps110
    go_wp2_with fail
    ((with_reducible refine (ahead_any t.text _).mono ?_); rintro e w4 ⟨rfl, rfl⟩)
    rw [← HAH.out]
    go_wp2_with fail
    ((with_reducible refine (fail_any g 31 _ t.at_ (by go_simp)).mono ?_); rintro e w6 ⟨rfl, rfl⟩)
    refine ⟨rfl, PPost.bad HO1.out (grownBy_trans (grown_alloc w (some g) _) (grown_alloc _ _ _)) rfl⟩
  have hae : ah.isEmpty = false := by rw [hah]; cases h : aheadF t.text with | nil => exact (h4 h).elim | cons => rfl
  have htl : t.text ≠ [] := by intro e; rw [e] at h4; exact h4 (by decide)
  have HTL : Hid (0 < t.text.length) := hid (List.length_pos_iff.2 htl)
  have H3 := hid h3
  have H4 := hid h4
  clear hah h3 h4 htl
  by_cases hd40 : d = 40
  · have HO1 := hid (ah_deep (s := s.data.toList) h2 H3.out H4.out hd40)
    subst hd40
    rw [show ((40 : Nat) : Int) = 40 from rfl]
    go_enter Tryz.func110, Tryz.ntmps110
    go_wp2_with fail
    ((with_reducible refine (ahead_any t.text _).mono ?_); rintro e w4 ⟨rfl, rfl⟩)
    rw [← HAH.out]
    go_wp2_with fail
    ((with_reducible refine (ahead_any t.text _).mono ?_); rintro e w4 ⟨rfl, rfl⟩)
    rw [← HAH.out]
    go_wp2_with fail
    ((with_reducible refine (deeper_no g _ t.at_ (by go_simp)).mono ?_); rintro e w6 ⟨rfl, rfl⟩)
    refine ⟨rfl, PPost.bad HO1.out (grownBy_trans (grown_alloc w (some g) _) (grown_alloc _ _ _)) rfl⟩
  have hdl : (d : Int) < 40 := by omega
  have hd0 : (0 : Int) ≤ (d : Int) := by omega
  have HD1 : Hid ((d : Int) + 1 = ((d + 1 : Nat) : Int)) := hid (by omega)
  cases hn : nextF s.data.toList t with
  | error x =>
    obtain ⟨a, er⟩ := x
    have HN := hid hn
    have HO1 := hid (ah_next (s := s.data.toList) h2 H3.out H4.out hd40 hn)
    clear hn
    go_enter Tryz.func110, Tryz.ntmps110
    go_wp2_with fail
    ((with_reducible refine (ahead_any t.text _).mono ?_); rintro e w4 ⟨rfl, rfl⟩)
    rw [← HAH.out]
    go_wp2_with fail
    ((with_reducible refine (ahead_any t.text _).mono ?_); rintro e w4 ⟨rfl, rfl⟩)
    rw [← HAH.out]
    go_wp2_with fail
    ((with_reducible refine (deeper_yes g d _ hd0 hdl).mono ?_); rintro e w5 ⟨rfl, rfl⟩)
    go_wp2_with fail
    ((with_reducible refine (next_any s g t _ ((HL.out.below ((Below.refl _ _).alloc (Nat.le_refl _) _)).below ((Below.refl _ _).alloc (Nat.le_refl _) _)) hs HGB.out ((HP.out.alloc _).alloc _) hat).mono ?_); rintro e w6 ⟨hg6, hres⟩)
    rw [HN.out] at hres
    dsimp only at hres
    subst hres
    refine ⟨rfl, PPost.bad HO1.out (grownBy_trans (grownBy_trans (grown_alloc w (some g) _) (grown_alloc _ _ _)) hg6) rfl⟩
  | ok t' =>
    have HN := hid hn
    obtain ⟨hle1, hle2, hle3⟩ := HNX.out t' hn
    have hstr : t.at_ < t'.at_ := by have := HTL.out; omega
    go_enter Tryz.func110, Tryz.ntmps110
    go_wp2_with fail
    ((with_reducible refine (ahead_any t.text _).mono ?_); rintro e w4 ⟨rfl, rfl⟩)
    rw [← HAH.out]
    go_wp2_with fail
    ((with_reducible refine (ahead_any t.text _).mono ?_); rintro e w4 ⟨rfl, rfl⟩)
    rw [← HAH.out]
    go_wp2_with fail
    ((with_reducible refine (deeper_yes g d _ hd0 hdl).mono ?_); rintro e w5 ⟨rfl, rfl⟩)
    go_wp2_with fail
    ((with_reducible refine (next_any s g t _ ((HL.out.below ((Below.refl _ _).alloc (Nat.le_refl _) _)).below ((Below.refl _ _).alloc (Nat.le_refl _) _)) hs HGB.out ((HP.out.alloc _).alloc _) hat).mono ?_); rintro e w6 ⟨hg6, hres⟩)
    rw [HN.out] at hres
    obtain ⟨rfl, hp6⟩ := hres
    have HL6 := hid (((HL.out.below ((Below.refl _ _).alloc (Nat.le_refl _) _)).below ((Below.refl _ _).alloc (Nat.le_refl _) _)).grown hg6 HGB.out)
    have HG6 := hid (grownBy_trans (grownBy_trans (grown_alloc w (some g) (.cells #[.string ⟨#[]⟩, .int .i64 0, .string ⟨#[]⟩, .slice none 0 0] TE)) (grown_alloc _ _ (.cells #[.string ⟨ah.toArray⟩, .int .i64 0, .string ⟨#[]⟩, .slice none 0 0] TE))) hg6)
    have k0 := ((Bk.new w TE #[.string ⟨#[]⟩, .int .i64 0, .string ⟨#[]⟩, .slice none 0 0]).alloc (.cells #[.string ⟨ah.toArray⟩, .int .i64 0, .string ⟨#[]⟩, .slice none 0 0] TE)).grown hg6 (by intro e; injection e with e; omega)
    have k1 := (show Bk _ (w.heap.size + 1) TE #[.string ⟨ah.toArray⟩, .int .i64 0, .string ⟨#[]⟩, .slice none 0 0] from heap2_1 w _ _).grown hg6 (by intro e; injection e with e; omega)
    clear hg6
    go_wp2_with fail
    ((with_reducible refine ((HOO.out (by omega) t' hstr hle2 hle3).call _ _ HD1.out HL6.out hp6).mono ?_); rintro e w7 ⟨r, hout, hg7, hres⟩)
    have HG7 := hid (grownBy_trans HG6.out hg7)
    have hsz6 : w.heap.size + 1 < w6.heap.size := k1.lt
    have hsz7 : w6.heap.size ≤ w7.heap.size := hg7.size
    cases r with
    | error x =>
      obtain ⟨a, er⟩ := x
      dsimp only at hres
      subst hres
      exact ⟨rfl, PPost.bad (ah_in (s := s.data.toList) h2 H3.out H4.out hd40 hn hout) HG7.out rfl⟩
    | ok q =>
      obtain ⟨x, t2⟩ := q
      obtain ⟨⟨v, rfl, hx⟩, hp7, hm1, hm2, hm3⟩ := hres
      have HO1 : Hid (Out s.data.toList .one d t (.ok (.mk ah 0 [] (.cons x .nil), t2))) := hid (by rw [HAH.out]; exact ah_in (s := s.data.toList) h2 H3.out H4.out hd40 hn hout)
      obtain ⟨A, cap, rfl, hcap, hkids⟩ := hx.form
      have k0 := (k0.grown hg7 (by intro e; injection e with e; omega)).alloc (.cells #[.string ⟨x.op.toArray⟩, .int .i64 x.num, .string ⟨x.name.toArray⟩, .slice A x.kids.len cap] TE)
      have k1 := (k1.grown hg7 (by intro e; injection e with e; omega)).alloc (.cells #[.string ⟨x.op.toArray⟩, .int .i64 x.num, .string ⟨x.name.toArray⟩, .slice A x.kids.len cap] TE)
      have kN := Bk.new w7 TE #[.string ⟨x.op.toArray⟩, .int .i64 x.num, .string ⟨x.name.toArray⟩, .slice A x.kids.len cap]
      have hx8 := (hx.alloc (.cells #[.string ⟨x.op.toArray⟩, .int .i64 x.num, .string ⟨x.name.toArray⟩, .slice A x.kids.len cap] TE)).far (p := ⟨w.heap.size + 1, 3, none⟩) (fun b hb => by simp only; omega) (.slice (some ⟨w7.heap.size, 0, none⟩) 1 1)
      have kN8 := kN.far (p := ⟨w.heap.size + 1, 3, none⟩) (by simp only; omega) (.slice (some ⟨w7.heap.size, 0, none⟩) 1 1)
      have HX := hid (RdX.mk (w := (w7.alloc (.cells #[.string ⟨x.op.toArray⟩, .int .i64 x.num, .string ⟨x.name.toArray⟩, .slice A x.kids.len cap] TE)).setCell ⟨w.heap.size + 1, 3, none⟩ (.slice (some ⟨w7.heap.size, 0, none⟩) 1 1)) (P := fun b => w.heap.size + 1 < b) (op := ah) (nm := []) (n := 0) (k := .cons x .nil) (l := 1) (cap := 1) rfl (Nat.le_refl _) (RdL.one (by omega) kN8 (hx8.low (fun b hb => by omega))))
      have HP8 := hid ((hp7.alloc (.cells #[.string ⟨x.op.toArray⟩, .int .i64 x.num, .string ⟨x.name.toArray⟩, .slice A x.kids.len cap] TE)).far (p := ⟨w.heap.size + 1, 3, none⟩) (by simp only; omega) (.slice (some ⟨w7.heap.size, 0, none⟩) 1 1))
      have HG8 := hid (grown_new (grownBy_trans HG7.out (grown_alloc _ _ (.cells #[.string ⟨x.op.toArray⟩, .int .i64 x.num, .string ⟨x.name.toArray⟩, .slice A x.kids.len cap] TE))) (p := ⟨w.heap.size + 1, 3, none⟩) (by simp only; omega) (.slice (some ⟨w7.heap.size, 0, none⟩) 1 1))
      have HF := hid (PPost.good HO1.out (put4_grown (b := w.heap.size) (.string ⟨ah.toArray⟩) (.int .i64 0) (.string ⟨#[]⟩) (.slice (some ⟨w7.heap.size, 0, none⟩) 1 1) HG8.out (Nat.le_refl _)) rfl ((put4_rd _ _ _ _ HX.out (fun b hb => by omega)).low (fun b hb => by omega)) (put4_pin _ _ _ _ HP8.out (by omega)) (by omega) hm2 hm3)
      obtain ⟨q0, q1, q2, q3⟩ := k1.cells4
      obtain ⟨f0, f1, f2, f3⟩ := k1.free4
      obtain ⟨r0, r1, r2, r3⟩ := k0.cells4
      obtain ⟨g0, g1, g2, g3⟩ := k0.free4
      clear k0 k1 kN kN8 hx8 hx hp7 hkids hg7 hout hn hp6
      go_wp2_with fail
      refine bodyPost_ret (v := .agg #[.string ⟨ah.toArray⟩, .int .i64 0, .string ⟨#[]⟩, .slice (some ⟨w7.heap.size, 0, none⟩) 1 1]) (by simp [results, Tryz.results110, go_sem, r0, r1, r2, r3, g0, g1, g2, g3]) rfl ?_
      exact HF.out
end Go.Proofs.YtadmmmehphhecaaGreatDoor
