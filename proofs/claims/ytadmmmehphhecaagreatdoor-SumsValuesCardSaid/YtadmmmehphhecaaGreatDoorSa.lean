/- The walk of Parse. -/
import Derived.Test.YtadmmmehphhecaaGreatDoorS
set_option linter.unusedVariables false
set_option linter.unusedSimpArgs false
namespace Go.Proofs.YtadmmmehphhecaaGreatDoor
open Go.RowKit
/-- what Parse answers -/
inductive ParseOut (s : List UInt8) : Except (Nat × Int) Ex → Prop
  | big (h : 4096 < s.length) : ParseOut s (.error (0, 21))
  | bad (h : s.length ≤ 4096) {x : Nat × Int} (hn : nextF s ⟨0, [], 0, 0⟩ = .error x) : ParseOut s (.error x)
  | none (h : s.length ≤ 4096) {t : PSt} (hn : nextF s ⟨0, [], 0, 0⟩ = .ok t) (ht : t.text = []) : ParseOut s (.ok (.mk numO 0 [] .nil))
  | err (h : s.length ≤ 4096) {t : PSt} (hn : nextF s ⟨0, [], 0, 0⟩ = .ok t) (ht : t.text ≠ []) {x : Nat × Int} (ho : Out s .whole 0 t (.error x)) : ParseOut s (.error x)
  | left (h : s.length ≤ 4096) {t : PSt} (hn : nextF s ⟨0, [], 0, 0⟩ = .ok t) (ht : t.text ≠ []) {x : Ex} {t' : PSt} (ho : Out s .whole 0 t (.ok (x, t'))) (hl : t'.text ≠ []) : ParseOut s (.error (t'.at_, 31))
  | good (h : s.length ≤ 4096) {t : PSt} (hn : nextF s ⟨0, [], 0, 0⟩ = .ok t) (ht : t.text ≠ []) {x : Ex} {t' : PSt} (ho : Out s .whole 0 t (.ok (x, t'))) (hl : t'.text = []) : ParseOut s (.ok x)
theorem len_str (s : ByteArray) : s.size = s.data.toList.length := by rw [Array.length_toList]; rfl
def ParsePost (s : ByteArray) (w : World) (e : Ending) (w' : World) : Prop :=
  ∃ r, ParseOut s.data.toList r ∧ w.grownBy w' none ∧ match r with
    | .ok x => ∃ v, e = .returned (.tuple #[v, .int .i64 0, .int .i64 0]) ∧ RdX w' (fun b => w.heap.size ≤ b) x v
    | .error (a, er) => e = .returned (.tuple #[.agg #[.string ⟨#[]⟩, .int .i64 0, .string ⟨#[]⟩, .slice none 0 0], .int .i64 (a : Int), .int .i64 er])
theorem below_new {w w1 w2 : World} {g : Nat} (h : Below w.heap.size w w1) (k : w1.grownBy w2 (some g)) (hg : w.heap.size ≤ g) : Below w.heap.size w w2 :=
  ⟨k.os.trans h.os, k.tape.trans h.tape, k.output.trans h.output, Nat.le_trans h.size k.size, fun i hi => (k.block i (Nat.lt_of_lt_of_le hi h.size) (by intro e; injection e with e; omega)).trans (h.block i hi)⟩
/-- the results' cells, and what they read as -/
def ResAt (w : World) (R : Nat) (a0 a1 a2 a3 a4 a5 : Value) : Prop := Bk w R TE #[a0, a1, a2, a3] ∧ Bk w (R + 1) 3 #[a4] ∧ Bk w (R + 1 + 1) 23 #[a5]
def ResRd (R : Nat) (tmps : Array Value) : Prop := ∀ (w : World) (a0 a1 a2 a3 a4 a5 : Value), ResAt w R a0 a1 a2 a3 a4 a5 → (results Tryz.f22 tmps).run Tryz.prog w = .ok (.tuple #[.agg #[a0, a1, a2, a3], a4, a5]) w
theorem ResAt.grown {w w' : World} {R g : Nat} {a0 a1 a2 a3 a4 a5 : Value} (h : ResAt w R a0 a1 a2 a3 a4 a5) (hb : w.grownBy w' (some g)) (hg : R + 1 + 1 < g) : ResAt w' R a0 a1 a2 a3 a4 a5 :=
  ⟨h.1.grown hb (by intro e; injection e with e; omega), h.2.1.grown hb (by intro e; injection e with e; omega), h.2.2.grown hb (by intro e; injection e with e; omega)⟩
abbrev catchD (R : Nat) : Deferred := { target := .fn (.func 39) #[.pointer (some ⟨R, 0, none⟩), .pointer (some ⟨R + 1, 0, none⟩), .pointer (some ⟨R + 1 + 1, 0, none⟩)], args := #[] }
theorem leave_bad (s : ByteArray) (w wN : World) (tmps : Array Value) (a : Nat) (er : Int) (hr : ResRd w.heap.size tmps) (x0 x1 x2 x3 x4 x5 : Value) (hk : ResAt wN w.heap.size x0 x1 x2 x3 x4 x5) (hb : Below w.heap.size w wN) (ho : ParseOut s.data.toList (.error (a, er))) :
    Leaves Tryz.prog Tryz.f22 tmps (ParsePost s w) [catchD w.heap.size] (.panicking (badV a er TW)) wN := by
  refine leaves_cons (f := 39) (args := #[.pointer (some ⟨w.heap.size, 0, none⟩), .pointer (some ⟨w.heap.size + 1, 0, none⟩), .pointer (some ⟨w.heap.size + 1 + 1, 0, none⟩)]) (by simp) (by simp [go_sem]) ?_
  refine (catch_bad w.heap.size (w.heap.size + 1) (w.heap.size + 1 + 1) a er wN x0 x1 x2 x3 x4 x5 hk.1 hk.2.1 hk.2.2 (by omega) (by omega) (by omega) w.heap.size (by omega) (by omega) (by omega)).mono ?_
  rintro e u' w' ⟨rfl, hs, hb', k0, k1, k2⟩
  show Leaves _ _ _ _ _ (settle u') w'
  rw [hs]
  exact ⟨_, hr w' _ _ _ _ _ _ ⟨k0, k1, k2⟩, _, ho, grown_of_below (hb.trans hb'), rfl⟩
theorem leave_good (s : ByteArray) (w wN : World) (tmps : Array Value) (hr : ResRd w.heap.size tmps) (x : Ex) (a0 a1 a2 a3 : Value) (hk : ResAt wN w.heap.size a0 a1 a2 a3 (.int .i64 0) (.int .i64 0)) (hb : Below w.heap.size w wN) (ho : ParseOut s.data.toList (.ok x)) (hx : RdX wN (fun b => w.heap.size ≤ b) x (.agg #[a0, a1, a2, a3])) :
    Leaves Tryz.prog Tryz.f22 tmps (ParsePost s w) [catchD w.heap.size] .returning wN := by
  refine leaves_cons (f := 39) (args := #[.pointer (some ⟨w.heap.size, 0, none⟩), .pointer (some ⟨w.heap.size + 1, 0, none⟩), .pointer (some ⟨w.heap.size + 1 + 1, 0, none⟩)]) (by simp) (by simp [go_sem]) ?_
  refine (catch_idle ⟨w.heap.size, 0, none⟩ ⟨w.heap.size + 1, 0, none⟩ ⟨w.heap.size + 1 + 1, 0, none⟩ wN).mono ?_
  rintro e u' w' ⟨rfl, rfl, rfl⟩
  exact ⟨_, hr _ _ _ _ _ _ _ hk, _, ho, grown_of_below hb, _, rfl, hx⟩
theorem ResAt.put {w : World} {R : Nat} {x0 x1 x2 x3 x4 x5 : Value} (h : ResAt w R x0 x1 x2 x3 x4 x5) (a0 a1 a2 a3 a4 a5 : Value) :
    ResAt ((((((w.setCell ⟨R, 0, none⟩ a0).setCell ⟨R, 1, none⟩ a1).setCell ⟨R, 2, none⟩ a2).setCell ⟨R, 3, none⟩ a3).setCell ⟨R + 1, 0, none⟩ a4).setCell ⟨R + 1 + 1, 0, none⟩ a5) R a0 a1 a2 a3 a4 a5 := by
  obtain ⟨h0, h1, h2⟩ := h
  have p0 := (Bk.put4far h1 (b := R) (by omega) a0 a1 a2 a3).set_ 0 a4
  have q0 := ((Bk.put4far h2 (b := R) (by omega) a0 a1 a2 a3).far (p := ⟨R + 1, 0, none⟩) (by simp) a4).set_ 0 a5
  have r0 := ((h0.put4 a0 a1 a2 a3).far (p := ⟨R + 1, 0, none⟩) (by simp) a4).far (p := ⟨R + 1 + 1, 0, none⟩) (by simp; omega) a5
  have p1 := p0.far (p := ⟨R + 1 + 1, 0, none⟩) (by simp) a5
  exact ⟨r0, p1, q0⟩
theorem below_six {w0 w : World} (h : Below w0.heap.size w0 w) (a0 a1 a2 a3 a4 a5 : Value) :
    Below w0.heap.size w0 ((((((w.setCell ⟨w0.heap.size, 0, none⟩ a0).setCell ⟨w0.heap.size, 1, none⟩ a1).setCell ⟨w0.heap.size, 2, none⟩ a2).setCell ⟨w0.heap.size, 3, none⟩ a3).setCell ⟨w0.heap.size + 1, 0, none⟩ a4).setCell ⟨w0.heap.size + 1 + 1, 0, none⟩ a5) :=
  (((((h.setCell (p := ⟨w0.heap.size, 0, none⟩) (Nat.le_refl _) a0).setCell (p := ⟨w0.heap.size, 1, none⟩) (Nat.le_refl _) a1).setCell (p := ⟨w0.heap.size, 2, none⟩) (Nat.le_refl _) a2).setCell (p := ⟨w0.heap.size, 3, none⟩) (Nat.le_refl _) a3).setCell (p := ⟨w0.heap.size + 1, 0, none⟩) (by simp) a4).setCell (p := ⟨w0.heap.size + 1 + 1, 0, none⟩) (by simp; omega) a5
theorem ResAt.alloc {w : World} {R : Nat} {x0 x1 x2 x3 x4 x5 : Value} (h : ResAt w R x0 x1 x2 x3 x4 x5) (o : Obj) : ResAt (w.alloc o) R x0 x1 x2 x3 x4 x5 := ⟨h.1.alloc o, h.2.1.alloc o, h.2.2.alloc o⟩
theorem rdx_put6 {w : World} {R B : Nat} {x : Ex} {v : Value} (h : RdX w (fun b => B ≤ b) x v) (hB : R + 1 + 1 < B) (a0 a1 a2 a3 a4 a5 : Value) :
    RdX ((((((w.setCell ⟨R, 0, none⟩ a0).setCell ⟨R, 1, none⟩ a1).setCell ⟨R, 2, none⟩ a2).setCell ⟨R, 3, none⟩ a3).setCell ⟨R + 1, 0, none⟩ a4).setCell ⟨R + 1 + 1, 0, none⟩ a5) (fun b => R ≤ b) x v := by
  refine RdX.keep (fun b off u hp hu => ?_) x v h
  have n0 : b ≠ R := by omega
  have n1 : b ≠ R + 1 := by omega
  have n2 : b ≠ R + 1 + 1 := by omega
  exact ⟨by omega, far (p := ⟨R + 1 + 1, 0, none⟩) (far (p := ⟨R + 1, 0, none⟩) (far (p := ⟨R, 3, none⟩) (far (p := ⟨R, 2, none⟩) (far (p := ⟨R, 1, none⟩) (far (p := ⟨R, 0, none⟩) hu n0) n0) n0) n0) n1) n2⟩
theorem start4 (w : World) (a0 a1 a2 a3 a4 a5 b0 b1 b2 b3 b4 : Value) :
    let w' := (((w.alloc (.cells #[a0, a1, a2, a3] TE)).alloc (.cells #[a4] 3)).alloc (.cells #[a5] 23)).alloc (.cells #[b0, b1, b2, b3, b4] TP)
    Below w.heap.size w w' ∧ ResAt w' w.heap.size a0 a1 a2 a3 a4 a5 ∧ Bk w' (w.heap.size + 1 + 1 + 1) TP #[b0, b1, b2, b3, b4] := by
  refine ⟨((((Below.refl _ _).alloc (Nat.le_refl _) _).alloc (by simp) _).alloc (by simp; omega) _).alloc (by simp; omega) _, ⟨?_, ?_, ?_⟩, ?_⟩
  · exact (((Bk.new w TE #[a0, a1, a2, a3]).alloc (.cells #[a4] 3)).alloc (.cells #[a5] 23)).alloc (.cells #[b0, b1, b2, b3, b4] TP)
  · have := (((Bk.new (w.alloc (.cells #[a0, a1, a2, a3] TE)) 3 #[a4])).alloc (.cells #[a5] 23)).alloc (.cells #[b0, b1, b2, b3, b4] TP)
    simpa using this
  · have := ((Bk.new ((w.alloc (.cells #[a0, a1, a2, a3] TE)).alloc (.cells #[a4] 3)) 23 #[a5])).alloc (.cells #[b0, b1, b2, b3, b4] TP)
    simpa using this
  · have := Bk.new (((w.alloc (.cells #[a0, a1, a2, a3] TE)).alloc (.cells #[a4] 3)).alloc (.cells #[a5] 23)) TP #[b0, b1, b2, b3, b4]
    simpa using this
set_option maxRecDepth 100000 in
set_option maxHeartbeats 2000000 in
theorem parse_any (s : ByteArray) (w : World) (hL : Laid w) (hG : GBig w.heap.size) : Calls Tryz.prog 22 #[.string s] w (ParsePost s w) := by
  have hmf : ∀ (fn : Fn) (first cap : Array Value) (w : World), (Instr.makeFunc fn first cap).run Tryz.prog w = .ok (.func fn first cap) w := fun _ _ _ _ => rfl
  by_cases hb : 4096 < s.size
  · have hbd : (4096 : Int) < (s.size : Int) := by omega
    go_enter_defers Tryz.func22, Tryz.ntmps22
    go_wp2_with fail
    refine ⟨.tuple #[.agg #[.string ⟨#[]⟩, .int .i64 0, .string ⟨#[]⟩, .slice none 0 0], .int .i64 0, .int .i64 21], ?_, .error (0, 21), ParseOut.big (len_str s ▸ hb), ?_, rfl⟩
    · simp [results, Tryz.results22, go_sem]
    · exact grown_of_below ((((Below.refl _ _).alloc (Nat.le_refl _) _).alloc (by simp) _).alloc (by simp; omega) _)
  · have hbd : ¬ (4096 : Int) < (s.size : Int) := by omega
    go_enter_defers Tryz.func22, Tryz.ntmps22
    have HL := hid hL
    have HG := hid hG
    clear hL hG
    obtain ⟨hb4, hk4, hp4⟩ := start4 w (.string ⟨#[]⟩) (.int .i64 0) (.string ⟨#[]⟩) (.slice none 0 0) (.int .i64 0) (.int .i64 0) (.string s) (.int .i64 0) (.string ⟨#[]⟩) (.int .i64 0) (.string ⟨#[]⟩)
    have HB4 := hid hb4
    have HK4 := hid hk4
    have HP4 := hid (show PIn TP _ (w.heap.size + 1 + 1 + 1) s ⟨0, [], 0, 0⟩ from ⟨0, hp4, fun h => rfl⟩)
    have hs : s.size ≤ 100000 := by omega
    have HGB := hid (show GBig (w.heap.size + 1 + 1 + 1) by have := HG.out; unfold GBig at this ⊢; omega)
    clear hb4 hk4 hp4
    go_wp2_with fail
    ((with_reducible refine (next_any s (w.heap.size + 1 + 1 + 1) ⟨0, [], 0, 0⟩ _ (HL.out.below HB4.out) hs HGB.out HP4.out (Nat.zero_le _)).mono ?_); rintro e w5 ⟨hg5, hres⟩)
    have hb5 := below_new HB4.out hg5 (by omega)
    have hk5 := HK4.out.grown hg5 (by omega)
    cases hn : nextF s.data.toList ⟨0, [], 0, 0⟩ with
    | error y =>
      obtain ⟨a, er⟩ := y
      rw [hn] at hres
      dsimp only at hres
      subst hres
      refine leave_bad s w w5 _ a er ?_ _ _ _ _ _ _ hk5 hb5 (.bad (by rw [← len_str]; omega) hn)
      intro wz a0 a1 a2 a3 a4 a5 ⟨k0, k1, k2⟩
      obtain ⟨c0, c1, c2, c3⟩ := k0.cells4
      have d0 := k1.cell 0 a4 rfl
      have e0 := k2.cell 0 a5 rfl
      simp [results, Tryz.results22, go_sem, c0, c1, c2, c3, d0, e0]
    | ok t1 =>
      rw [hn] at hres
      obtain ⟨rfl, hp5⟩ := hres
      obtain ⟨hm1, hm2, hm3⟩ := next_le _ _ _ hn (Nat.zero_le _)
      rw [← len_str] at hm2
      have HL5 := hid (HL.out.below hb5)
      have HB5 := hid hb5
      have HK5 := hid hk5
      have HP5 := hid hp5
      obtain ⟨nm5, hq5, _⟩ := (show PIn TP _ _ s t1 from hp5)
      obtain ⟨c0, c1, c2, c3, c4⟩ := hq5.cells5
      obtain ⟨r0, r1, r2, r3⟩ := hk5.1.cells4
      obtain ⟨g0, g1, g2, g3⟩ := hk5.1.free4
      have u0 := hk5.2.1.cell 0 _ rfl
      have u1 := hk5.2.1.free 0
      have v0 := hk5.2.2.cell 0 _ rfl
      have v1 := hk5.2.2.free 0
      have hsz5 := hq5.lt
      have hs0 : w.heap.size < w5.heap.size := by omega
      have hs1 : w.heap.size + 1 < w5.heap.size := by omega
      have hs2 : w.heap.size + 1 + 1 < w5.heap.size := by omega
      have HS := hid hs
      clear hk5 hq5 hp5 hb5 hg5 HB4 HK4 HP4 hs
      by_cases ht : t1.text = []
      · have hte : (⟨t1.text.toArray⟩ : ByteArray) = ⟨#[]⟩ := by rw [ht]
        rw [hte] at c2
        go_wp2_with fail
        refine leave_good s w _ _ ?_ (.mk numO 0 [] .nil) (.string ⟨#[110, 117, 109]⟩) (.int .i64 0) (.string ⟨#[]⟩) (.slice none 0 0) ?_ ?_ (.none (by rw [← len_str]; omega) hn ht) (leaf_rd _ _ numO 0 [])
        · intro wz a0 a1 a2 a3 a4 a5 ⟨k0, k1, k2⟩
          obtain ⟨c0, c1, c2, c3⟩ := k0.cells4
          have d0 := k1.cell 0 a4 rfl
          have e0 := k2.cell 0 a5 rfl
          simp [results, Tryz.results22, go_sem, c0, c1, c2, c3, d0, e0]
        · exact HK5.out.put _ _ _ _ _ _
        · exact below_six HB5.out _ _ _ _ _ _
      · have hemp : t1.text.isEmpty = false := by cases h : t1.text with | nil => exact (ht h).elim | cons => rfl
        have HT := hid ht
        clear ht
        go_wp2_with fail
        ((with_reducible refine ((whole_any s (w.heap.size + 1 + 1 + 1) 0 t1 HS.out HGB.out (by decide) hm3 hm2).call _ 0 rfl HL5.out HP5.out).mono ?_); rintro e w6 ⟨r, hout, hg6, hres⟩)
        have hb6 := below_new HB5.out hg6 (by omega)
        have hk6 := HK5.out.grown hg6 (by omega)
        have hsz6 : w5.heap.size ≤ w6.heap.size := hg6.size
        cases r with
        | error x =>
          obtain ⟨a, er⟩ := x
          dsimp only at hres
          subst hres
          refine leave_bad s w w6 _ a er ?_ _ _ _ _ _ _ hk6 hb6 (.err (by rw [← len_str]; omega) hn HT.out hout)
          intro wz a0 a1 a2 a3 a4 a5 ⟨k0, k1, k2⟩
          obtain ⟨c0, c1, c2, c3⟩ := k0.cells4
          have d0 := k1.cell 0 a4 rfl
          have e0 := k2.cell 0 a5 rfl
          simp [results, Tryz.results22, go_sem, c0, c1, c2, c3, d0, e0]
        | ok q =>
          obtain ⟨x, t2⟩ := q
          obtain ⟨⟨v, rfl, hx⟩, hp6, hm4, hm5, hm6⟩ := hres
          obtain ⟨A, cap, rfl, hcap, hkids⟩ := hx.form
          clear c0 c1 c2 c3 c4 r0 r1 r2 r3 g0 g1 g2 g3 u0 u1 v0 v1
          have HOUT := hid hout
          have HK7 := hid (hk6.alloc (.cells #[.string ⟨x.op.toArray⟩, .int .i64 x.num, .string ⟨x.name.toArray⟩, .slice A x.kids.len cap] TE))
          have HB7 := hid (hb6.alloc hb6.size (.cells #[.string ⟨x.op.toArray⟩, .int .i64 x.num, .string ⟨x.name.toArray⟩, .slice A x.kids.len cap] TE))
          have kX := Bk.new w6 TE #[.string ⟨x.op.toArray⟩, .int .i64 x.num, .string ⟨x.name.toArray⟩, .slice A x.kids.len cap]
          have HX6 := hid hx
          have HSZ5 := hid hs2
          have HK6 := hid hk6
          have HB6 := hid hb6
          obtain ⟨nm7, hq7, _⟩ := (show PIn TP _ _ s t2 from hp6)
          obtain ⟨c0, c1, c2, c3, c4⟩ := hq7.cells5
          obtain ⟨y0, y1, y2, y3⟩ := kX.cells4
          have hk7 := hk6
          obtain ⟨r0, r1, r2, r3⟩ := hk7.1.cells4
          obtain ⟨g0, g1, g2, g3⟩ := hk7.1.free4
          have u0 := hk7.2.1.cell 0 _ rfl
          have u1 := hk7.2.1.free 0
          have v0 := hk7.2.2.cell 0 _ rfl
          have v1 := hk7.2.2.free 0
          have e0 : w.heap.size < w6.heap.size := by omega
          have e1 : w.heap.size + 1 < w6.heap.size := by omega
          have e2 : w.heap.size + 1 + 1 < w6.heap.size := by omega
          have e3 : w.heap.size + 1 + 1 + 1 < w6.heap.size := by omega
          have n0 : ¬ w.heap.size = w6.heap.size := by omega
          have n1 : ¬ w.heap.size + 1 = w6.heap.size := by omega
          have n2 : ¬ w.heap.size + 1 + 1 = w6.heap.size := by omega
          have n3 : ¬ w.heap.size + 1 + 1 + 1 = w6.heap.size := by omega
          clear hk7 kX hq7 hk6 hb6 hx hp6 hg6 hout hkids hs0 hs1 hs2 hsz5 hsz6
          by_cases ht2 : t2.text = []
          · have hte : (⟨t2.text.toArray⟩ : ByteArray) = ⟨#[]⟩ := by rw [ht2]
            rw [hte] at c2
            have HT2 := hid ht2
            clear ht2
            go_wp2_with fail
            refine leave_good s w _ _ ?_ x (.string ⟨x.op.toArray⟩) (.int .i64 x.num) (.string ⟨x.name.toArray⟩) (.slice A x.kids.len cap) ((HK6.out.put _ _ _ _ _ _).alloc _) ?_ (.good (by rw [← len_str]; omega) hn HT.out HOUT.out HT2.out) ((rdx_put6 HX6.out HSZ5.out _ _ _ _ _ _).alloc _)
            · intro wz a0 a1 a2 a3 a4 a5 ⟨k0, k1, k2⟩
              obtain ⟨c0, c1, c2, c3⟩ := k0.cells4
              have d0 := k1.cell 0 a4 rfl
              have e0 := k2.cell 0 a5 rfl
              simp [results, Tryz.results22, go_sem, c0, c1, c2, c3, d0, e0]
            · exact (below_six HB6.out _ _ _ _ _ _).alloc (by simp; omega) _
          · have hemp : t2.text.isEmpty = false := by cases h : t2.text with | nil => exact (ht2 h).elim | cons => rfl
            have HT2 := hid ht2
            clear ht2
            go_wp2_with fail
            ((with_reducible refine (fail_any (w.heap.size + 1 + 1 + 1) 31 _ t2.at_ (al c1)).mono ?_); rintro e w8 ⟨rfl, rfl⟩)
            refine leave_bad s w _ _ t2.at_ 31 ?_ _ _ _ _ _ _ HK7.out HB7.out (.left (by rw [← len_str]; omega) hn HT.out HOUT.out HT2.out)
            intro wz a0 a1 a2 a3 a4 a5 ⟨k0, k1, k2⟩
            obtain ⟨c0, c1, c2, c3⟩ := k0.cells4
            have d0 := k1.cell 0 a4 rfl
            have e0 := k2.cell 0 a5 rfl
            simp [results, Tryz.results22, go_sem, c0, c1, c2, c3, d0, e0]
end Go.Proofs.YtadmmmehphhecaaGreatDoor
