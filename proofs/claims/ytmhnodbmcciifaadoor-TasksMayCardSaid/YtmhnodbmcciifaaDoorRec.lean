/- Records: the walks of nav's Encode and Decode, of tasks' word and number. Each theorem says under which conditions. -/
import Derived.Test.YtmhnodbmcciifaaDoorBlend
namespace Go.Proofs.YtmhnodbmcciifaaDoor
open Go.RowKit Flt

/-- A words slice, told. -/
def GotWords (w : World) (n : Nat) (e : Ending) (w' : World) : Prop := ∃ q, e = .returned (.slice (some ⟨q, 0, none⟩) n n) ∧ Below w.heap.size w w'

theorem below_alloc2 (w : World) (o p : Obj) : Below w.heap.size w ((w.alloc o).alloc p) := ((Below.refl _ _).alloc (Nat.le_refl _) _).alloc (by simp) _

theorem one_all {P : Nat → Prop} (h : P 0) : ∀ i, i < 1 → P i := fun i hi => by
  obtain rfl : i = 0 := by omega
  exact h
theorem three_all {P : Nat → Prop} (h0 : P 0) (h1 : P 1) (h2 : P 2) : ∀ i, i < 3 → P i := fun i hi => by
  rcases (show i = 0 ∨ i = 1 ∨ i = 2 from by omega) with rfl | rfl | rfl
  · exact h0
  · exact h1
  · exact h2

/-- The block of a second make. -/
theorem own_second (w : World) (o : Obj) (t : TypeId) (cs : Array Value) : Own ((w.alloc o).alloc (.cells cs t)) (w.heap.size + 1) t cs := by
  have := Own.new (w.alloc o) t cs
  simpa using this

theorem word_ok (x y : Nat) (h : mayB x y = true) (w : World) : Calls Tryd.prog 40 #[.complex .f64 x y] w (GotWords w 1) := by
  obtain ⟨a, b, ha, hb, a1, a2, b1, b2⟩ := mayB_is h
  have r1 := run_addZ ha (by omega)
  have r2 := run_addZ hb (by omega)
  have C := Lib.hid (fun (W : World) (g k : Nat) (o1 : Own W g 124 #[.int .i64 3, .int .i64 64]) (o2 : Own W k 110 #[.int .i64 0, .complex .f64 (addZ x) (addZ y)]) =>
    encode_any g k 1 (by omega) (by omega) (fun _ => addZ x) (fun _ => addZ y) (fun _ => a) (fun _ => b) W o1.lt o2.lt (one_all (o1.cell 0)) (one_all (o1.cell 1)) (one_all (o2.cell 0)) (one_all (o2.cell 1))
    (fun _ _ => ⟨(addZ_is ha (by omega)).2, a1, a2⟩) (fun _ _ => ⟨(addZ_is hb (by omega)).2, b1, b2⟩))
  clear h ha hb a1 a2 b1 b2
  go_enter Tryd.func40, Tryd.ntmps40
  go_wp2_with fail
  refine (tform_any _).mono ?_
  rintro e w1 ⟨rfl, rfl⟩
  go_wp2_with fail
  refine (C.out _ w.heap.size (w.heap.size + 1) ((Own.new _ _ _).alloc _) (own_second _ _ _ _)).mono ?_
  rintro e w2 ⟨q, rfl, hb⟩
  have HB := Lib.hid ((below_alloc2 w _ _).call (by simp; omega) hb)
  clear hb
  go_wp2_with fail
  go_ret
  exact ⟨q, rfl, HB.out⟩

/-- A slice of words that can be read, as far as it can have the length of a record. -/
def Words (w : World) (v : Value) : Prop :=
  ∃ (A : Option Addr) (m c : Nat), v = .slice A m c ∧ (m = 1 ∨ m = 3 → ∃ (b off : Nat) (ws : Nat → Int), A = some ⟨b, off, none⟩ ∧ b < w.heap.size ∧ (∀ i, i < m → w.cell? ⟨b, off + i, none⟩ = some (.int .u64 (ws i))) ∧ (∀ i, i < m → 0 ≤ ws i ∧ ws i < 18446744073709551616))

/-- The two parts of a word, as floats. -/
theorem wordC_is (v : Int) : Is (floatOfInt .f64 (lowOf v)) (lowOf v) ∧ Is (floatOfInt .f64 (highOf v)) (highOf v) := by
  have h1 := lowOf_range v
  have h2 := highOf_range v
  exact ⟨write_int _ (by omega), write_int _ (by omega)⟩

/-- A number, and whether it is one. -/
def MayNum (w : World) (e : Ending) (w' : World) : Prop :=
  ∃ (x y : Nat) (b : Bool), e = .returned (.tuple #[.complex .f64 x y, .bool b]) ∧ (b = true → mayB x y = true) ∧ Below w.heap.size w w'

theorem number_one (b off c : Nat) (x : Int) (w : World) (hb : b < w.heap.size) (hw : w.cell? ⟨b, off, none⟩ = some (.int .u64 x)) (hr : 0 ≤ x ∧ x < 18446744073709551616) :
    Calls Tryd.prog 35 #[.slice (some ⟨b, off, none⟩) 1 c] w (MayNum w) := by
  have hcell := (bcell ((Below.refl w.heap.size w).alloc (Nat.le_refl _) (.cells #[.int .i64 3, .int .i64 64] 124))).1 b off hb
  have C := Lib.hid (fun (W : World) (g : Nat) (o1 : Own W g 124 #[.int .i64 3, .int .i64 64]) (hbW : b < W.heap.size) (hwW : W.cell? ⟨b, off, none⟩ = some (.int .u64 x)) =>
    decode_any g 1 b off c (by omega) (by omega) (fun _ => x) W o1.lt hbW (one_all (o1.cell 0)) (one_all (o1.cell 1)) (one_all hwW) (one_all hr))
  rw [hw] at hcell
  have HC := Lib.hid hcell
  have HB := Lib.hid hb
  have HI := Lib.hid (wordC_is x)
  clear hr hw hcell hb
  go_enter Tryd.func35, Tryd.ntmps35
  go_wp2_with fail
  refine (tform_any _).mono ?_
  rintro e w1 ⟨rfl, rfl⟩
  go_wp2_with fail
  refine (C.out _ w.heap.size (Own.new _ _ _) (by have := HB.out; simp; omega) HC.out).mono ?_
  rintro e w2 ⟨q, rfl, hq, hq1, hq2, hb2⟩
  have hq0 := hq 0 (by omega)
  have HB2 := Lib.hid (((Below.refl w.heap.size w).alloc (Nat.le_refl _) (.cells #[.int .i64 3, .int .i64 64] 124)).call (by simp) hb2)
  simp only [Nat.zero_mul, Nat.zero_add, wordC] at hq0
  clear hq hb2
  go_wp2_with fail
  refine (may_any _ _ HI.out.1.num HI.out.2.num _).mono ?_
  rintro e w3 ⟨rfl, rfl⟩
  cases hM : mayB (floatOfInt .f64 (lowOf x)) (floatOfInt .f64 (highOf x))
  all_goals
    have HM := Lib.hid hM
    clear hM
    go_wp2_with fail
    go_ret2
  · exact ⟨_, _, _, rfl, (by intro h; cases h), HB2.out⟩
  · exact ⟨_, _, _, rfl, fun _ => HM.out, HB2.out⟩

theorem number_no (A : Option Addr) (m c : Nat) (hm : m ≠ 1) (w : World) : Calls Tryd.prog 35 #[.slice A m c] w (MayNum w) := by
  have C := Lib.hid (fun (W : World) (g : Nat) (o1 : Own W g 124 #[.int .i64 3, .int .i64 64]) => decode_len g 1 m c A (by omega) (by omega) hm W o1.lt (one_all (o1.cell 0)) (one_all (o1.cell 1)))
  clear hm
  go_enter Tryd.func35, Tryd.ntmps35
  go_wp2_with fail
  refine (tform_any _).mono ?_
  rintro e w1 ⟨rfl, rfl⟩
  go_wp2_with fail
  refine (C.out _ w.heap.size (Own.new _ _ _)).mono ?_
  rintro e w2 ⟨rfl, hb2⟩
  have HB2 := Lib.hid (((Below.refl w.heap.size w).alloc (Nat.le_refl _) (.cells #[.int .i64 3, .int .i64 64] 124)).call (by simp) hb2)
  clear hb2
  go_wp2_with fail
  go_ret2
  exact ⟨_, _, _, rfl, (by intro h; cases h), HB2.out⟩

theorem number_any (v : Value) (w : World) (h : Words w v) : Calls Tryd.prog 35 #[v] w (MayNum w) := by
  obtain ⟨A, m, c, rfl, h⟩ := h
  by_cases hm : m = 1
  · subst hm
    obtain ⟨b, off, ws, rfl, hb, hw, hr⟩ := h (.inl rfl)
    exact number_one b off c (ws 0) w hb (hw 0 (by omega)) (hr 0 (by omega))
  · exact number_no A m c hm w

theorem decode_no (A : Option Addr) (m c : Nat) (hm : m ≠ 3) (w : World) : Calls Tryd.prog 43 #[.slice A m c] w (MayPose w) := by
  have hn : ((m : Int) = 3) = False := by simp; omega
  go_enter Tryd.func43, Tryd.ntmps43
  go_wp2_with fail
  exact bodyPost_ret (v := .tuple #[.agg #[.complex .f64 0 0, .complex .f64 0 0, .complex .f64 0 0], .int .i64 17]) (by simp [results, Tryd.results43, go_sem]) rfl ⟨_, _, _, _, _, _, _, rfl, (by intro h; cases h), (Below.refl _ _).alloc (Nat.le_refl _) _⟩

/-- The values that Decode has told, beside the result's own block. -/
def DecS (w : World) (q : Nat) (u0 u1 u2 : Value) (w' : World) : Prop :=
  w'.cell? ⟨q, 1, none⟩ = some u0 ∧ w'.cell? ⟨q, 3, none⟩ = some u1 ∧ w'.cell? ⟨q, 5, none⟩ = some u2 ∧
  q < w'.heap.size ∧ Own w' w.heap.size 68 #[.complex .f64 0 0, .complex .f64 0 0, .complex .f64 0 0] ∧ Below w.heap.size w w'

theorem DecS.drew {w w' : World} {q : Nat} {u0 u1 u2 : Value} (h : DecS w q u0 u1 u2 w') : DecS w q u0 u1 u2 w'.drew :=
  ⟨h.1, h.2.1, h.2.2.1, h.2.2.2.1, h.2.2.2.2.1.drew, h.2.2.2.2.2.drew⟩

theorem DecS.alloc {w w' : World} {q : Nat} {u0 u1 u2 : Value} (h : DecS w q u0 u1 u2 w') (o : Obj) : DecS w q u0 u1 u2 (w'.alloc o) := by
  obtain ⟨h0, h1, h2, hq, ho, hb⟩ := h
  have hc := (bcell ((Below.refl w'.heap.size w').alloc (Nat.le_refl _) o)).1
  exact ⟨(hc q 1 hq).trans h0, (hc q 3 hq).trans h1, (hc q 5 hq).trans h2, by simp; omega, ho.alloc o, hb.alloc hb.size o⟩

theorem decode_three (b off c : Nat) (ws : Nat → Int) (w : World) (hb : b < w.heap.size) (hw : ∀ i, i < 3 → w.cell? ⟨b, off + i, none⟩ = some (.int .u64 (ws i))) (hr : ∀ i, i < 3 → 0 ≤ ws i ∧ ws i < 18446744073709551616) :
    Calls Tryd.prog 43 #[.slice (some ⟨b, off, none⟩) 3 c] w (MayPose w) := by
  have C := Lib.hid (fun (W : World) (hB : Below w.heap.size w W) (g : Nat) (o1 : Own W g 124 #[.int .i64 3, .int .i64 64, .int .i64 3, .int .i64 64, .int .i64 3, .int .i64 64]) =>
    decode_any g 3 b off c (by omega) (by omega) ws W o1.lt (by have := hB.size; omega) (three_all (o1.cell 0) (o1.cell 2) (o1.cell 4)) (three_all (o1.cell 1) (o1.cell 3) (o1.cell 5)) (fun i hi => (hB.cell (p := ⟨b, off + i, none⟩) hb).trans (hw i hi)) hr)
  clear hw hr hb
  go_enter Tryd.func43, Tryd.ntmps43
  go_wp2_with fail
  refine (nform_any _).mono ?_
  rintro e w1 ⟨g, rfl, ho, hg, hb1⟩
  have B1 := Lib.hid (((Below.refl w.heap.size w).alloc (Nat.le_refl _) (.cells #[.complex .f64 0 0, .complex .f64 0 0, .complex .f64 0 0] 68)).call (by simp) hb1)
  have O1 := Lib.hid ((Own.new w 68 #[.complex .f64 0 0, .complex .f64 0 0, .complex .f64 0 0]).call hb1)
  have OG := Lib.hid ho
  clear ho hb1
  go_wp2_with fail
  refine (C.out _ B1.out g OG.out).mono ?_
  rintro e w2 ⟨q, rfl, hq, hq1, hq2, hb2⟩
  have B2 := Lib.hid (B1.out.call B1.out.size hb2)
  have O2 := Lib.hid (O1.out.call hb2)
  have h0 := hq 0 (by omega)
  have h1 := hq 1 (by omega)
  have h2 := hq 2 (by omega)
  simp only [Nat.zero_mul, Nat.zero_add, Nat.one_mul, wordC, Nat.reduceMul, Nat.reduceAdd] at h0 h1 h2
  obtain ⟨k0, k1, k2, f0, f1, f2⟩ := O2.out.c3
  have hz : w.heap.size < w2.heap.size := O2.out.lt
  clear hq hb2
  go_wp2_with fail
  have HS := Lib.hid (show DecS w q _ _ _ w2 from ⟨h0, h1, h2, hq2, O2.out, B2.out⟩)
  have HI := Lib.hid (And.intro (wordC_is (ws 0)) (And.intro (wordC_is (ws 1)) (wordC_is (ws 2))))
  clear h0 h1 h2 k0 k1 k2 f0 f1 f2
  generalize hX0 : floatOfInt .f64 (lowOf (ws 0)) = X0 at *
  generalize hY0 : floatOfInt .f64 (highOf (ws 0)) = Y0 at *
  generalize hX1 : floatOfInt .f64 (lowOf (ws 1)) = X1 at *
  generalize hY1 : floatOfInt .f64 (highOf (ws 1)) = Y1 at *
  generalize hX2 : floatOfInt .f64 (lowOf (ws 2)) = X2 at *
  generalize hY2 : floatOfInt .f64 (highOf (ws 2)) = Y2 at *
  clear hX0 hY0 hX1 hY1 hX2 hY2
  go_region_held3 (fun w' => w'.cell? ⟨q, 1, none⟩ = some (.complex .f64 X0 Y0) ∧ w'.cell? ⟨q, 3, none⟩ = some (.complex .f64 X1 Y1) ∧ w'.cell? ⟨q, 5, none⟩ = some (.complex .f64 X2 Y2) ∧
      q < w'.heap.size ∧ Own w' w.heap.size 68 #[.complex .f64 0 0, .complex .f64 0 0, .complex .f64 0 0] ∧ Below w.heap.size w w')
    (first | assumption | exact HS.out.drew | exact HS.out.drew.alloc _)
    (fail)
  go_wp2_with fail
  refine (check_any X0 Y0 X1 Y1 X2 Y2 ⟨HI.out.1.1.num, HI.out.1.2.num⟩ ⟨HI.out.2.1.1.num, HI.out.2.1.2.num⟩ _).mono ?_
  rintro e w3 ⟨rfl, hb3⟩
  have HS3 := Lib.hid (HS.out.alloc (.cells #[.complex .f64 X0 Y0, .complex .f64 X1 Y1, .complex .f64 X2 Y2] 68)).drew
  have OT := Lib.hid ((Own.new w2 68 #[.complex .f64 X0 Y0, .complex .f64 X1 Y1, .complex .f64 X2 Y2]).drew.call hb3)
  have O3 := Lib.hid (HS3.out.2.2.2.2.1.call hb3)
  have B3 := Lib.hid (HS3.out.2.2.2.2.2.call (by have := HS3.out.2.2.2.2.2.size; omega) hb3)
  obtain ⟨k0, k1, k2, f0, f1, f2⟩ := O3.out.c3
  obtain ⟨l0, l1, l2, _, _, _⟩ := OT.out.c3
  have hne : w.heap.size ≠ w2.heap.size := by omega
  clear hb3
  have F := fun (a b c : Value) => (show Own (((w3.setCell ⟨w.heap.size, 0, none⟩ a).setCell ⟨w.heap.size, 1, none⟩ b).setCell ⟨w.heap.size, 2, none⟩ c) w.heap.size 68 #[a, b, c] from O3.out.has.three a b c)
  have FB := fun (a b c : Value) => (show Below w.heap.size w (((w3.setCell ⟨w.heap.size, 0, none⟩ a).setCell ⟨w.heap.size, 1, none⟩ b).setCell ⟨w.heap.size, 2, none⟩ c) from ((B3.out.setCell (Nat.le_refl _) _).setCell (Nat.le_refl _) _).setCell (Nat.le_refl _) _)
  have HF := Lib.hid F
  have HFB := Lib.hid FB
  clear F FB
  by_cases hE : checkE X0 Y0 X1 Y1 X2 Y2 = 0
  · rw [hE]
    have HE := Lib.hid (checkE_zero HI.out.2.2.1 HI.out.2.2.2 hE)
    clear hE
    go_wp2_with fail
    obtain ⟨d0, d1, d2, _⟩ := (HF.out (.complex .f64 X0 Y0) (.complex .f64 X1 Y1) (.complex .f64 X2 Y2)).c3
    exact bodyPost_ret (v := .tuple #[.agg #[.complex .f64 X0 Y0, .complex .f64 X1 Y1, .complex .f64 X2 Y2], .int .i64 0]) (by simp [results, Tryd.results43, go_sem, d0, d1, d2]) rfl
      ⟨_, _, _, _, _, _, _, rfl, fun _ => HE.out, HFB.out _ _ _⟩
  · generalize checkE X0 Y0 X1 Y1 X2 Y2 = E at *
    go_wp2_with fail
    obtain ⟨d0, d1, d2, _⟩ := (HF.out (.complex .f64 0 0) (.complex .f64 0 0) (.complex .f64 0 0)).c3
    exact bodyPost_ret (v := .tuple #[.agg #[.complex .f64 0 0, .complex .f64 0 0, .complex .f64 0 0], .int .i64 11]) (by simp [results, Tryd.results43, go_sem, d0, d1, d2]) rfl
      ⟨_, _, _, _, _, _, _, rfl, (by intro h; cases h), HFB.out _ _ _⟩

theorem ndecode_any (v : Value) (w : World) (h : Words w v) : Calls Tryd.prog 43 #[v] w (MayPose w) := by
  obtain ⟨A, m, c, rfl, h⟩ := h
  by_cases hm : m = 3
  · subst hm
    obtain ⟨b, off, ws, rfl, hb, hw, hr⟩ := h (.inr rfl)
    exact decode_three b off c ws w hb hw hr
  · exact decode_no A m c hm w

/-- Encode's box, and what its calls leave. -/
def EncS (w : World) (u v x : Value) (w' : World) : Prop :=
  w'.cell? ⟨w.heap.size, 0, none⟩ = some u ∧ w'.cell? ⟨w.heap.size, 1, none⟩ = some v ∧ w'.cell? ⟨w.heap.size, 2, none⟩ = some x ∧ Own w' w.heap.size 68 #[u, v, x] ∧ Below w.heap.size w w'

theorem EncS.of {w w' : World} {u v x : Value} (h : Own w' w.heap.size 68 #[u, v, x]) (hb : Below w.heap.size w w') : EncS w u v x w' := ⟨h.cell 0, h.cell 1, h.cell 2, h, hb⟩
theorem EncS.drew {w w' : World} {u v x : Value} (h : EncS w u v x w') : EncS w u v x w'.drew := .of h.2.2.2.1.drew h.2.2.2.2.drew
theorem EncS.alloc {w w' : World} {u v x : Value} (h : EncS w u v x w') (o : Obj) : EncS w u v x (w'.alloc o) := .of (h.2.2.2.1.alloc o) (h.2.2.2.2.alloc h.2.2.2.2.size o)
theorem EncS.call {w w1 w2 : World} {u v x : Value} (h : EncS w u v x w1) (hb : Below w1.heap.size w1 w2) : EncS w u v x w2 := .of (h.2.2.2.1.call hb) (h.2.2.2.2.call h.2.2.2.2.size hb)

def six : Array Value := #[.int .i64 3, .int .i64 64, .int .i64 3, .int .i64 64, .int .i64 3, .int .i64 64]

theorem encode_three (x0 y0 x1 y1 x2 y2 : Nat) (h0 : mayB x0 y0 = true) (h1 : mayB x1 y1 = true) (h2 : mayB x2 y2 = true) (g k : Nat) (W : World) (o1 : Own W g 124 #[.int .i64 3, .int .i64 64, .int .i64 3, .int .i64 64, .int .i64 3, .int .i64 64])
    (o2 : Own W k 110 #[.int .i64 0, .complex .f64 x0 y0, .int .i64 0, .complex .f64 x1 y1, .int .i64 0, .complex .f64 x2 y2]) :
    Calls Tryd.prog 55 #[.slice (some ⟨g, 0, none⟩) 3 3, .slice (some ⟨k, 0, none⟩) 3 3] W (Encoded W 3) := by
  obtain ⟨a0, b0, ia0, ib0, p0⟩ := mayB_is h0
  obtain ⟨a1, b1, ia1, ib1, p1⟩ := mayB_is h1
  obtain ⟨a2, b2, ia2, ib2, p2⟩ := mayB_is h2
  exact encode_any g k 3 (by omega) (by omega) (fun i => [x0, x1, x2].getD i 0) (fun i => [y0, y1, y2].getD i 0) (fun i => [a0, a1, a2].getD i 0) (fun i => [b0, b1, b2].getD i 0) W o1.lt o2.lt
    (three_all (o1.cell 0) (o1.cell 2) (o1.cell 4)) (three_all (o1.cell 1) (o1.cell 3) (o1.cell 5)) (three_all (o2.cell 0) (o2.cell 2) (o2.cell 4)) (three_all (o2.cell 1) (o2.cell 3) (o2.cell 5))
    (three_all ⟨ia0, p0.1, p0.2.1⟩ ⟨ia1, p1.1, p1.2.1⟩ ⟨ia2, p2.1, p2.2.1⟩) (three_all ⟨ib0, p0.2.2.1, p0.2.2.2⟩ ⟨ib1, p1.2.2.1, p1.2.2.2⟩ ⟨ib2, p2.2.2.1, p2.2.2.2⟩)

theorem NoseOK.may {x y : Nat} (h : NoseOK x y) : mayB x y = true := by
  obtain ⟨n, m, hn, hm, h⟩ := h
  exact is_mayB hn hm (by omega) (by omega) (by omega) (by omega)

end Go.Proofs.YtmhnodbmcciifaaDoor
