/- What the functions of gauss and nav do with numbers that are right: the walks. Each theorem says under which conditions. -/
import Derived.Test.YtmhnodbmcciifaaDoorDecode
namespace Go.Proofs.YtmhnodbmcciifaaDoor
open Go.RowKit Flt

/-- A float plus 0; the sum of two floats. -/
def addF (a b : Nat) : Nat := (Ieee.double.add a b).getD 0
def addZ (a : Nat) : Nat := addF a 0

theorem addF_is {a b : Nat} {x y : Int} (ha : Is a x) (hb : Is b y) (h : (x + y).natAbs < 9007199254740992) : Ieee.double.add a b = some (addF a b) ∧ Is (addF a b) (x + y) := by
  obtain ⟨r, hr, ir⟩ := add_is ha hb h
  unfold addF
  rw [hr]
  exact ⟨rfl, ir⟩

theorem addZ_is {a : Nat} {x : Int} (ha : Is a x) (h : x.natAbs < 9007199254740992) : Ieee.double.add a 0 = some (addZ a) ∧ Is (addZ a) x := by
  have := addF_is ha zero_is (by simpa using h)
  rw [Int.add_zero] at this
  exact this

theorem run_addZ {a : Nat} {x : Int} (ha : Is a x) (h : x.natAbs < 9007199254740992) (w : World) : (binOp .add 80 (.float .f64 a) (.float .f64 0)).run Tryd.prog w = .ok (.float .f64 (addZ a)) w :=
  run_float_arith (P := Tryd.prog) w .add 80 .f64 a 0 (addZ a) (addZ_is ha h).1

theorem gplain_is (x y : Nat) (a b : Int) (hx : Is x a) (hy : Is y b) (h1 : a.natAbs < 9007199254740992) (h2 : b.natAbs < 9007199254740992) (w : World) :
    Calls Tryd.prog 77 #[.complex .f64 x y] w fun e w' => e = .returned (.complex .f64 (addZ x) (addZ y)) ∧ w = w' := by
  have r1 := run_addZ hx h1
  have r2 := run_addZ hy h2
  clear hx hy
  go_enter Tryd.func77, Tryd.ntmps77
  go_wp2
  go_ret
  exact ⟨rfl, rfl⟩

theorem nplain_is (x y : Nat) (a b : Int) (hx : Is x a) (hy : Is y b) (h1 : a.natAbs < 9007199254740992) (h2 : b.natAbs < 9007199254740992) (w : World) :
    Calls Tryd.prog 57 #[.complex .f64 x y] w fun e w' => e = .returned (.complex .f64 (addZ x) (addZ y)) ∧ w = w' := by
  have r1 := run_addZ hx h1
  have r2 := run_addZ hy h2
  clear hx hy
  go_enter Tryd.func57, Tryd.ntmps57
  go_wp2
  go_ret
  exact ⟨rfl, rfl⟩

theorem told_ok (x y : Nat) (h : mayB x y = true) (w : World) : Calls Tryd.prog 65 #[.complex .f64 x y] w fun e w' => e = .returned (.tuple #[.complex .f64 (addZ x) (addZ y), .int .i64 0]) ∧ w = w' := by
  have h' := h
  unfold mayB at h'
  simp only [Bool.and_eq_true] at h'
  obtain ⟨a, hx, a1, a2⟩ := whole_is h'.1
  obtain ⟨b, hy, b1, b2⟩ := whole_is h'.2
  have HX := Lib.hid hx
  have HY := Lib.hid hy
  clear h' hx hy
  go_enter Tryd.func65, Tryd.ntmps65
  go_wp2_with fail
  refine (may_any x y HX.out.num HY.out.num _).mono ?_
  rintro e w' ⟨rfl, rfl⟩
  rw [h]
  go_wp2_with fail
  refine (gplain_is x y a b HX.out HY.out (by omega) (by omega) _).mono ?_
  rintro e w' ⟨rfl, rfl⟩
  go_wp2_with fail
  go_ret2
  exact ⟨rfl, rfl⟩

theorem told_no (x y : Nat) (hx : Num x) (hy : Num y) (h : mayB x y = false) (w : World) : Calls Tryd.prog 65 #[.complex .f64 x y] w fun e w' => e = .returned (.tuple #[.complex .f64 0 0, .int .i64 10]) ∧ w = w' := by
  go_enter Tryd.func65, Tryd.ntmps65
  go_wp2_with fail
  refine (may_any x y hx hy _).mono ?_
  rintro e w' ⟨rfl, rfl⟩
  rw [h]
  go_wp2_with fail
  go_ret2
  exact ⟨rfl, rfl⟩

/-- 'may' of two numbers that are right. -/
theorem may2 (g x1 y1 x2 y2 : Nat) (h1 : mayB x1 y1 = true) (h2 : mayB x2 y2 = true) (w : World) (c0 : w.cell? ⟨g, 0, none⟩ = some (.complex .f64 x1 y1)) (c1 : w.cell? ⟨g, 1, none⟩ = some (.complex .f64 x2 y2)) :
    Calls Tryd.prog 64 #[.slice (some ⟨g, 0, none⟩) 2 2] w fun e w' => e = .returned (.bool true) ∧ w = w' := by
  have k1 := h1
  have k2 := h2
  unfold mayB at k1 k2
  simp only [Bool.and_eq_true] at k1 k2
  obtain ⟨_, i1, _⟩ := whole_is k1.1
  obtain ⟨_, i2, _⟩ := whole_is k1.2
  obtain ⟨_, i3, _⟩ := whole_is k2.1
  obtain ⟨_, i4, _⟩ := whole_is k2.2
  have I1 := Lib.hid i1.num
  have I2 := Lib.hid i2.num
  have I3 := Lib.hid i3.num
  have I4 := Lib.hid i4.num
  have HM := Lib.hid (show mayB x1 y1 = true ∧ mayB x2 y2 = true from ⟨h1, h2⟩)
  clear k1 k2 i1 i2 i3 i4 h1 h2
  go_enter Tryd.func64, Tryd.ntmps64
  go_wp2_with fail
  go_loopg [7] 2 (fun q s7 wx => wx = w ∧ ((q = 2 ∧ s7 = .int .i64 0) ∨ (q = 1 ∧ s7 = .int .i64 1) ∨ (q = 0 ∧ s7 = .int .i64 2)))
  case atStart => exact ⟨rfl, .inl ⟨rfl, rfl⟩⟩
  case round =>
    obtain ⟨rfl, hs⟩ := hrel
    rcases hs with ⟨rfl, rfl⟩ | ⟨rfl, rfl⟩ | ⟨rfl, rfl⟩
    · go_wp2_with fail
      refine (may_any x1 y1 I1.out I2.out _).mono ?_
      rintro e w' ⟨rfl, rfl⟩
      rw [HM.out.1]
      go_wp2_with fail
      go_roundg 1
      case measure => omega
      case rel => exact ⟨rfl, .inr (.inl ⟨rfl, rfl⟩)⟩
    · go_wp2_with fail
      refine (may_any x2 y2 I3.out I4.out _).mono ?_
      rintro e w' ⟨rfl, rfl⟩
      rw [HM.out.2]
      go_wp2_with fail
      go_roundg 0
      case measure => omega
      case rel => exact ⟨rfl, .inr (.inr ⟨rfl, rfl⟩)⟩
    · go_wp2_with fail
      go_ret
      exact ⟨rfl, rfl⟩

/-- A number that is right, as its two whole parts. -/
theorem mayB_is {x y : Nat} (h : mayB x y = true) : ∃ a b : Int, Is x a ∧ Is y b ∧ -1048576 < a ∧ a < 1048576 ∧ -1048576 < b ∧ b < 1048576 := by
  unfold mayB at h
  simp only [Bool.and_eq_true] at h
  obtain ⟨a, hx, a1, a2⟩ := whole_is h.1
  obtain ⟨b, hy, b1, b2⟩ := whole_is h.2
  exact ⟨a, b, hx, hy, a1, a2, b1, b2⟩

theorem is_mayB {x y : Nat} {a b : Int} (hx : Is x a) (hy : Is y b) (a1 : -1048576 < a) (a2 : a < 1048576) (b1 : -1048576 < b) (b2 : b < 1048576) : mayB x y = true := by
  unfold mayB
  rw [is_whole hx a1 a2, is_whole hy b1 b2]; rfl

theorem mayB_addZ {x y : Nat} (h : mayB x y = true) : mayB (addZ x) (addZ y) = true := by
  obtain ⟨a, b, hx, hy, a1, a2, b1, b2⟩ := mayB_is h
  exact is_mayB (addZ_is hx (by omega)).2 (addZ_is hy (by omega)).2 a1 a2 b1 b2

/-- The sum of two numbers that are right, and whether it is right. -/
def sumB (x1 y1 x2 y2 : Nat) : Bool := mayB (addF x1 x2) (addF y1 y2)

theorem gadd_any (x1 y1 x2 y2 : Nat) (h1 : mayB x1 y1 = true) (h2 : mayB x2 y2 = true) (w : World) :
    Calls Tryd.prog 50 #[.complex .f64 x1 y1, .complex .f64 x2 y2] w fun e w' =>
      e = .returned (.tuple (if sumB x1 y1 x2 y2 then #[.complex .f64 (addZ (addF x1 x2)) (addZ (addF y1 y2)), .int .i64 0] else #[.complex .f64 0 0, .int .i64 10])) ∧ Below w.heap.size w w' := by
  obtain ⟨a, b, i1, i2, _⟩ := mayB_is h1
  obtain ⟨c, d, i3, i4, _⟩ := mayB_is h2
  have s1 := addF_is i1 i3 (by omega)
  have s2 := addF_is i2 i4 (by omega)
  have hs : ∀ w, (binOp .add 54 (.complex .f64 x1 y1) (.complex .f64 x2 y2)).run Tryd.prog w = .ok (.complex .f64 (addF x1 x2) (addF y1 y2)) w := fun w =>
    run_complex_sum (P := Tryd.prog) w .add (.inl rfl) 54 .f64 x1 y1 x2 y2 _ _ (by unfold cSumBits floatBits; simp only [FloatKind.format, s1.1, s2.1]; rfl)
  have S1 := Lib.hid s1.2.num
  have S2 := Lib.hid s2.2.num
  have H1 := Lib.hid h1
  have H2 := Lib.hid h2
  clear s1 s2 i1 i2 i3 i4 h1 h2
  cases hB : sumB x1 y1 x2 y2
  all_goals
    have HB := Lib.hid hB
    clear hB
    go_enter Tryd.func50, Tryd.ntmps50
    go_wp2_with fail
    refine (may2 _ x1 y1 x2 y2 H1.out H2.out _ (by simp) (by simp)).mono ?_
    rintro e w' ⟨rfl, rfl⟩
    go_wp2_with fail
  · refine (told_no _ _ S1.out S2.out HB.out _).mono ?_
    rintro e w' ⟨rfl, rfl⟩
    go_wp2_with fail
    go_ret2
    exact ⟨rfl, (Below.refl _ _).alloc (Nat.le_refl _) _⟩
  · refine (told_ok _ _ HB.out _).mono ?_
    rintro e w' ⟨rfl, rfl⟩
    go_wp2_with fail
    go_ret2
    exact ⟨rfl, (Below.refl _ _).alloc (Nat.le_refl _) _⟩

end Go.Proofs.YtmhnodbmcciifaaDoor
