/- How a complex number with whole parts goes into a word and comes out of one: the walks of codec's half, halves, point, put and get. Each theorem says under which conditions. -/
import Derived.Test.YtmhnodbmcciifaaDoorNum
import Derived.Test.YtmhnodbmcciifaaDoorBits
namespace Go.Proofs.YtmhnodbmcciifaaDoor
open Go.RowKit Flt

theorem c31lo_is : Is 13970166044103278592 (-2147483648) := ⟨true, 4503599627370496, 21, by decide +kernel, by decide +kernel⟩
theorem c31hi_is : Is 4746794007248502784 2147483648 := ⟨false, 4503599627370496, 21, by decide +kernel, by decide +kernel⟩

theorem conv_int {b : Nat} {n : Int} (h : Is b n) (h0 : -9223372036854775808 ≤ n) (h1 : n ≤ 9223372036854775807) : floatToIntVal .f64 b .i64 = some n := by
  unfold floatToIntVal
  have e : (FloatKind.f64.decode b).toInt .zero = some n := toInt_is h
  rw [e]
  have : IntKind.i64.min ≤ n ∧ n ≤ IntKind.i64.max := ⟨h0, h1⟩
  show (if IntKind.i64.min ≤ n ∧ n ≤ IntKind.i64.max then some n else none) = some n
  rw [if_pos this]

theorem half_is (b : Nat) (n : Int) (h : Is b n) (h0 : -1048576 < n) (h1 : n < 1048576) (w : World) :
    Calls Tryd.prog 82 #[.float .f64 b] w fun e w' => e = .returned (.tuple #[.int .i64 n, .bool true]) ∧ w = w' := by
  have hlo : FloatKind.f64.format.order b 13970166044103278592 = some .gt := by
    have := order_is h c31lo_is
    rw [Int.compare_eq_gt.2 (by omega)] at this
    exact this
  have hhi : FloatKind.f64.format.order b 4746794007248502784 = some .lt := by
    have := order_is h c31hi_is
    rw [Int.compare_eq_lt.2 (by omega)] at this
    exact this
  have hc : ∀ w, (convert 80 2 (.float .f64 b)).run Tryd.prog w = .ok (.int .i64 n) w := fun w => run_convert_float_int w 80 2 .f64 .i64 b n (by rw [Tryd.underlying80]; rfl) Tryd.underlying2 (conv_int h (by omega) (by omega))
  have heq : FloatKind.f64.format.order b (floatOfInt .f64 n) = some .eq := by
    have := order_is h (write_int n (by omega))
    rw [Int.compare_eq_eq.2 rfl] at this
    exact this
  go_enter Tryd.func82, Tryd.ntmps82
  go_wp2
  go_ret2
  exact ⟨rfl, rfl⟩

theorem halves_any (w : World) :
    Calls Tryd.prog 73 #[] w fun e w' => e = .returned (.tuple #[.agg #[.int .i64 0, .int .i64 32], .agg #[.int .i64 32, .int .i64 32]]) ∧ Below w.heap.size w w' := by
  go_enter Tryd.func73, Tryd.ntmps73
  go_wp2
  refine bodyPost_ret (v := .tuple #[.agg #[.int .i64 0, .int .i64 32], .agg #[.int .i64 32, .int .i64 32]]) (by simp [results, Tryd.results73, go_sem]) rfl ⟨rfl, ?_⟩
  exact ((Below.refl _ _).alloc (Nat.le_refl _) _).alloc (by simp) _

/-- The word of a complex number. -/
def pointW (a b : Int) : Int := highHalf (lowHalf (IntKind.u64.wrap a)) (IntKind.u64.wrap b)

set_option maxHeartbeats 800000 in
theorem point_is (x y : Nat) (a b : Int) (hx : Is x a) (hy : Is y b) (a0 : -1048576 < a) (a1 : a < 1048576) (b0 : -1048576 < b) (b1 : b < 1048576) (w : World) :
    Calls Tryd.prog 78 #[.agg #[.int .i64 0, .complex .f64 x y]] w fun e w' => e = .returned (.tuple #[.int .u64 (pointW a b), .int .i64 0]) ∧ Below w.heap.size w w' := by
  have HX := Lib.hid hx
  have HY := Lib.hid hy
  clear hx hy
  go_enter Tryd.func78, Tryd.ntmps78
  go_wp2_with fail
  refine (half_is x a HX.out a0 a1 _).mono ?_
  rintro e w1 ⟨rfl, rfl⟩
  go_wp2_with fail
  refine (half_is y b HY.out b0 b1 _).mono ?_
  rintro e w1 ⟨rfl, rfl⟩
  go_wp2_with fail
  refine (halves_any _).mono ?_
  rintro e w1 ⟨rfl, hb1⟩
  have hz1 : w.heap.size < w1.heap.size := by have := hb1.size; simp at this; omega
  go_wp2_with fail
  refine (putSigned0 a (by omega) (by omega) _).mono ?_
  rintro e w2 ⟨rfl, hb2⟩
  obtain ⟨hc2, hf2⟩ := bcell hb2
  have hz2 : w1.heap.size + 1 < w2.heap.size := by have := hb2.size; simp at this; omega
  have hr := low_back a (by omega) (by omega)
  have r1 := hr.2.1
  have r2 := hr.2.2
  clear hr
  go_wp2_with fail
  refine (putSigned32 _ b r1 r2 (by omega) (by omega) _).mono ?_
  rintro e w3 ⟨rfl, hb3⟩
  go_wp2_with fail
  go_ret2
  refine ⟨rfl, ?_⟩
  have k1 : Below w.heap.size w w1 := ((Below.refl _ _).alloc (Nat.le_refl _) _).trans (hb1.mono (by simp))
  have k2 : Below w.heap.size w w2 := ((k1.alloc (by omega) _).alloc (by simp; omega) _).trans (hb2.mono (by simp; omega))
  exact k2.trans (hb3.mono (by omega))

set_option maxHeartbeats 800000 in
theorem put_point (u : Value) (bit : Int) (x y : Nat) (a b : Int) (hx : Is x a) (hy : Is y b) (a0 : -1048576 < a) (a1 : a < 1048576) (b0 : -1048576 < b) (b1 : b < 1048576) (w : World) :
    Calls Tryd.prog 66 #[.agg #[.int .i64 3, .int .i64 64], u, .int .i64 bit, .agg #[.int .i64 0, .complex .f64 x y]] w fun e w' => e = .returned (.tuple #[.int .u64 (pointW a b), .int .i64 0]) ∧ Below w.heap.size w w' := by
  go_enter Tryd.func66, Tryd.ntmps66
  go_wp2_with fail
  refine (point_is x y a b hx hy a0 a1 b0 b1 _).mono ?_
  rintro e w1 ⟨rfl, hb1⟩
  go_wp2_with fail
  go_ret2
  exact ⟨rfl, ((((Below.refl _ _).alloc (Nat.le_refl _) _).alloc (by simp) _).alloc (by simp; omega) _).trans (hb1.mono (by simp; omega))⟩

/-- The two halves' boxes and the result's place, as they were laid. -/
def GetS (w : World) (H : Nat) (w' : World) : Prop :=
  w'.cell? ⟨H, 0, none⟩ = some (.int .i64 0) ∧ w'.cell? ⟨H, 1, none⟩ = some (.int .i64 32) ∧ w'.cell? ⟨H + 1, 0, none⟩ = some (.int .i64 32) ∧ w'.cell? ⟨H + 1, 1, none⟩ = some (.int .i64 32) ∧ w'.cell? ⟨w.heap.size + 1, 0, none⟩ = some (val w' ⟨w.heap.size + 1, 0, none⟩) ∧ w'.cell? ⟨w.heap.size + 1, 1, none⟩ = some (val w' ⟨w.heap.size + 1, 1, none⟩) ∧ w'.frozen? ⟨w.heap.size + 1, 0, none⟩ = false ∧ w'.frozen? ⟨w.heap.size + 1, 1, none⟩ = false ∧ Own w' H 128 #[.int .i64 0, .int .i64 32] ∧ Own w' (H + 1) 128 #[.int .i64 32, .int .i64 32] ∧ Has w' (w.heap.size + 1) 110 2 ∧ w.heap.size + 1 < H ∧ Below w.heap.size w w'

theorem GetS.of {w w' : World} {H : Nat} (h1 : Own w' H 128 #[.int .i64 0, .int .i64 32]) (h2 : Own w' (H + 1) 128 #[.int .i64 32, .int .i64 32]) (h3 : Has w' (w.heap.size + 1) 110 2) (hH : w.heap.size + 1 < H) (hb : Below w.heap.size w w') : GetS w H w' :=
  ⟨h1.cell 0, h1.cell 1, h2.cell 0, h2.cell 1, h3.cell (by omega), h3.cell (by omega), h3.free 0, h3.free 1, h1, h2, h3, hH, hb⟩

theorem GetS.drew {w w' : World} {H : Nat} (h : GetS w H w') : GetS w H w'.drew := by
  obtain ⟨_, _, _, _, _, _, _, _, h1, h2, h3, hH, hb⟩ := h
  exact GetS.of h1.drew h2.drew h3.drew hH hb.drew

theorem GetS.call {w w1 w2 : World} {H : Nat} (h : GetS w H w1) (hb : Below w1.heap.size w1 w2) : GetS w H w2 := by
  obtain ⟨_, _, _, _, _, _, _, _, h1, h2, h3, hH, hb0⟩ := h
  exact GetS.of (h1.call hb) (h2.call hb) (h3.call hb) hH (hb0.call (by have := h3.lt; omega) hb)

theorem GetS.store {w w1 : World} {H : Nat} (h : GetS w H w1) (u v : Value) : GetS w H ((w1.setCell ⟨w.heap.size + 1, 0, none⟩ u).setCell ⟨w.heap.size + 1, 1, none⟩ v) := by
  obtain ⟨_, _, _, _, _, _, _, _, h1, h2, h3, hH, hb0⟩ := h
  have n1 : H ≠ w.heap.size + 1 := by omega
  have n2 : H + 1 ≠ w.heap.size + 1 := by omega
  exact GetS.of ((h1.far n1 _).far n1 _) ((h2.far n2 _).far n2 _) ((h3.put 0 _).put 1 _) hH ((hb0.setCell (by simp) _).setCell (by simp) _)

set_option maxHeartbeats 1600000 in
theorem get_point (v bit : Int) (w : World) :
    Calls Tryd.prog 62 #[.agg #[.int .i64 3, .int .i64 64], .int .u64 v, .int .i64 bit] w fun e w' => e = .returned (.agg #[.int .i64 0, .complex .f64 (floatOfInt .f64 (lowOf v)) (floatOfInt .f64 (highOf v))]) ∧ Below w.heap.size w w' := by
  go_enter Tryd.func62, Tryd.ntmps62
  go_wp2_with fail
  refine (halves_any _).mono ?_
  rintro e w1 ⟨rfl, hb1⟩
  have k2 : GetS w w1.heap.size ((w1.alloc (.cells #[.int .i64 0, .int .i64 32] 128)).alloc (.cells #[.int .i64 32, .int .i64 32] 128)) := by
    have o1 : Own w1 (w.heap.size + 1) 110 #[.int .i64 0, .complex .f64 0 0] := by
      refine Own.call ?_ hb1
      have := (Own.new (w.alloc (.cells #[.int .i64 3, .int .i64 64] 124)) 110 #[.int .i64 0, .complex .f64 0 0]).alloc (.cells #[.int .i64 bit, .int .i64 64] 128)
      simpa using this
    have hz1 : w.heap.size + 1 < w1.heap.size := o1.lt
    have k1 : Below w.heap.size w w1 := ((((Below.refl _ _).alloc (Nat.le_refl _) _).alloc (by simp) _).alloc (by simp; omega) _).trans (hb1.mono (by simp; omega))
    refine GetS.of ((Own.new w1 128 _).alloc _) ?_ ((o1.alloc _).alloc _).has hz1 ((k1.alloc (by omega) _).alloc (by simp; omega) _)
    have := Own.new (w1.alloc (.cells #[.int .i64 0, .int .i64 32] 128)) 128 #[.int .i64 32, .int .i64 32]
    simpa using this
  go_wp2_with fail
  clear hb1
  generalize w1.heap.size = H at *
  generalize (w1.alloc (.cells #[.int .i64 0, .int .i64 32] 128)).alloc (.cells #[.int .i64 32, .int .i64 32] 128) = W at *
  go_region_held3 (fun w' => w'.cell? ⟨H, 0, none⟩ = some (.int .i64 0) ∧ w'.cell? ⟨H, 1, none⟩ = some (.int .i64 32) ∧ w'.cell? ⟨H + 1, 0, none⟩ = some (.int .i64 32) ∧ w'.cell? ⟨H + 1, 1, none⟩ = some (.int .i64 32) ∧ w'.cell? ⟨w.heap.size + 1, 0, none⟩ = some (val w' ⟨w.heap.size + 1, 0, none⟩) ∧ w'.cell? ⟨w.heap.size + 1, 1, none⟩ = some (val w' ⟨w.heap.size + 1, 1, none⟩) ∧ w'.frozen? ⟨w.heap.size + 1, 0, none⟩ = false ∧ w'.frozen? ⟨w.heap.size + 1, 1, none⟩ = false ∧ Own w' H 128 #[.int .i64 0, .int .i64 32] ∧ Own w' (H + 1) 128 #[.int .i64 32, .int .i64 32] ∧ Has w' (w.heap.size + 1) 110 2 ∧ w.heap.size + 1 < H ∧ Below w.heap.size w w')
    (first | assumption | exact GetS.drew k2 | exact GetS.call (by assumption) hb | exact GetS.store (by assumption) _ _)
    (first | (go_at_call_of 74 (Value.agg #[Value.int IntKind.i64 0, Value.int IntKind.i64 32]); refine (signed0 _ _).mono ?_; rintro e w' ⟨rfl, hb⟩) | (go_at_call_of 74 (Value.agg #[Value.int IntKind.i64 32, Value.int IntKind.i64 32]); refine (signed32 _ _).mono ?_; rintro e w' ⟨rfl, hb⟩))
  go_wp2
  rename_i hS
  obtain ⟨_, _, _, _, _, _, _, _, _, _, h3, _, hb3⟩ := hS
  have o := h3.of_put.of_put.two (.int .i64 0) (.complex .f64 (floatOfInt .f64 (lowOf v)) (floatOfInt .f64 (highOf v)))
  have c0 := o.cell 0
  have c1 := o.cell 1
  exact bodyPost_ret (v := .agg #[.int .i64 0, .complex .f64 (floatOfInt .f64 (lowOf v)) (floatOfInt .f64 (highOf v))]) (by simp [results, Tryd.results62, go_sem, c0, c1]) rfl ⟨rfl, hb3⟩

end Go.Proofs.YtmhnodbmcciifaaDoor
