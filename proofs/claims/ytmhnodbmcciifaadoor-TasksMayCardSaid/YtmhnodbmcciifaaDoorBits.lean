/- What the functions of bits do with the fields that a complex number's word has. Each theorem says under which conditions. -/
import Derived.Test.YtmhnodbmcciifaaDoorProg
import Derived.Test.YtmhnodbmcciifaaDoorMem
import Derived.Deep.QuietTactic
import Derived.BigQuiet
import Derived.Deep.RegionHeld3
import Derived.Deep.DrawnRows
namespace Go.Proofs.YtmhnodbmcciifaaDoor
open Go.RowKit

theorem fieldMay (a n : Int) (h0 : 0 ≤ a) (h1 : 1 ≤ n) (h2 : a + n ≤ 64) (w : World) :
    Calls Tryd.prog 76 #[.agg #[.int .i64 a, .int .i64 n]] w fun e w' => e = .returned (.bool true) ∧ Below w.heap.size w w' := by
  have h3 : a < 64 := by omega
  have h4 : n ≤ 64 := by omega
  have h5 : a ≤ 64 - n := by omega
  go_enter Tryd.func76, Tryd.ntmps76
  go_wp2
  go_ret
  exact ⟨rfl, (Below.refl _ _).alloc (Nat.le_refl _) _⟩

theorem max32 (a : Int) (h0 : 0 ≤ a) (h2 : a + 32 ≤ 64) (w : World) :
    Calls Tryd.prog 63 #[.agg #[.int .i64 a, .int .i64 32]] w fun e w' => e = .returned (.int .u64 4294967295) ∧ Below w.heap.size w w' := by
  go_enter Tryd.func63, Tryd.ntmps63
  go_wp2_with fail
  refine (fieldMay a 32 h0 (by omega) h2 _).mono ?_
  rintro e w' ⟨rfl, hb⟩
  obtain ⟨hc, hf⟩ := bcell hb
  go_wp2_with fail
  go_ret
  exact ⟨rfl, (((Below.refl _ _).alloc (Nat.le_refl _) _).trans (hb.mono (by simp)))⟩

theorem max64 (w : World) :
    Calls Tryd.prog 63 #[.agg #[.int .i64 0, .int .i64 64]] w fun e w' => e = .returned (.int .u64 18446744073709551615) ∧ Below w.heap.size w w' := by
  go_enter Tryd.func63, Tryd.ntmps63
  go_wp2_with fail
  refine (fieldMay 0 64 (by omega) (by omega) (by omega) _).mono ?_
  rintro e w' ⟨rfl, hb⟩
  obtain ⟨hc, hf⟩ := bcell hb
  go_wp2_with fail
  go_ret
  exact ⟨rfl, (((Below.refl _ _).alloc (Nat.le_refl _) _).trans (hb.mono (by simp)))⟩

/-- A struct of two cells that the call has boxed is as it was, and so is all that was there ahead of the call. -/
def Box2 (w : World) (u v : Value) (w' : World) : Prop :=
  w'.cell? ⟨w.heap.size, 0, none⟩ = some u ∧ w'.cell? ⟨w.heap.size, 1, none⟩ = some v ∧ w.heap.size < w'.heap.size ∧ Below w.heap.size w w'

theorem box2_start (w : World) (u v : Value) (t : TypeId) : Box2 w u v (w.alloc (.cells #[u, v] t)).drew :=
  ⟨by simp, by simp, by simp, ((Below.refl _ _).alloc (Nat.le_refl _) _).drew⟩

theorem box2_call {w w1 w2 : World} {u v : Value} (h0 : w1.cell? ⟨w.heap.size, 0, none⟩ = some u) (h1 : w1.cell? ⟨w.heap.size, 1, none⟩ = some v) (h2 : w.heap.size < w1.heap.size) (h3 : Below w.heap.size w w1)
    (hb : Below w1.heap.size w1 w2) : Box2 w u v w2 :=
  ⟨(hb.cell (p := ⟨w.heap.size, 0, none⟩) h2).trans h0, (hb.cell (p := ⟨w.heap.size, 1, none⟩) h2).trans h1, Nat.lt_of_lt_of_le h2 hb.size, h3.trans (hb.mono (by omega))⟩

/-- The lower half of a word that was 0. -/
def lowHalf (x : Int) : Int := bits .or .u64 (bits .andNot .u64 0 (IntKind.u64.wrap 4294967295)) (IntKind.u64.wrap (bits .and .u64 x 4294967295))

set_option maxHeartbeats 800000 in
theorem set0 (x : Int) (w : World) :
    Calls Tryd.prog 83 #[.agg #[.int .i64 0, .int .i64 32], .int .u64 0, .int .u64 x] w fun e w' => e = .returned (.int .u64 (lowHalf x)) ∧ Below w.heap.size w w' := by
  go_enter Tryd.func83, Tryd.ntmps83
  go_wp2_with fail
  go_region_held3 (fun w' => w'.cell? ⟨w.heap.size, 0, none⟩ = some (.int .i64 0) ∧ w'.cell? ⟨w.heap.size, 1, none⟩ = some (.int .i64 32) ∧ w.heap.size < w'.heap.size ∧ Below w.heap.size w w')
    (first
      | exact box2_start w _ _ _
      | (go_split_ands; exact box2_call (by assumption) (by assumption) (by assumption) (by assumption) hb))
    (first | (go_at_call 63; refine (max32 0 (by omega) (by omega) _).mono ?_; rintro e w' ⟨rfl, hb⟩))
  go_wp2
  go_ret
  exact ⟨rfl, by go_split_ands; assumption⟩

/-- The upper half of a word. -/
def highHalf (v x : Int) : Int := bits .or .u64 (bits .andNot .u64 v (IntKind.u64.wrap 18446744069414584320)) (IntKind.u64.wrap (bits .and .u64 x 4294967295 * 4294967296))

set_option maxHeartbeats 800000 in
theorem set32 (v x : Int) (w : World) :
    Calls Tryd.prog 83 #[.agg #[.int .i64 32, .int .i64 32], .int .u64 v, .int .u64 x] w fun e w' => e = .returned (.int .u64 (highHalf v x)) ∧ Below w.heap.size w w' := by
  go_enter Tryd.func83, Tryd.ntmps83
  go_wp2_with fail
  go_region_held3 (fun w' => w'.cell? ⟨w.heap.size, 0, none⟩ = some (.int .i64 32) ∧ w'.cell? ⟨w.heap.size, 1, none⟩ = some (.int .i64 32) ∧ w.heap.size < w'.heap.size ∧ Below w.heap.size w w')
    (first
      | exact box2_start w _ _ _
      | (go_split_ands; exact box2_call (by assumption) (by assumption) (by assumption) (by assumption) hb))
    (first | (go_at_call 63; refine (max32 32 (by omega) (by omega) _).mono ?_; rintro e w' ⟨rfl, hb⟩))
  go_wp2
  go_ret
  exact ⟨rfl, by go_split_ands; assumption⟩

/-- The halves of a word as numbers with a sign. -/
def lowOf (v : Int) : Int := wrap64 (IntKind.u64.wrap (v * 4294967296)) / 4294967296
def highOf (v : Int) : Int := wrap64 (IntKind.u64.wrap v) / 4294967296

theorem signed0 (v : Int) (w : World) :
    Calls Tryd.prog 74 #[.agg #[.int .i64 0, .int .i64 32], .int .u64 v] w fun e w' => e = .returned (.int .i64 (lowOf v)) ∧ Below w.heap.size w w' := by
  go_enter Tryd.func74, Tryd.ntmps74
  go_wp2_with fail
  refine (fieldMay 0 32 (by omega) (by omega) (by omega) _).mono ?_
  rintro e w' ⟨rfl, hb⟩
  obtain ⟨hc, hf⟩ := bcell hb
  go_wp2_with fail
  go_quiet (fail)
  go_wp2_with fail
  go_ret
  exact ⟨rfl, below_drewN (((Below.refl _ _).alloc (Nat.le_refl _) _).trans (hb.mono (by simp))) _⟩

theorem signed32 (v : Int) (w : World) :
    Calls Tryd.prog 74 #[.agg #[.int .i64 32, .int .i64 32], .int .u64 v] w fun e w' => e = .returned (.int .i64 (highOf v)) ∧ Below w.heap.size w w' := by
  go_enter Tryd.func74, Tryd.ntmps74
  go_wp2_with fail
  refine (fieldMay 32 32 (by omega) (by omega) (by omega) _).mono ?_
  rintro e w' ⟨rfl, hb⟩
  obtain ⟨hc, hf⟩ := bcell hb
  go_wp2_with fail
  go_quiet (fail)
  go_wp2_with fail
  go_ret
  exact ⟨rfl, below_drewN (((Below.refl _ _).alloc (Nat.le_refl _) _).trans (hb.mono (by simp))) _⟩

theorem u64_wrap (n : Int) : IntKind.u64.wrap n = n % 18446744073709551616 := by simp [IntKind.wrap, IntKind.bits, IntKind.signed]

theorem mask32 (x : Nat) : x &&& 4294967295 = x % 4294967296 := Nat.and_two_pow_sub_one_eq_mod x 32

theorem lowHalf_eq (x : Int) (h0 : 0 ≤ x) (h1 : x < 18446744073709551616) : lowHalf x = x % 4294967296 := by
  unfold lowHalf
  rw [u64_and x 4294967295 h0 h1 (by omega) (by omega)]
  rw [show (4294967295 : Int).toNat = 4294967295 from rfl, mask32]
  rw [u64_wrap, u64_wrap]
  have e1 : ((x.toNat % 4294967296 : Nat) : Int) % 18446744073709551616 = x % 4294967296 := by omega
  rw [e1]
  have e2 : bits .andNot .u64 0 ((4294967295 : Int) % 18446744073709551616) = 0 := by
    rw [u64_andNot 0 _ (by omega) (by omega) (by omega) (by omega)]; simp
  rw [e2, u64_or 0 _ (by omega) (by omega) (by omega) (by omega)]
  simp
  omega

theorem highHalf_eq (v x : Int) (g0 : 0 ≤ v) (g1 : v < 4294967296) (h0 : 0 ≤ x) (h1 : x < 18446744073709551616) : highHalf v x = v + x % 4294967296 * 4294967296 := by
  unfold highHalf
  rw [u64_and x 4294967295 h0 h1 (by omega) (by omega)]
  rw [show (4294967295 : Int).toNat = 4294967295 from rfl, mask32]
  rw [u64_wrap, u64_wrap]
  have e1 : ((x.toNat % 4294967296 : Nat) : Int) * 4294967296 % 18446744073709551616 = x % 4294967296 * 4294967296 := by omega
  rw [e1]
  have e2 : bits .andNot .u64 v ((18446744069414584320 : Int) % 18446744073709551616) = v := by
    rw [u64_andNot v _ (by omega) (by omega) (by omega) (by omega)]
    rw [show 18446744073709551615 - ((18446744069414584320 : Int) % 18446744073709551616).toNat = 4294967295 from by decide, mask32]
    omega
  rw [e2, u64_or v _ (by omega) (by omega) (by omega) (by omega), Nat.or_comm, nat_join 32 _ _ (by omega) (by omega)]
  omega

theorem low_back (a : Int) (h0 : -2147483648 ≤ a) (h1 : a < 2147483648) : lowOf (lowHalf (IntKind.u64.wrap a)) = a ∧ 0 ≤ lowHalf (IntKind.u64.wrap a) ∧ lowHalf (IntKind.u64.wrap a) < 4294967296 := by
  rw [lowHalf_eq _ (by rw [u64_wrap]; omega) (by rw [u64_wrap]; omega)]
  unfold lowOf wrap64
  rw [u64_wrap, u64_wrap]
  omega

theorem high_back (v b : Int) (g0 : 0 ≤ v) (g1 : v < 4294967296) (h0 : -2147483648 ≤ b) (h1 : b < 2147483648) : highOf (highHalf v (IntKind.u64.wrap b)) = b := by
  rw [highHalf_eq v _ g0 g1 (by rw [u64_wrap]; omega) (by rw [u64_wrap]; omega)]
  unfold highOf wrap64
  rw [u64_wrap, u64_wrap]
  omega

theorem lowOf_range (v : Int) : -2147483648 ≤ lowOf v ∧ lowOf v < 2147483648 := by
  unfold lowOf wrap64; omega
theorem highOf_range (v : Int) : -2147483648 ≤ highOf v ∧ highOf v < 2147483648 := by
  unfold highOf wrap64; omega

theorem putSigned0 (a : Int) (h0 : -2147483648 ≤ a) (h1 : a < 2147483648) (w : World) :
    Calls Tryd.prog 79 #[.agg #[.int .i64 0, .int .i64 32], .int .u64 0, .int .i64 a] w fun e w' => e = .returned (.tuple #[.int .u64 (lowHalf (IntKind.u64.wrap a)), .int .i64 0]) ∧ Below w.heap.size w w' := by
  have hl := Lib.hid (low_back a h0 h1).1
  have hne : ((a : Int) != a) = false := by simp
  go_enter Tryd.func79, Tryd.ntmps79
  go_wp2_with fail
  refine (fieldMay 0 32 (by omega) (by omega) (by omega) _).mono ?_
  rintro e w1 ⟨rfl, hb1⟩
  obtain ⟨hc1, hf1⟩ := bcell hb1
  have hz1 : w.heap.size < w1.heap.size := by have := hb1.size; simp at this; omega
  go_wp2_with fail
  refine (set0 _ _).mono ?_
  rintro e w2 ⟨rfl, hb2⟩
  obtain ⟨hc2, hf2⟩ := bcell hb2
  have hz2 : w.heap.size < w2.heap.size := by have := hb2.size; omega
  go_wp2_with fail
  refine (signed0 _ _).mono ?_
  rintro e w3 ⟨rfl, hb3⟩
  rw [hl.out]
  go_wp2_with fail
  go_ret2
  exact ⟨rfl, (((Below.refl _ _).alloc (Nat.le_refl _) _).trans (hb1.mono (by simp))).trans ((hb2.mono (by omega)).trans (hb3.mono (by omega)))⟩

theorem putSigned32 (v b : Int) (g0 : 0 ≤ v) (g1 : v < 4294967296) (h0 : -2147483648 ≤ b) (h1 : b < 2147483648) (w : World) :
    Calls Tryd.prog 79 #[.agg #[.int .i64 32, .int .i64 32], .int .u64 v, .int .i64 b] w fun e w' => e = .returned (.tuple #[.int .u64 (highHalf v (IntKind.u64.wrap b)), .int .i64 0]) ∧ Below w.heap.size w w' := by
  have hl := Lib.hid (high_back v b g0 g1 h0 h1)
  have hne : ((b : Int) != b) = false := by simp
  go_enter Tryd.func79, Tryd.ntmps79
  go_wp2_with fail
  refine (fieldMay 32 32 (by omega) (by omega) (by omega) _).mono ?_
  rintro e w1 ⟨rfl, hb1⟩
  obtain ⟨hc1, hf1⟩ := bcell hb1
  have hz1 : w.heap.size < w1.heap.size := by have := hb1.size; simp at this; omega
  go_wp2_with fail
  refine (set32 _ _ _).mono ?_
  rintro e w2 ⟨rfl, hb2⟩
  obtain ⟨hc2, hf2⟩ := bcell hb2
  have hz2 : w.heap.size < w2.heap.size := by have := hb2.size; omega
  go_wp2_with fail
  refine (signed32 _ _).mono ?_
  rintro e w3 ⟨rfl, hb3⟩
  rw [hl.out]
  go_wp2_with fail
  go_ret2
  exact ⟨rfl, (((Below.refl _ _).alloc (Nat.le_refl _) _).trans (hb1.mono (by simp))).trans ((hb2.mono (by omega)).trans (hb3.mono (by omega)))⟩

end Go.Proofs.YtmhnodbmcciifaaDoor
