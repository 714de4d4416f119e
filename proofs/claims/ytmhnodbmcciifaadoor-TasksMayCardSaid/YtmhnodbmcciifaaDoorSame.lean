/- few, and call.Same at the call that is none: the walks. Each theorem says under which conditions. -/
import Derived.Test.YtmhnodbmcciifaaDoorSteps
import Derived.LoopTactic
import Derived.BigQuiet
namespace Go.Proofs.YtmhnodbmcciifaaDoor
open Go.RowKit

theorem equal_ints (w : World) : Calls Tryd.prog 15 #[.slice none 0 0, .slice none 0 0] w fun e w' => e = .returned (.bool true) ∧ w = w' := by
  go_enter Tryd.func15, Tryd.ntmps15
  go_wp2_with fail
  go_loopg [13] 0 (fun q s13 wx => s13 = .int .i64 0 ∧ wx = w)
  case atStart => exact ⟨rfl, rfl⟩
  case round =>
    obtain ⟨rfl, rfl⟩ := hrel
    go_wp2_with fail
    go_ret
    exact ⟨rfl, rfl⟩

theorem equal_words (w : World) : Calls Tryd.prog 16 #[.slice none 0 0, .slice none 0 0] w fun e w' => e = .returned (.bool true) ∧ w = w' := by
  go_enter Tryd.func16, Tryd.ntmps16
  go_wp2_with fail
  go_loopg [13] 0 (fun q s13 wx => s13 = .int .i64 0 ∧ wx = w)
  case atStart => exact ⟨rfl, rfl⟩
  case round =>
    obtain ⟨rfl, rfl⟩ := hrel
    go_wp2_with fail
    go_ret
    exact ⟨rfl, rfl⟩

set_option maxHeartbeats 1600000 in
theorem same_zero (w : World) : Calls Tryd.prog 9 #[.agg zero11, .agg zero11] w fun e w' => e = .returned (.bool true) ∧ Below w.heap.size w w' := by
  go_enter Tryd.func9, Tryd.ntmps9
  simp only [zero11]
  go_wp2_with fail
  refine (equal_ints _).mono ?_
  rintro e w' ⟨rfl, rfl⟩
  go_wp2_with fail
  refine (equal_words _).mono ?_
  rintro e w' ⟨rfl, rfl⟩
  go_wp2_with fail
  go_ret
  exact ⟨rfl, ((Below.refl _ _).alloc (Nat.le_refl _) _).alloc (by simp) _⟩

theorem few_any (kind turns : Int) (A : Option Addr) (n c : Nat) (w : World) : Calls Tryd.prog 4 #[.agg #[.int .i64 kind, .int .i64 turns, .slice A n c]] w fun e w' => e = .returned (.bool (decide (n ≤ 70))) ∧ Below w.heap.size w w' := by
  by_cases h : n ≤ 70
  · have h' : (n : Int) ≤ 70 := by omega
    rw [decide_eq_true h]
    clear h
    go_enter Tryd.func4, Tryd.ntmps4
    go_wp2_with fail
    go_ret
    exact ⟨by simp, (Below.refl _ _).alloc (Nat.le_refl _) _⟩
  · have h' : ¬ (n : Int) ≤ 70 := by omega
    rw [decide_eq_false h]
    clear h
    go_enter Tryd.func4, Tryd.ntmps4
    go_wp2_with fail
    go_ret
    exact ⟨by simp, (Below.refl _ _).alloc (Nat.le_refl _) _⟩
end Go.Proofs.YtmhnodbmcciifaaDoor
