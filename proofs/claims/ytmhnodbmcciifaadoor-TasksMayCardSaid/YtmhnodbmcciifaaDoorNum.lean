/- What the functions of gauss and nav compute of numbers whose parts are whole: the walks. Each theorem says under which conditions. -/
import Derived.Test.YtmhnodbmcciifaaDoorProg
import Derived.Test.YtmhnodbmcciifaaDoorFlt
import Derived.WalkKit
import Derived.WalkLawsBesides
import Derived.Lib.Hide
namespace Go.Proofs.YtmhnodbmcciifaaDoor
open Go.RowKit Flt

theorem run_trunc (b : Nat) (hb : Num b) (w : World) : (callFunc 59 #[.float .f64 b]).run Tryd.prog w = .ok (.value (.float .f64 (trunc b))) w := by
  have h := run_callFunc_extern (P := Tryd.prog) (f := 59) (fn := Tryd.f59) (e := Extern.MathFloor.toIntegral "math.archTrunc" .zero) Tryd.func59 (by kernel_rfl) (by kernel_rfl) (by kernel_rfl) (by kernel_rfl) #[.float .f64 b] w
  rw [h]
  unfold Num at hb
  unfold trunc
  unfold Extern.MathFloor.toIntegral
  show ((Sem.run Tryd.prog (match Ieee.double.read b with | Ieee.Datum.nan s t => _ | d => pure (Value.float FloatKind.f64 (FloatKind.f64.encode (Ieee.Datum.integral Ieee.Toward.zero d)))) w).andThen fun v w' => Result.ok (Next.value v) w') = _
  cases hr : Ieee.double.read b with
  | nan s f => rw [hr] at hb; cases hb
  | infinity s => rfl
  | number s m k => rfl

theorem trunc_any (b : Nat) (hb : Num b) (w : World) : Calls Tryd.prog 46 #[.float .f64 b] w fun e w' => e = .returned (.float .f64 (trunc b)) ∧ w = w' := by
  have hr := run_trunc b hb
  go_enter Tryd.func46, Tryd.ntmps46
  go_wp2
  go_ret
  exact ⟨rfl, rfl⟩

/-- 'whole' as the walk leaves it. -/
theorem wholeB_spell (b : Nat) : wholeB b = (FloatKind.f64.format.order b (trunc b) == some .eq && FloatKind.f64.format.order b 13920626448202203136 == some .gt && FloatKind.f64.format.order b 4697254411347427328 == some .lt) := rfl

theorem whole_any (b : Nat) (hb : Num b) (w : World) : Calls Tryd.prog 33 #[.float .f64 b] w fun e w' => e = .returned (.bool (wholeB b)) ∧ w = w' := by
  have hr := run_trunc b hb
  go_enter Tryd.func33, Tryd.ntmps33
  go_wp2_with (go_at_call 46; refine (trunc_any b hb _).mono ?_; rintro e w' ⟨rfl, rfl⟩)
  all_goals (go_ret; exact ⟨by rw [wholeB_spell]; simp [*], rfl⟩)

/-- Whether the parts of a number are whole, and not too great. -/
def mayB (x y : Nat) : Bool := wholeB x && wholeB y

theorem may_any (x y : Nat) (hx : Num x) (hy : Num y) (w : World) : Calls Tryd.prog 20 #[.complex .f64 x y] w fun e w' => e = .returned (.bool (mayB x y)) ∧ w = w' := by
  cases h : wholeB x
  · go_enter Tryd.func20, Tryd.ntmps20
    go_wp2_with (first | (go_at_call 33; refine (whole_any x hx _).mono ?_; rintro e w' ⟨rfl, rfl⟩; simp only [h]))
    go_ret
    exact ⟨by simp [mayB, h], rfl⟩
  · go_enter Tryd.func20, Tryd.ntmps20
    go_wp2_with fail
    refine (whole_any x hx _).mono ?_
    rintro e w' ⟨rfl, rfl⟩
    simp only [h]
    go_wp2_with fail
    refine (whole_any y hy _).mono ?_
    rintro e w' ⟨rfl, rfl⟩
    go_wp2_with fail
    go_ret
    exact ⟨by simp [mayB, h], rfl⟩

end Go.Proofs.YtmhnodbmcciifaaDoor
