/- The tied card of TasksMay. -/
import Derived.Test.YtmhnodbmcciifaaDoorHeld
import Derived.Test.YtmhnodbmcciifaaDoorCards
import Derived.Test.YtmhnodbmcciifaaDoorTie
import Derived.SevenTiedAt
namespace Go.Proofs.YtmhnodbmcciifaaDoor
open Go

/-- The tied card: the row's statement, and what it lists tied to the program's text. -/
theorem tasksMay_card : Rows.TasksMayCardSaid :=
  Claim7.holds_tied_plain_at .later [] [.data] true (true, "464df6c7d4e6d66139f332e9d55f32fc4b010eaff1adceee042ee091b175a607") false
    tasksMay_holds (fun _ h => by cases h) (by kernel_rfl) (fun _ h => by cases h) tasksMay_row_tie rfl ⟨rfl, rfl⟩ (by kernel_rfl) rfl
    (fun f fn hf hfn => by
      obtain rfl : f = 3 := Option.some.inj ((show Tryd.prog.funcNamed "aileron/aileronlaw23.TasksMay" = some 3 by kernel_rfl).symm.trans hf) |>.symm
      obtain rfl : fn = Tryd.f3 := (Option.some.inj (Tryd.func3.symm.trans hfn)).symm
      exact ⟨by kernel_rfl, fun j t ht => by
        rw [Tryd.params3] at ht
        have hm : t ∈ [24, 25] := by simpa using Array.mem_of_getElem? ht
        have hall : ([24, 25].all fun u => !Tryd.prog.wantsStandIn u) = true := by kernel_rfl
        exact (show Tryd.prog.wantsStandIn t = false by simpa using List.all_eq_true.1 hall t hm)⟩)
    (by kernel_rfl)
#print axioms tasksMay_card
end Go.Proofs.YtmhnodbmcciifaaDoor
