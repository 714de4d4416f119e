/- The walk of Task.Turn, and the relation that Next's loop follows. Each theorem says under which conditions. -/
import Derived.Test.YtmhnodbmcciifaaDoorHear
namespace Go.Proofs.YtmhnodbmcciifaaDoor
open Go.RowKit Flt

theorem turn_ok (T : Nat) (s : TS) (w : World) (h : Own w T 70 s.row) : Calls Tryd.prog 8 #[.pointer (some ⟨T, 0, none⟩)] w fun e w' => e = .returned (.int .i64 s.turn) ∧ w = w' := by
  obtain ⟨_, _, c2, _⟩ := row_cells h
  have lT := h.lt
  clear h
  go_enter Tryd.func8, Tryd.ntmps8
  go_wp2
  go_ret
  exact ⟨rfl, rfl⟩

/-- What Next's loop does, from a state on: its call, whether there is one, the state behind. -/
inductive Again (kind n : Nat) : TS → Array Value → Bool → TS → Prop
  | done (s : TS) : s.turns ≤ s.turn → Again kind n s zero11 false s
  | wrap (s s' : TS) (c : Array Value) (b : Bool) : s.turn < s.turns → s.nxt = (rowsOf kind).length → Again kind n { s with turn := s.turn + 1, nxt := 0 } c b s' → Again kind n s c b s'
  | yield (s s' : TS) (c : Array Value) (i : Nat) (k : Nat) : s.turn < s.turns → s.nxt = i → (rowsOf kind)[i]? = some k → Row k n s c true s' → Again kind n s c true { s' with nxt := s.nxt + 1 }
  | skip (s s1 s' : TS) (c1 c : Array Value) (b : Bool) (i : Nat) (k : Nat) : s.turn < s.turns → s.nxt = i → (rowsOf kind)[i]? = some k → Row k n s c1 false s1 → Again kind n { s1 with nxt := s.nxt + 1 } c b s' → Again kind n s c b s'

/-- What is done behind the answer. -/
def Heard (a : AS) (s s' : TS) : Prop := (s.hear = .nilFunc ∧ s' = s) ∨ (∃ B k s1, s.hear = closure k B ∧ HeardR k a s s1 ∧ s' = { s1 with hear := .nilFunc })

/-- What Next does. -/
def NextR (kind n : Nat) (l : List (Array Value)) (a : AS) (s : TS) (c : Array Value) (b : Bool) (l' : List (Array Value)) (s' : TS) : Prop :=
  ∃ s1, Heard a s s1 ∧ ((∃ v, l = c :: l' ∧ b = true ∧ s' = { s1 with once := v }) ∨ (l = [] ∧ l' = [] ∧ Again kind n s1 c b s'))

end Go.Proofs.YtmhnodbmcciifaaDoor
