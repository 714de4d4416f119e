/- What Next's loop comes to: the plain law on the relation of a task's turns. No program is in sight. Each theorem says under which conditions. -/
import Derived.Test.YtmhnodbmcciifaaDoorNext
namespace Go.Proofs.YtmhnodbmcciifaaDoor
open Go.RowKit Flt

/-- The last row of a kind's table that always has a call. -/
def mustOf : Nat → Nat
  | 0 => 1
  | 1 => 2
  | 2 => 2
  | _ => 0

theorem must_row {kind k : Nat} (h : (rowsOf kind)[mustOf kind]? = some k) : k = 22 ∨ k = 23 ∨ k = 27 ∨ k = 28 ∨ k = 29 := by
  match kind, h with
  | 0, h => cases h; decide
  | 1, h => cases h; decide
  | 2, h => cases h; decide
  | _ + 3, h => cases h; decide

theorem must_lt (kind : Nat) : mustOf kind < (rowsOf kind).length := by
  match kind with
  | 0 => decide
  | 1 => decide
  | 2 => decide
  | _ + 3 => exact Nat.zero_lt_two

theorem again_done {kind n : Nat} {s s' : TS} {c : Array Value} {b : Bool} (h : Again kind n s c b s') (hd : s.turns ≤ s.turn) : c = zero11 ∧ b = false ∧ s' = s := by
  cases h with
  | done _ _ => exact ⟨rfl, rfl, rfl⟩
  | wrap _ _ _ _ ht _ _ => omega
  | yield _ _ _ _ _ ht _ _ _ => omega
  | skip _ _ _ _ _ _ _ _ ht _ _ _ _ => omega

/-- Where a row that always has a call is still ahead: a call of this turn. -/
theorem again_must {kind n : Nat} {s s' : TS} {c : Array Value} {b : Bool} (h : Again kind n s c b s') (hd : s.turn < s.turns) (hm : s.nxt ≤ mustOf kind) (h0 : 0 ≤ s.nxt) :
    b = true ∧ CallOK c ∧ s'.turns = s.turns ∧ s'.turn = s.turn ∧ s.nxt < s'.nxt ∧ s'.nxt ≤ (rowsOf kind).length := by
  have hlt := must_lt kind
  induction h with
  | done s ht => omega
  | wrap s s' c b ht hn _ _ => omega
  | yield s s2 c i k ht hi hk hr =>
    have hil : i < (rowsOf kind).length := (List.getElem?_eq_some_iff.1 hk).1
    exact ⟨rfl, hr.1, hr.2.1, hr.2.2.1, show s.nxt < s.nxt + 1 by omega, show s.nxt + 1 ≤ _ by omega⟩
  | skip s s1 s' c1 c b i k ht hi hk hr _ ih =>
    have hne : i ≠ mustOf kind := by
      rintro rfl
      have := hr.2.2.2.2.1 (must_row hk)
      cases this
    have e1 := hr.2.1
    have e2 := hr.2.2.1
    obtain ⟨r1, r2, r3, r4, r5, r6⟩ := ih (show s1.turn < s1.turns by omega) (show s.nxt + 1 ≤ _ by omega) (show 0 ≤ s.nxt + 1 by omega)
    refine ⟨r1, r2, r3.trans e1, r4.trans e2, ?_, r6⟩
    have : s.nxt + 1 < s'.nxt := r5
    omega

/-- What a loop of Next comes to. -/
def Came (kind : Nat) (s : TS) (c : Array Value) (b : Bool) (s' : TS) : Prop :=
  s'.turns = s.turns ∧
  ((b = true ∧ CallOK c ∧ s'.turn = s.turn ∧ s.turn < s.turns ∧ s.nxt < s'.nxt ∧ s'.nxt ≤ (rowsOf kind).length) ∨
   (b = true ∧ CallOK c ∧ s'.turn = s.turn + 1 ∧ s.turn + 1 < s.turns ∧ 0 < s'.nxt ∧ s'.nxt ≤ (rowsOf kind).length) ∨
   (b = false ∧ c = zero11 ∧ s'.turn = s.turns ∧ s.turn ≤ s.turns ∧ s.turns ≤ s.turn + 1 ∧ 0 ≤ s'.nxt ∧ s'.nxt ≤ (rowsOf kind).length))

theorem again_came {kind n : Nat} {s s' : TS} {c : Array Value} {b : Bool} (h : Again kind n s c b s') (hd : s.turn ≤ s.turns) (h0 : 0 ≤ s.nxt) (h1 : s.nxt ≤ (rowsOf kind).length) : Came kind s c b s' := by
  induction h with
  | done s ht => exact ⟨rfl, .inr (.inr ⟨rfl, rfl, show s.turn = s.turns by omega, hd, by omega, h0, h1⟩)⟩
  | wrap s s' c b ht hn ha _ =>
    by_cases hlt : s.turn + 1 < s.turns
    · obtain ⟨r1, r2, r3, r4, r5, r6⟩ := again_must ha (show s.turn + 1 < s.turns from hlt) (show (0 : Int) ≤ _ by omega) (show (0 : Int) ≤ 0 by omega)
      exact ⟨r3, .inr (.inl ⟨r1, r2, r4, hlt, r5, r6⟩)⟩
    · obtain ⟨r1, r2, r3⟩ := again_done ha (show s.turns ≤ s.turn + 1 by omega)
      subst r3
      exact ⟨rfl, .inr (.inr ⟨r2, r1, show s.turn + 1 = s.turns by omega, hd, by omega, show (0 : Int) ≤ 0 by omega, show (0 : Int) ≤ _ by omega⟩)⟩
  | yield s s2 c i k ht hi hk hr =>
    have hil : i < (rowsOf kind).length := (List.getElem?_eq_some_iff.1 hk).1
    exact ⟨hr.2.1, .inl ⟨rfl, hr.1, hr.2.2.1, ht, show s.nxt < s.nxt + 1 by omega, show s.nxt + 1 ≤ _ by omega⟩⟩
  | skip s s1 s' c1 c b i k ht hi hk hr _ ih =>
    have e1 : s1.turns = s.turns := hr.2.1
    have e2 : s1.turn = s.turn := hr.2.2.1
    obtain ⟨r0, r⟩ := ih (show s1.turn ≤ s1.turns by omega) (show 0 ≤ s.nxt + 1 by omega) (show s.nxt + 1 ≤ _ by have := (List.getElem?_eq_some_iff.1 hk).1; omega)
    have r0' : s'.turns = s1.turns := r0
    refine ⟨r0'.trans e1, ?_⟩
    rcases r with ⟨a1, a2, a3, a4, a5, a6⟩ | ⟨a1, a2, a3, a4, a5, a6⟩ | ⟨a1, a2, a3, a4, a5, a6, a7⟩
    · have a3' : s'.turn = s1.turn := a3
      have a5' : s.nxt + 1 < s'.nxt := a5
      exact .inl ⟨a1, a2, by omega, ht, by omega, a6⟩
    · have a3' : s'.turn = s1.turn + 1 := a3
      have a4' : s1.turn + 1 < s1.turns := a4
      exact .inr (.inl ⟨a1, a2, by omega, by omega, a5, a6⟩)
    · have a3' : s'.turn = s1.turns := a3
      have a5' : s1.turns ≤ s1.turn + 1 := a5
      exact .inr (.inr ⟨a1, a2, by omega, by omega, by omega, a6, a7⟩)

theorem Heard.keep {a : AS} {s s' : TS} (h : Heard a s s') : s'.turns = s.turns ∧ s'.turn = s.turn ∧ s'.nxt = s.nxt := by
  rcases h with ⟨_, rfl⟩ | ⟨B, k, s1, _, hr, rfl⟩
  · exact ⟨rfl, rfl, rfl⟩
  · exact ⟨hr.2.1, hr.2.2.1, hr.2.2.2.2.1⟩

/-- How many calls a kind makes once. -/
def onceN (kind : Nat) : Nat := (onceOf kind).length

theorem once_le (kind : Nat) : onceN kind ≤ 3 := by
  match kind with
  | 0 => decide
  | 1 => decide
  | 2 => decide
  | _ + 3 => exact Nat.zero_le _

theorem once_ok (kind : Nat) : ∀ c ∈ onceOf kind, CallOK c := by
  match kind with
  | 0 =>
    intro c hc
    simp only [onceOf, List.mem_singleton] at hc
    subst hc
    exact .inl ⟨0, by decide, by decide, rfl⟩
  | 1 =>
    intro c hc
    simp only [onceOf, List.mem_singleton] at hc
    subst hc
    exact .inl ⟨1, by decide, by decide, rfl⟩
  | 2 =>
    intro c hc
    simp only [onceOf, List.mem_cons, List.not_mem_nil, or_false] at hc
    rcases hc with rfl | rfl | rfl
    · exact .inl ⟨2, by decide, by decide, rfl⟩
    · exact .inr (.inr (.inr (.inl rfl)))
    · exact .inr (.inr (.inr (.inr (.inl rfl))))
  | _ + 3 =>
    intro c hc
    simp [onceOf] at hc

/-- What TasksMay knows of a task, behind 'i' calls, 'calls' of which are of this turn (those that are made once count to the first one). -/
def MayInv (kind : Nat) (turns : Int) (l : List (Array Value)) (s : TS) (i calls : Int) : Prop :=
  s.turns = turns ∧ Rng kind s ∧ l.length ≤ onceN kind ∧ (∀ c ∈ l, CallOK c) ∧ (0 < l.length → s.turn = 0 ∧ s.nxt = 0) ∧ 0 ≤ calls ∧ 0 ≤ i ∧
  i ≤ (onceN kind - l.length : Nat) + 3 * s.turn + s.nxt ∧ calls ≤ (if s.turn = 0 then ((onceN kind - l.length : Nat) : Int) else 0) + s.nxt

/-- The next call counts. -/
theorem may_next {kind n : Nat} {turns : Int} {l l' : List (Array Value)} {a : AS} {s s' : TS} {c : Array Value} {b : Bool} {i calls : Int} (h : MayInv kind turns l s i calls) (hn : NextR kind n l a s c b l' s') :
    s.turn ≤ s'.turn ∧ s'.turn ≤ s.turn + 1 ∧
    (b = false → c = zero11 ∧ s'.turn = turns ∧ l' = [] ∧ s'.turns = turns ∧ Rng kind s') ∧
    (b = true → CallOK c ∧ MayInv kind turns l' s' (i + 1) ((if s.turn < s'.turn then 0 else calls) + 1) ∧ (s'.turn < turns ∨ turns ≤ 0)) := by
  obtain ⟨h1, hr, hl, hok, hz, hc0, hi0, hic, hcc⟩ := h
  obtain ⟨r1, r2, r3, r4, r5⟩ := hr
  have hlen := rows_le kind
  have hN := once_le kind
  obtain ⟨s1, hh, hcase⟩ := hn
  obtain ⟨k1, k2, k3⟩ := hh.keep
  rcases hcase with ⟨v, rfl, rfl, rfl⟩ | ⟨rfl, rfl, ha⟩
  · obtain ⟨z1, z2⟩ := hz (by simp)
    simp only [List.length_cons] at hl hic hcc
    rw [if_pos z1] at hcc
    refine ⟨show s.turn ≤ s1.turn by omega, show s1.turn ≤ s.turn + 1 by omega, fun h => absurd h (by decide), fun _ => ⟨hok c (by simp), ⟨?_, ⟨?_, ?_, ?_, ?_, ?_⟩, ?_, fun x hx => hok x (List.mem_cons_of_mem _ hx), fun _ => ⟨?_, ?_⟩, ?_, ?_, ?_, ?_⟩, ?_⟩⟩
    · show s1.turns = turns; omega
    · show 0 ≤ s1.turn; omega
    · show s1.turn ≤ s1.turns; omega
    · show s1.turns ≤ 1000; omega
    · show 0 ≤ s1.nxt; omega
    · show s1.nxt ≤ _; omega
    · omega
    · show s1.turn = 0; omega
    · show s1.nxt = 0; omega
    · rw [if_neg (show ¬ s.turn < s1.turn by omega)]; omega
    · omega
    · show i + 1 ≤ _ + 3 * s1.turn + s1.nxt; omega
    · show (if s.turn < s1.turn then 0 else calls) + 1 ≤ (if s1.turn = 0 then _ else 0) + s1.nxt
      rw [if_neg (show ¬ s.turn < s1.turn by omega), if_pos (show s1.turn = 0 by omega)]; omega
    · show s1.turn < turns ∨ turns ≤ 0; omega
  · simp only [List.length_nil] at hl hic hcc
    obtain ⟨e1, e⟩ := again_came ha (by omega) (by omega) (by omega)
    rcases e with ⟨rfl, a2, a3, a4, a5, a6⟩ | ⟨rfl, a2, a3, a4, a5, a6⟩ | ⟨rfl, a2, a3, a4, a5, a6, a7⟩
    · refine ⟨by omega, by omega, fun h => absurd h (by decide), fun _ => ⟨a2, ⟨by omega, ⟨by omega, by omega, by omega, by omega, a6⟩, Nat.zero_le _, fun x hx => absurd hx (by simp), fun h => absurd h (by simp), ?_, by omega, ?_, ?_⟩, by omega⟩⟩
      · rw [if_neg (show ¬ s.turn < s'.turn by omega)]; omega
      · simp only [List.length_nil]; omega
      · simp only [List.length_nil]
        rw [if_neg (show ¬ s.turn < s'.turn by omega), show s'.turn = s.turn by omega]
        omega
    · refine ⟨by omega, by omega, fun h => absurd h (by decide), fun _ => ⟨a2, ⟨by omega, ⟨by omega, by omega, by omega, by omega, a6⟩, Nat.zero_le _, fun x hx => absurd hx (by simp), fun h => absurd h (by simp), ?_, by omega, ?_, ?_⟩, by omega⟩⟩
      · rw [if_pos (show s.turn < s'.turn by omega)]; omega
      · simp only [List.length_nil]; omega
      · rw [if_pos (show s.turn < s'.turn by omega), if_neg (show ¬ s'.turn = 0 by omega)]
        omega
    · exact ⟨by omega, by omega, fun _ => ⟨a2, by omega, rfl, by omega, ⟨by omega, by omega, by omega, a6, a7⟩⟩, fun h => absurd h (by decide)⟩

/-- A task that has ended stays so. -/
theorem may_ended {kind n : Nat} {l' : List (Array Value)} {a : AS} {s s' : TS} {c : Array Value} {b : Bool} (hd : s.turn = s.turns) (hn : NextR kind n [] a s c b l' s') : b = false ∧ s'.turn = s.turn := by
  obtain ⟨s1, hh, hcase⟩ := hn
  obtain ⟨k1, k2, k3⟩ := hh.keep
  rcases hcase with ⟨v, h, _⟩ | ⟨_, _, ha⟩
  · cases h
  · obtain ⟨_, r2, r3⟩ := again_done ha (by omega)
    subst r3
    exact ⟨r2, k2⟩

/-- At the start. -/
theorem may_start (kind : Nat) (s : TS) (turns : Int) (h1 : s.turns = turns) (h2 : s.turn = 0) (h3 : s.nxt = 0) (t0 : 0 ≤ turns) (t1 : turns ≤ 1000) : MayInv kind turns (onceOf kind) s 0 0 := by
  refine ⟨h1, ⟨by omega, by omega, by omega, by omega, by omega⟩, Nat.le_refl _, once_ok kind, fun _ => ⟨h2, h3⟩, by omega, by omega, ?_, ?_⟩
  · rw [h2, h3]; omega
  · rw [if_pos h2, h3]; omega

/-- How many calls there may be. -/
theorem may_calls {kind : Nat} {turns : Int} {l : List (Array Value)} {s : TS} {i calls : Int} (h : MayInv kind turns l s i calls) (h3 : 3 < calls) : ¬ 0 < s.turn ∧ ¬ 6 < calls := by
  obtain ⟨_, hr, _, _, _, _, _, _, hcc⟩ := h
  obtain ⟨r1, r2, r3, r4, r5⟩ := hr
  have hlen := rows_le kind
  have hN := once_le kind
  split at hcc <;> omega

/-- Before the round's bound. -/
theorem may_bound {kind : Nat} {turns : Int} {l : List (Array Value)} {s : TS} {i calls : Int} (h : MayInv kind turns l s i calls) : i < 4 * turns + 10 := by
  obtain ⟨h1, hr, _, _, _, _, _, hic, _⟩ := h
  obtain ⟨r1, r2, r3, r4, r5⟩ := hr
  have hlen := rows_le kind
  have hN := once_le kind
  omega

end Go.Proofs.YtmhnodbmcciifaaDoor
