/- The chapter's examples: the plain law of their calls, and the walk of awake. Each theorem says under which conditions. -/
import Derived.Test.YtmhnodbmcciifaaDoorNew
import Derived.Test.YtmhnodbmcciifaaDoorCount
namespace Go.Proofs.YtmhnodbmcciifaaDoor
open Go.RowKit Flt

def nilS : Value := .slice none 0 0
def answerA (mode : Int) : AS := { code := 0, sub := 0, gen := 0, count := 0, lost := 0, mode := mode, src := 0, hold := false, fl := 0, ep := 0, gens := nilS, words := nilS }
theorem answerA_words (w : World) (mode : Int) : Words w (answerA mode).words := ⟨none, 0, 0, rfl, fun h => absurd h (by omega)⟩

/-- A Mode. -/
def modeC : Array Value := callC 9 0 0 0 0 0 0 false (.slice none 0 0)

theorem heard_nil {a : AS} {s s' : TS} (h : Heard a s s') (hn : s.hear = .nilFunc) : s' = s := by
  rcases h with ⟨_, rfl⟩ | ⟨B, k, s1, hc, _, _⟩
  · rfl
  · rw [hn] at hc; cases hc

theorem heard_look {a : AS} {s s' : TS} {B : Nat} (h : Heard a s s') (hn : s.hear = closure 41 B) (h0 : a.code = 0) : s' = { s with mode := a.mode, src := a.src, hold := a.hold, fl := a.fl, ep := a.ep, hear := .nilFunc } := by
  rcases h with ⟨hc, _⟩ | ⟨B', k, s1, hc, hr, rfl⟩
  · rw [hn] at hc; cases hc
  · rw [hn] at hc
    obtain rfl : 41 = k := by
      simp only [closure, Value.func.injEq, Fn.func.injEq] at hc
      exact hc.1
    rw [hr.2.2.2.2.2.2.2 rfl, if_pos h0]

section
variable {s s' : TS} {c : Array Value} {b : Bool}

theorem look3 (h : Again 3 0 s c b s') (ht : s.turn < s.turns) (h0 : s.nxt = 0) : c = modeC ∧ b = true ∧ s'.turns = s.turns ∧ s'.turn = s.turn ∧ s'.nxt = 1 ∧ ∃ B, s'.hear = closure 41 B := by
  cases h with
  | done _ _ => omega
  | wrap _ _ _ _ _ hn _ => simp [rowsOf] at hn; omega
  | yield _ s2 _ i k _ hi hk hr =>
    obtain rfl : i = 0 := by omega
    cases hk
    obtain ⟨hc, B, rfl⟩ := hr.2.2.2.2.2.1 rfl
    exact ⟨hc, rfl, rfl, rfl, show s.nxt + 1 = 1 by omega, B, rfl⟩
  | skip _ s1 _ c1 _ _ i k _ hi hk hr _ =>
    obtain rfl : i = 0 := by omega
    cases hk
    have := hr.2.2.2.2.1 (by decide)
    cases this

theorem guard3 {g : Array Value} (h : Again 3 0 s c b s') (ht : s.turn < s.turns) (h0 : s.nxt = 1) (hg : guardF s.mode s.fl = (g, true)) : c = g ∧ b = true ∧ s' = { s with nxt := 2 } := by
  cases h with
  | done _ _ => omega
  | wrap _ _ _ _ _ hn _ => simp [rowsOf] at hn; omega
  | yield _ s2 _ i k _ hi hk hr =>
    obtain rfl : i = 1 := by omega
    cases hk
    obtain ⟨rfl, he⟩ := hr.2.2.2.2.2.2.2 rfl
    have := he rfl
    rw [hg] at this
    cases this
    exact ⟨rfl, rfl, by rw [h0]; rfl⟩
  | skip _ s1 _ c1 _ _ i k _ hi hk hr _ =>
    obtain rfl : i = 1 := by omega
    cases hk
    obtain ⟨rfl, he⟩ := hr.2.2.2.2.2.2.2 rfl
    have := he rfl
    rw [hg] at this
    cases this

theorem wrap_at {kind : Nat} (h : Again kind 0 s c b s') (ht : s.turn < s.turns) (h0 : s.nxt = (rowsOf kind).length) : Again kind 0 { s with turn := s.turn + 1, nxt := 0 } c b s' := by
  cases h with
  | done _ _ => omega
  | wrap _ _ _ _ _ _ ha => exact ha
  | yield _ s2 _ i k _ hi hk hr => have := (List.getElem?_eq_some_iff.1 hk).1; omega
  | skip _ s1 _ c1 _ _ i k _ hi hk hr _ => have := (List.getElem?_eq_some_iff.1 hk).1; omega

theorem skip1 {i k : Nat} (h : Again 1 0 s c b s') (ht : s.turn < s.turns) (hi : s.nxt = i) (hk : (rowsOf 1)[i]? = some k) (h2 : k = 25 ∨ k = 26) : Again 1 0 { s with nxt := s.nxt + 1 } c b s' := by
  have hil := (List.getElem?_eq_some_iff.1 hk).1
  cases h with
  | done _ _ => omega
  | wrap _ _ _ _ _ hn _ => omega
  | yield _ s2 _ i' k' _ hi' hk' hr =>
    obtain rfl : i' = i := by omega
    obtain rfl : k' = k := by rw [hk] at hk'; cases hk'; rfl
    obtain ⟨_, he⟩ := hr.2.2.2.2.2.2.1 (by omega)
    have := he rfl
    cases this
  | skip _ s1 _ c1 _ _ i' k' _ hi' hk' hr ha =>
    obtain rfl : i' = i := by omega
    obtain rfl : k' = k := by rw [hk] at hk'; cases hk'; rfl
    obtain ⟨rfl, _⟩ := hr.2.2.2.2.2.2.1 (by omega)
    exact ha

theorem look1 (h : Again 1 0 s c b s') (ht : s.turn < s.turns) (h0 : s.nxt = 2) : c = modeC ∧ b = true ∧ s'.turns = s.turns ∧ s'.turn = s.turn ∧ s'.nxt = 3 ∧ ∃ B, s'.hear = closure 41 B := by
  cases h with
  | done _ _ => omega
  | wrap _ _ _ _ _ hn _ => simp [rowsOf] at hn; omega
  | yield _ s2 _ i k _ hi hk hr =>
    obtain rfl : i = 2 := by omega
    cases hk
    obtain ⟨hc, B, rfl⟩ := hr.2.2.2.2.2.1 rfl
    exact ⟨hc, rfl, rfl, rfl, show s.nxt + 1 = 3 by omega, B, rfl⟩
  | skip _ s1 _ c1 _ _ i k _ hi hk hr _ =>
    obtain rfl : i = 2 := by omega
    cases hk
    have := hr.2.2.2.2.1 (by decide)
    cases this
end

theorem next_again {kind n : Nat} {a : AS} {s s' : TS} {c : Array Value} {b : Bool} {l' : List (Array Value)} (h : NextR kind n [] a s c b l' s') : ∃ s1, Heard a s s1 ∧ l' = [] ∧ Again kind n s1 c b s' := by
  obtain ⟨s1, hh, ⟨v, hv, _⟩ | ⟨_, rfl, ha⟩⟩ := h
  · cases hv
  · exact ⟨s1, hh, rfl, ha⟩

section
variable {a : AS} {s s' : TS} {c : Array Value} {b : Bool} {l' : List (Array Value)}

theorem fs1 (h : NextR 3 0 [] a s c b l' s') (hn : s.hear = .nilFunc) (ht : s.turn < s.turns) (h0 : s.nxt = 0) : c = modeC ∧ b = true ∧ l' = [] ∧ s'.turns = s.turns ∧ s'.turn = s.turn ∧ s'.nxt = 1 ∧ ∃ B, s'.hear = closure 41 B := by
  obtain ⟨s1, hh, rfl, ha⟩ := next_again h
  rw [heard_nil hh hn] at ha
  obtain ⟨r1, r2, r3⟩ := look3 ha ht h0
  exact ⟨r1, r2, rfl, r3⟩

theorem fs2 {g : Array Value} {B : Nat} (h : NextR 3 0 [] a s c b l' s') (hn : s.hear = closure 41 B) (ha0 : a.code = 0) (ht : s.turn < s.turns) (h0 : s.nxt = 1) (hg : guardF a.mode a.fl = (g, true)) :
    c = g ∧ b = true ∧ l' = [] ∧ s'.turns = s.turns ∧ s'.turn = s.turn ∧ s'.nxt = 2 ∧ s'.hear = .nilFunc := by
  obtain ⟨s1, hh, rfl, ha⟩ := next_again h
  rw [heard_look hh hn ha0] at ha
  obtain ⟨r1, r2, rfl⟩ := guard3 ha ht h0 hg
  exact ⟨r1, r2, rfl, rfl, rfl, rfl, rfl⟩

theorem fs3 (h : NextR 3 0 [] a s c b l' s') (hn : s.hear = .nilFunc) (ht : s.turn + 1 < s.turns) (h0 : s.nxt = 2) : c = modeC ∧ b = true ∧ l' = [] ∧ s'.turns = s.turns ∧ s'.turn = s.turn + 1 ∧ s'.nxt = 1 ∧ ∃ B, s'.hear = closure 41 B := by
  obtain ⟨s1, hh, rfl, ha⟩ := next_again h
  rw [heard_nil hh hn] at ha
  obtain ⟨r1, r2, r3⟩ := look3 (wrap_at ha (by omega) h0) ht rfl
  exact ⟨r1, r2, rfl, r3⟩

theorem fs5 (h : NextR 3 0 [] a s c b l' s') (hn : s.hear = .nilFunc) (ht : s.turn + 1 = s.turns) (h0 : s.nxt = 2) : c = zero11 ∧ b = false ∧ l' = [] := by
  obtain ⟨s1, hh, rfl, ha⟩ := next_again h
  rw [heard_nil hh hn] at ha
  obtain ⟨r1, r2, _⟩ := again_done (wrap_at ha (by omega) h0) (show s.turns ≤ s.turn + 1 by omega)
  exact ⟨r1, r2, rfl⟩

theorem cm1 {c0 : Array Value} (h : NextR 1 0 [c0] a s c b l' s') (hn : s.hear = .nilFunc) : c = c0 ∧ b = true ∧ l' = [] ∧ s'.turns = s.turns ∧ s'.turn = s.turn ∧ s'.nxt = s.nxt ∧ s'.hear = .nilFunc := by
  obtain ⟨s1, hh, ⟨v, hv, rfl, rfl⟩ | ⟨hv, _⟩⟩ := h
  · cases hv
    rw [heard_nil hh hn]
    exact ⟨rfl, rfl, rfl, rfl, rfl, rfl, hn⟩
  · cases hv

theorem cm2 (h : NextR 1 0 [] a s c b l' s') (hn : s.hear = .nilFunc) (ht : s.turn < s.turns) (h0 : s.nxt = 0) : c = modeC ∧ b = true ∧ l' = [] ∧ s'.turns = s.turns ∧ s'.turn = s.turn ∧ s'.nxt = 3 ∧ ∃ B, s'.hear = closure 41 B := by
  obtain ⟨s1, hh, rfl, ha⟩ := next_again h
  rw [heard_nil hh hn] at ha
  have h1 := skip1 (i := 0) ha ht h0 rfl (.inl rfl)
  have h2 := skip1 (i := 1) h1 ht (show s.nxt + 1 = 1 by omega) rfl (.inr rfl)
  obtain ⟨r1, r2, r3⟩ := look1 h2 ht (show s.nxt + 1 + 1 = 2 by omega)
  exact ⟨r1, r2, rfl, r3⟩

theorem cm3 {B : Nat} (h : NextR 1 0 [] a s c b l' s') (hn : s.hear = closure 41 B) (ha0 : a.code = 0) (ht : s.turn + 1 = s.turns) (h0 : s.nxt = 3) : c = zero11 ∧ b = false ∧ l' = [] := by
  obtain ⟨s1, hh, rfl, ha⟩ := next_again h
  rw [heard_look hh hn ha0] at ha
  obtain ⟨r1, r2, _⟩ := again_done (wrap_at ha (show s.turn < s.turns by omega) h0) (show s.turns ≤ s.turn + 1 by omega)
  exact ⟨r1, r2, rfl⟩
end

end Go.Proofs.YtmhnodbmcciifaaDoor
