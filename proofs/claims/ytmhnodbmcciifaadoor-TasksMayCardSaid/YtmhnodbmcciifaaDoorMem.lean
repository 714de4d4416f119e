/- Words on memory for this seat's walks: a block that is known whole, and what stays known of it. Plain lemmas, no condition beside what each states. -/
import Derived.WalkKit
import Derived.WalkLawsBesides
import Derived.Lib.Hide
import Derived.Laws.IdiomCopy
namespace Go.Proofs.YtmhnodbmcciifaaDoor
open Go.RowKit

@[go_sem] theorem store_complex (P : Program) (w : World) (a : Addr) (m : Mode) (k : FloatKind) (x y : Nat) : (store a (.complex k x y) m).run P w = stored P w a (.complex k x y) m := run_store P w a _ m rfl
@[go_sem] theorem store_float (P : Program) (w : World) (a : Addr) (m : Mode) (k : FloatKind) (x : Nat) : (store a (.float k x) m).run P w = stored P w a (.float k x) m := run_store P w a _ m rfl

/-- Block 'g' is just the cells 'cs' of type 't', all of them free. -/
def Own (w : World) (g : Nat) (t : TypeId) (cs : Array Value) : Prop := w.heap[g]? = some (.cells cs t (0, 0))

section
variable {w w' : World} {g : Nat} {t : TypeId} {cs : Array Value}

theorem Own.lt (h : Own w g t cs) : g < w.heap.size := by
  rcases Nat.lt_or_ge g w.heap.size with hlt | hge
  · exact hlt
  · unfold Own at h; rw [Array.getElem?_eq_none hge] at h; cases h

theorem Own.cell (h : Own w g t cs) (i : Nat) : w.cell? ⟨g, i, none⟩ = cs[i]? := cell_of_row w g i cs t (0, 0) h

theorem Own.free (h : Own w g t cs) (i : Nat) : w.frozen? ⟨g, i, none⟩ = false := by
  unfold Own at h
  simp [World.frozen?, h]

theorem Own.new (w : World) (t : TypeId) (cs : Array Value) : Own (w.alloc (.cells cs t)) w.heap.size t cs := heap_alloc_new w _

theorem Own.drew (h : Own w g t cs) : Own w.drew g t cs := h
theorem Own.drewN (h : Own w g t cs) (n : Nat) : Own (w.drewN n) g t cs := h

theorem Own.alloc (h : Own w g t cs) (o : Obj) : Own (w.alloc o) g t cs := (Below.heap_alloc w o g h.lt).trans h

theorem Own.put (h : Own w g t cs) (i : Nat) (u : Value) : Own (w.setCell ⟨g, i, none⟩ u) g t (cs.setIfInBounds i u) := by
  unfold Own at h ⊢
  simp [World.setCell, Array.getElem?_modify, h]

theorem Own.far (h : Own w g t cs) {p : Addr} (hp : g ≠ p.block) (u : Value) : Own (w.setCell p u) g t cs := (Below.heap_setCell w p u g hp).trans h

theorem Own.below {B : Nat} (h : Own w g t cs) (hb : Below B w w') (hg : g < B) : Own w' g t cs := (hb.block g hg).trans h

theorem Own.call (h : Own w g t cs) (hb : Below w.heap.size w w') : Own w' g t cs := h.below hb h.lt

theorem Own.grown {row : Option Nat} (h : Own w g t cs) (hb : w.grownBy w' row) (hg : some g ≠ row) : Own w' g t cs := (hb.block g h.lt hg).trans h

end

/-- What a cell holds. -/
def val (w : World) (p : Addr) : Value := (w.cell? p).getD undef

/-- Block 'g' has 'n' cells of type 't', all of them free. -/
def Has (w : World) (g : Nat) (t : TypeId) (n : Nat) : Prop := ∃ cs, cs.size = n ∧ Own w g t cs

section
variable {w w' : World} {g : Nat} {t : TypeId} {n : Nat} {cs : Array Value}
theorem Own.has (h : Own w g t cs) : Has w g t cs.size := ⟨cs, rfl, h⟩
theorem Has.lt (h : Has w g t n) : g < w.heap.size := by obtain ⟨cs, _, h⟩ := h; exact h.lt
theorem Has.cell (h : Has w g t n) {i : Nat} (hi : i < n) : w.cell? ⟨g, i, none⟩ = some (val w ⟨g, i, none⟩) := by
  obtain ⟨cs, rfl, h⟩ := h
  unfold val
  rw [h.cell i, Array.getElem?_eq_getElem hi]; rfl
theorem Has.free (h : Has w g t n) (i : Nat) : w.frozen? ⟨g, i, none⟩ = false := by obtain ⟨cs, _, h⟩ := h; exact h.free i
theorem Has.drew (h : Has w g t n) : Has w.drew g t n := h
theorem Has.drewN (h : Has w g t n) (k : Nat) : Has (w.drewN k) g t n := h
theorem Has.alloc (h : Has w g t n) (o : Obj) : Has (w.alloc o) g t n := by obtain ⟨cs, e, h⟩ := h; exact ⟨cs, e, h.alloc o⟩
theorem Has.call (h : Has w g t n) (hb : Below w.heap.size w w') : Has w' g t n := by obtain ⟨cs, e, h⟩ := h; exact ⟨cs, e, h.call hb⟩
theorem Has.put (h : Has w g t n) (i : Nat) (u : Value) : Has (w.setCell ⟨g, i, none⟩ u) g t n := by obtain ⟨cs, e, h⟩ := h; exact ⟨_, by simpa using e, h.put i u⟩
theorem Has.of_put {i : Nat} {u : Value} (h : Has (w.setCell ⟨g, i, none⟩ u) g t n) : Has w g t n := by
  obtain ⟨cs, e, h⟩ := h
  unfold Own at h
  simp only [World.setCell, Array.getElem?_modify, if_true] at h
  cases hg : w.heap[g]? with
  | none => rw [hg] at h; cases h
  | some o =>
    rw [hg] at h
    cases o with
    | cells c t' f =>
      simp only [Option.map_some, Option.some.injEq, Obj.cells.injEq] at h
      obtain ⟨h1, rfl, rfl⟩ := h
      exact ⟨c, by rw [← e, ← h1]; simp, hg⟩
    | _ => simp at h
theorem Has.one (h : Has w g t 1) (a : Value) : Own (w.setCell ⟨g, 0, none⟩ a) g t #[a] := by
  obtain ⟨cs, e, h⟩ := h
  have := h.put 0 a
  have e1 : cs.setIfInBounds 0 a = #[a] := by
    match cs, e with
    | ⟨[x]⟩, _ => rfl
  rwa [e1] at this
theorem Has.two (h : Has w g t 2) (a b : Value) : Own ((w.setCell ⟨g, 0, none⟩ a).setCell ⟨g, 1, none⟩ b) g t #[a, b] := by
  obtain ⟨cs, e, h⟩ := h
  have := (h.put 0 a).put 1 b
  have e1 : (cs.setIfInBounds 0 a).setIfInBounds 1 b = #[a, b] := by
    match cs, e with
    | ⟨[x, y]⟩, _ => rfl
  rwa [e1] at this
theorem Has.three (h : Has w g t 3) (a b c : Value) : Own (((w.setCell ⟨g, 0, none⟩ a).setCell ⟨g, 1, none⟩ b).setCell ⟨g, 2, none⟩ c) g t #[a, b, c] := by
  obtain ⟨cs, e, h⟩ := h
  have := ((h.put 0 a).put 1 b).put 2 c
  have e1 : ((cs.setIfInBounds 0 a).setIfInBounds 1 b).setIfInBounds 2 c = #[a, b, c] := by
    match cs, e with
    | ⟨[x, y, z]⟩, _ => rfl
  rwa [e1] at this
theorem Has.far (h : Has w g t n) {p : Addr} (hp : g ≠ p.block) (u : Value) : Has (w.setCell p u) g t n := by obtain ⟨cs, e, h⟩ := h; exact ⟨cs, e, h.far hp u⟩
end

theorem below_drewN {B : Nat} {a w : World} (h : Below B a w) (n : Nat) : Below B a (w.drewN n) := ⟨h.os, h.tape, h.output, h.size, h.block⟩

/-- A call that leaves what was there as it was, behind what did so from 'B' on. -/
theorem _root_.Go.RowKit.Below.call {B : Nat} {w w1 w2 : World} (h : Below B w w1) (h0 : B ≤ w1.heap.size) (hb : Below w1.heap.size w1 w2) : Below B w w2 := h.trans (hb.mono h0)

/-- What was there reads as it did. -/
theorem bcell {W w1 : World} (hb : Below W.heap.size W w1) : (∀ b o, b < W.heap.size → w1.cell? ⟨b, o, none⟩ = W.cell? ⟨b, o, none⟩) ∧ (∀ b o, b < W.heap.size → w1.frozen? ⟨b, o, none⟩ = W.frozen? ⟨b, o, none⟩) :=
  ⟨fun b o h => hb.cell (p := ⟨b, o, none⟩) h, fun b o h => hb.frozen (p := ⟨b, o, none⟩) h⟩

/-- A struct of two cells that a call has boxed first is as it was, and so is all that was there ahead of the call. -/
def Boxed2 (w : World) (t : TypeId) (u v : Value) (w' : World) : Prop :=
  w'.cell? ⟨w.heap.size, 0, none⟩ = some u ∧ w'.cell? ⟨w.heap.size, 1, none⟩ = some v ∧ Own w' w.heap.size t #[u, v] ∧ Below w.heap.size w w'

theorem Boxed2.of {w w' : World} {t : TypeId} {u v : Value} (h : Own w' w.heap.size t #[u, v]) (hb : Below w.heap.size w w') : Boxed2 w t u v w' := ⟨h.cell 0, h.cell 1, h, hb⟩
theorem Boxed2.start (w : World) (t : TypeId) (u v : Value) : Boxed2 w t u v (w.alloc (.cells #[u, v] t)).drew := .of (Own.new _ _ _).drew ((Below.refl _ _).alloc (Nat.le_refl _) _).drew
theorem Boxed2.call {w w1 w2 : World} {t : TypeId} {u v : Value} (h : Boxed2 w t u v w1) (hb : Below w1.heap.size w1 w2) : Boxed2 w t u v w2 := .of (h.2.2.1.call hb) (h.2.2.2.call (by have := h.2.2.1.lt; omega) hb)

/-- The same with three cells. -/
def Boxed3 (w : World) (t : TypeId) (u v x : Value) (w' : World) : Prop :=
  w'.cell? ⟨w.heap.size, 0, none⟩ = some u ∧ w'.cell? ⟨w.heap.size, 1, none⟩ = some v ∧ w'.cell? ⟨w.heap.size, 2, none⟩ = some x ∧ Own w' w.heap.size t #[u, v, x] ∧ Below w.heap.size w w'

theorem Boxed3.of {w w' : World} {t : TypeId} {u v x : Value} (h : Own w' w.heap.size t #[u, v, x]) (hb : Below w.heap.size w w') : Boxed3 w t u v x w' := ⟨h.cell 0, h.cell 1, h.cell 2, h, hb⟩
theorem Boxed3.start (w : World) (t : TypeId) (u v x : Value) : Boxed3 w t u v x (w.alloc (.cells #[u, v, x] t)).drew := .of (Own.new _ _ _).drew ((Below.refl _ _).alloc (Nat.le_refl _) _).drew
theorem Boxed3.call {w w1 w2 : World} {t : TypeId} {u v x : Value} (h : Boxed3 w t u v x w1) (hb : Below w1.heap.size w1 w2) : Boxed3 w t u v x w2 := .of (h.2.2.2.1.call hb) (h.2.2.2.2.call (by have := h.2.2.2.1.lt; omega) hb)

/-- 'Below' as the append laws' word. -/
theorem grown_below {w w' : World} (h : Below w.heap.size w w') (row : Option Nat) : w.grownBy w' row := ⟨h.os, h.tape, h.output, h.size, fun k hk _ => h.block k hk⟩

/-- 'copy' of elements of 'size' cells each. -/
theorem run_copy_elems {P : Program} (w : World) (dT sT ty elem : TypeId) (b o dLen dCap : Nat) (a : Addr) (sLen sCap size n : Nat) (cs : List Value)
    (hu : P.underlying dT = some (.slice elem)) (hs : (P.info? elem).map (·.size) = some size) (hm : Nat.min sLen dLen = n) (hn : cs.length = n * size)
    (hsrc : ∀ j v, cs[j]? = some v → w.cell? (a.add j) = some v) (hc : ∀ j, j < cs.length → (w.cell? ⟨b, o + j, none⟩).isSome = true) (hf : ∀ j, j < cs.length → w.frozen? ⟨b, o + j, none⟩ = false) (h1 : ∀ v ∈ cs, v.oneCell' = true) :
    (Builtin.copy_ #[dT, sT] ty #[.slice (some ⟨b, o, none⟩) dLen dCap, .slice (some a) sLen sCap]).run P w = .ok (goInt n) (w.setCells b o cs) := by
  have hl := run_loadCells_list (P := P) w a cs hsrc
  have hst := run_storeCells_cells (P := P) b o cs 0 w (by simpa using hc) (by simpa using hf) h1
  cases hq : P.info? elem with
  | none => simp [hq] at hs
  | some i =>
    have hi : i.size = size := by simpa [hq] using hs
    simp [Builtin.copy_, run_underlying hu, Builtin.lenOf, Builtin.firstCells, sizeOf, typeInfo, hq, hi, hm, ← hn, hl, hst]

end Go.Proofs.YtmhnodbmcciifaaDoor
