/- A task's memory: its block, what it points to, and what a step may turn. Plain words and lemmas, no condition beside what each states. -/
import Derived.Test.YtmhnodbmcciifaaDoorRecE
namespace Go.Proofs.YtmhnodbmcciifaaDoor
open Go.RowKit Flt

/-- Of what was there, block 'T' alone may have turned. -/
structure Chg (T : Nat) (a w : World) : Prop where
  os : w.os = a.os
  tape : w.tape = a.tape
  output : w.output = a.output
  size : a.heap.size ≤ w.heap.size
  block : ∀ k, k < a.heap.size → k ≠ T → w.heap[k]? = a.heap[k]?

theorem Chg.refl (T : Nat) (a : World) : Chg T a a := ⟨rfl, rfl, rfl, Nat.le_refl _, fun _ _ _ => rfl⟩
theorem Chg.trans {T : Nat} {a b c : World} (h : Chg T a b) (k : Chg T b c) : Chg T a c :=
  ⟨k.os.trans h.os, k.tape.trans h.tape, k.output.trans h.output, Nat.le_trans h.size k.size, fun i hi ht => (k.block i (Nat.lt_of_lt_of_le hi h.size) ht).trans (h.block i hi ht)⟩
theorem Chg.of_below {T : Nat} {a w : World} (h : Below a.heap.size a w) : Chg T a w := ⟨h.os, h.tape, h.output, h.size, fun k hk _ => h.block k hk⟩
theorem Chg.below {T : Nat} {a b c : World} (h : Chg T a b) (k : Below b.heap.size b c) : Chg T a c := h.trans (.of_below k)
theorem Chg.alloc {T : Nat} {a w : World} (h : Chg T a w) (o : Obj) : Chg T a (w.alloc o) := h.below ((Below.refl _ _).alloc (Nat.le_refl _) o)
theorem Chg.drew {T : Nat} {a w : World} (h : Chg T a w) : Chg T a w.drew := h.below (Below.refl _ _).drew
theorem Chg.setCell {T : Nat} {a w : World} (h : Chg T a w) {p : Addr} (hp : p.block = T ∨ a.heap.size ≤ p.block) (u : Value) : Chg T a (w.setCell p u) := by
  refine ⟨h.os, h.tape, h.output, by have := h.size; simp [World.setCell]; omega, fun k hk ht => ?_⟩
  rw [Below.heap_setCell w p u k (by omega)]
  exact h.block k hk ht
theorem Own.chg {T : Nat} {w w' : World} {g : Nat} {t : TypeId} {cs : Array Value} (ho : Own w g t cs) (h : Chg T w w') (hg : g ≠ T) : Own w' g t cs := (h.block g ho.lt hg).trans ho
theorem Chg.cell {T : Nat} {w w' : World} (h : Chg T w w') {b : Nat} (o : Nat) (hb : b < w.heap.size) (hT : b ≠ T) : w'.cell? ⟨b, o, none⟩ = w.cell? ⟨b, o, none⟩ := World.cell?_of_block (w := w) (h.block b hb hT)

/-- A task, as plain data. -/
structure TS where
  os : Value
  turns : Int
  turn : Int
  tb : Value
  nxt : Int
  once : Value
  hear : Value
  ax : Nat
  ay : Nat
  gx : Nat
  gy : Nat
  nx : Nat
  ny : Nat
  zx : Nat
  zy : Nat
  mode : Int
  src : Int
  hold : Bool
  fl : Int
  ep : Int

def TS.row (s : TS) : Array Value := #[s.os, .int .i64 s.turns, .int .i64 s.turn, s.tb, .int .i64 s.nxt, s.once, s.hear, .complex .f64 s.ax s.ay, .complex .f64 s.gx s.gy, .complex .f64 s.nx s.ny, .complex .f64 s.zx s.zy,
  .int .i64 s.mode, .int .i64 s.src, .bool s.hold, .int .i64 s.fl, .int .u64 s.ep]

/-- The cells of a task's block. -/
theorem row_cells {w : World} {T : Nat} {s : TS} (h : Own w T 70 s.row) :
    w.cell? ⟨T, 0, none⟩ = some s.os ∧ w.cell? ⟨T, 1, none⟩ = some (.int .i64 s.turns) ∧ w.cell? ⟨T, 2, none⟩ = some (.int .i64 s.turn) ∧ w.cell? ⟨T, 3, none⟩ = some s.tb ∧ w.cell? ⟨T, 4, none⟩ = some (.int .i64 s.nxt) ∧
    w.cell? ⟨T, 5, none⟩ = some s.once ∧ w.cell? ⟨T, 6, none⟩ = some s.hear ∧ w.cell? ⟨T, 7, none⟩ = some (.complex .f64 s.ax s.ay) ∧ w.cell? ⟨T, 8, none⟩ = some (.complex .f64 s.gx s.gy) ∧ w.cell? ⟨T, 9, none⟩ = some (.complex .f64 s.nx s.ny) ∧
    w.cell? ⟨T, 10, none⟩ = some (.complex .f64 s.zx s.zy) ∧ w.cell? ⟨T, 11, none⟩ = some (.int .i64 s.mode) ∧ w.cell? ⟨T, 12, none⟩ = some (.int .i64 s.src) ∧ w.cell? ⟨T, 13, none⟩ = some (.bool s.hold) ∧ w.cell? ⟨T, 14, none⟩ = some (.int .i64 s.fl) ∧ w.cell? ⟨T, 15, none⟩ = some (.int .u64 s.ep) :=
  ⟨h.cell 0, h.cell 1, h.cell 2, h.cell 3, h.cell 4, h.cell 5, h.cell 6, h.cell 7, h.cell 8, h.cell 9, h.cell 10, h.cell 11, h.cell 12, h.cell 13, h.cell 14, h.cell 15⟩

/-- One order in its row. -/
def OrderAt (w : World) (b i : Nat) (t m f : Int) (x y : Nat) : Prop :=
  w.cell? ⟨b, i * 4, none⟩ = some (.int .i64 t) ∧ w.cell? ⟨b, i * 4 + 1, none⟩ = some (.int .i64 m) ∧ w.cell? ⟨b, i * 4 + 2, none⟩ = some (.int .i64 f) ∧ w.cell? ⟨b, i * 4 + 3, none⟩ = some (.complex .f64 x y)

def OrderGood (m f : Int) (x y : Nat) : Prop := 0 ≤ m ∧ m < 8 ∧ 0 ≤ f ∧ f < 64 ∧ mayB x y = true

/-- A task's orders. -/
def Orders (w : World) (T : Nat) (v : Value) (n : Nat) : Prop :=
  ∃ (A : Option Addr) (c : Nat), v = .slice A n c ∧ n ≤ 64 ∧ (0 < n → ∃ (b : Nat) (t m f : Nat → Int) (x y : Nat → Nat), A = some ⟨b, 0, none⟩ ∧ b ≠ T ∧ b < w.heap.size ∧ (∀ i, i < n → OrderAt w b i (t i) (m i) (f i) (x i) (y i)) ∧ ∀ i, i < n → OrderGood (m i) (f i) (x i) (y i))

theorem Orders.chg {w w' : World} {T n : Nat} {v : Value} (h : Orders w T v n) (hc : Chg T w w') : Orders w' T v n := by
  obtain ⟨A, c, hv, hn, h⟩ := h
  refine ⟨A, c, hv, hn, fun h0 => ?_⟩
  obtain ⟨b, t, m, f, x, y, hA, hb, hlt, hat, hg⟩ := h h0
  refine ⟨b, t, m, f, x, y, hA, hb, Nat.lt_of_lt_of_le hlt hc.size, fun i hi => ?_, hg⟩
  obtain ⟨h1, h2, h3, h4⟩ := hat i hi
  exact ⟨(hc.cell _ hlt hb).trans h1, (hc.cell _ hlt hb).trans h2, (hc.cell _ hlt hb).trans h3, (hc.cell _ hlt hb).trans h4⟩

/-- What a task does behind the answer. -/
def HearOK (w : World) (T : Nat) (v : Value) : Prop :=
  v = .nilFunc ∨ ∃ B k, (k = 34 ∨ k = 41 ∨ k = 42) ∧ v = .func (.func k) #[] #[.pointer (some ⟨B, 0, none⟩)] ∧ B ≠ T ∧ Own w B 28 #[.pointer (some ⟨T, 0, none⟩)]

theorem HearOK.chg {w w' : World} {T : Nat} {v : Value} (h : HearOK w T v) (hc : Chg T w w') : HearOK w' T v := by
  rcases h with h | ⟨B, k, hk, hv, hB, ho⟩
  · exact .inl h
  · exact .inr ⟨B, k, hk, hv, hB, ho.chg hc hB⟩

/-- The calls of a kind's turn, by their functions. -/
def rowsOf : Nat → List Nat
  | 0 => [22, 23, 24]
  | 1 => [25, 26, 27]
  | 2 => [28, 27, 29]
  | _ => [27, 30]

def bound (T k : Nat) : Value := .func (.func k) #[.pointer (some ⟨T, 0, none⟩)] #[]

def TableOK (w : World) (T : Nat) (kind : Nat) (v : Value) : Prop :=
  ∃ B t, v = .slice (some ⟨B, 0, none⟩) (rowsOf kind).length (rowsOf kind).length ∧ B ≠ T ∧ Own w B t ((rowsOf kind).map (bound T)).toArray

theorem TableOK.chg {w w' : World} {T kind : Nat} {v : Value} (h : TableOK w T kind v) (hc : Chg T w w') : TableOK w' T kind v := by
  obtain ⟨B, t, hv, hB, ho⟩ := h
  exact ⟨B, t, hv, hB, ho.chg hc hB⟩

/-- A call, as its cells. -/
def callC (k t cap rank src mode fl : Int) (free : Bool) (words : Value) : Array Value :=
  #[.int .i64 k, .int .i64 t, .int .i64 0, .int .i64 cap, .int .i64 rank, .int .i64 src, .int .i64 mode, .int .i64 fl, .bool free, .slice none 0 0, words]

/-- Calls that may be. -/
def CallOK (cs : Array Value) : Prop :=
  (∃ t, 0 ≤ t ∧ t < 3 ∧ cs = callC 0 t 0 0 0 0 0 false (.slice none 0 0)) ∨ (∃ t q n, 0 ≤ t ∧ t < 3 ∧ (n = 1 ∨ n = 3) ∧ cs = callC 1 t 0 0 0 0 0 false (.slice (some ⟨q, 0, none⟩) n n)) ∨
  cs = callC 2 2 0 0 0 0 0 false (.slice none 0 0) ∨ cs = callC 4 0 1 0 0 0 0 false (.slice none 0 0) ∨ cs = callC 4 1 2 1 0 0 0 false (.slice none 0 0) ∨ cs = callC 5 0 0 0 0 0 0 false (.slice none 0 0) ∨
  (∃ src m free, (src = 2 ∨ src = 3) ∧ 0 ≤ m ∧ m < 8 ∧ cs = callC 7 0 0 0 src m 0 free (.slice none 0 0)) ∨ (∃ f, 0 ≤ f ∧ f < 64 ∧ cs = callC 8 0 0 0 0 0 f false (.slice none 0 0)) ∨ cs = callC 9 0 0 0 0 0 0 false (.slice none 0 0)

/-- What a task calls once. -/
def onceOf : Nat → List (Array Value)
  | 0 => [callC 0 0 0 0 0 0 0 false (.slice none 0 0)]
  | 1 => [callC 0 1 0 0 0 0 0 false (.slice none 0 0)]
  | 2 => [callC 0 2 0 0 0 0 0 false (.slice none 0 0), callC 4 0 1 0 0 0 0 false (.slice none 0 0), callC 4 1 2 1 0 0 0 false (.slice none 0 0)]
  | _ => []

/-- The calls 'l' lie in the slice 'v'. -/
def OnceOK (w : World) (T : Nat) (l : List (Array Value)) (v : Value) : Prop :=
  ∃ (A : Option Addr) (c : Nat), v = .slice A l.length c ∧ l.length ≤ c ∧ (0 < l.length → ∃ b off, A = some ⟨b, off, none⟩ ∧ b ≠ T ∧ b < w.heap.size ∧ ∀ i, i < l.length → ∀ j, j < 11 → w.cell? ⟨b, off + i * 11 + j, none⟩ = (l.getD i #[])[j]?)

theorem OnceOK.chg {w w' : World} {T : Nat} {l : List (Array Value)} {v : Value} (h : OnceOK w T l v) (hc : Chg T w w') : OnceOK w' T l v := by
  obtain ⟨A, c, hv, hcap, h⟩ := h
  refine ⟨A, c, hv, hcap, fun h0 => ?_⟩
  obtain ⟨b, off, hA, hb, hlt, hat⟩ := h h0
  exact ⟨b, off, hA, hb, Nat.lt_of_lt_of_le hlt hc.size, fun i hi j hj => (hc.cell _ hlt hb).trans (hat i hi j hj)⟩

/-- A task in memory: of kind 'kind', with 'n' orders, and the calls 'l' that it will still make once. -/
structure TaskI (w : World) (T kind n : Nat) (l : List (Array Value)) (s : TS) : Prop where
  own : Own w T 70 s.row
  orders : Orders w T s.os n
  table : TableOK w T kind s.tb
  once : OnceOK w T l s.once
  hear : HearOK w T s.hear
  pose : PoseOK s.ax s.ay s.gx s.gy s.nx s.ny
  goal : mayB s.zx s.zy = true

theorem TaskI.lt {w : World} {T kind n : Nat} {l : List (Array Value)} {s : TS} (h : TaskI w T kind n l s) : T < w.heap.size := h.own.lt

/-- Calls that leave what was there leave a task as it was. -/
theorem TaskI.below {w w' : World} {T kind n : Nat} {l : List (Array Value)} {s : TS} (h : TaskI w T kind n l s) (hb : Below w.heap.size w w') : TaskI w' T kind n l s :=
  ⟨h.own.call hb, h.orders.chg (.of_below hb), h.table.chg (.of_below hb), h.once.chg (.of_below hb), h.hear.chg (.of_below hb), h.pose, h.goal⟩

/-- A step that has turned the task's block. -/
theorem TaskI.step {w w' : World} {T kind n : Nat} {l : List (Array Value)} {s s' : TS} (h : TaskI w T kind n l s) (hc : Chg T w w') (ho : Own w' T 70 s'.row) (e1 : s'.os = s.os) (e2 : s'.tb = s.tb) (e3 : s'.once = s.once)
    (h4 : HearOK w' T s'.hear) (h5 : PoseOK s'.ax s'.ay s'.gx s'.gy s'.nx s'.ny) (h6 : mayB s'.zx s'.zy = true) : TaskI w' T kind n l s' :=
  ⟨ho, e1 ▸ h.orders.chg hc, e2 ▸ h.table.chg hc, e3 ▸ h.once.chg hc, h4, h5, h6⟩

end Go.Proofs.YtmhnodbmcciifaaDoor
