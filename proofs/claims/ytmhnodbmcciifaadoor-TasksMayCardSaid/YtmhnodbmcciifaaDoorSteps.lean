/- The functions of a task's table: their walks. Each theorem says under which conditions. -/
import Derived.Test.YtmhnodbmcciifaaDoorOrder
namespace Go.Proofs.YtmhnodbmcciifaaDoor
open Go.RowKit Flt

@[go_sem] theorem store_func (P : Program) (w : World) (a : Addr) (m : Mode) (f : Fn) (x y : Array Value) : (store a (.func f x y) m).run P w = stored P w a (.func f x y) m := run_store P w a _ m rfl
@[go_sem] theorem store_nilFunc (P : Program) (w : World) (a : Addr) (m : Mode) : (store a .nilFunc m).run P w = stored P w a .nilFunc m := run_store P w a _ m rfl

def sureB (fl : Int) : Bool := bits .and .i64 fl 5 != 5

/-- What guard tells where there is no order. -/
def guardF (mode fl : Int) : Array Value × Bool :=
  if mode = 1 ∨ mode = 2 ∨ mode = 3 ∨ mode = 4 ∨ mode = 5 then (callC 7 0 0 0 3 7 0 false (.slice none 0 0), sureB fl)
  else if mode = 7 then (callC 7 0 0 0 3 6 0 true (.slice none 0 0), true) else (callC 7 0 0 0 3 0 0 false (.slice none 0 0), false)

def closure (k B : Nat) : Value := .func (.func k) #[] #[.pointer (some ⟨B, 0, none⟩)]

/-- What function number 'k' of a table does. -/
def Row (k n : Nat) (s : TS) (c : Array Value) (b : Bool) (s' : TS) : Prop :=
  CallOK c ∧ s'.turns = s.turns ∧ s'.turn = s.turn ∧ (s'.nxt = s.nxt ∧ s'.tb = s.tb) ∧ (k = 22 ∨ k = 23 ∨ k = 27 ∨ k = 28 ∨ k = 29 → b = true) ∧
  (k = 27 → c = callC 9 0 0 0 0 0 0 false (.slice none 0 0) ∧ ∃ B, s' = { s with hear := closure 41 B }) ∧
  (k = 24 ∨ k = 25 ∨ k = 26 → s' = s ∧ (n = 0 → b = false)) ∧ (k = 30 → s' = s ∧ (n = 0 → (c, b) = guardF s.mode s.fl))

def StepPost (k T kind n : Nat) (l : List (Array Value)) (s : TS) (w : World) (e : Ending) (w' : World) : Prop :=
  ∃ c b s', e = .returned (.tuple #[.agg c, .bool b]) ∧ Row k n s c b s' ∧ TaskI w' T kind n l s' ∧ Chg T w w'

def zero11 : Array Value := #[.int .i64 0, .int .i64 0, .int .i64 0, .int .i64 0, .int .i64 0, .int .i64 0, .int .i64 0, .int .i64 0, .bool false, .slice none 0 0, .slice none 0 0]

/-- The cells of a call's block. -/
theorem Own.c11 {w : World} {g : Nat} {t : TypeId} {a b c d e f h i j k l : Value} (o : Own w g t #[a, b, c, d, e, f, h, i, j, k, l]) :
    (w.cell? ⟨g, 0, none⟩ = some a ∧ w.cell? ⟨g, 1, none⟩ = some b ∧ w.cell? ⟨g, 2, none⟩ = some c ∧ w.cell? ⟨g, 3, none⟩ = some d ∧ w.cell? ⟨g, 4, none⟩ = some e ∧ w.cell? ⟨g, 5, none⟩ = some f ∧ w.cell? ⟨g, 6, none⟩ = some h ∧ w.cell? ⟨g, 7, none⟩ = some i ∧ w.cell? ⟨g, 8, none⟩ = some j ∧ w.cell? ⟨g, 9, none⟩ = some k ∧ w.cell? ⟨g, 10, none⟩ = some l) ∧
    w.frozen? ⟨g, 0, none⟩ = false ∧ w.frozen? ⟨g, 1, none⟩ = false ∧ w.frozen? ⟨g, 2, none⟩ = false ∧ w.frozen? ⟨g, 3, none⟩ = false ∧ w.frozen? ⟨g, 4, none⟩ = false ∧ w.frozen? ⟨g, 5, none⟩ = false ∧ w.frozen? ⟨g, 6, none⟩ = false ∧ w.frozen? ⟨g, 7, none⟩ = false ∧ w.frozen? ⟨g, 8, none⟩ = false ∧ w.frozen? ⟨g, 9, none⟩ = false ∧ w.frozen? ⟨g, 10, none⟩ = false :=
  ⟨⟨o.cell 0, o.cell 1, o.cell 2, o.cell 3, o.cell 4, o.cell 5, o.cell 6, o.cell 7, o.cell 8, o.cell 9, o.cell 10⟩, o.free 0, o.free 1, o.free 2, o.free 3, o.free 4, o.free 5, o.free 6, o.free 7, o.free 8, o.free 9, o.free 10⟩

theorem size_setCell (w : World) (p : Addr) (u : Value) : (w.setCell p u).heap.size = w.heap.size := by simp [World.setCell]

/-- What is done behind the answer, laid anew. -/
theorem hear_new {w : World} {T kind n : Nat} {l : List (Array Value)} {s : TS} (h : TaskI w T kind n l s) {k : Nat} (hk : k = 34 ∨ k = 41 ∨ k = 42) (o : Obj) :
    TaskI (((w.setCell ⟨T, 6, none⟩ (closure k w.heap.size)).alloc (.cells #[.pointer (some ⟨T, 0, none⟩)] 28)).alloc o) T kind n l { s with hear := closure k w.heap.size } ∧
    Chg T w (((w.setCell ⟨T, 6, none⟩ (closure k w.heap.size)).alloc (.cells #[.pointer (some ⟨T, 0, none⟩)] 28)).alloc o) := by
  have hc : Chg T w (((w.setCell ⟨T, 6, none⟩ (closure k w.heap.size)).alloc (.cells #[.pointer (some ⟨T, 0, none⟩)] 28)).alloc o) := (((Chg.refl T w).setCell (.inl rfl) _).alloc _).alloc _
  have hlt := h.lt
  refine ⟨h.step hc (((h.own.put 6 (closure k w.heap.size)).alloc _).alloc _) rfl rfl rfl (.inr ⟨w.heap.size, k, hk, rfl, by omega, ?_⟩) h.pose h.goal, hc⟩
  have := (Own.new (w.setCell ⟨T, 6, none⟩ (closure k w.heap.size)) 28 #[.pointer (some ⟨T, 0, none⟩)]).alloc o
  rwa [size_setCell] at this

theorem listen_ok (T kind n : Nat) (l : List (Array Value)) (s : TS) (w : World) (h : TaskI w T kind n l s) : Calls Tryd.prog 22 #[.pointer (some ⟨T, 0, none⟩)] w (StepPost 22 T kind n l s w) := by
  have hmf : ∀ (fn : Fn) (first cap : Array Value) (w : World), (Instr.makeFunc fn first cap).run Tryd.prog w = .ok (.func fn first cap) w := fun _ _ _ _ => rfl
  have lT := h.lt
  obtain ⟨_, _, _, _, _, _, c6, _⟩ := row_cells h.own
  have f6 := h.own.free 6
  have HT := Lib.hid h
  clear h
  go_enter Tryd.func22, Tryd.ntmps22
  go_wp2_with fail
  refine bodyPost_ret (v := .tuple #[.agg (callC 2 2 0 0 0 0 0 false (.slice none 0 0)), .bool true]) (by simp [results, Tryd.results22, go_sem, callC]) rfl ⟨_, _, { s with hear := closure 34 w.heap.size }, rfl, ?_, hear_new HT.out (.inl rfl) _⟩
  refine ⟨.inr (.inr (.inl rfl)), rfl, rfl, ⟨rfl, rfl⟩, fun _ => rfl, ?_, ?_, ?_⟩ <;> (intro hk; simp at hk)

theorem look_ok (T kind n : Nat) (l : List (Array Value)) (s : TS) (w : World) (h : TaskI w T kind n l s) : Calls Tryd.prog 27 #[.pointer (some ⟨T, 0, none⟩)] w (StepPost 27 T kind n l s w) := by
  have hmf : ∀ (fn : Fn) (first cap : Array Value) (w : World), (Instr.makeFunc fn first cap).run Tryd.prog w = .ok (.func fn first cap) w := fun _ _ _ _ => rfl
  have lT := h.lt
  obtain ⟨_, _, _, _, _, _, c6, _⟩ := row_cells h.own
  have f6 := h.own.free 6
  have HT := Lib.hid h
  clear h
  go_enter Tryd.func27, Tryd.ntmps27
  go_wp2_with fail
  refine bodyPost_ret (v := .tuple #[.agg (callC 9 0 0 0 0 0 0 false (.slice none 0 0)), .bool true]) (by simp [results, Tryd.results27, go_sem, callC]) rfl ⟨_, _, { s with hear := closure 41 w.heap.size }, rfl, ?_, hear_new HT.out (.inr (.inl rfl)) _⟩
  refine ⟨.inr (.inr (.inr (.inr (.inr (.inr (.inr (.inr rfl))))))), rfl, rfl, ⟨rfl, rfl⟩, fun _ => rfl, fun _ => ⟨rfl, _, rfl⟩, ?_, ?_⟩ <;> (intro hk; simp at hk)

/-- A call's block, written. -/
abbrev w11 (w : World) (g : Nat) (a b c d e f h i j k l : Value) : World :=
  ((((((((((w.setCell ⟨g, 0, none⟩ a).setCell ⟨g, 1, none⟩ b).setCell ⟨g, 2, none⟩ c).setCell ⟨g, 3, none⟩ d).setCell ⟨g, 4, none⟩ e).setCell ⟨g, 5, none⟩ f).setCell ⟨g, 6, none⟩ h).setCell ⟨g, 7, none⟩ i).setCell ⟨g, 8, none⟩ j).setCell ⟨g, 9, none⟩ k).setCell ⟨g, 10, none⟩ l

theorem set11 (a b c d e f h i j k l a' b' c' d' e' f' h' i' j' k' l' : Value) : (((((((((((#[a, b, c, d, e, f, h, i, j, k, l].setIfInBounds 0 a').setIfInBounds 1 b').setIfInBounds 2 c').setIfInBounds 3 d').setIfInBounds 4 e').setIfInBounds 5 f').setIfInBounds 6 h').setIfInBounds 7 i').setIfInBounds 8 j').setIfInBounds 9 k').setIfInBounds 10 l') = #[a', b', c', d', e', f', h', i', j', k', l'] := by kernel_rfl

theorem Own.put11 {w : World} {g : Nat} {t : TypeId} {a b c d e f h i j k l a' b' c' d' e' f' h' i' j' k' l' : Value} (o : Own w g t #[a, b, c, d, e, f, h, i, j, k, l]) :
    Own (w11 w g a' b' c' d' e' f' h' i' j' k' l') g t #[a', b', c', d', e', f', h', i', j', k', l'] := by
  have := ((((((((((o.put 0 a').put 1 b').put 2 c').put 3 d').put 4 e').put 5 f').put 6 h').put 7 i').put 8 j').put 9 k').put 10 l'
  rwa [set11] at this

theorem Own.putZ {w : World} {g : Nat} {t : TypeId} {a' b' c' d' e' f' h' i' j' k' l' : Value} (o : Own w g t zero11) :
    Own (w11 w g a' b' c' d' e' f' h' i' j' k' l') g t #[a', b', c', d', e', f', h', i', j', k', l'] := Own.put11 o

theorem Own.far11 {w : World} {T g : Nat} {t : TypeId} {cs : Array Value} (o : Own w T t cs) (hg : T ≠ g) (a b c d e f h i j k l : Value) : Own (w11 w g a b c d e f h i j k l) T t cs :=
  (((((((((((o.far (p := ⟨g, 0, none⟩) hg a).far (p := ⟨g, 1, none⟩) hg b).far (p := ⟨g, 2, none⟩) hg c).far (p := ⟨g, 3, none⟩) hg d).far (p := ⟨g, 4, none⟩) hg e).far (p := ⟨g, 5, none⟩) hg f).far (p := ⟨g, 6, none⟩) hg h).far (p := ⟨g, 7, none⟩) hg i).far (p := ⟨g, 8, none⟩) hg j).far (p := ⟨g, 9, none⟩) hg k).far (p := ⟨g, 10, none⟩) hg l)

theorem Chg.put11 {T : Nat} {u w : World} (o : Chg T u w) {g : Nat} (hg : u.heap.size ≤ g) (a b c d e f h i j k l : Value) : Chg T u (w11 w g a b c d e f h i j k l) :=
  (((((((((((o.setCell (p := ⟨g, 0, none⟩) (.inr hg) a).setCell (p := ⟨g, 1, none⟩) (.inr hg) b).setCell (p := ⟨g, 2, none⟩) (.inr hg) c).setCell (p := ⟨g, 3, none⟩) (.inr hg) d).setCell (p := ⟨g, 4, none⟩) (.inr hg) e).setCell (p := ⟨g, 5, none⟩) (.inr hg) f).setCell (p := ⟨g, 6, none⟩) (.inr hg) h).setCell (p := ⟨g, 7, none⟩) (.inr hg) i).setCell (p := ⟨g, 8, none⟩) (.inr hg) j).setCell (p := ⟨g, 9, none⟩) (.inr hg) k).setCell (p := ⟨g, 10, none⟩) (.inr hg) l)

/-- A step that leaves the task as it was, behind the store of its call. -/
theorem same_end {w W : World} {T kind n : Nat} {l : List (Array Value)} {s : TS} (h : TaskI w T kind n l s) (OT : Own W T 70 s.row) (CH : Chg T w W) (a b c d e f g i j k m : Value) :
    TaskI (w11 W w.heap.size a b c d e f g i j k m) T kind n l s ∧ Chg T w (w11 W w.heap.size a b c d e f g i j k m) := by
  have hc := CH.put11 (Nat.le_refl _) a b c d e f g i j k m
  exact ⟨h.step hc (OT.far11 (by have := h.lt; omega) _ _ _ _ _ _ _ _ _ _ _) rfl rfl rfl (h.hear.chg hc) h.pose h.goal, hc⟩

theorem alloc_end {w W : World} {T kind n : Nat} {l : List (Array Value)} {s : TS} (h : TaskI W T kind n l s ∧ Chg T w W) (o : Obj) : TaskI (W.alloc o) T kind n l s ∧ Chg T w (W.alloc o) :=
  ⟨h.1.below ((Below.refl _ _).alloc (Nat.le_refl _) o), h.2.alloc o⟩

theorem feel_ok (T kind n : Nat) (l : List (Array Value)) (s : TS) (w : World) (h : TaskI w T kind n l s) : Calls Tryd.prog 24 #[.pointer (some ⟨T, 0, none⟩)] w (StepPost 24 T kind n l s w) := by
  have HT := Lib.hid h
  have C := Lib.hid (order_any T n s (w.alloc (.cells zero11 41)) (h.own.alloc _) (h.orders.chg ((Chg.refl T w).alloc _)))
  clear h
  go_enter Tryd.func24, Tryd.ntmps24
  go_wp2_with fail
  refine C.out.mono ?_
  rintro e w2 ⟨t, m, f, x, y, b, rfl, hg, hn, hb2⟩
  have OR := Lib.hid ((Own.new w 41 zero11).call hb2)
  have OT := Lib.hid ((HT.out.own.alloc (.cells zero11 41)).call hb2)
  have CH := Lib.hid (((Chg.refl T w).alloc (.cells zero11 41)).below hb2)
  have HG := Lib.hid (And.intro hg hn)
  have hz : w.heap.size < w2.heap.size := OR.out.lt
  clear hb2 hg hn
  obtain ⟨⟨d0, d1, d2, d3, d4, d5, d6, d7, d8, d9, d10⟩, f0, f1, f2, f3, f4, f5, f6, f7, f8, f9, f10⟩ := (show Own _ _ _ #[_, _, _, _, _, _, _, _, _, _, _] from OR.out).c11
  go_wp2_with fail
  obtain ⟨⟨d0, d1, d2, d3, d4, d5, d6, d7, d8, d9, d10⟩, _⟩ := ((Own.putZ OR.out (a' := .int .i64 8) (b' := .int .i64 0) (c' := .int .i64 0) (d' := .int .i64 0) (e' := .int .i64 0) (f' := .int .i64 0) (h' := .int .i64 0) (i' := .int .i64 f) (j' := .bool false) (k' := .slice none 0 0) (l' := .slice none 0 0)).alloc (.cells #[.int .i64 t, .int .i64 m, .int .i64 f, .complex .f64 x y] 56)).c11
  refine bodyPost_ret (v := .tuple #[.agg (callC 8 0 0 0 0 0 f false (.slice none 0 0)), .bool b]) (by simp [results, Tryd.results24, go_sem, callC, d0, d1, d2, d3, d4, d5, d6, d7, d8, d9, d10]) rfl ⟨_, _, s, rfl, ?_, alloc_end (same_end HT.out OT.out CH.out _ _ _ _ _ _ _ _ _ _ _) _⟩
  refine ⟨.inr (.inr (.inr (.inr (.inr (.inr (.inr (.inl ⟨f, HG.out.1.2.2.1, HG.out.1.2.2.2.1, rfl⟩))))))), rfl, rfl, ⟨rfl, rfl⟩, ?_, ?_, fun _ => ⟨rfl, HG.out.2⟩, ?_⟩ <;> (intro hk; simp at hk)

theorem command_ok (T kind n : Nat) (l : List (Array Value)) (s : TS) (w : World) (h : TaskI w T kind n l s) : Calls Tryd.prog 26 #[.pointer (some ⟨T, 0, none⟩)] w (StepPost 26 T kind n l s w) := by
  have HT := Lib.hid h
  have C := Lib.hid (order_any T n s (w.alloc (.cells zero11 41)) (h.own.alloc _) (h.orders.chg ((Chg.refl T w).alloc _)))
  clear h
  go_enter Tryd.func26, Tryd.ntmps26
  go_wp2_with fail
  refine C.out.mono ?_
  rintro e w2 ⟨t, m, f, x, y, b, rfl, hg, hn, hb2⟩
  have OR := Lib.hid ((Own.new w 41 zero11).call hb2)
  have OT := Lib.hid ((HT.out.own.alloc (.cells zero11 41)).call hb2)
  have CH := Lib.hid (((Chg.refl T w).alloc (.cells zero11 41)).below hb2)
  have HG := Lib.hid (And.intro hg hn)
  have hz : w.heap.size < w2.heap.size := OR.out.lt
  clear hb2 hg hn
  obtain ⟨⟨d0, d1, d2, d3, d4, d5, d6, d7, d8, d9, d10⟩, f0, f1, f2, f3, f4, f5, f6, f7, f8, f9, f10⟩ := (show Own _ _ _ #[_, _, _, _, _, _, _, _, _, _, _] from OR.out).c11
  go_wp2_with fail
  obtain ⟨⟨d0, d1, d2, d3, d4, d5, d6, d7, d8, d9, d10⟩, _⟩ := ((Own.putZ OR.out (a' := .int .i64 7) (b' := .int .i64 0) (c' := .int .i64 0) (d' := .int .i64 0) (e' := .int .i64 0) (f' := .int .i64 2) (h' := .int .i64 m) (i' := .int .i64 0) (j' := .bool false) (k' := .slice none 0 0) (l' := .slice none 0 0)).alloc (.cells #[.int .i64 t, .int .i64 m, .int .i64 f, .complex .f64 x y] 56)).c11
  refine bodyPost_ret (v := .tuple #[.agg (callC 7 0 0 0 2 m 0 false (.slice none 0 0)), .bool b]) (by simp [results, Tryd.results26, go_sem, callC, d0, d1, d2, d3, d4, d5, d6, d7, d8, d9, d10]) rfl ⟨_, _, s, rfl, ?_, alloc_end (same_end HT.out OT.out CH.out _ _ _ _ _ _ _ _ _ _ _) _⟩
  refine ⟨.inr (.inr (.inr (.inr (.inr (.inr (.inl ⟨2, m, false, .inl rfl, HG.out.1.1, HG.out.1.2.1, rfl⟩)))))), rfl, rfl, ⟨rfl, rfl⟩, ?_, ?_, fun _ => ⟨rfl, HG.out.2⟩, ?_⟩ <;> (intro hk; simp at hk)

theorem point_ok (T kind n : Nat) (l : List (Array Value)) (s : TS) (w : World) (h : TaskI w T kind n l s) : Calls Tryd.prog 25 #[.pointer (some ⟨T, 0, none⟩)] w (StepPost 25 T kind n l s w) := by
  have HT := Lib.hid h
  have C := Lib.hid (order_any T n s (w.alloc (.cells zero11 41)) (h.own.alloc _) (h.orders.chg ((Chg.refl T w).alloc _)))
  clear h
  go_enter Tryd.func25, Tryd.ntmps25
  go_wp2_with fail
  refine C.out.mono ?_
  rintro e w2 ⟨t, m, f, x, y, b, rfl, hg, hn, hb2⟩
  have OR := Lib.hid (((Own.new w 41 zero11).call hb2).alloc (.cells #[.int .i64 t, .int .i64 m, .int .i64 f, .complex .f64 x y] 56))
  have OT := Lib.hid (((HT.out.own.alloc (.cells zero11 41)).call hb2).alloc (.cells #[.int .i64 t, .int .i64 m, .int .i64 f, .complex .f64 x y] 56))
  have CH := Lib.hid ((((Chg.refl T w).alloc (.cells zero11 41)).below hb2).alloc (.cells #[.int .i64 t, .int .i64 m, .int .i64 f, .complex .f64 x y] 56))
  have HG := Lib.hid (And.intro hg hn)
  clear hb2 hg hn
  go_wp2_with fail
  refine (word_ok x y HG.out.1.2.2.2.2 _).mono ?_
  rintro e w3 ⟨q, rfl, hb3⟩
  have OR3 := Lib.hid (OR.out.call hb3)
  have OT3 := Lib.hid (OT.out.call hb3)
  have CH3 := Lib.hid (CH.out.below hb3)
  clear hb3
  obtain ⟨⟨d0, d1, d2, d3, d4, d5, d6, d7, d8, d9, d10⟩, f0, f1, f2, f3, f4, f5, f6, f7, f8, f9, f10⟩ := (show Own _ _ _ #[_, _, _, _, _, _, _, _, _, _, _] from OR3.out).c11
  go_wp2_with fail
  obtain ⟨⟨d0, d1, d2, d3, d4, d5, d6, d7, d8, d9, d10⟩, _⟩ := (Own.putZ OR3.out (a' := .int .i64 1) (b' := .int .i64 1) (c' := .int .i64 0) (d' := .int .i64 0) (e' := .int .i64 0) (f' := .int .i64 0) (h' := .int .i64 0) (i' := .int .i64 0) (j' := .bool false) (k' := .slice none 0 0) (l' := .slice (some ⟨q, 0, none⟩) 1 1)).c11
  refine bodyPost_ret (v := .tuple #[.agg (callC 1 1 0 0 0 0 0 false (.slice (some ⟨q, 0, none⟩) 1 1)), .bool b]) (by simp [results, Tryd.results25, go_sem, callC, d0, d1, d2, d3, d4, d5, d6, d7, d8, d9, d10]) rfl ⟨_, _, s, rfl, ?_, same_end HT.out OT3.out CH3.out _ _ _ _ _ _ _ _ _ _ _⟩
  refine ⟨.inr (.inl ⟨1, q, 1, by decide, by decide, .inl rfl, rfl⟩), rfl, rfl, ⟨rfl, rfl⟩, ?_, ?_, fun _ => ⟨rfl, HG.out.2⟩, ?_⟩ <;> (intro hk; simp at hk)

end Go.Proofs.YtmhnodbmcciifaaDoor
