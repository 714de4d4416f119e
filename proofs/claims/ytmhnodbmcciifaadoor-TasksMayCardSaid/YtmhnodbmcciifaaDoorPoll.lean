/- The walks of Task.poll and Task.estimate. Each theorem says under which conditions. -/
import Derived.Test.YtmhnodbmcciifaaDoorGuard
namespace Go.Proofs.YtmhnodbmcciifaaDoor
open Go.RowKit Flt

theorem poll_row (n B x y : Nat) (s : TS) : Row 28 n s (callC 5 0 0 0 0 0 0 false (.slice none 0 0)) true { s with zx := x, zy := y, hear := closure 42 B } := by
  refine ⟨.inr (.inr (.inr (.inr (.inr (.inl rfl))))), rfl, rfl, ⟨rfl, rfl⟩, fun _ => rfl, ?_, ?_, ?_⟩ <;> (intro hk; simp at hk)

/-- A step that has turned the task's block, behind the store of its call. -/
theorem turn_end {w W : World} {T kind n g : Nat} {l : List (Array Value)} {s s' : TS} (h : TaskI w T kind n l s) (OT : Own W T 70 s'.row) (CH : Chg T w W) (hg : w.heap.size ≤ g) (e1 : s'.os = s.os) (e2 : s'.tb = s.tb) (e3 : s'.once = s.once)
    (h5 : PoseOK s'.ax s'.ay s'.gx s'.gy s'.nx s'.ny) (h6 : mayB s'.zx s'.zy = true) (k t cap rank src mode fl : Int) (free : Bool) (words : Value)
    (h4 : HearOK (w11 W g (.int .i64 k) (.int .i64 t) (.int .i64 0) (.int .i64 cap) (.int .i64 rank) (.int .i64 src) (.int .i64 mode) (.int .i64 fl) (.bool free) (.slice none 0 0) words) T s'.hear) :
    TaskI (w11 W g (.int .i64 k) (.int .i64 t) (.int .i64 0) (.int .i64 cap) (.int .i64 rank) (.int .i64 src) (.int .i64 mode) (.int .i64 fl) (.bool free) (.slice none 0 0) words) T kind n l s' ∧
    Chg T w (w11 W g (.int .i64 k) (.int .i64 t) (.int .i64 0) (.int .i64 cap) (.int .i64 rank) (.int .i64 src) (.int .i64 mode) (.int .i64 fl) (.bool free) (.slice none 0 0) words) := by
  have hc := CH.put11 hg (.int .i64 k) (.int .i64 t) (.int .i64 0) (.int .i64 cap) (.int .i64 rank) (.int .i64 src) (.int .i64 mode) (.int .i64 fl) (.bool free) (.slice none 0 0) words
  exact ⟨h.step hc (OT.far11 (by have := h.lt; omega) _ _ _ _ _ _ _ _ _ _ _) e1 e2 e3 h4 h5 h6, hc⟩

set_option maxHeartbeats 1600000 in
theorem poll_ok (T kind n : Nat) (l : List (Array Value)) (s : TS) (w : World) (h : TaskI w T kind n l s) : Calls Tryd.prog 28 #[.pointer (some ⟨T, 0, none⟩)] w (StepPost 28 T kind n l s w) := by
  have hmf : ∀ (fn : Fn) (first cap : Array Value) (w : World), (Instr.makeFunc fn first cap).run Tryd.prog w = .ok (.func fn first cap) w := fun _ _ _ _ => rfl
  have HT := Lib.hid h
  have C := Lib.hid (order_any T n s ((w.alloc (.cells #[.pointer (some ⟨T, 0, none⟩)] 28)).alloc (.cells zero11 41)) ((h.own.alloc _).alloc _) (h.orders.chg (((Chg.refl T w).alloc _).alloc _)))
  clear h
  go_enter Tryd.func28, Tryd.ntmps28
  go_wp2_with fail
  refine C.out.mono ?_
  rintro e w2 ⟨t, m, f, x, y, b, rfl, hg, hn, hb2⟩
  have OB := Lib.hid (((Own.new w 28 #[.pointer (some ⟨T, 0, none⟩)]).alloc (.cells zero11 41)).call hb2)
  have OR := Lib.hid ((own_second w (.cells #[.pointer (some ⟨T, 0, none⟩)] 28) 41 zero11).call hb2)
  have OT := Lib.hid (((HT.out.own.alloc (.cells #[.pointer (some ⟨T, 0, none⟩)] 28)).alloc (.cells zero11 41)).call hb2)
  have CH := Lib.hid ((((Chg.refl T w).alloc (.cells #[.pointer (some ⟨T, 0, none⟩)] 28)).alloc (.cells zero11 41)).below hb2)
  have HG := Lib.hid (And.intro hg hn)
  have hz : w.heap.size + 1 < w2.heap.size := OR.out.lt
  have hz0 : w.heap.size < w2.heap.size := OB.out.lt
  have lT := OT.out.lt
  have hTn : T ≠ w.heap.size := by have := HT.out.lt; omega
  have hTm : T ≠ w.heap.size + 1 := by have := HT.out.lt; omega
  clear hb2 hg hn
  have b0 := OB.out.cell 0
  obtain ⟨⟨d0, d1, d2, d3, d4, d5, d6, d7, d8, d9, d10⟩, f0, f1, f2, f3, f4, f5, f6, f7, f8, f9, f10⟩ := emptyC OR.out
  obtain ⟨_, _, _, _, _, _, c6, _, _, _, c10, _⟩ := row_cells OT.out
  have k6 := OT.out.free 6
  have k10 := OT.out.free 10
  have hne : w.heap.size ≠ w.heap.size + 1 := by omega
  have hle : w.heap.size ≤ w.heap.size + 1 := by omega
  cases b
  · go_wp2_with fail
    obtain ⟨d0, d1, d2, d3, d4, d5, d6, d7, d8, d9, d10⟩ := cellsC ((putC 5 0 0 0 0 0 0 false (.slice none 0 0) (OR.out.far (p := ⟨T, 6, none⟩) (Ne.symm hTm) (Value.func (.func 42) #[] #[.pointer (some ⟨w.heap.size, 0, none⟩)]))).alloc (.cells #[.int .i64 t, .int .i64 m, .int .i64 f, .complex .f64 x y] 56))
    exact bodyPost_ret (v := .tuple #[.agg (callC 5 0 0 0 0 0 0 false (.slice none 0 0)), .bool true]) (by simp [results, Tryd.results28, go_sem, callC, d0, d1, d2, d3, d4, d5, d6, d7, d8, d9, d10]) rfl
      ⟨_, _, { s with zx := s.zx, zy := s.zy, hear := closure 42 w.heap.size }, rfl, poll_row n _ _ _ s, alloc_end (turn_end (s' := { s with zx := s.zx, zy := s.zy, hear := closure 42 w.heap.size }) HT.out (OT.out.put 6 (Value.func (.func 42) #[] #[.pointer (some ⟨w.heap.size, 0, none⟩)])) (CH.out.setCell (p := ⟨T, 6, none⟩) (.inl rfl) (Value.func (.func 42) #[] #[.pointer (some ⟨w.heap.size, 0, none⟩)])) hle rfl rfl rfl HT.out.pose HT.out.goal 5 0 0 0 0 0 0 false (.slice none 0 0) (.inr ⟨w.heap.size, 42, .inr (.inr rfl), rfl, Ne.symm hTn, Own.far11 (OB.out.far (p := ⟨T, 6, none⟩) (Ne.symm hTn) (Value.func (.func 42) #[] #[.pointer (some ⟨w.heap.size, 0, none⟩)])) hne _ _ _ _ _ _ _ _ _ _ _⟩)) _⟩
  · go_wp2_with fail
    obtain ⟨d0, d1, d2, d3, d4, d5, d6, d7, d8, d9, d10⟩ := cellsC ((putC 5 0 0 0 0 0 0 false (.slice none 0 0) ((OR.out.far (p := ⟨T, 10, none⟩) (Ne.symm hTm) (Value.complex .f64 x y)).far (p := ⟨T, 6, none⟩) (Ne.symm hTm) (Value.func (.func 42) #[] #[.pointer (some ⟨w.heap.size, 0, none⟩)]))).alloc (.cells #[.int .i64 t, .int .i64 m, .int .i64 f, .complex .f64 x y] 56))
    exact bodyPost_ret (v := .tuple #[.agg (callC 5 0 0 0 0 0 0 false (.slice none 0 0)), .bool true]) (by simp [results, Tryd.results28, go_sem, callC, d0, d1, d2, d3, d4, d5, d6, d7, d8, d9, d10]) rfl
      ⟨_, _, { s with zx := x, zy := y, hear := closure 42 w.heap.size }, rfl, poll_row n _ _ _ s, alloc_end (turn_end (s' := { s with zx := x, zy := y, hear := closure 42 w.heap.size }) HT.out ((OT.out.put 10 (Value.complex .f64 x y)).put 6 (Value.func (.func 42) #[] #[.pointer (some ⟨w.heap.size, 0, none⟩)])) ((CH.out.setCell (p := ⟨T, 10, none⟩) (.inl rfl) (Value.complex .f64 x y)).setCell (p := ⟨T, 6, none⟩) (.inl rfl) (Value.func (.func 42) #[] #[.pointer (some ⟨w.heap.size, 0, none⟩)])) hle rfl rfl rfl HT.out.pose HG.out.1.2.2.2.2 5 0 0 0 0 0 0 false (.slice none 0 0) (.inr ⟨w.heap.size, 42, .inr (.inr rfl), rfl, Ne.symm hTn, Own.far11 ((OB.out.far (p := ⟨T, 10, none⟩) (Ne.symm hTn) (Value.complex .f64 x y)).far (p := ⟨T, 6, none⟩) (Ne.symm hTn) (Value.func (.func 42) #[] #[.pointer (some ⟨w.heap.size, 0, none⟩)])) hne _ _ _ _ _ _ _ _ _ _ _⟩)) _⟩

end Go.Proofs.YtmhnodbmcciifaaDoor
