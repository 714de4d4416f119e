/- The walk of Task.guard. Each theorem says under which conditions. -/
import Derived.Test.YtmhnodbmcciifaaDoorSteer
namespace Go.Proofs.YtmhnodbmcciifaaDoor
open Go.RowKit Flt

def req11 : Array Value := #[.int .i64 7, .int .i64 0, .int .i64 0, .int .i64 0, .int .i64 0, .int .i64 3, .int .i64 0, .int .i64 0, .bool false, .slice none 0 0, .slice none 0 0]

/-- The cells of a block that holds a call. -/
theorem cellsC {W : World} {g : Nat} {y : TypeId} {k t cap rank src mode fl : Int} {free : Bool} {words : Value} (o : Own W g y (callC k t cap rank src mode fl free words)) :
    W.cell? ⟨g, 0, none⟩ = some (Value.int .i64 k) ∧ W.cell? ⟨g, 1, none⟩ = some (Value.int .i64 t) ∧ W.cell? ⟨g, 2, none⟩ = some (Value.int .i64 0) ∧ W.cell? ⟨g, 3, none⟩ = some (Value.int .i64 cap) ∧ W.cell? ⟨g, 4, none⟩ = some (Value.int .i64 rank) ∧ W.cell? ⟨g, 5, none⟩ = some (Value.int .i64 src) ∧ W.cell? ⟨g, 6, none⟩ = some (Value.int .i64 mode) ∧ W.cell? ⟨g, 7, none⟩ = some (Value.int .i64 fl) ∧ W.cell? ⟨g, 8, none⟩ = some (Value.bool free) ∧ W.cell? ⟨g, 9, none⟩ = some (Value.slice none 0 0) ∧ W.cell? ⟨g, 10, none⟩ = some (words) :=
  (show Own W g y #[_, _, _, _, _, _, _, _, _, _, _] from o).c11.1

/-- A call, written into an empty block. -/
theorem putC {W : World} {g : Nat} {y : TypeId} (k t cap rank src mode fl : Int) (free : Bool) (words : Value) (o : Own W g y zero11) : Own (w11 W g (Value.int .i64 k) (Value.int .i64 t) (Value.int .i64 0) (Value.int .i64 cap) (Value.int .i64 rank) (Value.int .i64 src) (Value.int .i64 mode) (Value.int .i64 fl) (Value.bool free) (Value.slice none 0 0) (words)) g y (callC k t cap rank src mode fl free words) := Own.putZ o

theorem req_ok (m : Int) (free : Bool) (h0 : 0 ≤ m) (h1 : m < 8) : CallOK (callC 7 0 0 0 3 m 0 free (.slice none 0 0)) := .inr (.inr (.inr (.inr (.inr (.inr (.inl ⟨3, m, free, .inr rfl, h0, h1, rfl⟩))))))

theorem drew_end {w W : World} {T kind n : Nat} {l : List (Array Value)} {s : TS} (h : TaskI W T kind n l s ∧ Chg T w W) : TaskI W.drew T kind n l s ∧ Chg T w W.drew :=
  ⟨h.1.below (Below.refl _ _).drew, h.2.drew⟩

theorem guard_row (n : Nat) (s : TS) (m : Int) (free b : Bool) (h0 : 0 ≤ m) (h1 : m < 8) (h : n = 0 → (callC 7 0 0 0 3 m 0 free (.slice none 0 0), b) = guardF s.mode s.fl) : Row 30 n s (callC 7 0 0 0 3 m 0 free (.slice none 0 0)) b s := by
  refine ⟨req_ok m free h0 h1, rfl, rfl, ⟨rfl, rfl⟩, ?_, ?_, ?_, fun _ => ⟨rfl, h⟩⟩ <;> (intro hk; simp at hk)

set_option maxHeartbeats 1600000 in
theorem guard_ok (T kind n : Nat) (l : List (Array Value)) (s : TS) (w : World) (h : TaskI w T kind n l s) : Calls Tryd.prog 30 #[.pointer (some ⟨T, 0, none⟩)] w (StepPost 30 T kind n l s w) := by
  have HT := Lib.hid h
  have C := Lib.hid (order_any T n s ((w.alloc (.cells zero11 41)).alloc (.cells req11 41)) ((h.own.alloc _).alloc _) (h.orders.chg (((Chg.refl T w).alloc _).alloc _)))
  clear h
  go_enter Tryd.func30, Tryd.ntmps30
  go_wp2_with fail
  refine C.out.mono ?_
  rintro e w2 ⟨t, m, f, x, y, b, rfl, hg, hn, hb2⟩
  have OR := Lib.hid (((Own.new w 41 zero11).alloc (.cells req11 41)).call hb2)
  have OQ := Lib.hid ((own_second w (.cells zero11 41) 41 req11).call hb2)
  have OT := Lib.hid (((HT.out.own.alloc (.cells zero11 41)).alloc (.cells req11 41)).call hb2)
  have CH := Lib.hid ((((Chg.refl T w).alloc (.cells zero11 41)).alloc (.cells req11 41)).below hb2)
  have HG := Lib.hid (And.intro hg hn)
  have hz : w.heap.size + 1 < w2.heap.size := OQ.out.lt
  have hz0 : w.heap.size < w2.heap.size := OR.out.lt
  have lT := OT.out.lt
  have hTn : T ≠ w.heap.size := by have := HT.out.lt; omega
  have hTm : T ≠ w.heap.size + 1 := by have := HT.out.lt; omega
  clear hb2 hg hn
  obtain ⟨⟨d0, d1, d2, d3, d4, d5, d6, d7, d8, d9, d10⟩, f0, f1, f2, f3, f4, f5, f6, f7, f8, f9, f10⟩ := emptyC OR.out
  obtain ⟨⟨e0, e1, e2, e3, e4, e5, e6, e7, e8, e9, e10⟩, g0, g1, g2, g3, g4, g5, g6, g7, g8, g9, g10⟩ := (show Own w2 (w.heap.size + 1) 41 #[_, _, _, _, _, _, _, _, _, _, _] from OQ.out).c11
  obtain ⟨_, _, _, _, _, _, _, _, _, _, _, c11, _, _, c14, _⟩ := row_cells OT.out
  have hne : w.heap.size ≠ w.heap.size + 1 := by omega
  have hle : w.heap.size ≤ w.heap.size + 1 := by omega
  cases b
  · by_cases hm : s.mode = 1 ∨ s.mode = 2 ∨ s.mode = 3 ∨ s.mode = 4 ∨ s.mode = 5
    · have hrow : (callC 7 0 0 0 3 7 0 false (.slice none 0 0), sureB s.fl) = guardF s.mode s.fl := by unfold guardF; rw [if_pos hm]
      have HR := Lib.hid hrow
      clear hrow
      rcases hm with hm | hm | hm | hm | hm
      all_goals
        rw [hm] at c11
        clear hm
        go_wp2_with fail
        go_region
        all_goals
          go_wp2_with fail
          obtain ⟨d0, d1, d2, d3, d4, d5, d6, d7, d8, d9, d10⟩ := cellsC ((putC 7 0 0 0 3 (7) 0 (false) (.slice none 0 0) (OR.out.far (p := ⟨w.heap.size + 1, 6, none⟩) hne (Value.int .i64 7))).alloc (.cells #[.int .i64 t, .int .i64 m, .int .i64 f, .complex .f64 x y] 56)).drew
          exact bodyPost_ret (v := .tuple #[.agg (callC 7 0 0 0 3 (7) 0 (false) (.slice none 0 0)), .bool (sureB s.fl)]) (by simp [results, Tryd.results30, go_sem, callC, sureB, d0, d1, d2, d3, d4, d5, d6, d7, d8, d9, d10]) rfl ⟨_, _, s, rfl, guard_row n s _ _ _ (by decide) (by decide) (fun _ => HR.out), drew_end (alloc_end (same_end HT.out (OT.out.far (p := ⟨w.heap.size + 1, 6, none⟩) hTm (Value.int .i64 7)) (CH.out.setCell (p := ⟨w.heap.size + 1, 6, none⟩) (.inr hle) (Value.int .i64 7)) _ _ _ _ _ _ _ _ _ _ _) _)⟩
    · by_cases h7 : s.mode = 7
      · have hrow : (callC 7 0 0 0 3 6 0 true (.slice none 0 0), true) = guardF s.mode s.fl := by unfold guardF; rw [if_neg hm, if_pos h7]
        have HR := Lib.hid hrow
        clear hrow hm
        rw [h7] at c11
        clear h7
        go_wp2_with fail
        obtain ⟨d0, d1, d2, d3, d4, d5, d6, d7, d8, d9, d10⟩ := cellsC ((putC 7 0 0 0 3 (6) 0 (true) (.slice none 0 0) ((OR.out.far (p := ⟨w.heap.size + 1, 6, none⟩) hne (Value.int .i64 6)).far (p := ⟨w.heap.size + 1, 8, none⟩) hne (Value.bool true))).alloc (.cells #[.int .i64 t, .int .i64 m, .int .i64 f, .complex .f64 x y] 56))
        exact bodyPost_ret (v := .tuple #[.agg (callC 7 0 0 0 3 (6) 0 (true) (.slice none 0 0)), .bool (true)]) (by simp [results, Tryd.results30, go_sem, callC, d0, d1, d2, d3, d4, d5, d6, d7, d8, d9, d10]) rfl ⟨_, _, s, rfl, guard_row n s _ _ _ (by decide) (by decide) (fun _ => HR.out), alloc_end (same_end HT.out ((OT.out.far (p := ⟨w.heap.size + 1, 6, none⟩) hTm (Value.int .i64 6)).far (p := ⟨w.heap.size + 1, 8, none⟩) hTm (Value.bool true)) ((CH.out.setCell (p := ⟨w.heap.size + 1, 6, none⟩) (.inr hle) (Value.int .i64 6)).setCell (p := ⟨w.heap.size + 1, 8, none⟩) (.inr hle) (Value.bool true)) _ _ _ _ _ _ _ _ _ _ _) _⟩
      · have hrow : (callC 7 0 0 0 3 0 0 false (.slice none 0 0), false) = guardF s.mode s.fl := by unfold guardF; rw [if_neg hm, if_neg h7]
        have HR := Lib.hid hrow
        clear hrow
        go_wp2_with fail
        obtain ⟨d0, d1, d2, d3, d4, d5, d6, d7, d8, d9, d10⟩ := cellsC ((putC 7 0 0 0 3 (0) 0 (false) (.slice none 0 0) OR.out).alloc (.cells #[.int .i64 t, .int .i64 m, .int .i64 f, .complex .f64 x y] 56))
        exact bodyPost_ret (v := .tuple #[.agg (callC 7 0 0 0 3 (0) 0 (false) (.slice none 0 0)), .bool (false)]) (by simp [results, Tryd.results30, go_sem, callC, d0, d1, d2, d3, d4, d5, d6, d7, d8, d9, d10]) rfl ⟨_, _, s, rfl, guard_row n s _ _ _ (by decide) (by decide) (fun _ => HR.out), alloc_end (same_end HT.out OT.out CH.out _ _ _ _ _ _ _ _ _ _ _) _⟩
  · go_wp2_with fail
    go_region
    all_goals
      go_wp2_with fail
      obtain ⟨d0, d1, d2, d3, d4, d5, d6, d7, d8, d9, d10⟩ := cellsC ((putC 7 0 0 0 3 (m) 0 (f != 0) (.slice none 0 0) ((OR.out.far (p := ⟨w.heap.size + 1, 6, none⟩) hne (Value.int .i64 m)).far (p := ⟨w.heap.size + 1, 8, none⟩) hne (Value.bool (f != 0)))).alloc (.cells #[.int .i64 t, .int .i64 m, .int .i64 f, .complex .f64 x y] 56)).drew
      exact bodyPost_ret (v := .tuple #[.agg (callC 7 0 0 0 3 (m) 0 (f != 0) (.slice none 0 0)), .bool (true)]) (by simp [results, Tryd.results30, go_sem, callC, d0, d1, d2, d3, d4, d5, d6, d7, d8, d9, d10]) rfl ⟨_, _, s, rfl, guard_row n s _ _ _ HG.out.1.1 HG.out.1.2.1 (fun h0 => absurd (HG.out.2 h0) (by decide)), drew_end (alloc_end (same_end HT.out ((OT.out.far (p := ⟨w.heap.size + 1, 6, none⟩) hTm (Value.int .i64 m)).far (p := ⟨w.heap.size + 1, 8, none⟩) hTm (Value.bool (f != 0))) ((CH.out.setCell (p := ⟨w.heap.size + 1, 6, none⟩) (.inr hle) (Value.int .i64 m)).setCell (p := ⟨w.heap.size + 1, 8, none⟩) (.inr hle) (Value.bool (f != 0))) _ _ _ _ _ _ _ _ _ _ _) _)⟩

end Go.Proofs.YtmhnodbmcciifaaDoor
