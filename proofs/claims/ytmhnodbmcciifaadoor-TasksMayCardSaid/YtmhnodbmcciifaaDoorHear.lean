/- What a task does behind the answer: the walks of listen$1, look$1, poll$1. Each theorem says under which conditions. -/
import Derived.Test.YtmhnodbmcciifaaDoorPoll
namespace Go.Proofs.YtmhnodbmcciifaaDoor
open Go.RowKit Flt

/-- An answer, as plain data. -/
structure AS where
  code : Int
  sub : Int
  gen : Int
  count : Int
  lost : Int
  mode : Int
  src : Int
  hold : Bool
  fl : Int
  ep : Int
  gens : Value
  words : Value

def AS.row (a : AS) : Array Value := #[.int .i64 a.code, .int .i64 a.sub, .int .u64 a.gen, .int .i64 a.count, .int .u64 a.lost, .int .i64 a.mode, .int .i64 a.src, .bool a.hold, .int .i64 a.fl, .int .u64 a.ep, a.gens, a.words]

/-- What is heard: the task's pose, goal and state may turn, and of the state just what 'look' reads. -/
def HeardR (k : Nat) (a : AS) (s s' : TS) : Prop :=
  s'.os = s.os ∧ s'.turns = s.turns ∧ s'.turn = s.turn ∧ s'.tb = s.tb ∧ s'.nxt = s.nxt ∧ s'.once = s.once ∧ s'.hear = s.hear ∧
  (k = 41 → s' = if a.code = 0 then { s with mode := a.mode, src := a.src, hold := a.hold, fl := a.fl, ep := a.ep } else s)

def HearPost (k T kind n : Nat) (l : List (Array Value)) (s : TS) (a : AS) (w : World) (e : Ending) (w' : World) : Prop :=
  ∃ s', e = .returned (.tuple #[]) ∧ HeardR k a s s' ∧ TaskI w' T kind n l s' ∧ Chg T w w'

/-- The task's block behind the answer, the answer's own box ahead of it. -/
theorem heard_end {w W : World} {T kind n : Nat} {l : List (Array Value)} {s s' : TS} (h : TaskI w T kind n l s) (OT : Own W T 70 s'.row) (CH : Chg T w W) (e1 : s'.os = s.os) (e2 : s'.tb = s.tb) (e3 : s'.once = s.once) (e4 : s'.hear = s.hear)
    (h5 : PoseOK s'.ax s'.ay s'.gx s'.gy s'.nx s'.ny) (h6 : mayB s'.zx s'.zy = true) : TaskI W T kind n l s' ∧ Chg T w W := ⟨h.step CH OT e1 e2 e3 (e4 ▸ h.hear.chg CH) h5 h6, CH⟩

theorem look1_ok (T kind n B : Nat) (l : List (Array Value)) (s : TS) (a : AS) (w : World) (h : TaskI w T kind n l s) (hB : Own w B 28 #[.pointer (some ⟨T, 0, none⟩)]) :
    Calls Tryd.prog 41 #[.agg a.row, .pointer (some ⟨B, 0, none⟩)] w (HearPost 41 T kind n l s a w) := by
  have HT := Lib.hid h
  have lT := h.lt
  have b0 := hB.cell 0
  have lB := hB.lt
  obtain ⟨_, _, _, _, _, _, _, _, _, _, _, c11, c12, c13, c14, c15⟩ := row_cells h.own
  have f11 := h.own.free 11
  have f12 := h.own.free 12
  have f13 := h.own.free 13
  have f14 := h.own.free 14
  have f15 := h.own.free 15
  have hne : w.heap.size ≠ T := by omega
  clear h hB
  by_cases hc : a.code = 0
  all_goals
    go_enter Tryd.func41, Tryd.ntmps41
    simp only [AS.row]
    go_wp2_with fail
  · refine bodyPost_end (v := .tuple #[]) (by simp [results, Tryd.results41, go_sem]) rfl
      ⟨{ s with mode := a.mode, src := a.src, hold := a.hold, fl := a.fl, ep := a.ep }, rfl, ⟨rfl, rfl, rfl, rfl, rfl, rfl, rfl, fun _ => by rw [if_pos hc]⟩, ?_⟩
    exact heard_end (s' := { s with mode := a.mode, src := a.src, hold := a.hold, fl := a.fl, ep := a.ep }) HT.out ((((((HT.out.own.put 11 (.int .i64 a.mode)).put 12 (.int .i64 a.src)).put 13 (.bool a.hold)).put 14 (.int .i64 a.fl)).put 15 (.int .u64 a.ep)).alloc _)
      (((((((Chg.refl T w).setCell (p := ⟨T, 11, none⟩) (.inl rfl) _).setCell (p := ⟨T, 12, none⟩) (.inl rfl) _).setCell (p := ⟨T, 13, none⟩) (.inl rfl) _).setCell (p := ⟨T, 14, none⟩) (.inl rfl) _).setCell (p := ⟨T, 15, none⟩) (.inl rfl) _).alloc _) rfl rfl rfl rfl HT.out.pose HT.out.goal
  · refine bodyPost_end (v := .tuple #[]) (by simp [results, Tryd.results41, go_sem]) rfl
      ⟨s, rfl, ⟨rfl, rfl, rfl, rfl, rfl, rfl, rfl, fun _ => by rw [if_neg hc]⟩, ?_⟩
    exact heard_end HT.out (HT.out.own.alloc _) ((Chg.refl T w).alloc _) rfl rfl rfl rfl HT.out.pose HT.out.goal

theorem Own.c12 {w : World} {g : Nat} {t : TypeId} {a b c d e f h i j k l m : Value} (o : Own w g t #[a, b, c, d, e, f, h, i, j, k, l, m]) :
    w.cell? ⟨g, 0, none⟩ = some a ∧ w.cell? ⟨g, 1, none⟩ = some b ∧ w.cell? ⟨g, 11, none⟩ = some m := ⟨o.cell 0, o.cell 1, o.cell 11⟩

theorem listen1_ok (T kind n B : Nat) (l : List (Array Value)) (s : TS) (a : AS) (w : World) (h : TaskI w T kind n l s) (hB : Own w B 28 #[.pointer (some ⟨T, 0, none⟩)]) (hw : Words w a.words) :
    Calls Tryd.prog 34 #[.agg a.row, .pointer (some ⟨B, 0, none⟩)] w (HearPost 34 T kind n l s a w) := by
  have HT := Lib.hid h
  have HO := Lib.hid hB
  have lT := h.lt
  have HW := Lib.hid (show Words (w.alloc (.cells a.row 38)) a.words by
    obtain ⟨A, m, c, hv, hr⟩ := hw
    refine ⟨A, m, c, hv, fun hm => ?_⟩
    obtain ⟨b, off, ws, hA, hb, hc, hx⟩ := hr hm
    exact ⟨b, off, ws, hA, by simp; omega, fun i hi => ((bcell ((Below.refl w.heap.size w).alloc (Nat.le_refl _) (.cells a.row 38))).1 b _ hb).trans (hc i hi), hx⟩)
  clear h hB hw
  go_enter Tryd.func34, Tryd.ntmps34
  simp only [AS.row]
  go_wp2_with fail
  refine (number_any _ _ HW.out).mono ?_
  rintro e w1 ⟨x, y, b, rfl, hm, hb1⟩
  have O1 := Lib.hid ((Own.new w 38 a.row).call hb1)
  have T1 := Lib.hid ((HT.out.own.alloc (.cells a.row 38)).call hb1)
  have B1 := Lib.hid ((HO.out.alloc (.cells a.row 38)).call hb1)
  have C1 := Lib.hid (((Chg.refl T w).alloc (.cells a.row 38)).below hb1)
  have HM := Lib.hid hm
  clear hb1 hm
  have b0 := B1.out.cell 0
  obtain ⟨a0, a1, a11⟩ := (show Own w1 w.heap.size 38 #[_, _, _, _, _, _, _, _, _, _, _, _] from O1.out).c12
  obtain ⟨_, _, _, _, _, _, _, _, c8, _⟩ := row_cells T1.out
  have f8 := T1.out.free 8
  cases b
  · go_wp2_with fail
    refine bodyPost_end (v := .tuple #[]) (by simp [results, Tryd.results34, go_sem]) rfl ⟨s, rfl, ⟨rfl, rfl, rfl, rfl, rfl, rfl, rfl, by intro hk; cases hk⟩, ?_⟩
    exact heard_end HT.out T1.out C1.out rfl rfl rfl rfl HT.out.pose HT.out.goal
  · have HMM := Lib.hid (HM.out rfl)
    by_cases hc : a.code = 0
    · go_wp2_with fail
      refine bodyPost_end (v := .tuple #[]) (by simp [results, Tryd.results34, go_sem]) rfl ⟨{ s with gx := x, gy := y }, rfl, ⟨rfl, rfl, rfl, rfl, rfl, rfl, rfl, by intro hk; cases hk⟩, ?_⟩
      exact heard_end (s' := { s with gx := x, gy := y }) HT.out (T1.out.put 8 (.complex .f64 x y)) (C1.out.setCell (p := ⟨T, 8, none⟩) (.inl rfl) _) rfl rfl rfl rfl ⟨HT.out.pose.1, HMM.out, HT.out.pose.2.2⟩ HT.out.goal
    · go_wp2_with fail
      refine bodyPost_end (v := .tuple #[]) (by simp [results, Tryd.results34, go_sem]) rfl ⟨s, rfl, ⟨rfl, rfl, rfl, rfl, rfl, rfl, rfl, by intro hk; cases hk⟩, ?_⟩
      exact heard_end HT.out T1.out C1.out rfl rfl rfl rfl HT.out.pose HT.out.goal

/-- The words of an answer, behind the box of the answer. -/
theorem Words.below {w w' : World} {v : Value} (h : Words w v) (hb : Below w.heap.size w w') : Words w' v := by
  obtain ⟨A, m, c, hv, hr⟩ := h
  refine ⟨A, m, c, hv, fun hm => ?_⟩
  obtain ⟨b, off, ws, hA, hlt, hc, hx⟩ := hr hm
  exact ⟨b, off, ws, hA, Nat.lt_of_lt_of_le hlt hb.size, fun i hi => ((bcell hb).1 b _ hlt).trans (hc i hi), hx⟩

theorem poll1_ok (T kind n B : Nat) (l : List (Array Value)) (s : TS) (a : AS) (w : World) (h : TaskI w T kind n l s) (hB : Own w B 28 #[.pointer (some ⟨T, 0, none⟩)]) (hw : Words w a.words) :
    Calls Tryd.prog 42 #[.agg a.row, .pointer (some ⟨B, 0, none⟩)] w (HearPost 42 T kind n l s a w) := by
  obtain ⟨code, sub, gen, count, lost, mode, src, hold, fl, ep, gens, words⟩ := a
  have HT := Lib.hid h
  have HO := Lib.hid hB
  have lT := h.lt
  have HW := Lib.hid (hw.below ((Below.refl w.heap.size w).alloc (Nat.le_refl _) (.cells (AS.row (AS.mk code sub gen count lost mode src hold fl ep gens words)) 38)))
  clear h hB hw
  have same : ∀ W : World, Own W T 70 s.row → Chg T w W → HearPost 42 T kind n l s (AS.mk code sub gen count lost mode src hold fl ep gens words) w (.returned (.tuple #[])) W := fun W h1 h2 =>
    ⟨s, rfl, ⟨rfl, rfl, rfl, rfl, rfl, rfl, rfl, by intro hk; cases hk⟩, heard_end HT.out h1 h2 rfl rfl rfl rfl HT.out.pose HT.out.goal⟩
  have HS := Lib.hid same
  clear same
  by_cases hc : code = 0
  · subst hc
    by_cases h0 : sub = 0
    · subst h0
      go_enter Tryd.func42, Tryd.ntmps42
      simp only [AS.row]
      go_wp2_with fail
      refine (ndecode_any _ _ HW.out).mono ?_
      rintro e w1 ⟨p1, p2, p3, p4, p5, p6, c2, rfl, hp, hb1⟩
      have T1 := Lib.hid ((HT.out.own.alloc (.cells (AS.row (AS.mk 0 0 gen count lost mode src hold fl ep gens words)) 38)).call hb1)
      have B1 := Lib.hid ((HO.out.alloc (.cells (AS.row (AS.mk 0 0 gen count lost mode src hold fl ep gens words)) 38)).call hb1)
      have C1 := Lib.hid (((Chg.refl T w).alloc (.cells (AS.row (AS.mk 0 0 gen count lost mode src hold fl ep gens words)) 38)).below hb1)
      have HM := Lib.hid hp
      have lB1 := B1.out.lt
      have lT1 := T1.out.lt
      clear hb1 hp
      have b0 := B1.out.cell 0
      obtain ⟨_, _, _, _, _, _, _, c7, c8, c9, _⟩ := row_cells T1.out
      have f7 := T1.out.free 7
      have f8 := T1.out.free 8
      have f9 := T1.out.free 9
      by_cases h2 : c2 = 0
      · have HMM := Lib.hid (HM.out h2)
        go_wp2_with fail
        refine bodyPost_end (v := .tuple #[]) (by simp [results, Tryd.results42, go_sem]) rfl ⟨{ s with ax := p1, ay := p2, gx := p3, gy := p4, nx := p5, ny := p6 }, rfl, ⟨rfl, rfl, rfl, rfl, rfl, rfl, rfl, by intro hk; cases hk⟩, ?_⟩
        exact heard_end (s' := { s with ax := p1, ay := p2, gx := p3, gy := p4, nx := p5, ny := p6 }) HT.out ((((T1.out.put 7 (.complex .f64 p1 p2)).put 8 (.complex .f64 p3 p4)).put 9 (.complex .f64 p5 p6)).alloc _)
          ((((C1.out.setCell (p := ⟨T, 7, none⟩) (.inl rfl) _).setCell (p := ⟨T, 8, none⟩) (.inl rfl) _).setCell (p := ⟨T, 9, none⟩) (.inl rfl) _).alloc _) rfl rfl rfl rfl HMM.out HT.out.goal
      · go_wp2_with fail
        exact bodyPost_end (v := .tuple #[]) (by simp [results, Tryd.results42, go_sem]) rfl (HS.out _ (T1.out.alloc _) (C1.out.alloc _))
    · by_cases h1 : sub = 1
      · subst h1
        go_enter Tryd.func42, Tryd.ntmps42
        simp only [AS.row]
        go_wp2_with fail
        refine (number_any _ _ HW.out).mono ?_
        rintro e w1 ⟨x, y, b, rfl, hm, hb1⟩
        have T1 := Lib.hid ((HT.out.own.alloc (.cells (AS.row (AS.mk 0 1 gen count lost mode src hold fl ep gens words)) 38)).call hb1)
        have B1 := Lib.hid ((HO.out.alloc (.cells (AS.row (AS.mk 0 1 gen count lost mode src hold fl ep gens words)) 38)).call hb1)
        have C1 := Lib.hid (((Chg.refl T w).alloc (.cells (AS.row (AS.mk 0 1 gen count lost mode src hold fl ep gens words)) 38)).below hb1)
        have HM := Lib.hid hm
        clear hb1 hm
        have b0 := B1.out.cell 0
        obtain ⟨_, _, _, _, _, _, _, _, _, _, c10, _⟩ := row_cells T1.out
        have f10 := T1.out.free 10
        cases b
        · go_wp2_with fail
          exact bodyPost_end (v := .tuple #[]) (by simp [results, Tryd.results42, go_sem]) rfl (HS.out _ T1.out C1.out)
        · have HMM := Lib.hid (HM.out rfl)
          go_wp2_with fail
          refine bodyPost_end (v := .tuple #[]) (by simp [results, Tryd.results42, go_sem]) rfl ⟨{ s with zx := x, zy := y }, rfl, ⟨rfl, rfl, rfl, rfl, rfl, rfl, rfl, by intro hk; cases hk⟩, ?_⟩
          exact heard_end (s' := { s with zx := x, zy := y }) HT.out (T1.out.put 10 (.complex .f64 x y)) (C1.out.setCell (p := ⟨T, 10, none⟩) (.inl rfl) _) rfl rfl rfl rfl HT.out.pose HMM.out
      · go_enter Tryd.func42, Tryd.ntmps42
        simp only [AS.row]
        go_wp2_with fail
        exact bodyPost_end (v := .tuple #[]) (by simp [results, Tryd.results42, go_sem]) rfl (HS.out _ (HT.out.own.alloc _) ((Chg.refl T w).alloc _))
  · go_enter Tryd.func42, Tryd.ntmps42
    simp only [AS.row]
    go_wp2_with fail
    exact bodyPost_end (v := .tuple #[]) (by simp [results, Tryd.results42, go_sem]) rfl (HS.out _ (HT.out.own.alloc _) ((Chg.refl T w).alloc _))

end Go.Proofs.YtmhnodbmcciifaaDoor
