/- Poses that move: the walks of nav's Drift, Blend, Steer. Each theorem says under which conditions. -/
import Derived.Test.YtmhnodbmcciifaaDoorPose
namespace Go.Proofs.YtmhnodbmcciifaaDoor
open Go.RowKit Flt

theorem NoseOK.plain {nx ny : Nat} (h : NoseOK nx ny) : NoseOK (addZ nx) (addZ ny) := by
  obtain ⟨n, m, hn, hm, h⟩ := h
  exact ⟨n, m, (addZ_is hn (by omega)).2, (addZ_is hm (by omega)).2, h⟩

/-- A pose that may be, told. -/
def GotPose (w : World) (e : Ending) (w' : World) : Prop :=
  ∃ ax ay gx gy nx ny, e = .returned (.agg #[.complex .f64 ax ay, .complex .f64 gx gy, .complex .f64 nx ny]) ∧ PoseOK ax ay gx gy nx ny ∧ Below w.heap.size w w'

theorem put_ok (ax ay gx gy nx ny x y : Nat) (h : PoseOK ax ay gx gy nx ny) (hz : mayB x y = true) (w : World) :
    Calls Tryd.prog 51 #[.agg #[.complex .f64 ax ay, .complex .f64 gx gy, .complex .f64 nx ny], .complex .f64 x y] w fun e w' => GotPose w e w' := by
  obtain ⟨a, b, ha, hb, _⟩ := mayB_is h.2.1
  obtain ⟨c, d, hc, hd, _⟩ := mayB_is hz
  refine (put_any ax ay gx gy nx ny x y a b c d h.2.2 ha hb hc hd (by omega) (by omega) (by omega) (by omega) w).mono ?_
  rintro e w' ⟨rfl, hbel⟩
  exact ⟨_, _, _, _, _, _, rfl, ⟨mayB_addZ hz, mayB_addZ h.2.1, h.2.2.plain⟩, hbel⟩

/-- A pose and an error: the pose may be, if there is none. -/
def MayPose (w : World) (e : Ending) (w' : World) : Prop :=
  ∃ ax ay gx gy nx ny c, e = .returned (.tuple #[.agg #[.complex .f64 ax ay, .complex .f64 gx gy, .complex .f64 nx ny], .int .i64 c]) ∧ (c = 0 → PoseOK ax ay gx gy nx ny) ∧ Below w.heap.size w w'

theorem gadd_no (x1 y1 x2 y2 : Nat) (h1 : mayB x1 y1 = true) (h2 : mayB x2 y2 = true) (h : sumB x1 y1 x2 y2 = false) (w : World) :
    Calls Tryd.prog 50 #[.complex .f64 x1 y1, .complex .f64 x2 y2] w fun e w' => e = .returned (.tuple #[.complex .f64 0 0, .int .i64 10]) ∧ Below w.heap.size w w' := by
  have := gadd_any x1 y1 x2 y2 h1 h2 w
  rw [h] at this
  exact this

theorem gadd_yes (x1 y1 x2 y2 : Nat) (h1 : mayB x1 y1 = true) (h2 : mayB x2 y2 = true) (h : sumB x1 y1 x2 y2 = true) (w : World) :
    Calls Tryd.prog 50 #[.complex .f64 x1 y1, .complex .f64 x2 y2] w fun e w' => e = .returned (.tuple #[.complex .f64 (addZ (addF x1 x2)) (addZ (addF y1 y2)), .int .i64 0]) ∧ Below w.heap.size w w' := by
  have := gadd_any x1 y1 x2 y2 h1 h2 w
  rw [h] at this
  exact this

/-- The cells of a block of three. -/
theorem Own.c3 {w : World} {g : Nat} {t : TypeId} {a b c : Value} (h : Own w g t #[a, b, c]) :
    w.cell? ⟨g, 0, none⟩ = some a ∧ w.cell? ⟨g, 1, none⟩ = some b ∧ w.cell? ⟨g, 2, none⟩ = some c ∧ w.frozen? ⟨g, 0, none⟩ = false ∧ w.frozen? ⟨g, 1, none⟩ = false ∧ w.frozen? ⟨g, 2, none⟩ = false :=
  ⟨h.cell 0, h.cell 1, h.cell 2, h.free 0, h.free 1, h.free 2⟩

/-- A call's boxed pose and its result's block. -/
def Two (w : World) (cs ds : Array Value) (w' : World) : Prop := Own w' w.heap.size 68 cs ∧ Own w' (w.heap.size + 1) 68 ds ∧ Below w.heap.size w w'

theorem Two.start (w : World) (cs ds : Array Value) : Two w cs ds ((w.alloc (.cells cs 68)).alloc (.cells ds 68)) := by
  refine ⟨(Own.new _ _ _).alloc _, ?_, ((Below.refl _ _).alloc (Nat.le_refl _) _).alloc (by simp) _⟩
  have := Own.new (w.alloc (.cells cs 68)) 68 ds
  simpa using this

theorem Two.call {w w1 w2 : World} {cs ds : Array Value} (h : Two w cs ds w1) (hb : Below w1.heap.size w1 w2) : Two w cs ds w2 :=
  ⟨h.1.call hb, h.2.1.call hb, h.2.2.call (by have := h.1.lt; omega) hb⟩

theorem Two.drew {w w1 : World} {cs ds : Array Value} (h : Two w cs ds w1) : Two w cs ds w1.drew := ⟨h.1.drew, h.2.1.drew, h.2.2.drew⟩

/-- The result's block, written. -/
theorem Two.put {w w1 : World} {cs ds : Array Value} (h : Two w cs ds w1) (hd : ds.size = 3) (a b c : Value) :
    Two w cs #[a, b, c] (((w1.setCell ⟨w.heap.size + 1, 0, none⟩ a).setCell ⟨w.heap.size + 1, 1, none⟩ b).setCell ⟨w.heap.size + 1, 2, none⟩ c) := by
  obtain ⟨h1, h2, hb⟩ := h
  have n1 : w.heap.size ≠ w.heap.size + 1 := by omega
  refine ⟨((h1.far n1 _).far n1 _).far n1 _, ?_, ((hb.setCell (by simp) _).setCell (by simp) _).setCell (by simp) _⟩
  have h3 := h2.has
  rw [hd] at h3
  exact h3.three a b c

/-- The same, with the error told ahead. -/
def MayPoseC (c : Int) (w : World) (e : Ending) (w' : World) : Prop :=
  ∃ ax ay gx gy nx ny, e = .returned (.tuple #[.agg #[.complex .f64 ax ay, .complex .f64 gx gy, .complex .f64 nx ny], .int .i64 c]) ∧ (c = 0 → PoseOK ax ay gx gy nx ny) ∧ Below w.heap.size w w'

theorem drift_two (ax ay gx gy nx ny : Nat) (h : PoseOK ax ay gx gy nx ny) : ∃ c : Int, (c = 0 ∨ c = 10) ∧ ∀ w,
    Calls Tryd.prog 36 #[.agg #[.complex .f64 ax ay, .complex .f64 gx gy, .complex .f64 nx ny]] w fun e w' => MayPoseC c w e w' := by
  have HP := Lib.hid h
  clear h
  cases hS : sumB ax ay gx gy
  · refine ⟨10, .inr rfl, fun w => ?_⟩
    have HS := Lib.hid hS
    clear hS
    go_enter Tryd.func36, Tryd.ntmps36
    go_wp2_with fail
    refine (check_ok ax ay gx gy nx ny HP.out _).mono ?_
    rintro e w1 ⟨rfl, hb1⟩
    have T1 := Lib.hid ((Two.start w _ _).call hb1)
    obtain ⟨c0, c1, c2, f0, f1, f2⟩ := T1.out.1.c3
    obtain ⟨d0, d1, d2, k0, k1, k2⟩ := T1.out.2.1.c3
    clear hb1
    go_wp2_with fail
    refine (gadd_no ax ay gx gy HP.out.1 HP.out.2.1 HS.out _).mono ?_
    rintro e w2 ⟨rfl, hb2⟩
    have T2 := Lib.hid (T1.out.call hb2)
    clear c0 c1 c2 f0 f1 f2 d0 d1 d2 k0 k1 k2
    obtain ⟨c0, c1, c2, f0, f1, f2⟩ := T2.out.1.c3
    obtain ⟨d0, d1, d2, k0, k1, k2⟩ := T2.out.2.1.c3
    clear hb2
    go_wp2_with fail
    have T3 := T2.out.put rfl (.complex .f64 0 0) (.complex .f64 0 0) (.complex .f64 0 0)
    obtain ⟨d0, d1, d2, _⟩ := T3.2.1.c3
    exact bodyPost_ret (v := .tuple #[.agg #[.complex .f64 0 0, .complex .f64 0 0, .complex .f64 0 0], .int .i64 10]) (by simp [results, Tryd.results36, go_sem, d0, d1, d2]) rfl ⟨_, _, _, _, _, _, rfl, (by intro h; cases h), T3.2.2⟩
  · refine ⟨0, .inl rfl, fun w => ?_⟩
    have HS := Lib.hid hS
    clear hS
    go_enter Tryd.func36, Tryd.ntmps36
    go_wp2_with fail
    refine (check_ok ax ay gx gy nx ny HP.out _).mono ?_
    rintro e w1 ⟨rfl, hb1⟩
    have T1 := Lib.hid ((Two.start w _ _).call hb1)
    obtain ⟨c0, c1, c2, f0, f1, f2⟩ := T1.out.1.c3
    obtain ⟨d0, d1, d2, k0, k1, k2⟩ := T1.out.2.1.c3
    clear hb1
    go_wp2_with fail
    refine (gadd_yes ax ay gx gy HP.out.1 HP.out.2.1 HS.out _).mono ?_
    rintro e w2 ⟨rfl, hb2⟩
    have T2 := Lib.hid (T1.out.call hb2)
    clear c0 c1 c2 f0 f1 f2 d0 d1 d2 k0 k1 k2
    obtain ⟨c0, c1, c2, f0, f1, f2⟩ := T2.out.1.c3
    obtain ⟨d0, d1, d2, k0, k1, k2⟩ := T2.out.2.1.c3
    clear hb2
    go_wp2_with fail
    refine (put_ok ax ay gx gy nx ny _ _ HP.out (mayB_addZ HS.out) _).mono ?_
    rintro e w3 ⟨px, py, qx, qy, rx, ry, rfl, hp, hb3⟩
    have T3 := Lib.hid (T2.out.call hb3)
    have HPP := Lib.hid hp
    clear c0 c1 c2 f0 f1 f2 d0 d1 d2 k0 k1 k2
    obtain ⟨c0, c1, c2, f0, f1, f2⟩ := T3.out.1.c3
    obtain ⟨d0, d1, d2, k0, k1, k2⟩ := T3.out.2.1.c3
    clear hb3 hp
    go_wp2_with fail
    have T4 := T3.out.put rfl (.complex .f64 px py) (.complex .f64 qx qy) (.complex .f64 rx ry)
    obtain ⟨d0, d1, d2, _⟩ := T4.2.1.c3
    exact bodyPost_ret (v := .tuple #[.agg #[.complex .f64 px py, .complex .f64 qx qy, .complex .f64 rx ry], .int .i64 0]) (by simp [results, Tryd.results36, go_sem, d0, d1, d2]) rfl ⟨_, _, _, _, _, _, rfl, fun _ => HPP.out, T4.2.2⟩

theorem drift_ok (ax ay gx gy nx ny : Nat) (h : PoseOK ax ay gx gy nx ny) (w : World) :
    Calls Tryd.prog 36 #[.agg #[.complex .f64 ax ay, .complex .f64 gx gy, .complex .f64 nx ny]] w fun e w' => MayPose w e w' := by
  obtain ⟨c, _, hc⟩ := drift_two ax ay gx gy nx ny h
  refine (hc w).mono ?_
  rintro e w' ⟨p1, p2, p3, p4, p5, p6, he, hp, hb⟩
  exact ⟨p1, p2, p3, p4, p5, p6, c, he, hp, hb⟩

end Go.Proofs.YtmhnodbmcciifaaDoor
