/- The walk of Task.estimate. Each theorem says under which conditions. -/
import Derived.Test.YtmhnodbmcciifaaDoorPoll
import Derived.Deep.DeepCutAuto
namespace Go.Proofs.YtmhnodbmcciifaaDoor
open Go.RowKit Flt

/-- A task with another pose. -/
def posed (s : TS) (ax ay gx gy nx ny : Nat) : TS := { s with ax := ax, ay := ay, gx := gx, gy := gy, nx := nx, ny := ny }

theorem estimate_row (n q ax ay gx gy nx ny : Nat) (s : TS) : Row 23 n s (callC 1 0 0 0 0 0 0 false (.slice (some ⟨q, 0, none⟩) 3 3)) true (posed s ax ay gx gy nx ny) := by
  refine ⟨.inr (.inl ⟨0, q, 3, by decide, by decide, .inr rfl, rfl⟩), rfl, rfl, ⟨rfl, rfl⟩, fun _ => rfl, ?_, ?_, ?_⟩ <;> (intro hk; simp at hk)

/-- What estimate knows in its midst: the pose that the task has now may be. -/
def EstS (w : World) (T : Nat) (s : TS) (W : World) : Prop := StS w T s W ∧ PoseOK s.ax s.ay s.gx s.gy s.nx s.ny

theorem EstS.store {w W : World} {T : Nat} {s : TS} (h : StS w T s W) (hT : T < w.heap.size) {ax ay gx gy nx ny : Nat} (hp : PoseOK ax ay gx gy nx ny) :
    EstS w T (posed s ax ay gx gy nx ny) (((W.setCell ⟨T, 7, none⟩ (.complex .f64 ax ay)).setCell ⟨T, 8, none⟩ (.complex .f64 gx gy)).setCell ⟨T, 9, none⟩ (.complex .f64 nx ny)) := by
  have hne : w.heap.size ≠ T := by omega
  refine ⟨.of ?_ ?_ ?_, hp⟩
  · exact ((h.2.2.2.2.1.far (p := ⟨T, 7, none⟩) hne _).far (p := ⟨T, 8, none⟩) hne _).far (p := ⟨T, 9, none⟩) hne _
  · exact ((h.2.2.2.2.2.1.put 7 (.complex .f64 ax ay)).put 8 (.complex .f64 gx gy)).put 9 (.complex .f64 nx ny)
  · exact ((h.2.2.2.2.2.2.setCell (p := ⟨T, 7, none⟩) (.inl rfl) _).setCell (p := ⟨T, 8, none⟩) (.inl rfl) _).setCell (p := ⟨T, 9, none⟩) (.inl rfl) _

theorem StS.alloc {w W : World} {T : Nat} {s : TS} (h : StS w T s W) (o : Obj) : StS w T s (W.alloc o) := h.call ((Below.refl _ _).alloc (Nat.le_refl _) o)
theorem EstS.alloc {w W : World} {T : Nat} {s : TS} (h : EstS w T s W) (o : Obj) : EstS w T s (W.alloc o) := ⟨h.1.alloc o, h.2⟩
theorem EstS.call {w W W' : World} {T : Nat} {s : TS} (h : EstS w T s W) (hb : Below W.heap.size W W') : EstS w T s W' := ⟨h.1.call hb, h.2⟩
theorem EstS.drew {w W : World} {T : Nat} {s : TS} (h : EstS w T s W) : EstS w T s W.drew := ⟨h.1.drew, h.2⟩

/-- The cells that estimate reads and writes. -/
theorem StS.frozen {w W : World} {T : Nat} {s : TS} (h : StS w T s W) : W.frozen? ⟨T, 7, none⟩ = false ∧ W.frozen? ⟨T, 8, none⟩ = false ∧ W.frozen? ⟨T, 9, none⟩ = false ∧ T < W.heap.size :=
  ⟨h.2.2.2.2.2.1.free 7, h.2.2.2.2.2.1.free 8, h.2.2.2.2.2.1.free 9, h.2.2.2.2.2.1.lt⟩

/-- What Blend's region knows. -/
def BlS (w : World) (T : Nat) (s : TS) (g x y : Nat) (W : World) : Prop :=
  W.cell? ⟨T, 7, none⟩ = some (.complex .f64 s.ax s.ay) ∧ W.cell? ⟨T, 8, none⟩ = some (.complex .f64 s.gx s.gy) ∧ W.cell? ⟨T, 9, none⟩ = some (.complex .f64 s.nx s.ny) ∧ W.cell? ⟨g, 3, none⟩ = some (.complex .f64 x y) ∧ g < W.heap.size ∧ EstS w T s W

theorem BlS.of {w W : World} {T g x y : Nat} {s : TS} (h : EstS w T s W) (hg : W.cell? ⟨g, 3, none⟩ = some (.complex .f64 x y)) (lg : g < W.heap.size) : BlS w T s g x y W := ⟨h.1.1, h.1.2.1, h.1.2.2.1, hg, lg, h⟩
theorem BlS.drew {w W : World} {T g x y : Nat} {s : TS} (h : BlS w T s g x y W) : BlS w T s g x y W.drew := .of h.2.2.2.2.2.drew h.2.2.2.1 h.2.2.2.2.1
theorem BlS.call {w W W' : World} {T g x y : Nat} {s : TS} (h : BlS w T s g x y W) (hb : Below W.heap.size W W') : BlS w T s g x y W' :=
  .of (h.2.2.2.2.2.call hb) (((bcell hb).1 g 3 h.2.2.2.2.1).trans h.2.2.2.1) (Nat.lt_of_lt_of_le h.2.2.2.2.1 hb.size)
theorem BlS.alloc {w W : World} {T g x y : Nat} {s : TS} (h : BlS w T s g x y W) (o : Obj) : BlS w T s g x y (W.alloc o) := h.call ((Below.refl _ _).alloc (Nat.le_refl _) o)
theorem EstS.far {w W : World} {T : Nat} {s : TS} (h : EstS w T s W) {p : Addr} (h1 : p.block ≠ T) (h2 : w.heap.size < p.block) (u : Value) : EstS w T s (W.setCell p u) :=
  ⟨.of (h.1.2.2.2.2.1.far (by omega) u) (h.1.2.2.2.2.2.1.far (Ne.symm h1) u) (h.1.2.2.2.2.2.2.setCell (.inr (by omega)) u), h.2⟩
theorem BlS.far {w W : World} {T g x y : Nat} {s : TS} (h : BlS w T s g x y W) {p : Addr} (h1 : p.block ≠ T) (h2 : w.heap.size < p.block) (h3 : g < p.block) (u : Value) : BlS w T s g x y (W.setCell p u) := by
  have hc : (W.setCell p u).cell? ⟨g, 3, none⟩ = W.cell? ⟨g, 3, none⟩ := World.cell?_of_block (w := W) (Below.heap_setCell W p u g (by omega))
  exact .of (h.2.2.2.2.2.far h1 h2 u) (hc.trans h.2.2.2.1) (by rw [size_setCell]; exact h.2.2.2.2.1)
theorem BlS.far3 {w W : World} {T g x y k : Nat} {s : TS} (h : BlS w T s g x y W) (h1 : k ≠ T) (h2 : w.heap.size < k) (h3 : g < k) (a b c : Value) : BlS w T s g x y (((W.setCell ⟨k, 0, none⟩ a).setCell ⟨k, 1, none⟩ b).setCell ⟨k, 2, none⟩ c) :=
  ((h.far (p := ⟨k, 0, none⟩) h1 h2 h3 a).far (p := ⟨k, 1, none⟩) h1 h2 h3 b).far (p := ⟨k, 2, none⟩) h1 h2 h3 c


/-- Some pose that may be is what the task has now. -/
def SomeS (w : World) (T : Nat) (s : TS) (W : World) : Prop := ∃ a1 a2 a3 a4 a5 a6, EstS w T (posed s a1 a2 a3 a4 a5 a6) W

theorem posed_self (s : TS) : posed s s.ax s.ay s.gx s.gy s.nx s.ny = s := rfl

/-- What Blend has told, in its block. -/
def BlR (w : World) (T : Nat) (s : TS) (g : Nat) (c : Int) (W : World) : Prop :=
  ∃ p1 p2 p3 p4 p5 p6, (c = 0 → PoseOK p1 p2 p3 p4 p5 p6) ∧ Own W g 68 #[.complex .f64 p1 p2, .complex .f64 p3 p4, .complex .f64 p5 p6] ∧ EstS w T s W

/-- The same, by the two slots that hold it. -/
def BlP (w : World) (T : Nat) (s : TS) (u v : Value) (W : World) : Prop := ∃ (g : Nat) (c : Int), u = .pointer (some ⟨g, 0, none⟩) ∧ v = .int .i64 c ∧ w.heap.size < g ∧ g ≠ T ∧ BlR w T s g c W

set_option maxHeartbeats 3200000 in
theorem estimate_ok (T kind n : Nat) (l : List (Array Value)) (s : TS) (w : World) (h : TaskI w T kind n l s) : Calls Tryd.prog 23 #[.pointer (some ⟨T, 0, none⟩)] w (StepPost 23 T kind n l s w) := by
  have HT := Lib.hid h
  have lT0 := h.lt
  have HS := Lib.hid (StS.of (Own.new w 41 zero11) (h.own.alloc (.cells zero11 41)) ((Chg.refl T w).alloc (.cells zero11 41)))
  obtain ⟨_, _, _, _, _, _, _, c7, c8, c9, c10, _⟩ := row_cells h.own
  clear h
  go_enter Tryd.func23, Tryd.ntmps23
  go_wp2_with fail
  refine (drift_ok _ _ _ _ _ _ HT.out.pose _).mono ?_
  rintro e w1 ⟨a1, a2, a3, a4, a5, a6, c, rfl, hp, hb1⟩
  have HS1 := Lib.hid (show EstS w T s _ from ⟨HS.out.call hb1, HT.out.pose⟩)
  have HP := Lib.hid hp
  clear hb1 hp c7 c8 c9 c10
  go_upto_if 21 with fail
  go_cut [] (fun wx => SomeS w T s wx)
  case first =>
    obtain ⟨k7, k8, k9, lT⟩ := HS1.out.1.frozen
    obtain ⟨c7, c8, c9, c10, _⟩ := HS1.out.1
    by_cases hc : c = 0
    · have HPP := Lib.hid (HP.out hc)
      clear HP
      subst hc
      go_wp2_with fail
      go_meet
      case rel => exact ⟨a1, a2, a3, a4, a5, a6, (EstS.store HS1.out.1 lT0 HPP.out).alloc _⟩
    · go_wp2_with fail
      go_meet
      case rel => exact ⟨_, _, _, _, _, _, HS1.out.alloc _⟩
  case rest =>
    clear HS1 HP
    obtain ⟨a1, a2, a3, a4, a5, a6, hE⟩ := hcut
    have HA := Lib.hid hE
    clear hE
    go_wp2_with fail
    refine (order_any T n (posed s a1 a2 a3 a4 a5 a6) _ HA.out.1.2.2.2.2.2.1 (HT.out.orders.chg HA.out.1.2.2.2.2.2.2)).mono ?_
    rintro e w2 ⟨t, m, f, x, y, b, rfl, hg, _, hb2⟩
    have HS2 := Lib.hid (HA.out.call hb2)
    have HZ := Lib.hid hg.2.2.2.2
    clear hg hb2
    go_upto_if 31 with fail
    go_cut [] (fun wx => SomeS w T s wx)
    case first =>
      cases b
      · go_wp2_with fail
        go_meet
        case rel => exact ⟨_, _, _, _, _, _, HS2.out.alloc _⟩
      · have HS3 := Lib.hid (HS2.out.alloc (.cells #[.int .i64 t, .int .i64 m, .int .i64 f, .complex .f64 x y] 56))
        have HB3 := Lib.hid (BlS.of HS3.out (g := w2.heap.size) (x := x) (y := y) (by have := (Own.new w2 56 #[.int .i64 t, .int .i64 m, .int .i64 f, .complex .f64 x y]).cell 3; exact this) (by simp))
        have CB := Lib.hid (fun W => blend_ok _ _ _ _ _ _ x y HS2.out.2 HZ.out W)
        have hz2 : w.heap.size < w2.heap.size := HS2.out.1.2.2.2.2.1.lt
        have hTz : T < w2.heap.size := HS2.out.1.2.2.2.2.2.1.lt
        have hk1 : w2.heap.size + 1 ≠ T := by omega
        have hk2 : w.heap.size < w2.heap.size + 1 := by omega
        have hk3 : w2.heap.size < w2.heap.size + 1 := by omega
        have HK := Lib.hid (And.intro hk1 (And.intro hk2 hk3))
        clear hk1 hk2 hk3 HA
        go_upto_region 6 with fail
        go_cut [8, 9] (fun s8 s9 wx => BlP w T (posed s a1 a2 a3 a4 a5 a6) s8 s9 wx)
        case first =>
          go_region_held3 (fun W => W.cell? ⟨T, 7, none⟩ = some (.complex .f64 (posed s a1 a2 a3 a4 a5 a6).ax (posed s a1 a2 a3 a4 a5 a6).ay) ∧ W.cell? ⟨T, 8, none⟩ = some (.complex .f64 (posed s a1 a2 a3 a4 a5 a6).gx (posed s a1 a2 a3 a4 a5 a6).gy) ∧ W.cell? ⟨T, 9, none⟩ = some (.complex .f64 (posed s a1 a2 a3 a4 a5 a6).nx (posed s a1 a2 a3 a4 a5 a6).ny) ∧ W.cell? ⟨w2.heap.size, 3, none⟩ = some (.complex .f64 x y) ∧ w2.heap.size < W.heap.size ∧ EstS w T (posed s a1 a2 a3 a4 a5 a6) W)
            (first | assumption | exact HB3.out.drew | exact HBC.out | exact BlS.alloc HBC.out _ | exact BlS.alloc (by assumption) _ | exact BlS.far3 (by assumption) HK.out.1 HK.out.2.1 HK.out.2.2 _ _ _)
            (first | (go_at_call 38; refine (CB.out _).mono ?_; rintro e w' ⟨p1, p2, p3, p4, p5, p6, c2, rfl, hp2, hbC⟩; obtain ⟨hcC, hfC⟩ := bcell hbC; have HBC := Lib.hid (show BlS w T (posed s a1 a2 a3 a4 a5 a6) w2.heap.size x y w' from BlS.call (by assumption) hbC)))
          all_goals
            rename_i hH
            have HHE := Lib.hid hH.2.2.2.2.2
            have HP2 := Lib.hid hp2
            have hsz : w2.heap.size + 1 ≤ w'.heap.size := by have := hbC.size; simp at this; omega
            have HB := Lib.hid hbC
            clear hH hp2 hbC hcC hfC
            go_wp2_with fail
            go_meet
            case rel =>
              first
              | exact ⟨w'.heap.size, c2, rfl, rfl, by omega, by omega, p1, p2, p3, p4, p5, p6, HP2.out, Own.new w' 68 _, HHE.out⟩
              | exact ⟨w2.heap.size + 1, c2, rfl, rfl, HK.out.2.1, HK.out.1, p1, p2, p3, p4, p5, p6, HP2.out, (((own_second w2 (.cells #[.int .i64 t, .int .i64 m, .int .i64 f, .complex .f64 x y] 56) 68 #[.complex .f64 0 0, .complex .f64 0 0, .complex .f64 0 0]).drew.call HB.out).has.three _ _ _), HHE.out⟩
        case rest =>
          obtain ⟨g, c2, rfl, rfl, hg1, hg2, p1, p2, p3, p4, p5, p6, hp2, ho, hE⟩ := hcut
          have HX := Lib.hid hp2
          have HE := Lib.hid hE
          obtain ⟨k7, k8, k9, lT⟩ := hE.1.frozen
          obtain ⟨c7, c8, c9, c10, _⟩ := hE.1
          obtain ⟨d0, d1, d2, _⟩ := ho.c3
          have lg := ho.lt
          clear hp2 hE ho
          by_cases hc : c2 = 0
          · have HPP := Lib.hid (HX.out hc)
            clear HX
            subst hc
            go_wp2_with fail
            go_meet
            case rel => exact ⟨p1, p2, p3, p4, p5, p6, EstS.store HE.out.1 lT0 HPP.out⟩
          · go_wp2_with fail
            go_meet
            case rel => exact ⟨_, _, _, _, _, _, HE.out⟩
    case rest =>
      clear HA HS2 HZ
      obtain ⟨a1, a2, a3, a4, a5, a6, hE⟩ := hcut
      have HS5 := Lib.hid hE
      obtain ⟨c7, c8, c9, c10, _⟩ := hE.1
      clear hE
      go_wp2_with fail
      refine (nencode_ok _ _ _ _ _ _ HS5.out.2 _).mono ?_
      rintro e w7 ⟨q, rfl, hb7⟩
      have HS7 := Lib.hid (HS5.out.call hb7)
      clear hb7 c7 c8 c9 c10
      obtain ⟨⟨d0, d1, d2, d3, d4, d5, d6, d7, d8, d9, d10⟩, f0, f1, f2, f3, f4, f5, f6, f7, f8, f9, f10⟩ := emptyC HS7.out.1.2.2.2.2.1
      go_wp2_with fail
      obtain ⟨d0, d1, d2, d3, d4, d5, d6, d7, d8, d9, d10⟩ := cellsC (putC 1 0 0 0 0 0 0 false (.slice (some ⟨q, 0, none⟩) 3 3) HS7.out.1.2.2.2.2.1)
      exact bodyPost_ret (v := .tuple #[.agg (callC 1 0 0 0 0 0 0 false (.slice (some ⟨q, 0, none⟩) 3 3)), .bool true]) (by simp [results, Tryd.results23, go_sem, callC, d0, d1, d2, d3, d4, d5, d6, d7, d8, d9, d10]) rfl
        ⟨_, _, posed s a1 a2 a3 a4 a5 a6, rfl, estimate_row n q _ _ _ _ _ _ s, turn_end (s' := posed s a1 a2 a3 a4 a5 a6) HT.out HS7.out.1.2.2.2.2.2.1 HS7.out.1.2.2.2.2.2.2 (Nat.le_refl _) rfl rfl rfl HS7.out.2 HT.out.goal 1 0 0 0 0 0 0 false (.slice (some ⟨q, 0, none⟩) 3 3) (HT.out.hear.chg (HS7.out.1.2.2.2.2.2.2.put11 (Nat.le_refl _) _ _ _ _ _ _ _ _ _ _ _))⟩

end Go.Proofs.YtmhnodbmcciifaaDoor
