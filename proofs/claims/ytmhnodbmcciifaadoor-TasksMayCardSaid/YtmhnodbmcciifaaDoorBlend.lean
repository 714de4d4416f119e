/- The walks of nav's Blend and Steer. Each theorem says under which conditions. -/
import Derived.Test.YtmhnodbmcciifaaDoorDrift
import Derived.StillTailTactics
namespace Go.Proofs.YtmhnodbmcciifaaDoor
open Go.RowKit Flt

/-- 'min' and 'max' of two whole floats. -/
theorem run_fmin {a b : Nat} {x y : Int} (ha : Is a x) (hb : Is b y) :
    ∃ r, (∀ (P : Program) (ts : Array TypeId) (t : TypeId) (w : World), (Builtin.min_ ts t #[.float .f64 a, .float .f64 b]).run P w = .ok (.float .f64 r) w) ∧ Is r (min x y) := by
  have ho := ord ha hb
  rcases Int.lt_trichotomy x y with h | h | h
  · rw [Int.compare_eq_lt.2 h] at ho
    refine ⟨a, fun P ts t w => by simp [Builtin.min_, Builtin.min2, ho], ?_⟩
    rw [show min x y = x from by omega]; exact ha
  · rw [Int.compare_eq_eq.2 h] at ho
    refine ⟨if (FloatKind.f64.decode a).neg then a else b, fun P ts t w => by simp [Builtin.min_, Builtin.min2, ho], ?_⟩
    subst h
    rw [show min x x = x from by omega]
    split <;> assumption
  · rw [Int.compare_eq_gt.2 h] at ho
    refine ⟨b, fun P ts t w => by simp [Builtin.min_, Builtin.min2, ho], ?_⟩
    rw [show min x y = y from by omega]; exact hb

theorem run_fmax {a b : Nat} {x y : Int} (ha : Is a x) (hb : Is b y) :
    ∃ r, (∀ (P : Program) (ts : Array TypeId) (t : TypeId) (w : World), (Builtin.max_ ts t #[.float .f64 a, .float .f64 b]).run P w = .ok (.float .f64 r) w) ∧ Is r (max x y) := by
  have ho := ord ha hb
  rcases Int.lt_trichotomy x y with h | h | h
  · rw [Int.compare_eq_lt.2 h] at ho
    refine ⟨b, fun P ts t w => by simp [Builtin.max_, Builtin.max2, ho], ?_⟩
    rw [show max x y = y from by omega]; exact hb
  · rw [Int.compare_eq_eq.2 h] at ho
    refine ⟨if (FloatKind.f64.decode a).neg then b else a, fun P ts t w => by simp [Builtin.max_, Builtin.max2, ho], ?_⟩
    subst h
    rw [show max x x = x from by omega]
    split <;> assumption
  · rw [Int.compare_eq_gt.2 h] at ho
    refine ⟨a, fun P ts t w => by simp [Builtin.max_, Builtin.max2, ho], ?_⟩
    rw [show max x y = x from by omega]; exact ha

/-- The difference of two floats. -/
def subF (a b : Nat) : Nat := (Ieee.double.sub a b).getD 0
theorem subF_is {a b : Nat} {x y : Int} (ha : Is a x) (hb : Is b y) (h : (x - y).natAbs < 9007199254740992) : Ieee.double.sub a b = some (subF a b) ∧ Is (subF a b) (x - y) := by
  obtain ⟨r, hr, ir⟩ := sub_is ha hb h
  unfold subF
  rw [hr]
  exact ⟨rfl, ir⟩

theorem mfour_is : Is 13839561654909534208 (-4) := ⟨true, 4503599627370496, 50, by decide +kernel, by decide +kernel⟩

theorem steer_ok (ax ay gx gy nx ny tx ty : Nat) (h : PoseOK ax ay gx gy nx ny) (ht : mayB tx ty = true) (w : World) :
    Calls Tryd.prog 44 #[.agg #[.complex .f64 ax ay, .complex .f64 gx gy, .complex .f64 nx ny], .complex .f64 tx ty, .int .i64 4] w fun e w' =>
      ∃ zx zy, e = .returned (.tuple #[.complex .f64 zx zy, .int .i64 0]) ∧ mayB zx zy = true ∧ Below w.heap.size w w' := by
  obtain ⟨a, b, ia, ib, _⟩ := mayB_is h.1
  obtain ⟨c, d, ic, id, _⟩ := mayB_is ht
  have s1 := subF_is ic ia (by omega)
  have s2 := subF_is id ib (by omega)
  have hs : ∀ w, (binOp .sub 54 (.complex .f64 tx ty) (.complex .f64 ax ay)).run Tryd.prog w = .ok (.complex .f64 (subF tx ax) (subF ty ay)) w := fun w =>
    run_complex_sum (P := Tryd.prog) w .sub (.inr rfl) 54 .f64 tx ty ax ay _ _ (by unfold cSumBits floatBits; simp only [FloatKind.format, s1.1, s2.1]; rfl)
  obtain ⟨m1, hm1, im1⟩ := run_fmin four_is s1.2
  obtain ⟨m2, hm2, im2⟩ := run_fmin four_is s2.2
  obtain ⟨u1, hu1, iu1⟩ := run_fmax mfour_is im1
  obtain ⟨u2, hu2, iu2⟩ := run_fmax mfour_is im2
  have hc : ∀ w, (convert 3 80 (.int .i64 4)).run Tryd.prog w = .ok (.float .f64 4616189618054758400) w := by
    intro w
    have := run_convert_int_float (P := Tryd.prog) w 3 80 .i64 .f64 4 (by rw [Tryd.underlying3]; rfl) Tryd.underlying80
    rw [show floatOfInt .f64 4 = 4616189618054758400 from by decide +kernel] at this
    exact this
  have hg : ∀ w, (Op.unary .neg (.float .f64 4616189618054758400)).run Tryd.prog w = .ok (.float .f64 13839561654909534208) w := fun w => rfl
  have C := Lib.hid (fun W => nplain_is u1 u2 _ _ iu1 iu2 (by omega) (by omega) W)
  have HZ := Lib.hid (show mayB (addZ u1) (addZ u2) = true from is_mayB (addZ_is iu1 (by omega)).2 (addZ_is iu2 (by omega)).2 (by omega) (by omega) (by omega) (by omega))
  have HP := Lib.hid h
  have HT := Lib.hid ht
  have HN := Lib.hid (mayB_num ht)
  clear h ht ia ib ic id s1 s2 im1 im2 iu1 iu2
  go_enter Tryd.func44, Tryd.ntmps44
  go_wp2_with fail
  refine (check_ok ax ay gx gy nx ny HP.out _).mono ?_
  rintro e w1 ⟨rfl, hb1⟩
  have HB := Lib.hid (((Below.refl w.heap.size w).alloc (Nat.le_refl _) (.cells #[.complex .f64 ax ay, .complex .f64 gx gy, .complex .f64 nx ny] 68)).call (by simp) hb1)
  obtain ⟨c0, c1, c2, f0, f1, f2⟩ := ((Own.new w 68 #[.complex .f64 ax ay, .complex .f64 gx gy, .complex .f64 nx ny]).call hb1).c3
  clear hb1
  go_wp2_with fail
  refine (may_any tx ty HN.out.1 HN.out.2 _).mono ?_
  rintro e w2 ⟨rfl, rfl⟩
  rw [HT.out]
  go_wp2_with fail
  refine (C.out _).mono ?_
  rintro e w2 ⟨rfl, rfl⟩
  go_wp2_with fail
  go_ret2
  exact ⟨_, _, rfl, HZ.out, HB.out⟩

/-- How near a fix of weight 8 brings one. -/
def partI (x y : Int) : Int := ((y - x) * 8).tdiv 16
def partB (a : Nat) (x y : Int) : Nat := addF a (floatOfInt .f64 (partI x y))

theorem partI_in {x y : Int} (x1 : -1048576 < x) (x2 : x < 1048576) (y1 : -1048576 < y) (y2 : y < 1048576) : -1048576 < x + partI x y ∧ x + partI x y < 1048576 := by
  unfold partI
  rcases Int.le_total 0 ((y - x) * 8) with h | h
  · rw [Int.tdiv_eq_ediv_of_nonneg h]; omega
  · have : ((y - x) * 8).tdiv 16 = -((-((y - x) * 8)) / 16) := by
      rw [← Int.tdiv_eq_ediv_of_nonneg (by omega : 0 ≤ -((y - x) * 8)), Int.neg_tdiv, Int.neg_neg]
    rw [this]; omega

theorem conv3 {b : Nat} {n : Int} (h : Is b n) (h1 : -1048576 < n) (h2 : n < 1048576) (w : World) : (convert 80 3 (.float .f64 b)).run Tryd.prog w = .ok (.int .i64 n) w :=
  run_convert_float_int w 80 3 .f64 .i64 b n (by rw [Tryd.underlying80]; rfl) Tryd.underlying3 (conv_int h (by omega) (by omega))

theorem part_ok (a b g : Nat) (x y : Int) (ha : Is a x) (hb : Is b y) (x1 : -1048576 < x) (x2 : x < 1048576) (y1 : -1048576 < y) (y2 : y < 1048576) (w : World) (hg : w.cell? ⟨g, 0, none⟩ = some (.int .i64 8)) :
    Calls Tryd.prog 54 #[.float .f64 a, .float .f64 b, .pointer (some ⟨g, 0, none⟩)] w fun e w' => e = .returned (.float .f64 (partB a x y)) ∧ w' = w := by
  have hr := partI_in x1 x2 y1 y2
  have ca : ∀ w, (convert 80 3 (.float .f64 a)).run Tryd.prog w = .ok (.int .i64 x) w := fun w => conv3 ha x1 x2 w
  have cb : ∀ w, (convert 80 3 (.float .f64 b)).run Tryd.prog w = .ok (.int .i64 y) w := fun w => conv3 hb y1 y2 w
  have s := (addF_is ha (write_int (partI x y) (by omega)) (by omega)).1
  have hs : ∀ w, (binOp .add 80 (.float .f64 a) (.float .f64 (floatOfInt .f64 (partI x y)))).run Tryd.prog w = .ok (.float .f64 (partB a x y)) w := fun w =>
    run_float_arith (P := Tryd.prog) w .add 80 .f64 a _ _ s
  have hw1 : IntKind.i64.wrap (y - x) = y - x := by rw [IntKind.wrap_i64]; omega
  have hw2 : IntKind.i64.wrap ((y - x) * 8) = (y - x) * 8 := by rw [IntKind.wrap_i64]; omega
  have hw3 : IntKind.i64.wrap (partI x y) = partI x y := by rw [IntKind.wrap_i64]; omega
  have hpi : ((y - x) * 8).tdiv 16 = partI x y := rfl
  clear ha hb s
  go_enter Tryd.func54, Tryd.ntmps54
  go_wp2
  go_ret
  exact ⟨rfl, rfl⟩

/-- Blend's own blocks: the pose, the weight, the result. -/
def BlendS (w : World) (u v x : Value) (w' : World) : Prop :=
  w'.cell? ⟨w.heap.size, 0, none⟩ = some u ∧ w'.cell? ⟨w.heap.size, 1, none⟩ = some v ∧ w'.cell? ⟨w.heap.size, 2, none⟩ = some x ∧
  w'.cell? ⟨w.heap.size + 1, 0, none⟩ = some (.int .i64 8) ∧
  w'.cell? ⟨w.heap.size + 2, 0, none⟩ = some (val w' ⟨w.heap.size + 2, 0, none⟩) ∧ w'.cell? ⟨w.heap.size + 2, 1, none⟩ = some (val w' ⟨w.heap.size + 2, 1, none⟩) ∧ w'.cell? ⟨w.heap.size + 2, 2, none⟩ = some (val w' ⟨w.heap.size + 2, 2, none⟩) ∧
  w'.frozen? ⟨w.heap.size + 2, 0, none⟩ = false ∧ w'.frozen? ⟨w.heap.size + 2, 1, none⟩ = false ∧ w'.frozen? ⟨w.heap.size + 2, 2, none⟩ = false ∧
  Own w' w.heap.size 68 #[u, v, x] ∧ Own w' (w.heap.size + 1) 3 #[.int .i64 8] ∧ Has w' (w.heap.size + 2) 68 3 ∧ Below w.heap.size w w'

theorem BlendS.of {w w' : World} {u v x : Value} (h1 : Own w' w.heap.size 68 #[u, v, x]) (h2 : Own w' (w.heap.size + 1) 3 #[.int .i64 8]) (h3 : Has w' (w.heap.size + 2) 68 3) (hb : Below w.heap.size w w') : BlendS w u v x w' :=
  ⟨h1.cell 0, h1.cell 1, h1.cell 2, h2.cell 0, h3.cell (by omega), h3.cell (by omega), h3.cell (by omega), h3.free 0, h3.free 1, h3.free 2, h1, h2, h3, hb⟩

theorem BlendS.start (w : World) (u v x a b c : Value) : BlendS w u v x (((w.alloc (.cells #[u, v, x] 68)).alloc (.cells #[.int .i64 8] 3)).alloc (.cells #[a, b, c] 68)) := by
  refine .of (((Own.new _ _ _).alloc _).alloc _) ?_ ?_ ((((Below.refl _ _).alloc (Nat.le_refl _) _).alloc (by simp) _).alloc (by simp; omega) _)
  · have := (Own.new (w.alloc (.cells #[u, v, x] 68)) 3 #[.int .i64 8]).alloc (.cells #[a, b, c] 68)
    simpa using this
  · have := (Own.new ((w.alloc (.cells #[u, v, x] 68)).alloc (.cells #[.int .i64 8] 3)) 68 #[a, b, c]).has
    simpa using this

theorem BlendS.drew {w w1 : World} {u v x : Value} (h : BlendS w u v x w1) : BlendS w u v x w1.drew := by
  obtain ⟨_, _, _, _, _, _, _, _, _, _, h1, h2, h3, hb1⟩ := h
  exact .of h1.drew h2.drew h3.drew hb1.drew

theorem BlendS.call {w w1 w2 : World} {u v x : Value} (h : BlendS w u v x w1) (hb : Below w1.heap.size w1 w2) : BlendS w u v x w2 := by
  obtain ⟨_, _, _, _, _, _, _, _, _, _, h1, h2, h3, hb1⟩ := h
  exact .of (h1.call hb) (h2.call hb) (h3.call hb) (hb1.call (by have := h1.lt; omega) hb)

theorem BlendS.store {w w1 : World} {u v x : Value} (h : BlendS w u v x w1) (a b c : Value) : BlendS w u v x (((w1.setCell ⟨w.heap.size + 2, 0, none⟩ a).setCell ⟨w.heap.size + 2, 1, none⟩ b).setCell ⟨w.heap.size + 2, 2, none⟩ c) := by
  obtain ⟨_, _, _, _, _, _, _, _, _, _, h1, h2, h3, hb⟩ := h
  have n1 : w.heap.size ≠ w.heap.size + 2 := by omega
  have n2 : w.heap.size + 1 ≠ w.heap.size + 2 := by omega
  exact .of (((h1.far n1 _).far n1 _).far n1 _) (((h2.far n2 _).far n2 _).far n2 _) (((h3.put _ _).put _ _).put _ _) (((hb.setCell (show w.heap.size ≤ w.heap.size + 1 + 1 from by omega) _).setCell (show w.heap.size ≤ w.heap.size + 1 + 1 from by omega) _).setCell (show w.heap.size ≤ w.heap.size + 1 + 1 from by omega) _)

set_option maxRecDepth 20000 in
set_option maxHeartbeats 1600000 in
theorem blend_ok (ax ay gx gy nx ny fx fy : Nat) (h : PoseOK ax ay gx gy nx ny) (hz : mayB fx fy = true) (w : World) :
    Calls Tryd.prog 38 #[.agg #[.complex .f64 ax ay, .complex .f64 gx gy, .complex .f64 nx ny], .complex .f64 fx fy, .int .i64 8] w fun e w' => MayPose w e w' := by
  obtain ⟨a, b, ia, ib, a1, a2, b1, b2⟩ := mayB_is h.1
  obtain ⟨c, d, ic, id, c1, c2, d1, d2⟩ := mayB_is hz
  obtain ⟨p, q, ip, iq, p1, p2, q1, q2⟩ := mayB_is h.2.1
  have e1 := partI_in a1 a2 c1 c2
  have e2 := partI_in b1 b2 d1 d2
  have s1 := (addF_is ia (write_int (partI a c) (by omega)) (by omega)).2
  have s2 := (addF_is ib (write_int (partI b d) (by omega)) (by omega)).2
  have hmf : ∀ (fn : Fn) (first cap : Array Value) (w : World), (Instr.makeFunc fn first cap).run Tryd.prog w = .ok (.func fn first cap) w := fun _ _ _ _ => rfl
  have R : PoseOK (addZ (partB ax a c)) (addZ (partB ay b d)) (addZ gx) (addZ gy) (addZ nx) (addZ ny) :=
    ⟨mayB_addZ (is_mayB s1 s2 e1.1 e1.2 e2.1 e2.2), mayB_addZ h.2.1, h.2.2.plain⟩
  have HR := Lib.hid R
  have C1 := Lib.hid (fun (W : World) hg => part_ok ax fx (w.heap.size + 1) a c ia ic a1 a2 c1 c2 W hg)
  have C2 := Lib.hid (fun (W : World) hg => part_ok ay fy (w.heap.size + 1) b d ib id b1 b2 d1 d2 W hg)
  have C3 := Lib.hid (fun W => put_any ax ay gx gy nx ny (partB ax a c) (partB ay b d) p q (a + partI a c) (b + partI b d) h.2.2 ip iq s1 s2 (by omega) (by omega) (by omega) (by omega) W)
  have HP := Lib.hid h
  have HT := Lib.hid hz
  have HN := Lib.hid (mayB_num hz)
  clear h hz ia ib ic id ip iq a1 a2 b1 b2 c1 c2 d1 d2 p1 p2 q1 q2 e1 e2 s1 s2 R
  go_enter Tryd.func38, Tryd.ntmps38
  go_wp2_with fail
  refine (check_ok ax ay gx gy nx ny HP.out _).mono ?_
  rintro e w1 ⟨rfl, hb1⟩
  have HS := Lib.hid ((BlendS.start w _ _ _ _ _ _).call hb1)
  obtain ⟨k0, k1, k2, k3, k4, k5, k6, k7, k8, k9, _⟩ := HS.out
  clear hb1
  go_wp2_with fail
  refine (may_any fx fy HN.out.1 HN.out.2 _).mono ?_
  rintro e w2 ⟨rfl, rfl⟩
  rw [HT.out]
  go_wp2_with fail
  go_still_tail 16, (by kernel_rfl)
  still_call (C1.out _ k3)
  repeat still_step
  still_call (C2.out _ k3)
  repeat still_step
  refine wpStill_nil ?_
  change wpList _ _ _ _ _ w1.drew
  have HS1 := Lib.hid HS.out.drew
  clear k0 k1 k2 k3 k4 k5 k6 k7 k8 k9
  generalize w1.drew = w2 at HS1 ⊢
  go_wp2_with fail
  refine (C3.out _).mono ?_
  rintro e w3 ⟨rfl, hb3⟩
  have HS3 := Lib.hid (HS1.out.call hb3)
  obtain ⟨k0, k1, k2, k3, k4, k5, k6, k7, k8, k9, _⟩ := HS3.out
  clear hb3
  go_wp2_with fail
  obtain ⟨_, _, _, _, _, _, _, _, _, _, h1, h2, h3, hb⟩ := HS3.out
  have o := h3.three (.complex .f64 (addZ (partB ax a c)) (addZ (partB ay b d))) (.complex .f64 (addZ gx) (addZ gy)) (.complex .f64 (addZ nx) (addZ ny))
  obtain ⟨d0, d1, d2, _⟩ := o.c3
  exact bodyPost_ret (v := .tuple #[.agg #[.complex .f64 (addZ (partB ax a c)) (addZ (partB ay b d)), .complex .f64 (addZ gx) (addZ gy), .complex .f64 (addZ nx) (addZ ny)], .int .i64 0]) (by simp [results, Tryd.results38, go_sem, d0, d1, d2]) rfl
    ⟨_, _, _, _, _, _, _, rfl, fun _ => HR.out, ((hb.setCell (show w.heap.size ≤ w.heap.size + 1 + 1 from by omega) _).setCell (show w.heap.size ≤ w.heap.size + 1 + 1 from by omega) _).setCell (show w.heap.size ≤ w.heap.size + 1 + 1 from by omega) _⟩

end Go.Proofs.YtmhnodbmcciifaaDoor
