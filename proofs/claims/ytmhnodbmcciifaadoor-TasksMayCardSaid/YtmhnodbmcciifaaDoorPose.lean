/- Poses: the walks of nav's Check, put, Drift, Blend, Steer. Each theorem says under which conditions. -/
import Derived.Test.YtmhnodbmcciifaaDoorNav
namespace Go.Proofs.YtmhnodbmcciifaaDoor
open Go.RowKit Flt

/-- A nose: 1, i, -1 or -i. -/
def NoseOK (nx ny : Nat) : Prop := ∃ n m : Int, Is nx n ∧ Is ny m ∧ ((n = 1 ∧ m = 0) ∨ (n = 0 ∧ m = 1) ∨ (n = -1 ∧ m = 0) ∨ (n = 0 ∧ m = -1))

/-- A pose that may be. -/
def PoseOK (ax ay gx gy nx ny : Nat) : Prop := mayB ax ay = true ∧ mayB gx gy = true ∧ NoseOK nx ny

def poseV (ax ay gx gy nx ny : Nat) : Value := .agg #[.complex .f64 ax ay, .complex .f64 gx gy, .complex .f64 nx ny]

theorem mone_is : Is 13830554455654793216 (-1) := ⟨true, 4503599627370496, 52, by decide +kernel, by decide +kernel⟩

theorem ord {a b : Nat} {x y : Int} (ha : Is a x) (hb : Is b y) : FloatKind.f64.format.order a b = some (compare x y) := order_is ha hb

/-- The four comparisons with a nose. -/
def noseB (nx ny : Nat) : Bool :=
  (FloatKind.f64.format.order nx 4607182418800017408 == some .eq && FloatKind.f64.format.order ny 0 == some .eq) || (FloatKind.f64.format.order nx 0 == some .eq && FloatKind.f64.format.order ny 4607182418800017408 == some .eq) ||
  (FloatKind.f64.format.order nx 13830554455654793216 == some .eq && FloatKind.f64.format.order ny 0 == some .eq) || (FloatKind.f64.format.order nx 0 == some .eq && FloatKind.f64.format.order ny 13830554455654793216 == some .eq)

theorem cmp_eq (x y : Int) : (some (compare x y) == some Ordering.eq) = decide (x = y) := by
  rcases Int.lt_trichotomy x y with h | h | h
  · rw [Int.compare_eq_lt.2 h, decide_eq_false (by omega)]; rfl
  · subst h
    simp
  · rw [Int.compare_eq_gt.2 h, decide_eq_false (by omega)]; rfl

theorem noseB_is {nx ny : Nat} {n m : Int} (hn : Is nx n) (hm : Is ny m) : noseB nx ny = (decide (n = 1) && decide (m = 0) || decide (n = 0) && decide (m = 1) || decide (n = -1) && decide (m = 0) || decide (n = 0) && decide (m = -1)) := by
  unfold noseB
  rw [ord hn one_is, ord hn zero_is, ord hn mone_is, ord hm one_is, ord hm zero_is, ord hm mone_is]
  simp only [cmp_eq]

theorem NoseOK.b {nx ny : Nat} (h : NoseOK nx ny) : noseB nx ny = true := by
  obtain ⟨n, m, hn, hm, h⟩ := h
  rw [noseB_is hn hm]
  rcases h with ⟨rfl, rfl⟩ | ⟨rfl, rfl⟩ | ⟨rfl, rfl⟩ | ⟨rfl, rfl⟩ <;> decide

theorem noseOK_of {nx ny : Nat} {n m : Int} (hn : Is nx n) (hm : Is ny m) (h : noseB nx ny = true) : NoseOK nx ny := by
  rw [noseB_is hn hm] at h
  simp only [Bool.or_eq_true, Bool.and_eq_true, decide_eq_true_eq] at h
  exact ⟨n, m, hn, hm, by omega⟩

/-- What Check tells. -/
def checkE (ax ay gx gy nx ny : Nat) : Int := if mayB ax ay = true ∧ mayB gx gy = true then (if noseB nx ny = true then 0 else 1) else 10

theorem check_nose (ax ay gx gy nx ny : Nat) (n1 : Num ax) (n2 : Num ay) (n3 : Num gx) (n4 : Num gy) (hA : mayB ax ay = true) (hG : mayB gx gy = true) (b1 b2 b3 b4 : Bool)
    (q1 : ∀ w, (binOp .eql 54 (.complex .f64 nx ny) (.complex .f64 4607182418800017408 0)).run Tryd.prog w = .ok (.bool b1) w) (q2 : ∀ w, (binOp .eql 54 (.complex .f64 nx ny) (.complex .f64 0 4607182418800017408)).run Tryd.prog w = .ok (.bool b2) w)
    (q3 : ∀ w, (binOp .eql 54 (.complex .f64 nx ny) (.complex .f64 13830554455654793216 0)).run Tryd.prog w = .ok (.bool b3) w) (q4 : ∀ w, (binOp .eql 54 (.complex .f64 nx ny) (.complex .f64 0 13830554455654793216)).run Tryd.prog w = .ok (.bool b4) w) (w : World) :
    Calls Tryd.prog 49 #[.agg #[.complex .f64 ax ay, .complex .f64 gx gy, .complex .f64 nx ny]] w fun e w' => e = .returned (.int .i64 (if (b1 || b2 || b3 || b4) = true then 0 else 1)) ∧ Below w.heap.size w w' := by
  have hbel : Below w.heap.size w (w.alloc (.cells #[.complex .f64 ax ay, .complex .f64 gx gy, .complex .f64 nx ny] 68)) := (Below.refl _ _).alloc (Nat.le_refl _) _
  have HB := Lib.hid hbel
  have HA := Lib.hid hA
  have HG := Lib.hid hG
  clear hbel hA hG
  cases b1 <;> cases b2 <;> cases b3 <;> cases b4
  all_goals
    go_enter Tryd.func49, Tryd.ntmps49
    go_wp2_with fail
    refine (may_any ax ay n1 n2 _).mono ?_
    rintro e w' ⟨rfl, rfl⟩
    rw [HA.out]
    go_wp2_with fail
    refine (may_any gx gy n3 n4 _).mono ?_
    rintro e w' ⟨rfl, rfl⟩
    rw [HG.out]
    go_wp2_with fail
    go_ret
    exact ⟨rfl, HB.out⟩

theorem check_any (ax ay gx gy nx ny : Nat) (h1 : Num ax ∧ Num ay) (h2 : Num gx ∧ Num gy) (w : World) :
    Calls Tryd.prog 49 #[.agg #[.complex .f64 ax ay, .complex .f64 gx gy, .complex .f64 nx ny]] w fun e w' => e = .returned (.int .i64 (checkE ax ay gx gy nx ny)) ∧ Below w.heap.size w w' := by
  obtain ⟨n1, n2⟩ := h1
  obtain ⟨n3, n4⟩ := h2
  have hbel : Below w.heap.size w (w.alloc (.cells #[.complex .f64 ax ay, .complex .f64 gx gy, .complex .f64 nx ny] 68)) := (Below.refl _ _).alloc (Nat.le_refl _) _
  have HB := Lib.hid hbel
  clear hbel
  cases hA : mayB ax ay
  · have HA := Lib.hid hA
    clear hA
    go_enter Tryd.func49, Tryd.ntmps49
    go_wp2_with fail
    refine (may_any ax ay n1 n2 _).mono ?_
    rintro e w' ⟨rfl, rfl⟩
    rw [HA.out]
    go_wp2_with fail
    go_ret
    exact ⟨by simp [checkE, HA.out], HB.out⟩
  · cases hG : mayB gx gy
    · have HA := Lib.hid hA
      have HG := Lib.hid hG
      clear hA hG
      go_enter Tryd.func49, Tryd.ntmps49
      go_wp2_with fail
      refine (may_any ax ay n1 n2 _).mono ?_
      rintro e w' ⟨rfl, rfl⟩
      rw [HA.out]
      go_wp2_with fail
      refine (may_any gx gy n3 n4 _).mono ?_
      rintro e w' ⟨rfl, rfl⟩
      rw [HG.out]
      go_wp2_with fail
      go_ret
      exact ⟨by simp [checkE, HG.out], HB.out⟩
    · refine (check_nose ax ay gx gy nx ny n1 n2 n3 n4 hA hG _ _ _ _ (fun w => run_eql_complex w 54 .f64 nx ny _ _) (fun w => run_eql_complex w 54 .f64 nx ny _ _) (fun w => run_eql_complex w 54 .f64 nx ny _ _) (fun w => run_eql_complex w 54 .f64 nx ny _ _) w).mono ?_
      rintro e w' ⟨rfl, hb⟩
      refine ⟨?_, hb⟩
      unfold checkE
      rw [if_pos (show mayB ax ay = true ∧ mayB gx gy = true from ⟨hA, hG⟩)]
      rfl

theorem checkE_ok {ax ay gx gy nx ny : Nat} (h : PoseOK ax ay gx gy nx ny) : checkE ax ay gx gy nx ny = 0 := by
  unfold checkE
  rw [if_pos ⟨h.1, h.2.1⟩, if_pos h.2.2.b]

theorem checkE_zero {ax ay gx gy nx ny : Nat} {n m : Int} (hn : Is nx n) (hm : Is ny m) (h : checkE ax ay gx gy nx ny = 0) : PoseOK ax ay gx gy nx ny := by
  unfold checkE at h
  split at h
  · rename_i h1
    split at h
    · rename_i h2
      exact ⟨h1.1, h1.2, noseOK_of hn hm h2⟩
    · cases h
  · cases h

theorem mayB_num {x y : Nat} (h : mayB x y = true) : Num x ∧ Num y := by
  obtain ⟨a, b, hx, hy, _⟩ := mayB_is h
  exact ⟨hx.num, hy.num⟩

theorem check_ok (ax ay gx gy nx ny : Nat) (h : PoseOK ax ay gx gy nx ny) (w : World) :
    Calls Tryd.prog 49 #[.agg #[.complex .f64 ax ay, .complex .f64 gx gy, .complex .f64 nx ny]] w fun e w' => e = .returned (.int .i64 0) ∧ Below w.heap.size w w' :=
  (check_any ax ay gx gy nx ny (mayB_num h.1) (mayB_num h.2.1) w).mono fun _ _ ⟨he, hb⟩ => ⟨by rw [he, checkE_ok h], hb⟩

/-- What 'put' reads, and the place of its result. -/
def PutS (w : World) (u v x : Value) (w' : World) : Prop :=
  w'.cell? ⟨w.heap.size, 0, none⟩ = some u ∧ w'.cell? ⟨w.heap.size, 1, none⟩ = some v ∧ w'.cell? ⟨w.heap.size, 2, none⟩ = some x ∧
  w'.cell? ⟨w.heap.size + 1, 0, none⟩ = some (val w' ⟨w.heap.size + 1, 0, none⟩) ∧ w'.cell? ⟨w.heap.size + 1, 1, none⟩ = some (val w' ⟨w.heap.size + 1, 1, none⟩) ∧ w'.cell? ⟨w.heap.size + 1, 2, none⟩ = some (val w' ⟨w.heap.size + 1, 2, none⟩) ∧
  w'.frozen? ⟨w.heap.size + 1, 0, none⟩ = false ∧ w'.frozen? ⟨w.heap.size + 1, 1, none⟩ = false ∧ w'.frozen? ⟨w.heap.size + 1, 2, none⟩ = false ∧
  Own w' w.heap.size 68 #[u, v, x] ∧ Has w' (w.heap.size + 1) 68 3 ∧ Below w.heap.size w w'

theorem PutS.of {w w' : World} {u v x : Value} (h1 : Own w' w.heap.size 68 #[u, v, x]) (h2 : Has w' (w.heap.size + 1) 68 3) (hb : Below w.heap.size w w') : PutS w u v x w' :=
  ⟨h1.cell 0, h1.cell 1, h1.cell 2, h2.cell (by omega), h2.cell (by omega), h2.cell (by omega), h2.free 0, h2.free 1, h2.free 2, h1, h2, hb⟩

theorem PutS.start (w : World) (u v x a b c : Value) : PutS w u v x (((w.alloc (.cells #[u, v, x] 68)).alloc (.cells #[a, b, c] 68)).drew) := by
  refine PutS.of ((Own.new _ _ _).alloc _).drew ?_ (((Below.refl _ _).alloc (Nat.le_refl _) _).alloc (by simp) _).drew
  have := (Own.new (w.alloc (.cells #[u, v, x] 68)) 68 #[a, b, c]).drew.has
  simpa using this

set_option maxHeartbeats 1600000 in
theorem put_any (ax ay gx gy nx ny x y : Nat) (a b c d : Int) (hn : NoseOK nx ny) (hgx : Is gx a) (hgy : Is gy b) (hx : Is x c) (hy : Is y d) (h1 : a.natAbs < 9007199254740992) (h2 : b.natAbs < 9007199254740992) (h3 : c.natAbs < 9007199254740992) (h4 : d.natAbs < 9007199254740992) (w : World) :
    Calls Tryd.prog 51 #[.agg #[.complex .f64 ax ay, .complex .f64 gx gy, .complex .f64 nx ny], .complex .f64 x y] w fun e w' =>
      e = .returned (.agg #[.complex .f64 (addZ x) (addZ y), .complex .f64 (addZ gx) (addZ gy), .complex .f64 (addZ nx) (addZ ny)]) ∧ Below w.heap.size w w' := by
  obtain ⟨n, m, i1, i2, hnm⟩ := hn
  have C1 := Lib.hid (fun W => nplain_is x y c d hx hy h3 h4 W)
  have C2 := Lib.hid (fun W => nplain_is gx gy a b hgx hgy h1 h2 W)
  have C3 := Lib.hid (fun W => nplain_is nx ny n m i1 i2 (by omega) (by omega) W)
  clear hx hy hgx hgy i1 i2 hnm h1 h2 h3 h4
  go_enter Tryd.func51, Tryd.ntmps51
  go_wp2_with fail
  go_region_held3 (fun w' => w'.cell? ⟨w.heap.size, 0, none⟩ = some (.complex .f64 ax ay) ∧ w'.cell? ⟨w.heap.size, 1, none⟩ = some (.complex .f64 gx gy) ∧ w'.cell? ⟨w.heap.size, 2, none⟩ = some (.complex .f64 nx ny) ∧
      w'.cell? ⟨w.heap.size + 1, 0, none⟩ = some (val w' ⟨w.heap.size + 1, 0, none⟩) ∧ w'.cell? ⟨w.heap.size + 1, 1, none⟩ = some (val w' ⟨w.heap.size + 1, 1, none⟩) ∧ w'.cell? ⟨w.heap.size + 1, 2, none⟩ = some (val w' ⟨w.heap.size + 1, 2, none⟩) ∧
      w'.frozen? ⟨w.heap.size + 1, 0, none⟩ = false ∧ w'.frozen? ⟨w.heap.size + 1, 1, none⟩ = false ∧ w'.frozen? ⟨w.heap.size + 1, 2, none⟩ = false ∧
      Own w' w.heap.size 68 #[.complex .f64 ax ay, .complex .f64 gx gy, .complex .f64 nx ny] ∧ Has w' (w.heap.size + 1) 68 3 ∧ Below w.heap.size w w')
    (first | assumption | exact PutS.start _ _ _ _ _ _ _)
    (first | (go_at_call_of 57 (Value.complex FloatKind.f64 x y); refine (C1.out _).mono ?_; rintro e w' ⟨rfl, rfl⟩) | (go_at_call_of 57 (Value.complex FloatKind.f64 gx gy); refine (C2.out _).mono ?_; rintro e w' ⟨rfl, rfl⟩) | (go_at_call_of 57 (Value.complex FloatKind.f64 nx ny); refine (C3.out _).mono ?_; rintro e w' ⟨rfl, rfl⟩))
  go_wp2
  exact bodyPost_ret (v := .agg #[.complex .f64 (addZ x) (addZ y), .complex .f64 (addZ gx) (addZ gy), .complex .f64 (addZ nx) (addZ ny)]) (by simp [results, Tryd.results51, go_sem]) rfl ⟨rfl, (((Below.refl _ _).alloc (Nat.le_refl _) _).alloc (by simp) _).drew⟩

end Go.Proofs.YtmhnodbmcciifaaDoor
