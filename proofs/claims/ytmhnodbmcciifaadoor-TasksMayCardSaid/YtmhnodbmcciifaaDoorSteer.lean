/- The walk of Task.steer. Each theorem says under which conditions. -/
import Derived.Test.YtmhnodbmcciifaaDoorSteps
namespace Go.Proofs.YtmhnodbmcciifaaDoor
open Go.RowKit Flt

/-- What a step of a task knows in its midst. -/
def StS (w : World) (T : Nat) (s : TS) (W : World) : Prop :=
  W.cell? ⟨T, 7, none⟩ = some (.complex .f64 s.ax s.ay) ∧ W.cell? ⟨T, 8, none⟩ = some (.complex .f64 s.gx s.gy) ∧ W.cell? ⟨T, 9, none⟩ = some (.complex .f64 s.nx s.ny) ∧ W.cell? ⟨T, 10, none⟩ = some (.complex .f64 s.zx s.zy) ∧
  Own W w.heap.size 41 zero11 ∧ Own W T 70 s.row ∧ Chg T w W

theorem StS.of {w W : World} {T : Nat} {s : TS} (h1 : Own W w.heap.size 41 zero11) (h2 : Own W T 70 s.row) (h3 : Chg T w W) : StS w T s W := by
  obtain ⟨_, _, _, _, _, _, _, c7, c8, c9, c10, _⟩ := row_cells h2
  exact ⟨c7, c8, c9, c10, h1, h2, h3⟩
theorem StS.drew {w W : World} {T : Nat} {s : TS} (h : StS w T s W) : StS w T s W.drew := .of h.2.2.2.2.1.drew h.2.2.2.2.2.1.drew h.2.2.2.2.2.2.drew
theorem StS.call {w W W' : World} {T : Nat} {s : TS} (h : StS w T s W) (hb : Below W.heap.size W W') : StS w T s W' := .of (h.2.2.2.2.1.call hb) (h.2.2.2.2.2.1.call hb) (h.2.2.2.2.2.2.below hb)

theorem zero_may : mayB 0 0 = true := is_mayB zero_is zero_is (by decide) (by decide) (by decide) (by decide)

theorem steer_row (q n : Nat) (s : TS) : Row 29 n s (callC 1 2 0 0 0 0 0 false (.slice (some ⟨q, 0, none⟩) 1 1)) true s := by
  refine ⟨.inr (.inl ⟨2, q, 1, by decide, by decide, .inl rfl, rfl⟩), rfl, rfl, ⟨rfl, rfl⟩, fun _ => rfl, ?_, ?_, ?_⟩ <;> (intro hk; simp at hk)

/-- A call's block, behind the store of a call. -/
theorem outC {W W' : World} {g : Nat} {y : TypeId} (o : Own W g y zero11) (k t cap rank src mode fl : Int) (free : Bool) (words : Value) (hW : W' = w11 W g (Value.int .i64 k) (Value.int .i64 t) (Value.int .i64 0) (Value.int .i64 cap) (Value.int .i64 rank) (Value.int .i64 src) (Value.int .i64 mode) (Value.int .i64 fl) (Value.bool free) (Value.slice none 0 0) (words)) :
    W'.cell? ⟨g, 0, none⟩ = some (Value.int .i64 k) ∧ W'.cell? ⟨g, 1, none⟩ = some (Value.int .i64 t) ∧ W'.cell? ⟨g, 2, none⟩ = some (Value.int .i64 0) ∧ W'.cell? ⟨g, 3, none⟩ = some (Value.int .i64 cap) ∧ W'.cell? ⟨g, 4, none⟩ = some (Value.int .i64 rank) ∧ W'.cell? ⟨g, 5, none⟩ = some (Value.int .i64 src) ∧ W'.cell? ⟨g, 6, none⟩ = some (Value.int .i64 mode) ∧ W'.cell? ⟨g, 7, none⟩ = some (Value.int .i64 fl) ∧ W'.cell? ⟨g, 8, none⟩ = some (Value.bool free) ∧ W'.cell? ⟨g, 9, none⟩ = some (Value.slice none 0 0) ∧ W'.cell? ⟨g, 10, none⟩ = some (words) := by
  subst hW
  exact (Own.putZ o).c11.1

/-- The cells of a call's block that is still empty. -/
theorem emptyC {W : World} {g : Nat} {y : TypeId} (o : Own W g y zero11) :
    (W.cell? ⟨g, 0, none⟩ = some (Value.int .i64 0) ∧ W.cell? ⟨g, 1, none⟩ = some (Value.int .i64 0) ∧ W.cell? ⟨g, 2, none⟩ = some (Value.int .i64 0) ∧ W.cell? ⟨g, 3, none⟩ = some (Value.int .i64 0) ∧ W.cell? ⟨g, 4, none⟩ = some (Value.int .i64 0) ∧ W.cell? ⟨g, 5, none⟩ = some (Value.int .i64 0) ∧ W.cell? ⟨g, 6, none⟩ = some (Value.int .i64 0) ∧ W.cell? ⟨g, 7, none⟩ = some (Value.int .i64 0) ∧ W.cell? ⟨g, 8, none⟩ = some (Value.bool false) ∧ W.cell? ⟨g, 9, none⟩ = some (Value.slice none 0 0) ∧ W.cell? ⟨g, 10, none⟩ = some (Value.slice none 0 0)) ∧ W.frozen? ⟨g, 0, none⟩ = false ∧ W.frozen? ⟨g, 1, none⟩ = false ∧ W.frozen? ⟨g, 2, none⟩ = false ∧ W.frozen? ⟨g, 3, none⟩ = false ∧ W.frozen? ⟨g, 4, none⟩ = false ∧ W.frozen? ⟨g, 5, none⟩ = false ∧ W.frozen? ⟨g, 6, none⟩ = false ∧ W.frozen? ⟨g, 7, none⟩ = false ∧ W.frozen? ⟨g, 8, none⟩ = false ∧ W.frozen? ⟨g, 9, none⟩ = false ∧ W.frozen? ⟨g, 10, none⟩ = false := (show Own W g y #[_, _, _, _, _, _, _, _, _, _, _] from o).c11

set_option maxHeartbeats 1600000 in
theorem tsteer_ok (T kind n : Nat) (l : List (Array Value)) (s : TS) (w : World) (h : TaskI w T kind n l s) : Calls Tryd.prog 29 #[.pointer (some ⟨T, 0, none⟩)] w (StepPost 29 T kind n l s w) := by
  have HS := Lib.hid (StS.of (Own.new w 41 zero11) (h.own.alloc (.cells zero11 41)) ((Chg.refl T w).alloc (.cells zero11 41)))
  have HT := Lib.hid h
  have lT := h.lt
  obtain ⟨_, _, _, _, _, _, _, c7, c8, c9, c10, c11, _⟩ := row_cells h.own
  clear h
  have CS := Lib.hid (fun W => steer_ok s.ax s.ay s.gx s.gy s.nx s.ny s.zx s.zy HT.out.pose HT.out.goal W)
  have CZ := Lib.hid (fun W => steer_ok s.ax s.ay s.gx s.gy s.nx s.ny 0 0 HT.out.pose zero_may W)
  by_cases h4 : s.mode = 4
  · rw [h4] at c11
    clear h4
    go_enter Tryd.func29, Tryd.ntmps29
    go_wp2_with fail
    go_region_held3 (fun W => W.cell? ⟨T, 7, none⟩ = some (.complex .f64 s.ax s.ay) ∧ W.cell? ⟨T, 8, none⟩ = some (.complex .f64 s.gx s.gy) ∧ W.cell? ⟨T, 9, none⟩ = some (.complex .f64 s.nx s.ny) ∧ W.cell? ⟨T, 10, none⟩ = some (.complex .f64 s.zx s.zy) ∧
        Own W w.heap.size 41 zero11 ∧ Own W T 70 s.row ∧ Chg T w W)
      (first | assumption | exact HS.out.drew | exact StS.call (by assumption) hbC)
      (first | (go_at_call 44; refine (CS.out _).mono ?_; rintro e w' ⟨zx, zy, rfl, hz, hbC⟩))
    all_goals
      rename_i hH
      have HH := Lib.hid (show StS w T s _ from hH)
      have HZ := Lib.hid hz
      go_wp2_with fail
      refine (word_ok _ _ HZ.out _).mono ?_
      rintro e w5 ⟨q, rfl, hb5⟩
      have HS5 := Lib.hid (StS.call HH.out hb5)
      clear hb5
      obtain ⟨⟨d0, d1, d2, d3, d4, d5, d6, d7, d8, d9, d10⟩, f0, f1, f2, f3, f4, f5, f6, f7, f8, f9, f10⟩ := emptyC HS5.out.2.2.2.2.1
      go_wp2_with fail
      obtain ⟨d0, d1, d2, d3, d4, d5, d6, d7, d8, d9, d10⟩ := outC HS5.out.2.2.2.2.1 1 2 0 0 0 0 0 false (Value.slice (some (Addr.mk q 0 none)) 1 1) rfl
      exact bodyPost_ret (v := Value.tuple #[Value.agg (callC 1 2 0 0 0 0 0 false (Value.slice (some (Addr.mk q 0 none)) 1 1)), Value.bool true]) (by simp [results, Tryd.results29, go_sem, callC, d0, d1, d2, d3, d4, d5, d6, d7, d8, d9, d10]) rfl ⟨_, _, _, rfl, steer_row q _ _, same_end HT.out HS5.out.2.2.2.2.2.1 HS5.out.2.2.2.2.2.2 _ _ _ _ _ _ _ _ _ _ _⟩
  · by_cases h5 : s.mode = 5
    · rw [h5] at c11
      clear h4 h5
      go_enter Tryd.func29, Tryd.ntmps29
      go_wp2_with fail
      refine (CZ.out _).mono ?_
      rintro e w2 ⟨zx, zy, rfl, hz, hb2⟩
      have HH := Lib.hid (HS.out.call hb2)
      have HZ := Lib.hid hz
      clear hb2 hz
      go_wp2_with fail
      refine (word_ok _ _ HZ.out _).mono ?_
      rintro e w5 ⟨q, rfl, hb5⟩
      have HS5 := Lib.hid (StS.call HH.out hb5)
      clear hb5
      obtain ⟨⟨d0, d1, d2, d3, d4, d5, d6, d7, d8, d9, d10⟩, f0, f1, f2, f3, f4, f5, f6, f7, f8, f9, f10⟩ := emptyC HS5.out.2.2.2.2.1
      go_wp2_with fail
      obtain ⟨d0, d1, d2, d3, d4, d5, d6, d7, d8, d9, d10⟩ := outC HS5.out.2.2.2.2.1 1 2 0 0 0 0 0 false (Value.slice (some (Addr.mk q 0 none)) 1 1) rfl
      exact bodyPost_ret (v := Value.tuple #[Value.agg (callC 1 2 0 0 0 0 0 false (Value.slice (some (Addr.mk q 0 none)) 1 1)), Value.bool true]) (by simp [results, Tryd.results29, go_sem, callC, d0, d1, d2, d3, d4, d5, d6, d7, d8, d9, d10]) rfl ⟨_, _, _, rfl, steer_row q _ _, same_end HT.out HS5.out.2.2.2.2.2.1 HS5.out.2.2.2.2.2.2 _ _ _ _ _ _ _ _ _ _ _⟩
    · go_enter Tryd.func29, Tryd.ntmps29
      go_wp2_with fail
      refine (word_ok _ _ zero_may _).mono ?_
      rintro e w5 ⟨q, rfl, hb5⟩
      have HS5 := Lib.hid (StS.call HS.out hb5)
      clear hb5
      obtain ⟨⟨d0, d1, d2, d3, d4, d5, d6, d7, d8, d9, d10⟩, f0, f1, f2, f3, f4, f5, f6, f7, f8, f9, f10⟩ := emptyC HS5.out.2.2.2.2.1
      go_wp2_with fail
      obtain ⟨d0, d1, d2, d3, d4, d5, d6, d7, d8, d9, d10⟩ := outC HS5.out.2.2.2.2.1 1 2 0 0 0 0 0 false (Value.slice (some (Addr.mk q 0 none)) 1 1) rfl
      exact bodyPost_ret (v := Value.tuple #[Value.agg (callC 1 2 0 0 0 0 0 false (Value.slice (some (Addr.mk q 0 none)) 1 1)), Value.bool true]) (by simp [results, Tryd.results29, go_sem, callC, d0, d1, d2, d3, d4, d5, d6, d7, d8, d9, d10]) rfl ⟨_, _, _, rfl, steer_row q _ _, same_end HT.out HS5.out.2.2.2.2.2.1 HS5.out.2.2.2.2.2.2 _ _ _ _ _ _ _ _ _ _ _⟩

end Go.Proofs.YtmhnodbmcciifaaDoor
