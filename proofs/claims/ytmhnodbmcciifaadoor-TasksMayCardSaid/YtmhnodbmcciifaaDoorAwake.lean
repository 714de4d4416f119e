/- The chapter's examples: the walk of awake. Each theorem says under which conditions. -/
import Derived.Test.YtmhnodbmcciifaaDoorAwl
import Derived.Test.YtmhnodbmcciifaaDoorBeg
namespace Go.Proofs.YtmhnodbmcciifaaDoor
open Go.RowKit Flt

/-- A task without orders, as New makes it. -/
def NewE (kn : Nat) (turns : Int) (w : World) (e : Ending) (w' : World) : Prop :=
  ∃ (T : Nat) (s : TS), e = .returned (.tuple #[.pointer (some ⟨T, 0, none⟩), .int .i64 0]) ∧ w.heap.size ≤ T ∧ T < w'.heap.size ∧ (∀ W, Agree w.heap.size w' W → TaskI W T kn 0 (onceOf kn) s) ∧ s.turns = turns ∧ s.turn = 0 ∧ s.nxt = 0 ∧ s.hear = .nilFunc ∧ Below w.heap.size w w'

theorem new_empty (kind turns : Int) (kn : Nat) (hk : kind = kn) (hk3 : kn ≤ 3) (t0 : 0 ≤ turns) (t1 : turns ≤ 1000) (w : World) : Calls Tryd.prog 11 #[.int .i64 kind, .int .i64 turns, .slice none 0 0] w (NewE kn turns w) := by
  refine (new_any kind turns none 0 0 (fun _ => 0) (fun _ => 0) (fun _ => 0) (fun _ => 0) (fun _ => 0) w (by omega) (fun _ => ⟨rfl, rfl⟩) (fun a h => by cases h) (fun i h => absurd h (by omega)) (fun i h => absurd h (by omega))).mono ?_
  rintro e w' (⟨c, _, hbad, _⟩ | ⟨T, k', s, rfl, h1, h2, _, _, h5, h6, h7, h8, h9, h10, h11, hb⟩)
  · omega
  · obtain rfl : k' = kn := by omega
    exact ⟨T, s, rfl, h5, h6, h7, h8, h9, h10, h11, hb⟩

theorem guard_hover : guardF 3 0 = (callC 7 0 0 0 3 7 0 false (.slice none 0 0), true) := by kernel_rfl
theorem guard_safe : guardF 7 0 = (callC 7 0 0 0 3 6 0 true (.slice none 0 0), true) := by kernel_rfl

theorem rng_of {kind : Nat} {s : TS} {turns turn nxt : Int} (h1 : s.turns = turns) (h2 : s.turn = turn) (h3 : s.nxt = nxt) (a : 0 ≤ turn) (b : turn ≤ turns) (c : turns ≤ 1000) (d : 0 ≤ nxt) (e : nxt ≤ (rowsOf kind).length) : Rng kind s := ⟨by omega, by omega, by omega, by omega, by omega⟩

theorem TaskI.allocT {w : World} {T kind n : Nat} {l : List (Array Value)} {s : TS} (h : TaskI w T kind n l s) (o : Obj) : TaskI (w.alloc o) T kind n l s := h.below ((Below.refl _ _).alloc (Nat.le_refl _) o)

theorem Below.of_chg {B T : Nat} {a w : World} (h : Chg T a w) (hT : B ≤ T) (hB : B ≤ a.heap.size) : Below B a w := ⟨h.os, h.tape, h.output, h.size, fun k hk => h.block k (by omega) (by omega)⟩

set_option maxRecDepth 100000 in
set_option maxHeartbeats 6400000 in
theorem awake_ok (w : World) : Calls Tryd.prog 5 #[] w fun e w' => e = .returned (.bool true) ∧ Below w.heap.size w w' := by
  go_enter Tryd.func5, Tryd.ntmps5
  go_wp2_with fail
  refine (new_empty 3 2 3 rfl (by decide) (by decide) (by decide) _).mono ?_
  rintro e wA ⟨T, s0, rfl, hT0, hT1, hTI, p1, p2, p3, p4, hbA⟩
  have HT0 := Lib.hid (And.intro (hTI wA (Agree.refl _ _)) (And.intro p1 (And.intro p2 (And.intro p3 p4))))
  have HBA := Lib.hid hbA
  clear hTI p1 p2 p3 p4 hbA
  go_wp2_with fail
  refine (new_empty 1 1 1 rfl (by decide) (by decide) (by decide) _).mono ?_
  rintro e w0 ⟨U, u0, rfl, hU0, hU1, hUI, p1, p2, p3, p4, hb0⟩
  have HTU := Lib.hid (And.intro hUI (And.intro p1 (And.intro p2 (And.intro p3 p4))))
  have HB0 := Lib.hid (HBA.out.call HBA.out.size hb0)
  have HT1 := Lib.hid (HT0.out.1.below hb0)
  have HC0 := Lib.hid (Chg.refl T w0)
  have HQ0 := Lib.hid HT0.out.2
  clear hUI p1 p2 p3 p4 hb0 HT0
  go_wp2_with fail
  refine (next_any T 3 0 [] (answerA 0) s0 _ HT1.out (rng_of HQ0.out.1 HQ0.out.2.1 HQ0.out.2.2.1 (by decide) (by decide) (by decide) (by decide) (by decide)) (answerA_words _ _) (fun c h => absurd h (by simp))).mono ?_
  rintro e w1 ⟨c, b, l', s1, rfl, hn, hT, hC⟩
  obtain ⟨rfl, rfl, rfl, q1, q2, q3, q4⟩ := fs1 hn HQ0.out.2.2.2 (by have := HQ0.out.1; have := HQ0.out.2.1; omega) HQ0.out.2.2.1
  have HQ1 := Lib.hid (show s1.turns = 2 ∧ s1.turn = 0 ∧ s1.nxt = 1 ∧ ∃ B, s1.hear = closure 41 B from ⟨by have := HQ0.out.1; omega, by have := HQ0.out.2.1; omega, q3, q4⟩)
  have HT2 := Lib.hid (hT.allocT (.cells (modeC) 41))
  have hg1 : w1.heap.size ≠ T := by have := hT.lt; omega
  have HO1_1 := Lib.hid (Own.new w1 41 (modeC))
  have HC1 := Lib.hid ((HC0.out.trans hC).alloc (.cells (modeC) 41))
  clear hn hT hC q1 q2 q3 q4 HT1 HC0 HQ0
  simp only [modeC, callC]
  go_wp2_with fail
  refine (next_any T 3 0 [] (answerA 3) s1 _ HT2.out (rng_of HQ1.out.1 HQ1.out.2.1 HQ1.out.2.2.1 (by decide) (by decide) (by decide) (by decide) (by decide)) (answerA_words _ _) (fun c h => absurd h (by simp))).mono ?_
  rintro e w2 ⟨c, b, l', s2, rfl, hn, hT, hC⟩
  obtain ⟨rfl, rfl, rfl, q1, q2, q3, q4⟩ := fs2 (g := callC 7 0 0 0 3 7 0 false (.slice none 0 0)) hn HQ1.out.2.2.2.choose_spec rfl (by have := HQ1.out.1; have := HQ1.out.2.1; omega) HQ1.out.2.2.1 guard_hover
  have HQ2 := Lib.hid (show s2.turns = 2 ∧ s2.turn = 0 ∧ s2.nxt = 2 ∧ s2.hear = .nilFunc from ⟨by have := HQ1.out.1; omega, by have := HQ1.out.2.1; omega, q3, q4⟩)
  have HT3 := Lib.hid (hT.allocT (.cells (callC 7 0 0 0 3 7 0 false (.slice none 0 0)) 41))
  have hg2 : w2.heap.size ≠ T := by have := hT.lt; omega
  have HO1_2 := Lib.hid ((HO1_1.out.chg hC hg1).alloc (.cells (callC 7 0 0 0 3 7 0 false (.slice none 0 0)) 41))
  have HO2_2 := Lib.hid (Own.new w2 41 (callC 7 0 0 0 3 7 0 false (.slice none 0 0)))
  have HC2 := Lib.hid ((HC1.out.trans hC).alloc (.cells (callC 7 0 0 0 3 7 0 false (.slice none 0 0)) 41))
  clear hn hT hC q1 q2 q3 q4 HO1_1 HT2 HC1 HQ1
  simp only [callC]
  go_wp2_with fail
  refine (next_any T 3 0 [] (answerA 0) s2 _ HT3.out (rng_of HQ2.out.1 HQ2.out.2.1 HQ2.out.2.2.1 (by decide) (by decide) (by decide) (by decide) (by decide)) (answerA_words _ _) (fun c h => absurd h (by simp))).mono ?_
  rintro e w3 ⟨c, b, l', s3, rfl, hn, hT, hC⟩
  obtain ⟨rfl, rfl, rfl, q1, q2, q3, q4⟩ := fs3 hn HQ2.out.2.2.2 (by have := HQ2.out.1; have := HQ2.out.2.1; omega) HQ2.out.2.2.1
  have HQ3 := Lib.hid (show s3.turns = 2 ∧ s3.turn = 1 ∧ s3.nxt = 1 ∧ ∃ B, s3.hear = closure 41 B from ⟨by have := HQ2.out.1; omega, by have := HQ2.out.2.1; omega, q3, q4⟩)
  have HT4 := Lib.hid (hT.allocT (.cells (modeC) 41))
  have hg3 : w3.heap.size ≠ T := by have := hT.lt; omega
  have HO1_3 := Lib.hid ((HO1_2.out.chg hC hg1).alloc (.cells (modeC) 41))
  have HO2_3 := Lib.hid ((HO2_2.out.chg hC hg2).alloc (.cells (modeC) 41))
  have HO3_3 := Lib.hid (Own.new w3 41 (modeC))
  have HC3 := Lib.hid ((HC2.out.trans hC).alloc (.cells (modeC) 41))
  clear hn hT hC q1 q2 q3 q4 HO1_2 HO2_2 HT3 HC2 HQ2
  simp only [modeC, callC]
  go_wp2_with fail
  refine (next_any T 3 0 [] (answerA 7) s3 _ HT4.out (rng_of HQ3.out.1 HQ3.out.2.1 HQ3.out.2.2.1 (by decide) (by decide) (by decide) (by decide) (by decide)) (answerA_words _ _) (fun c h => absurd h (by simp))).mono ?_
  rintro e w4 ⟨c, b, l', s4, rfl, hn, hT, hC⟩
  obtain ⟨rfl, rfl, rfl, q1, q2, q3, q4⟩ := fs2 (g := callC 7 0 0 0 3 6 0 true (.slice none 0 0)) hn HQ3.out.2.2.2.choose_spec rfl (by have := HQ3.out.1; have := HQ3.out.2.1; omega) HQ3.out.2.2.1 guard_safe
  have HQ4 := Lib.hid (show s4.turns = 2 ∧ s4.turn = 1 ∧ s4.nxt = 2 ∧ s4.hear = .nilFunc from ⟨by have := HQ3.out.1; omega, by have := HQ3.out.2.1; omega, q3, q4⟩)
  have HT5 := Lib.hid (hT.allocT (.cells (callC 7 0 0 0 3 6 0 true (.slice none 0 0)) 41))
  have hg4 : w4.heap.size ≠ T := by have := hT.lt; omega
  have HO1_4 := Lib.hid ((HO1_3.out.chg hC hg1).alloc (.cells (callC 7 0 0 0 3 6 0 true (.slice none 0 0)) 41))
  have HO2_4 := Lib.hid ((HO2_3.out.chg hC hg2).alloc (.cells (callC 7 0 0 0 3 6 0 true (.slice none 0 0)) 41))
  have HO3_4 := Lib.hid ((HO3_3.out.chg hC hg3).alloc (.cells (callC 7 0 0 0 3 6 0 true (.slice none 0 0)) 41))
  have HO4_4 := Lib.hid (Own.new w4 41 (callC 7 0 0 0 3 6 0 true (.slice none 0 0)))
  have HC4 := Lib.hid ((HC3.out.trans hC).alloc (.cells (callC 7 0 0 0 3 6 0 true (.slice none 0 0)) 41))
  clear hn hT hC q1 q2 q3 q4 HO1_3 HO2_3 HO3_3 HT4 HC3 HQ3
  simp only [callC]
  go_wp2_with fail
  refine (next_any T 3 0 [] (answerA 0) s4 _ HT5.out (rng_of HQ4.out.1 HQ4.out.2.1 HQ4.out.2.2.1 (by decide) (by decide) (by decide) (by decide) (by decide)) (answerA_words _ _) (fun c h => absurd h (by simp))).mono ?_
  rintro e w5 ⟨c, b, l', s5, rfl, hn, hT, hC⟩
  obtain ⟨rfl, rfl, rfl⟩ := fs5 hn HQ4.out.2.2.2 (by have := HQ4.out.1; have := HQ4.out.2.1; omega) HQ4.out.2.2.1
  have HT6 := Lib.hid (hT.allocT (.cells (zero11) 41))
  have hg5 : w5.heap.size ≠ T := by have := hT.lt; omega
  have HO1_5 := Lib.hid (HO1_4.out.chg hC hg1)
  have HO2_5 := Lib.hid (HO2_4.out.chg hC hg2)
  have HO3_5 := Lib.hid (HO3_4.out.chg hC hg3)
  have HO4_5 := Lib.hid (HO4_4.out.chg hC hg4)
  have HO5_5 := Lib.hid (Own.new w5 41 (zero11))
  have HC5 := Lib.hid ((HC4.out.trans hC).alloc (.cells (zero11) 41))
  clear hn hT hC  HO1_4 HO2_4 HO3_4 HO4_4 HT5 HC4 HQ4
  simp only [zero11]
  obtain ⟨x10, _, _, _, _, x15, x16, _, x18, _⟩ := (show Own _ _ _ #[_, _, _, _, _, _, _, _, _, _, _] from HO1_5.out).c11.1
  have y1 := HO1_5.out.lt
  obtain ⟨x20, _, _, _, _, x25, x26, _, x28, _⟩ := (show Own _ _ _ #[_, _, _, _, _, _, _, _, _, _, _] from HO2_5.out).c11.1
  have y2 := HO2_5.out.lt
  obtain ⟨x30, _, _, _, _, x35, x36, _, x38, _⟩ := (show Own _ _ _ #[_, _, _, _, _, _, _, _, _, _, _] from HO3_5.out).c11.1
  have y3 := HO3_5.out.lt
  obtain ⟨x40, _, _, _, _, x45, x46, _, x48, _⟩ := (show Own _ _ _ #[_, _, _, _, _, _, _, _, _, _, _] from HO4_5.out).c11.1
  have y4 := HO4_5.out.lt
  have HV0 := Lib.hid (HTU.out.1 _ (HC5.out.agree hT1))
  have HP0 := Lib.hid HTU.out.2
  have HD0 := Lib.hid (Chg.refl U (w5.alloc (.cells zero11 41)))
  have HBB := Lib.hid ((HB0.out.trans (Below.of_chg HC5.out hT0 HB0.out.size)))
  have hUw : w.heap.size ≤ U := Nat.le_trans HBA.out.size hU0
  go_wp2_with fail
  clear x10 x20 x25 x26 x28 x30 x40 x46 x48 y1 y2 y3 y4
  refine (next_any U 1 0 (onceOf 1) (answerA 0) u0 _ HV0.out (rng_of HP0.out.1 HP0.out.2.1 HP0.out.2.2.1 (by decide) (by decide) (by decide) (by decide) (by decide)) (answerA_words _ _) (once_ok 1)).mono ?_
  rintro e v1 ⟨c, b, l', u1, rfl, hn, hT, hC⟩
  obtain ⟨rfl, rfl, rfl, q1, q2, q3, q4⟩ := cm1 (c0 := callC 0 1 0 0 0 0 0 false (.slice none 0 0)) hn HP0.out.2.2.2
  have HP1 := Lib.hid (show u1.turns = 1 ∧ u1.turn = 0 ∧ u1.nxt = 0 ∧ u1.hear = .nilFunc from ⟨by have := HP0.out.1; omega, by have := HP0.out.2.1; omega, by have := HP0.out.2.2.1; omega, q4⟩)
  have HV1 := Lib.hid (hT.allocT (.cells (callC 0 1 0 0 0 0 0 false (.slice none 0 0)) 41))
  have HD1 := Lib.hid ((HD0.out.trans hC).alloc (.cells (callC 0 1 0 0 0 0 0 false (.slice none 0 0)) 41))
  have hh1 : v1.heap.size ≠ U := by have := hT.lt; omega
  have HW0 := Lib.hid (Own.new v1 41 (callC 0 1 0 0 0 0 0 false (.slice none 0 0)))
  clear hn hT hC q1 q2 q3 q4 HV0 HD0 HP0
  simp only [callC]
  go_wp2_with fail
  refine (next_any U 1 0 ([]) (answerA 0) u1 _ HV1.out (rng_of HP1.out.1 HP1.out.2.1 HP1.out.2.2.1 (by decide) (by decide) (by decide) (by decide) (by decide)) (answerA_words _ _) (fun c h => absurd h (by simp))).mono ?_
  rintro e v2 ⟨c, b, l', u2, rfl, hn, hT, hC⟩
  obtain ⟨rfl, rfl, rfl, q1, q2, q3, q4⟩ := cm2 hn HP1.out.2.2.2 (by have := HP1.out.1; have := HP1.out.2.1; omega) HP1.out.2.2.1
  have HP2 := Lib.hid (show u2.turns = 1 ∧ u2.turn = 0 ∧ u2.nxt = 3 ∧ ∃ B, u2.hear = closure 41 B from ⟨by have := HP1.out.1; omega, by have := HP1.out.2.1; omega, by have := HP1.out.2.2.1; omega, q4⟩)
  have HV2 := Lib.hid (hT.allocT (.cells (modeC) 41))
  have HD2 := Lib.hid ((HD1.out.trans hC).alloc (.cells (modeC) 41))
  have hh2 : v2.heap.size ≠ U := by have := hT.lt; omega
  have HW1 := Lib.hid ((HW0.out.chg hC hh1).alloc (.cells (modeC) 41))
  have HX1 := Lib.hid (Own.new v2 41 (modeC))
  clear hn hT hC q1 q2 q3 q4 HV1 HD1 HP1
  simp only [modeC, callC]
  go_wp2_with fail
  refine (next_any U 1 0 ([]) (answerA 0) u2 _ HV2.out (rng_of HP2.out.1 HP2.out.2.1 HP2.out.2.2.1 (by decide) (by decide) (by decide) (by decide) (by decide)) (answerA_words _ _) (fun c h => absurd h (by simp))).mono ?_
  rintro e v3 ⟨c, b, l', u3, rfl, hn, hT, hC⟩
  obtain ⟨rfl, rfl, rfl⟩ := cm3 hn HP2.out.2.2.2.choose_spec rfl (by have := HP2.out.1; have := HP2.out.2.1; omega) HP2.out.2.2.1
  have HD3 := Lib.hid (HD2.out.trans hC)
  have HW2 := Lib.hid (HW1.out.chg hC hh1)
  have HX2 := Lib.hid (HX1.out.chg hC hh2)
  obtain ⟨x0, x1, _⟩ := (show Own _ _ _ #[_, _, _, _, _, _, _, _, _, _, _] from HW2.out).c11.1
  obtain ⟨y0, _⟩ := (show Own _ _ _ #[_, _, _, _, _, _, _, _, _, _, _] from HX2.out).c11.1
  have z1 := HW2.out.lt
  have z2 := HX2.out.lt
  clear hn hT hC
  go_wp2_with fail
  go_ret
  exact ⟨rfl, HBB.out.trans (Below.of_chg HD3.out hUw HBB.out.size)⟩

end Go.Proofs.YtmhnodbmcciifaaDoor
