/- call.Check at the calls that a task makes: the walks of between, given, own, Check. Each theorem says under which conditions. -/
import Derived.Test.YtmhnodbmcciifaaDoorSteps
import Derived.LoopTactic
namespace Go.Proofs.YtmhnodbmcciifaaDoor
open Go.RowKit
theorem between_yes (n lo hi : Int) (h0 : lo ≤ n) (h1 : n ≤ hi) (w : World) : Calls Tryd.prog 17 #[.int .i64 n, .int .i64 lo, .int .i64 hi] w fun e w' => e = .returned (.bool true) ∧ w = w' := by
  go_enter Tryd.func17, Tryd.ntmps17
  go_wp2
  go_ret
  exact ⟨rfl, rfl⟩

/-- The fields of ten that are given. -/
def bset (l : List Bool) : Nat → Int
  | 0 => 0
  | i + 1 => if l.getD i false then bits .or .i64 (bset l i) (2 ^ i) else bset l i

def tenV (b0 b1 b2 b3 b4 b5 b6 b7 b8 b9 : Bool) : Value := .agg #[.bool b0, .bool b1, .bool b2, .bool b3, .bool b4, .bool b5, .bool b6, .bool b7, .bool b8, .bool b9]


set_option maxHeartbeats 1600000 in
theorem given_true (k t cap rank src mode fl : Int) (b0 b2 b3 b4 b5 b6 b9 : Bool) (A : Option Addr) (n m : Nat) (h0 : (t != 0) = b0) (h2 : (cap != 0) = b2) (h3 : (rank != 0) = b3) (h4 : (src != 0) = b4) (h5 : (mode != 0) = b5) (h6 : (fl != 0) = b6) (h9 : decide (0 < n) = b9) (w : World) :
    Calls Tryd.prog 19 #[.agg (callC k t cap rank src mode fl true (.slice A n m))] w fun e w' => e = .returned (.int .i64 (bset [b0, false, b2, b3, b4, b5, b6, true, false, b9] 10)) ∧ Below w.heap.size w w' := by
  have i0 : ∀ w, (Instr.index 87 (tenV b0 false b2 b3 b4 b5 b6 true false b9) (.int .i64 0)).run Tryd.prog w = .ok (.bool b0) w := fun _ => by kernel_rfl
  have i1 : ∀ w, (Instr.index 87 (tenV b0 false b2 b3 b4 b5 b6 true false b9) (.int .i64 1)).run Tryd.prog w = .ok (.bool false) w := fun _ => by kernel_rfl
  have i2 : ∀ w, (Instr.index 87 (tenV b0 false b2 b3 b4 b5 b6 true false b9) (.int .i64 2)).run Tryd.prog w = .ok (.bool b2) w := fun _ => by kernel_rfl
  have i3 : ∀ w, (Instr.index 87 (tenV b0 false b2 b3 b4 b5 b6 true false b9) (.int .i64 3)).run Tryd.prog w = .ok (.bool b3) w := fun _ => by kernel_rfl
  have i4 : ∀ w, (Instr.index 87 (tenV b0 false b2 b3 b4 b5 b6 true false b9) (.int .i64 4)).run Tryd.prog w = .ok (.bool b4) w := fun _ => by kernel_rfl
  have i5 : ∀ w, (Instr.index 87 (tenV b0 false b2 b3 b4 b5 b6 true false b9) (.int .i64 5)).run Tryd.prog w = .ok (.bool b5) w := fun _ => by kernel_rfl
  have i6 : ∀ w, (Instr.index 87 (tenV b0 false b2 b3 b4 b5 b6 true false b9) (.int .i64 6)).run Tryd.prog w = .ok (.bool b6) w := fun _ => by kernel_rfl
  have i7 : ∀ w, (Instr.index 87 (tenV b0 false b2 b3 b4 b5 b6 true false b9) (.int .i64 7)).run Tryd.prog w = .ok (.bool true) w := fun _ => by kernel_rfl
  have i8 : ∀ w, (Instr.index 87 (tenV b0 false b2 b3 b4 b5 b6 true false b9) (.int .i64 8)).run Tryd.prog w = .ok (.bool false) w := fun _ => by kernel_rfl
  have i9 : ∀ w, (Instr.index 87 (tenV b0 false b2 b3 b4 b5 b6 true false b9) (.int .i64 9)).run Tryd.prog w = .ok (.bool b9) w := fun _ => by kernel_rfl
  simp only [tenV] at i0 i1 i2 i3 i4 i5 i6 i7 i8 i9
  go_enter Tryd.func19, Tryd.ntmps19
  simp only [callC]
  go_wp2_with fail
  clear h0 h2 h3 h4 h5 h6 h9
  go_loop [3, 38] (fun a i => ∃ j : Nat, j ≤ 10 ∧ i = .int .i64 j ∧ a = .int .i64 (bset [b0, false, b2, b3, b4, b5, b6, true, false, b9] j)) (fun _ i => 10 - (intOf i).toNat)
  case atStart => exact ⟨0, by omega, rfl, rfl⟩
  case round =>
    obtain ⟨j, hj, rfl, rfl⟩ := hrel
    by_cases h10 : j = 10
    · subst h10
      go_wp2_with fail
      go_ret
      exact ⟨rfl, (Below.refl _ _).alloc (Nat.le_refl _) _⟩
    · have hc : j = 0 ∨ j = 1 ∨ j = 2 ∨ j = 3 ∨ j = 4 ∨ j = 5 ∨ j = 6 ∨ j = 7 ∨ j = 8 ∨ j = 9 := by omega
      clear hj h10
      rcases hc with rfl | rfl | rfl | rfl | rfl | rfl | rfl | rfl | rfl | rfl
      · go_wp2_with fail
        all_goals exact ⟨⟨1, by omega, rfl, by simp [bset, *]⟩, by simp [intOf]⟩
      · go_wp2_with fail
        all_goals exact ⟨⟨2, by omega, rfl, by simp [bset, *]⟩, by simp [intOf]⟩
      · go_wp2_with fail
        all_goals exact ⟨⟨3, by omega, rfl, by simp [bset, *]⟩, by simp [intOf]⟩
      · go_wp2_with fail
        all_goals exact ⟨⟨4, by omega, rfl, by simp [bset, *]⟩, by simp [intOf]⟩
      · go_wp2_with fail
        all_goals exact ⟨⟨5, by omega, rfl, by simp [bset, *]⟩, by simp [intOf]⟩
      · go_wp2_with fail
        all_goals exact ⟨⟨6, by omega, rfl, by simp [bset, *]⟩, by simp [intOf]⟩
      · go_wp2_with fail
        all_goals exact ⟨⟨7, by omega, rfl, by simp [bset, *]⟩, by simp [intOf]⟩
      · go_wp2_with fail
        all_goals exact ⟨⟨8, by omega, rfl, by simp [bset, *]⟩, by simp [intOf]⟩
      · go_wp2_with fail
        all_goals exact ⟨⟨9, by omega, rfl, by simp [bset, *]⟩, by simp [intOf]⟩
      · go_wp2_with fail
        all_goals exact ⟨⟨10, by omega, rfl, by simp [bset, *]⟩, by simp [intOf]⟩

set_option maxHeartbeats 1600000 in
theorem given_false (k t cap rank src mode fl : Int) (b0 b2 b3 b4 b5 b6 b9 : Bool) (A : Option Addr) (n m : Nat) (h0 : (t != 0) = b0) (h2 : (cap != 0) = b2) (h3 : (rank != 0) = b3) (h4 : (src != 0) = b4) (h5 : (mode != 0) = b5) (h6 : (fl != 0) = b6) (h9 : decide (0 < n) = b9) (w : World) :
    Calls Tryd.prog 19 #[.agg (callC k t cap rank src mode fl false (.slice A n m))] w fun e w' => e = .returned (.int .i64 (bset [b0, false, b2, b3, b4, b5, b6, false, false, b9] 10)) ∧ Below w.heap.size w w' := by
  have i0 : ∀ w, (Instr.index 87 (tenV b0 false b2 b3 b4 b5 b6 false false b9) (.int .i64 0)).run Tryd.prog w = .ok (.bool b0) w := fun _ => by kernel_rfl
  have i1 : ∀ w, (Instr.index 87 (tenV b0 false b2 b3 b4 b5 b6 false false b9) (.int .i64 1)).run Tryd.prog w = .ok (.bool false) w := fun _ => by kernel_rfl
  have i2 : ∀ w, (Instr.index 87 (tenV b0 false b2 b3 b4 b5 b6 false false b9) (.int .i64 2)).run Tryd.prog w = .ok (.bool b2) w := fun _ => by kernel_rfl
  have i3 : ∀ w, (Instr.index 87 (tenV b0 false b2 b3 b4 b5 b6 false false b9) (.int .i64 3)).run Tryd.prog w = .ok (.bool b3) w := fun _ => by kernel_rfl
  have i4 : ∀ w, (Instr.index 87 (tenV b0 false b2 b3 b4 b5 b6 false false b9) (.int .i64 4)).run Tryd.prog w = .ok (.bool b4) w := fun _ => by kernel_rfl
  have i5 : ∀ w, (Instr.index 87 (tenV b0 false b2 b3 b4 b5 b6 false false b9) (.int .i64 5)).run Tryd.prog w = .ok (.bool b5) w := fun _ => by kernel_rfl
  have i6 : ∀ w, (Instr.index 87 (tenV b0 false b2 b3 b4 b5 b6 false false b9) (.int .i64 6)).run Tryd.prog w = .ok (.bool b6) w := fun _ => by kernel_rfl
  have i7 : ∀ w, (Instr.index 87 (tenV b0 false b2 b3 b4 b5 b6 false false b9) (.int .i64 7)).run Tryd.prog w = .ok (.bool false) w := fun _ => by kernel_rfl
  have i8 : ∀ w, (Instr.index 87 (tenV b0 false b2 b3 b4 b5 b6 false false b9) (.int .i64 8)).run Tryd.prog w = .ok (.bool false) w := fun _ => by kernel_rfl
  have i9 : ∀ w, (Instr.index 87 (tenV b0 false b2 b3 b4 b5 b6 false false b9) (.int .i64 9)).run Tryd.prog w = .ok (.bool b9) w := fun _ => by kernel_rfl
  simp only [tenV] at i0 i1 i2 i3 i4 i5 i6 i7 i8 i9
  go_enter Tryd.func19, Tryd.ntmps19
  simp only [callC]
  go_wp2_with fail
  clear h0 h2 h3 h4 h5 h6 h9
  go_loop [3, 38] (fun a i => ∃ j : Nat, j ≤ 10 ∧ i = .int .i64 j ∧ a = .int .i64 (bset [b0, false, b2, b3, b4, b5, b6, false, false, b9] j)) (fun _ i => 10 - (intOf i).toNat)
  case atStart => exact ⟨0, by omega, rfl, rfl⟩
  case round =>
    obtain ⟨j, hj, rfl, rfl⟩ := hrel
    by_cases h10 : j = 10
    · subst h10
      go_wp2_with fail
      go_ret
      exact ⟨rfl, (Below.refl _ _).alloc (Nat.le_refl _) _⟩
    · have hc : j = 0 ∨ j = 1 ∨ j = 2 ∨ j = 3 ∨ j = 4 ∨ j = 5 ∨ j = 6 ∨ j = 7 ∨ j = 8 ∨ j = 9 := by omega
      clear hj h10
      rcases hc with rfl | rfl | rfl | rfl | rfl | rfl | rfl | rfl | rfl | rfl
      · go_wp2_with fail
        all_goals exact ⟨⟨1, by omega, rfl, by simp [bset, *]⟩, by simp [intOf]⟩
      · go_wp2_with fail
        all_goals exact ⟨⟨2, by omega, rfl, by simp [bset, *]⟩, by simp [intOf]⟩
      · go_wp2_with fail
        all_goals exact ⟨⟨3, by omega, rfl, by simp [bset, *]⟩, by simp [intOf]⟩
      · go_wp2_with fail
        all_goals exact ⟨⟨4, by omega, rfl, by simp [bset, *]⟩, by simp [intOf]⟩
      · go_wp2_with fail
        all_goals exact ⟨⟨5, by omega, rfl, by simp [bset, *]⟩, by simp [intOf]⟩
      · go_wp2_with fail
        all_goals exact ⟨⟨6, by omega, rfl, by simp [bset, *]⟩, by simp [intOf]⟩
      · go_wp2_with fail
        all_goals exact ⟨⟨7, by omega, rfl, by simp [bset, *]⟩, by simp [intOf]⟩
      · go_wp2_with fail
        all_goals exact ⟨⟨8, by omega, rfl, by simp [bset, *]⟩, by simp [intOf]⟩
      · go_wp2_with fail
        all_goals exact ⟨⟨9, by omega, rfl, by simp [bset, *]⟩, by simp [intOf]⟩
      · go_wp2_with fail
        all_goals exact ⟨⟨10, by omega, rfl, by simp [bset, *]⟩, by simp [intOf]⟩

/-- What a call of each kind may have. -/
def fieldsL : List Int := [1, 513, 1, 256, 13, 0, 2, 176, 64, 0]

/-- The table of the kinds, as it was laid. -/
def FieldsAt (w : World) : Prop := 0 < w.heap.size ∧ ∀ i v, fieldsL[i]? = some v → w.cell? ⟨0, i, none⟩ = some (.int .i64 v)

theorem FieldsAt.below {w w' : World} (h : FieldsAt w) (hb : Below w.heap.size w w') : FieldsAt w' :=
  ⟨Nat.lt_of_lt_of_le h.1 hb.size, fun i v hi => ((bcell hb).1 0 i h.1).trans (h.2 i v hi)⟩


/-- What Check knows in its midst. -/
def CkS (w : World) (t cap rank src mode fl : Int) (free : Bool) (words : Value) (kn : Nat) (f : Int) (W : World) : Prop :=
  W.cell? ⟨w.heap.size, 0, none⟩ = some (Value.int .i64 kn) ∧ W.cell? ⟨w.heap.size, 1, none⟩ = some (Value.int .i64 t) ∧ W.cell? ⟨w.heap.size, 2, none⟩ = some (Value.int .i64 0) ∧ W.cell? ⟨w.heap.size, 3, none⟩ = some (Value.int .i64 cap) ∧ W.cell? ⟨w.heap.size, 4, none⟩ = some (Value.int .i64 rank) ∧ W.cell? ⟨w.heap.size, 5, none⟩ = some (Value.int .i64 src) ∧ W.cell? ⟨w.heap.size, 6, none⟩ = some (Value.int .i64 mode) ∧ W.cell? ⟨w.heap.size, 7, none⟩ = some (Value.int .i64 fl) ∧ W.cell? ⟨w.heap.size, 8, none⟩ = some (Value.bool free) ∧ W.cell? ⟨w.heap.size, 9, none⟩ = some (Value.slice none 0 0) ∧ W.cell? ⟨w.heap.size, 10, none⟩ = some (words) ∧ W.cell? ⟨0, kn, none⟩ = some (Value.int .i64 f) ∧ w.heap.size < W.heap.size ∧ Own W w.heap.size 41 (callC kn t cap rank src mode fl free words) ∧ Below w.heap.size w W ∧ FieldsAt W

theorem CkS.of {w W : World} {t cap rank src mode fl : Int} {free : Bool} {words : Value} {kn : Nat} {f : Int} (hf : fieldsL[kn]? = some f) (h1 : Own W w.heap.size 41 (callC kn t cap rank src mode fl free words)) (h2 : Below w.heap.size w W) (h3 : FieldsAt W) : CkS w t cap rank src mode fl free words kn f W := by
  obtain ⟨⟨d0, d1, d2, d3, d4, d5, d6, d7, d8, d9, d10⟩, _⟩ := (show Own W w.heap.size 41 #[_, _, _, _, _, _, _, _, _, _, _] from h1).c11
  exact ⟨d0, d1, d2, d3, d4, d5, d6, d7, d8, d9, d10, h3.2 kn f hf, h1.lt, h1, h2, h3⟩

theorem CkS.call {w W W' : World} {t cap rank src mode fl : Int} {free : Bool} {words : Value} {kn : Nat} {f : Int} (hf : fieldsL[kn]? = some f) (h : CkS w t cap rank src mode fl free words kn f W) (hb : Below W.heap.size W W') : CkS w t cap rank src mode fl free words kn f W' := by
  obtain ⟨_, _, _, _, _, _, _, _, _, _, _, _, hlt, h1, h2, h3⟩ := h
  exact CkS.of hf (h1.call hb) (h2.call (by omega) hb) (h3.below hb)

theorem CkS.drew {w W : World} {t cap rank src mode fl : Int} {free : Bool} {words : Value} {kn : Nat} {f : Int} (h : CkS w t cap rank src mode fl free words kn f W) : CkS w t cap rank src mode fl free words kn f W.drew := by
  obtain ⟨d0, d1, d2, d3, d4, d5, d6, d7, d8, d9, d10, d11, d12, h1, h2, h3⟩ := h
  exact ⟨d0, d1, d2, d3, d4, d5, d6, d7, d8, d9, d10, d11, d12, h1.drew, h2.drew, h3.below (Below.refl _ _).drew⟩

set_option maxHeartbeats 800000 in
theorem check_one (k t cap rank src mode fl : Int) (free : Bool) (words : Value) (kn : Nat) (g f : Int) (hk : k = kn) (hkn : kn < 10) (hf : fieldsL[kn]? = some f) (hz : bits .andNot .i64 g f = 0)
    (ho : ∀ w, Calls Tryd.prog 18 #[.agg (callC k t cap rank src mode fl free words)] w fun e w' => e = .returned (.int .i64 0) ∧ Below w.heap.size w w')
    (hg : ∀ w, Calls Tryd.prog 19 #[.agg (callC k t cap rank src mode fl free words)] w fun e w' => e = .returned (.int .i64 g) ∧ Below w.heap.size w w')
    (w : World) (hw : FieldsAt w) : Calls Tryd.prog 10 #[.agg (callC k t cap rank src mode fl free words)] w fun e w' => e = .returned (.int .i64 0) ∧ Below w.heap.size w w' := by
  subst hk
  have HO := Lib.hid ho
  have HG := Lib.hid hg
  have HW := Lib.hid hw
  have HF := Lib.hid hf
  have HZ := Lib.hid hz
  have k0 : (0 : Int) ≤ (kn : Int) := by omega
  have k1 : (kn : Int) < 10 := by omega
  clear ho hg hw hf hz
  go_enter Tryd.func10, Tryd.ntmps10
  simp only [callC]
  go_wp2_with fail
  refine (between_yes _ _ _ (by omega) (by omega) _).mono ?_
  rintro e w1 ⟨rfl, rfl⟩
  go_wp2_with fail
  refine (HO.out _).mono ?_
  rintro e w1 ⟨rfl, hb1⟩
  have O1 := Lib.hid ((Own.new w 41 (callC kn t cap rank src mode fl free words)).call hb1)
  have B1 := Lib.hid (((Below.refl _ _).alloc (Nat.le_refl _) (.cells (callC kn t cap rank src mode fl free words) 41)).call (by simp) hb1)
  have HS := Lib.hid (CkS.of HF.out O1.out B1.out (HW.out.below B1.out))
  have hlt := O1.out.lt
  clear hb1
  go_wp2_with fail
  go_region_held3 (fun W => W.cell? ⟨w.heap.size, 0, none⟩ = some (Value.int .i64 kn) ∧ W.cell? ⟨w.heap.size, 1, none⟩ = some (Value.int .i64 t) ∧ W.cell? ⟨w.heap.size, 2, none⟩ = some (Value.int .i64 0) ∧ W.cell? ⟨w.heap.size, 3, none⟩ = some (Value.int .i64 cap) ∧ W.cell? ⟨w.heap.size, 4, none⟩ = some (Value.int .i64 rank) ∧ W.cell? ⟨w.heap.size, 5, none⟩ = some (Value.int .i64 src) ∧ W.cell? ⟨w.heap.size, 6, none⟩ = some (Value.int .i64 mode) ∧ W.cell? ⟨w.heap.size, 7, none⟩ = some (Value.int .i64 fl) ∧ W.cell? ⟨w.heap.size, 8, none⟩ = some (Value.bool free) ∧ W.cell? ⟨w.heap.size, 9, none⟩ = some (Value.slice none 0 0) ∧ W.cell? ⟨w.heap.size, 10, none⟩ = some (words) ∧ W.cell? ⟨0, kn, none⟩ = some (Value.int .i64 f) ∧ w.heap.size < W.heap.size ∧ Own W w.heap.size 41 (callC kn t cap rank src mode fl free words) ∧ Below w.heap.size w W ∧ FieldsAt W)
    (first | assumption | exact HS.out.drew | exact CkS.call HF.out (by assumption) hbC)
    (first | (go_at_call 19; refine (HG.out _).mono ?_; rintro e w' ⟨rfl, hbC⟩))
  all_goals
    rename_i hH
    have HB := Lib.hid (hH.2.2.2.2.2.2.2.2.2.2.2.2.2.2.1)
    clear hH
    have hz : (bits .andNot .i64 g f != 0) = false := by rw [HZ.out]; rfl
    go_wp2_with fail
    go_ret
    exact ⟨rfl, HB.out⟩

theorem own_plain (k t cap rank src mode fl : Int) (free : Bool) (words : Value) (hk : k = 0 ∨ k = 2 ∨ k = 5 ∨ k = 9) (w : World) :
    Calls Tryd.prog 18 #[.agg (callC k t cap rank src mode fl free words)] w fun e w' => e = .returned (.int .i64 0) ∧ Below w.heap.size w w' := by
  rcases hk with rfl | rfl | rfl | rfl
  all_goals
    go_enter Tryd.func18, Tryd.ntmps18
    simp only [callC]
    go_wp2_with fail
    go_ret
    exact ⟨rfl, (Below.refl _ _).alloc (Nat.le_refl _) _⟩

theorem own_pub (t cap rank src mode fl : Int) (free : Bool) (A : Option Addr) (n m : Nat) (h0 : 1 ≤ n) (h1 : n ≤ 64) (w : World) :
    Calls Tryd.prog 18 #[.agg (callC 1 t cap rank src mode fl free (.slice A n m))] w fun e w' => e = .returned (.int .i64 0) ∧ Below w.heap.size w w' := by
  go_enter Tryd.func18, Tryd.ntmps18
  simp only [callC]
  go_wp2_with fail
  refine (between_yes _ _ _ (by omega) (by omega) _).mono ?_
  rintro e w1 ⟨rfl, rfl⟩
  go_wp2_with fail
  go_ret
  exact ⟨rfl, (Below.refl _ _).alloc (Nat.le_refl _) _⟩

theorem own_sub (t cap rank src mode fl : Int) (free : Bool) (words : Value) (h0 : 1 ≤ cap) (h1 : cap ≤ 15) (h2 : 0 ≤ rank) (h3 : rank ≤ 255) (w : World) :
    Calls Tryd.prog 18 #[.agg (callC 4 t cap rank src mode fl free words)] w fun e w' => e = .returned (.int .i64 0) ∧ Below w.heap.size w w' := by
  go_enter Tryd.func18, Tryd.ntmps18
  simp only [callC]
  go_wp2_with fail
  refine (between_yes _ _ _ (by omega) (by omega) _).mono ?_
  rintro e w1 ⟨rfl, rfl⟩
  go_wp2_with fail
  refine (between_yes _ _ _ (by omega) (by omega) _).mono ?_
  rintro e w1 ⟨rfl, rfl⟩
  go_wp2_with fail
  go_ret
  exact ⟨rfl, (Below.refl _ _).alloc (Nat.le_refl _) _⟩

theorem own_req (t cap rank src mode fl : Int) (free : Bool) (words : Value) (h0 : 0 ≤ src) (h1 : src ≤ 3) (h2 : 0 ≤ mode) (h3 : mode ≤ 7) (w : World) :
    Calls Tryd.prog 18 #[.agg (callC 7 t cap rank src mode fl free words)] w fun e w' => e = .returned (.int .i64 0) ∧ Below w.heap.size w w' := by
  go_enter Tryd.func18, Tryd.ntmps18
  simp only [callC]
  go_wp2_with fail
  refine (between_yes _ _ _ (by omega) (by omega) _).mono ?_
  rintro e w1 ⟨rfl, rfl⟩
  go_wp2_with fail
  refine (between_yes _ _ _ (by omega) (by omega) _).mono ?_
  rintro e w1 ⟨rfl, rfl⟩
  go_wp2_with fail
  go_ret
  exact ⟨rfl, (Below.refl _ _).alloc (Nat.le_refl _) _⟩

theorem own_health (t cap rank src mode fl : Int) (free : Bool) (words : Value) (h0 : 0 ≤ fl) (h1 : fl ≤ 63) (w : World) :
    Calls Tryd.prog 18 #[.agg (callC 8 t cap rank src mode fl free words)] w fun e w' => e = .returned (.int .i64 0) ∧ Below w.heap.size w w' := by
  go_enter Tryd.func18, Tryd.ntmps18
  simp only [callC]
  go_wp2_with fail
  refine (between_yes _ _ _ (by omega) (by omega) _).mono ?_
  rintro e w1 ⟨rfl, rfl⟩
  go_wp2_with fail
  go_ret
  exact ⟨rfl, (Below.refl _ _).alloc (Nat.le_refl _) _⟩

theorem given_any (k t cap rank src mode fl : Int) (free b0 b2 b3 b4 b5 b6 b9 : Bool) (A : Option Addr) (n m : Nat) (h0 : (t != 0) = b0) (h2 : (cap != 0) = b2) (h3 : (rank != 0) = b3) (h4 : (src != 0) = b4) (h5 : (mode != 0) = b5) (h6 : (fl != 0) = b6) (h9 : decide (0 < n) = b9) (w : World) :
    Calls Tryd.prog 19 #[.agg (callC k t cap rank src mode fl free (.slice A n m))] w fun e w' => e = .returned (.int .i64 (bset [b0, false, b2, b3, b4, b5, b6, free, false, b9] 10)) ∧ Below w.heap.size w w' := by
  cases free
  · exact given_false k t cap rank src mode fl b0 b2 b3 b4 b5 b6 b9 A n m h0 h2 h3 h4 h5 h6 h9 w
  · exact given_true k t cap rank src mode fl b0 b2 b3 b4 b5 b6 b9 A n m h0 h2 h3 h4 h5 h6 h9 w

theorem topic_bits (b : Bool) : bits .andNot .i64 (bset [b, false, false, false, false, false, false, false, false, false] 10) 1 = 0 := by cases b <;> decide +kernel
theorem pub_bits (b : Bool) : bits .andNot .i64 (bset [b, false, false, false, false, false, false, false, false, true] 10) 513 = 0 := by cases b <;> decide +kernel
theorem copy_bits : bits .andNot .i64 (bset [true, false, false, false, false, false, false, false, false, false] 10) 1 = 0 := by decide +kernel
theorem sub_bits (a b : Bool) : bits .andNot .i64 (bset [a, false, true, b, false, false, false, false, false, false] 10) 13 = 0 := by cases a <;> cases b <;> decide +kernel
theorem none_bits (f : Int) (h : f = 0) : bits .andNot .i64 (bset [false, false, false, false, false, false, false, false, false, false] 10) f = 0 := by subst h; decide +kernel
theorem req_bits (a b : Bool) : bits .andNot .i64 (bset [false, false, false, false, true, a, false, b, false, false] 10) 176 = 0 := by cases a <;> cases b <;> decide +kernel
theorem health_bits (a : Bool) : bits .andNot .i64 (bset [false, false, false, false, false, false, a, false, false, false] 10) 64 = 0 := by cases a <;> decide +kernel

/-- A call that may be is told so. -/
theorem check_call (cs : Array Value) (h : CallOK cs) (w : World) (hw : FieldsAt w) : Calls Tryd.prog 10 #[.agg cs] w fun e w' => e = .returned (.int .i64 0) ∧ Below w.heap.size w w' := by
  rcases h with ⟨t, t0, t1, rfl⟩ | ⟨t, q, n, t0, t1, hn, rfl⟩ | rfl | rfl | rfl | rfl | ⟨src, m, free, hs, m0, m1, rfl⟩ | ⟨f, f0, f1, rfl⟩ | rfl
  · exact check_one 0 t 0 0 0 0 0 false _ 0 _ 1 rfl (by decide) rfl (topic_bits (t != 0)) (fun w => own_plain _ _ _ _ _ _ _ _ _ (.inl rfl) w) (fun w => given_any _ _ _ _ _ _ _ _ _ _ _ _ _ _ _ _ _ _ rfl rfl rfl rfl rfl rfl rfl w) w hw
  · have hn0 : decide (0 < n) = true := by rcases hn with rfl | rfl <;> rfl
    exact check_one 1 t 0 0 0 0 0 false _ 1 _ 513 rfl (by decide) rfl (pub_bits (t != 0)) (fun w => own_pub _ _ _ _ _ _ _ _ _ _ (by omega) (by omega) w) (fun w => given_any _ _ _ _ _ _ _ _ _ _ _ _ _ _ _ _ _ _ rfl rfl rfl rfl rfl rfl hn0 w) w hw
  · exact check_one 2 2 0 0 0 0 0 false _ 2 _ 1 rfl (by decide) rfl copy_bits (fun w => own_plain _ _ _ _ _ _ _ _ _ (.inr (.inl rfl)) w) (fun w => given_any _ _ _ _ _ _ _ _ _ _ _ _ _ _ _ _ _ _ rfl rfl rfl rfl rfl rfl rfl w) w hw
  · exact check_one 4 0 1 0 0 0 0 false _ 4 _ 13 rfl (by decide) rfl (sub_bits false false) (fun w => own_sub _ _ _ _ _ _ _ _ (by decide) (by decide) (by decide) (by decide) w) (fun w => given_any _ _ _ _ _ _ _ _ _ _ _ _ _ _ _ _ _ _ rfl rfl rfl rfl rfl rfl rfl w) w hw
  · exact check_one 4 1 2 1 0 0 0 false _ 4 _ 13 rfl (by decide) rfl (sub_bits true true) (fun w => own_sub _ _ _ _ _ _ _ _ (by decide) (by decide) (by decide) (by decide) w) (fun w => given_any _ _ _ _ _ _ _ _ _ _ _ _ _ _ _ _ _ _ rfl rfl rfl rfl rfl rfl rfl w) w hw
  · exact check_one 5 0 0 0 0 0 0 false _ 5 _ 0 rfl (by decide) rfl (none_bits 0 rfl) (fun w => own_plain _ _ _ _ _ _ _ _ _ (.inr (.inr (.inl rfl))) w) (fun w => given_any _ _ _ _ _ _ _ _ _ _ _ _ _ _ _ _ _ _ rfl rfl rfl rfl rfl rfl rfl w) w hw
  · have hs0 : (src != 0) = true := by rcases hs with rfl | rfl <;> rfl
    exact check_one 7 0 0 0 src m 0 free _ 7 _ 176 rfl (by decide) rfl (req_bits (m != 0) free) (fun w => own_req _ _ _ _ _ _ _ _ (by omega) (by omega) (by omega) (by omega) w) (fun w => given_any _ _ _ _ _ _ _ _ _ _ _ _ _ _ _ _ _ _ rfl rfl rfl hs0 rfl rfl rfl w) w hw
  · exact check_one 8 0 0 0 0 0 f false _ 8 _ 64 rfl (by decide) rfl (health_bits (f != 0)) (fun w => own_health _ _ _ _ _ _ _ _ (by omega) (by omega) w) (fun w => given_any _ _ _ _ _ _ _ _ _ _ _ _ _ _ _ _ _ _ rfl rfl rfl rfl rfl rfl rfl w) w hw
  · exact check_one 9 0 0 0 0 0 0 false _ 9 _ 0 rfl (by decide) rfl (none_bits 0 rfl) (fun w => own_plain _ _ _ _ _ _ _ _ _ (.inr (.inr (.inr rfl))) w) (fun w => given_any _ _ _ _ _ _ _ _ _ _ _ _ _ _ _ _ _ _ rfl rfl rfl rfl rfl rfl rfl w) w hw


end Go.Proofs.YtmhnodbmcciifaaDoor
