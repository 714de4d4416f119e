/- The three Points of a pose's record: the walks of math/bits.Mul at two small numbers, slices.Repeat and nav.form. Each theorem says under which conditions. -/
import Derived.Test.YtmhnodbmcciifaaDoorCodec
namespace Go.Proofs.YtmhnodbmcciifaaDoor
open Go.RowKit

theorem mul13 (w : World) : Calls Tryd.prog 81 #[.int .u64 1, .int .u64 3] w fun e w' => e = .returned (.tuple #[.int .u64 0, .int .u64 3]) ∧ w = w' := by
  go_enter Tryd.func81, Tryd.ntmps81
  go_wp2
  go_ret2
  exact ⟨by simp <;> decide +kernel, rfl⟩

theorem make3 (w : World) : (Instr.makeSlice 107 (.int .i64 3) (.int .i64 3)).run Tryd.prog w = .ok (.slice (some ⟨w.heap.size, 0, none⟩) 3 3) (w.alloc (.cells #[.int .i64 0, .int .i64 0, .int .i64 0, .int .i64 0, .int .i64 0, .int .i64 0] 124)) := by kernel_rfl

theorem copy_part {w : World} {h g k sLen sCap dLen dCap : Nat} (hm : Nat.min sLen dLen = 1) {cs : Array Value} (hcs : cs.size = 6) (hk : k * 2 + 1 < 6) (ho : Own w h 124 cs) (s0 : w.cell? ⟨g, 0, none⟩ = some (.int .i64 3)) (s1 : w.cell? ⟨g, 1, none⟩ = some (.int .i64 64)) (ty : TypeId) :
    (Builtin.copy_ #[107, 107] ty #[.slice (some ⟨h, k * 2, none⟩) dLen dCap, .slice (some ⟨g, 0, none⟩) sLen sCap]).run Tryd.prog w = .ok (goInt 1) ((w.setCell ⟨h, k * 2, none⟩ (.int .i64 3)).setCell ⟨h, k * 2 + 1, none⟩ (.int .i64 64)) := by
  have := run_copy_elems (P := Tryd.prog) w 107 107 ty 124 h (k * 2) dLen dCap ⟨g, 0, none⟩ sLen sCap 2 1 [.int .i64 3, .int .i64 64] Tryd.underlying107 (by kernel_rfl) hm rfl
    (fun j v hj => by
      match j, hj with
      | 0, hj => simp at hj; subst hj; simpa [Addr.add] using s0
      | 1, hj => simp at hj; subst hj; simpa [Addr.add] using s1)
    (fun j hj => by rw [ho.cell]; simp at hj; simp [hcs]; omega) (fun j _ => ho.free _) (by simp [Value.oneCell'])
  rw [this]; rfl

def Form3 (w : World) (e : Ending) (w' : World) : Prop := ∃ g, e = .returned (.slice (some ⟨g, 0, none⟩) 3 3) ∧ Own w' g 124 #[.int .i64 3, .int .i64 64, .int .i64 3, .int .i64 64, .int .i64 3, .int .i64 64] ∧ w.heap.size ≤ g ∧ Below w.heap.size w w'

/-- The row behind so many copies. -/
def formA : Nat → Array Value
  | 1 => #[.int .i64 3, .int .i64 64, .int .i64 0, .int .i64 0, .int .i64 0, .int .i64 0]
  | 2 => #[.int .i64 3, .int .i64 64, .int .i64 3, .int .i64 64, .int .i64 0, .int .i64 0]
  | _ => #[.int .i64 3, .int .i64 64, .int .i64 3, .int .i64 64, .int .i64 3, .int .i64 64]

set_option maxHeartbeats 1600000 in
set_option maxRecDepth 100000 in
theorem repeat_any (g c : Nat) (w : World) (s0 : w.cell? ⟨g, 0, none⟩ = some (.int .i64 3)) (s1 : w.cell? ⟨g, 1, none⟩ = some (.int .i64 64)) (hg : g < w.heap.size) :
    Calls Tryd.prog 67 #[.slice (some ⟨g, 0, none⟩) 1 c, .int .i64 3] w (Form3 w) := by
  have hmk := make3
  have hcp : ∀ ty, (Builtin.copy_ #[107, 107] ty #[.slice (some ⟨w.heap.size, 0, none⟩) 3 3, .slice (some ⟨g, 0, none⟩) 1 c]).run Tryd.prog (w.alloc (.cells #[.int .i64 0, .int .i64 0, .int .i64 0, .int .i64 0, .int .i64 0, .int .i64 0] 124)) = .ok (goInt 1) (w.alloc (.cells (formA 1) 124)) := by
    intro ty
    have := copy_part (w := w.alloc (.cells #[.int .i64 0, .int .i64 0, .int .i64 0, .int .i64 0, .int .i64 0, .int .i64 0] 124)) (h := w.heap.size) (g := g) (k := 0) (sLen := 1) (sCap := c) (dLen := 3) (dCap := 3) rfl rfl (by omega) (Own.new _ _ _) (by rw [World.cell?_alloc_lt _ _ _ hg]; exact s0) (by rw [World.cell?_alloc_lt _ _ _ hg]; exact s1) ty
    rw [this, World.setCell_alloc_new, World.setCell_alloc_new]
    rfl
  go_enter Tryd.func67, Tryd.ntmps67
  go_wp2_with (first | (go_at_call 81; refine (mul13 _).mono ?_; rintro e w' ⟨rfl, rfl⟩))
  go_loopg [8] 2 (fun q s8 wx => ((q = 0 ∧ s8 = .int .i64 3 ∧ Own wx w.heap.size 124 (formA 3)) ∨ (q = 1 ∧ s8 = .int .i64 2 ∧ Own wx w.heap.size 124 (formA 2)) ∨ (q = 2 ∧ s8 = .int .i64 1 ∧ Own wx w.heap.size 124 (formA 1))) ∧ Below w.heap.size w wx)
  case atStart => exact ⟨.inr (.inr ⟨rfl, rfl, Own.new _ _ _⟩), (Below.refl _ _).alloc (Nat.le_refl _) _⟩
  case round =>
    obtain ⟨ho, hb⟩ := hrel
    rcases ho with ⟨rfl, rfl, ho⟩ | ⟨rfl, rfl, ho⟩ | ⟨rfl, rfl, ho⟩
    · go_wp2_with fail
      go_ret
      exact ⟨_, rfl, ho, Nat.le_refl _, hb⟩
    · have hcp2 : ∀ ty, (Builtin.copy_ #[107, 107] ty #[.slice (some ⟨w.heap.size, 4, none⟩) 1 1, .slice (some ⟨w.heap.size, 0, none⟩) 2 3]).run Tryd.prog wr.drew = .ok (goInt 1) ((wr.drew.setCell ⟨w.heap.size, 4, none⟩ (.int .i64 3)).setCell ⟨w.heap.size, 5, none⟩ (.int .i64 64)) :=
        fun ty => copy_part (k := 2) rfl rfl (by omega) ho.drew (ho.cell 0) (ho.cell 1) ty
      go_wp2_with fail
      go_region
      go_wp2_with fail
      go_roundg 0
      case measure => omega
      case rel => exact ⟨.inl ⟨rfl, rfl, (ho.drew.put 4 (.int .i64 3)).put 5 (.int .i64 64)⟩, (hb.drew.setCell (Nat.le_refl _) _).setCell (Nat.le_refl _) _⟩
    · have hcp2 : ∀ ty, (Builtin.copy_ #[107, 107] ty #[.slice (some ⟨w.heap.size, 2, none⟩) 2 2, .slice (some ⟨w.heap.size, 0, none⟩) 1 3]).run Tryd.prog wr.drew = .ok (goInt 1) ((wr.drew.setCell ⟨w.heap.size, 2, none⟩ (.int .i64 3)).setCell ⟨w.heap.size, 3, none⟩ (.int .i64 64)) :=
        fun ty => copy_part (k := 1) rfl rfl (by omega) ho.drew (ho.cell 0) (ho.cell 1) ty
      go_wp2_with fail
      go_region
      go_wp2_with fail
      go_roundg 1
      case measure => omega
      case rel => exact ⟨.inr (.inl ⟨rfl, rfl, (ho.drew.put 2 (.int .i64 3)).put 3 (.int .i64 64)⟩), (hb.drew.setCell (Nat.le_refl _) _).setCell (Nat.le_refl _) _⟩

theorem nform_any (w : World) : Calls Tryd.prog 56 #[] w (Form3 w) := by
  go_enter Tryd.func56, Tryd.ntmps56
  go_wp2_with fail
  refine (repeat_any _ _ _ (by simp) (by simp) (by simp)).mono ?_
  rintro e w' ⟨g, rfl, ho, hg, hb⟩
  go_wp2_with fail
  go_ret
  exact ⟨g, rfl, ho, by simp at hg; omega, ((Below.refl _ _).alloc (Nat.le_refl _) _).trans (hb.mono (by simp))⟩

end Go.Proofs.YtmhnodbmcciifaaDoor
