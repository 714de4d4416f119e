/- The record of complex numbers: the walks of codec's entries, Places, Encode and Decode for parts that are all Points. Each theorem says under which conditions. -/
import Derived.Test.YtmhnodbmcciifaaDoorPoint
import Derived.Deep.LoopGhost
import Derived.Deep.AppendLies
import Derived.WalkSpells
namespace Go.Proofs.YtmhnodbmcciifaaDoor
open Go.RowKit Flt

/-- The table of kinds, as a value. -/
def entriesV : Value := .agg #[.string ⟨#[102, 108, 97, 103]⟩, .int .i64 1, .int .i64 1, .string ⟨#[99, 111, 117, 110, 116]⟩, .int .i64 1, .int .i64 63, .string ⟨#[119, 104, 111, 108, 101]⟩, .int .i64 2, .int .i64 64, .string ⟨#[112, 111, 105, 110, 116]⟩, .int .i64 64, .int .i64 64]

theorem entries_any (w : World) : Calls Tryd.prog 72 #[] w fun e w' => e = .returned entriesV ∧ Below w.heap.size w w' := by
  go_enter Tryd.func72, Tryd.ntmps72
  go_wp2
  refine bodyPost_ret (v := entriesV) (by simp [results, Tryd.results72, go_sem]; rfl) rfl ⟨rfl, ?_⟩
  exact (Below.refl _ _).alloc (Nat.le_refl _) _

/-- A Point's row of the table. -/
def pointE : Value := .agg #[.string ⟨#[112, 111, 105, 110, 116]⟩, .int .i64 64, .int .i64 64]
theorem entry3 (w : World) : (Instr.index 141 entriesV (.int .i64 3)).run Tryd.prog w = .ok pointE w := by kernel_rfl
theorem entryLo (w : World) : (Instr.field 140 pointE 1).run Tryd.prog w = .ok (.int .i64 64) w := by kernel_rfl
theorem entryHi (w : World) : (Instr.field 140 pointE 2).run Tryd.prog w = .ok (.int .i64 64) w := by kernel_rfl

theorem tform_any (w : World) : Calls Tryd.prog 48 #[] w fun e w' => e = .returned (.slice (some ⟨w.heap.size, 0, none⟩) 1 1) ∧ w' = w.alloc (.cells #[.int .i64 3, .int .i64 64] 124) := by
  go_enter Tryd.func48, Tryd.ntmps48
  go_wp2
  go_ret
  exact ⟨rfl, rfl⟩

/-- The places of 'k' Points: each at the beginning of a word of its own. -/
def placeL (k : Nat) : List Value := (List.range k).flatMap fun (i : Nat) => [.int .i64 (i : Int), .int .i64 0]

theorem placeL_succ (k : Nat) : placeL (k + 1) = placeL k ++ [.int .i64 (k : Int), .int .i64 0] := by
  unfold placeL
  rw [List.range_succ, List.flatMap_append]; rfl

theorem info125 : (Tryd.prog.info? 125).map (fun i => (i.zero, i.size, i.bytes)) = some (some (.agg #[.int .i64 0, .int .i64 0]), 2, 16) := by kernel_rfl

theorem own_em (v : Value) : v.ownBlock = none ∨ v.ownBlock ≠ none := Classical.em _

/-- What a round of Places' loop does to its row. -/
theorem place_round {w wr w' w2 : World} {k n : Nat} {x : Int} (hx : x = k) (hbel : Below w.heap.size w wr) (hlt : w.heap.size < wr.heap.size) (hb : Below wr.heap.size wr w')
    (hown2 : w2.ownsRow w.heap.size 125 2 (.slice (some ⟨w.heap.size, 0, none⟩) (k + 1) n) (k + 1) (placeL k ++ [.int .i64 x, .int .i64 0])) (hg : (w'.alloc (.cells #[.int .i64 x, .int .i64 0] 125)).grownBy w2 (some w.heap.size)) :
    w2.ownsRow w.heap.size 125 2 (.slice (some ⟨w.heap.size, 0, none⟩) (k + 1) n) (k + 1) (placeL (k + 1)) ∧ Below w.heap.size w w2 := by
  subst hx
  refine ⟨by rw [placeL_succ]; exact hown2, ?_⟩
  have h1 : Below w.heap.size w w' := hbel.call (by omega) hb
  have h2 := h1.size
  exact (h1.alloc h2 _).grown hg (by simp; omega) (fun j hj => by cases hj; exact Nat.le_refl _)

set_option maxHeartbeats 1600000 in
set_option maxRecDepth 100000 in
theorem places_any (g n : Nat) (n1 : 1 ≤ n) (n64 : n ≤ 64) (w : World) (hg : g < w.heap.size) (h3 : ∀ i, i < n → w.cell? ⟨g, i * 2, none⟩ = some (.int .i64 3)) (h64 : ∀ i, i < n → w.cell? ⟨g, i * 2 + 1, none⟩ = some (.int .i64 64)) :
    Calls Tryd.prog 61 #[.slice (some ⟨g, 0, none⟩) n n] w fun e w' => e = .returned (.tuple #[.slice (some ⟨w.heap.size, 0, none⟩) n n, .int .i64 n, .int .i64 0]) ∧
      w'.ownsRow w.heap.size 125 2 (.slice (some ⟨w.heap.size, 0, none⟩) n n) n (placeL n) ∧ Below w.heap.size w w' := by
  obtain ⟨i0, hi0, hz0, hz1, hz2⟩ := info_parts info125
  have hn0 : ((n : Int) == 0) = false := by simp; omega
  have hn1 : decide ((256 : Int) < (n : Int)) = false := by simp; omega
  have he3 := entry3
  have he4 := entryLo
  have he5 := entryHi
  have H3 := Lib.hid h3
  have H64 := Lib.hid h64
  clear h3 h64
  go_enter Tryd.func61, Tryd.ntmps61
  go_wp2_with (at_make; refine wpList_make_own _ rfl _ _ 120 rfl w.heap.size 125 i0 _ 2 Tryd.underlying120 hi0 hz0 hz1 .i64 .i64 n n rfl rfl rfl (by rw [hz2]; omega) (by unfold maxLen; omega) (Nat.le_refl _) ?_; intro w1 hown hgrow)
  go_step3
  go_wp2_with (at_make; refine wpList_make_own _ rfl _ _ 120 rfl w.heap.size 125 i0 _ 2 Tryd.underlying120 hi0 hz0 hz1 .i64 .i64 n n rfl rfl rfl (by rw [hz2]; omega) (by unfold maxLen; omega) (Nat.le_refl _) ?_; intro w1 hown hgrow)
  go_step3
  go_wp2_with fail
  have hown0 : w1.ownsRow w.heap.size 125 2 (.slice (some ⟨w.heap.size, 0, none⟩) 0 n) 0 (placeL 0) ∧ Below w.heap.size w w1 := ⟨hown, (Below.refl _ _).grown hgrow (Nat.le_refl _) (by simp)⟩
  clear hgrow hown
  have HO := Lib.hid hown0
  go_loopg [5, 6, 7, 8, 24] n (fun q s5 s6 s7 s8 s24 wx => ∃ k : Nat, k + q = n ∧ s5 = .int .i64 0 ∧ s24 = .int .i64 k ∧ s6 = .slice (some ⟨w.heap.size, 0, none⟩) k n ∧ ((k = 0 ∧ s7 = .int .i64 0 ∧ s8 = .int .i64 0) ∨ (0 < k ∧ s7 = .int .i64 ((k : Int) - 1) ∧ s8 = .int .i64 64)) ∧
    wx.ownsRow w.heap.size 125 2 (.slice (some ⟨w.heap.size, 0, none⟩) k n) k (placeL k) ∧ Below w.heap.size w wx)
  case atStart => exact ⟨0, by omega, rfl, rfl, rfl, .inl ⟨rfl, rfl, rfl⟩, HO.out.1, HO.out.2⟩
  case round =>
    obtain ⟨k, hkq, rfl, rfl, rfl, hs, hown, hbel⟩ := hrel
    cases gk with
    | zero =>
      have hkz : ¬ ((k : Int) < (n : Int)) := by omega
      have hpos : (0 : Int) < (n : Int) := by omega
      have HS := Lib.hid hs
      clear hs
      rcases HS.out with ⟨k0, rfl, rfl⟩ | ⟨k1, rfl, rfl⟩
      · exfalso; omega
      · go_wp2_with fail
        obtain rfl : k = n := by omega
        go_ret3
        exact ⟨by simp, hown, hbel⟩
    | succ q =>
      have hkz : (k : Int) < (n : Int) := by omega
      have c3 : wr.cell? ⟨g, k * 2, none⟩ = some (.int .i64 3) := (hbel.cell (p := ⟨g, k * 2, none⟩) hg).trans (H3.out k (by omega))
      have c64 : wr.cell? ⟨g, k * 2 + 1, none⟩ = some (.int .i64 64) := (hbel.cell (p := ⟨g, k * 2 + 1, none⟩) hg).trans (H64.out k (by omega))
      rcases hs with ⟨k0, rfl, rfl⟩ | ⟨k1, rfl, rfl⟩
      · have K0 := Lib.hid k0
        clear k0
        go_wp2_with fail
        go_region_held3 (fun w' => w'.cell? ⟨wr.heap.size, 0, none⟩ = some (.int .i64 3) ∧ w'.cell? ⟨wr.heap.size, 1, none⟩ = some (.int .i64 64) ∧ Own w' wr.heap.size 124 #[.int .i64 3, .int .i64 64] ∧ Below wr.heap.size wr w')
          (first | assumption | exact Boxed2.start wr 124 _ _ | exact Boxed2.call (by assumption) hb)
          (first | (go_at_call 72; refine (entries_any _).mono ?_; rintro e w' ⟨rfl, hb⟩))
        rename_i hH
        have hbx := hH.2.2.2
        have hlt : w.heap.size < wr.heap.size := (hown.lt _ rfl).2
        go_wp2_with ((at_builtin; go_must (refine wpList_append_fits _ rfl _ _ 120 rfl w.heap.size 125 i0 2 Tryd.underlying120 hi0 hz1 w.heap.size k n (placeL k) rfl ((hown.kept (grown_below hbx none) (own_em _)).alloc _) ⟨w'.heap.size, 0, none⟩ 1 1 [.int .i64 0, .int .i64 0] rfl rfl (World.news_of_block (cs := #[.int .i64 0, .int .i64 0]) (t := 125) (fr := (0, 0)) (heap_alloc_new w' _)) (by simp [Value.oneCell']) (by omega) ?_); intro w2 hown2 hgrow2; have c2 : w2.cell? ⟨wr.heap.size, 1, none⟩ = some (.int .i64 64) := ((hH.2.2.1.alloc _).grown hgrow2 (by simp; omega)).cell 1))
        have R := place_round (by have := K0.out; omega) hbel hlt hbx hown2 hgrow2
        go_roundg q
        case measure => omega
        case rel => exact ⟨k + 1, by omega, rfl, by go_num, rfl, .inr ⟨by omega, by have := K0.out; subst this; rfl, rfl⟩, R.1, R.2⟩
      · go_wp2_with fail
        go_region_held3 (fun w' => w'.cell? ⟨wr.heap.size, 0, none⟩ = some (.int .i64 3) ∧ w'.cell? ⟨wr.heap.size, 1, none⟩ = some (.int .i64 64) ∧ Own w' wr.heap.size 124 #[.int .i64 3, .int .i64 64] ∧ Below wr.heap.size wr w')
          (first | assumption | exact Boxed2.start wr 124 _ _ | exact Boxed2.call (by assumption) hb)
          (first | (go_at_call 72; refine (entries_any _).mono ?_; rintro e w' ⟨rfl, hb⟩))
        rename_i hH
        have hbx := hH.2.2.2
        have hlt : w.heap.size < wr.heap.size := (hown.lt _ rfl).2
        go_wp2_with ((at_builtin; go_must (refine wpList_append_fits _ rfl _ _ 120 rfl w.heap.size 125 i0 2 Tryd.underlying120 hi0 hz1 w.heap.size k n (placeL k) rfl ((hown.kept (grown_below hbx none) (own_em _)).alloc _) ⟨w'.heap.size, 0, none⟩ 1 1 [.int .i64 (k : Int), .int .i64 0] rfl rfl (World.news_of_block (cs := #[.int .i64 (k : Int), .int .i64 0]) (t := 125) (fr := (0, 0)) (heap_alloc_new w' _)) (by simp [Value.oneCell']) (by omega) ?_); intro w2 hown2 hgrow2; have c2 : w2.cell? ⟨wr.heap.size, 1, none⟩ = some (.int .i64 64) := ((hH.2.2.1.alloc _).grown hgrow2 (by simp; omega)).cell 1))
        have R := place_round rfl hbel hlt hbx hown2 hgrow2
        go_roundg q
        case measure => omega
        case rel => exact ⟨k + 1, by omega, rfl, by go_num, rfl, .inr ⟨by omega, by go_num, rfl⟩, R.1, R.2⟩

end Go.Proofs.YtmhnodbmcciifaaDoor
