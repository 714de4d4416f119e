/- The law's own order, and the document's answer: the walks of order, Right, May, Begin. Each theorem says under which conditions. -/
import Derived.Test.YtmhnodbmcciifaaDoorOrder
import Derived.LoopTactic
import Derived.BigQuiet
import Derived.IntWalk
namespace Go.Proofs.YtmhnodbmcciifaaDoor
open Go.RowKit Flt

/-- The real part of an order's point. -/
def xOf (re kd : Int) : Nat := if kd = 1 then addF (floatOfInt .f64 re) 4602678819172646912 else floatOfInt .f64 re
def yOf (im : Int) : Nat := floatOfInt .f64 im

theorem yOf_num (im : Int) : Num (yOf im) := int_num im
theorem half_add (re : Int) : Ieee.double.add (floatOfInt .f64 re) 4602678819172646912 = some (addF (floatOfInt .f64 re) 4602678819172646912) := by
  obtain ⟨r, hr, _⟩ := add_half_num (int_num re)
  unfold addF
  rw [show Ieee.double.add (floatOfInt .f64 re) 4602678819172646912 = some r from hr]; rfl
theorem xOf_num (re kd : Int) : Num (xOf re kd) := by
  unfold xOf
  split
  · obtain ⟨r, hr, h⟩ := add_half_num (int_num re)
    unfold addF
    rw [show Ieee.double.add (floatOfInt .f64 re) 4602678819172646912 = some r from hr]; exact h
  · exact int_num re

theorem order_law (t m f re im kd : Int) (w : World) : Calls Tryd.prog 12 #[.agg #[.int .i64 t, .int .i64 m, .int .i64 f, .int .i64 re, .int .i64 im, .int .i64 kd]] w fun e w' =>
    e = .returned (.agg #[.int .i64 t, .int .i64 m, .int .i64 f, .complex .f64 (xOf re kd) (yOf im)]) ∧ Below w.heap.size w w' := by
  have hbel : ∀ a b, Below w.heap.size w ((w.alloc a).alloc b) := fun a b => ((Below.refl _ _).alloc (Nat.le_refl _) _).alloc (by simp) _
  have HBE := Lib.hid hbel
  clear hbel
  by_cases hk : kd = 1
  · have hx : xOf re kd = addF (floatOfInt .f64 re) 4602678819172646912 := if_pos hk
    rw [hx]
    have hs : ∀ w, (binOp .add 80 (.float .f64 (floatOfInt .f64 re)) (.float .f64 4602678819172646912)).run Tryd.prog w = .ok (.float .f64 (addF (floatOfInt .f64 re) 4602678819172646912)) w := fun w =>
      run_float_arith (P := Tryd.prog) w .add 80 .f64 _ _ _ (half_add re)
    clear hx
    unfold yOf
    go_enter Tryd.func12, Tryd.ntmps12
    go_wp2_with fail
    exact bodyPost_ret (v := .agg #[.int .i64 t, .int .i64 m, .int .i64 f, .complex .f64 (addF (floatOfInt .f64 re) 4602678819172646912) (floatOfInt .f64 im)]) (by simp [results, Tryd.results12, go_sem]) rfl ⟨rfl, HBE.out _ _⟩
  · have hx : xOf re kd = floatOfInt .f64 re := if_neg hk
    rw [hx]
    clear hx
    unfold yOf
    go_enter Tryd.func12, Tryd.ntmps12
    go_wp2_with fail
    exact bodyPost_ret (v := .agg #[.int .i64 t, .int .i64 m, .int .i64 f, .complex .f64 (floatOfInt .f64 re) (floatOfInt .f64 im)]) (by simp [results, Tryd.results12, go_sem]) rfl ⟨rfl, HBE.out _ _⟩

def SomeBool (w : World) (e : Ending) (w' : World) : Prop := ∃ b, e = .returned (.bool b) ∧ Below w.heap.size w w'

theorem right_any (re im : Int) (w : World) : Calls Tryd.prog 31 #[.agg #[.int .i64 re, .int .i64 im]] w (SomeBool w) := by
  go_enter Tryd.func31, Tryd.ntmps31
  go_wp2_with fail
  all_goals
    go_ret
    exact ⟨_, rfl, (Below.refl _ _).alloc (Nat.le_refl _) _⟩

theorem info61 : (Tryd.prog.info? 61).map (fun i => (i.zero, i.size, i.bytes)) = some (some (.agg #[.int .i64 0, .int .i64 0, .int .i64 0, .int .i64 0, .int .i64 0]), 5, 40) := by kernel_rfl

/-- One of the document's orders in its row. -/
def RefAt (w : World) (b i : Nat) (t m f p q : Int) : Prop :=
  w.cell? ⟨b, i * 5, none⟩ = some (.int .i64 t) ∧ w.cell? ⟨b, i * 5 + 1, none⟩ = some (.int .i64 m) ∧ w.cell? ⟨b, i * 5 + 2, none⟩ = some (.int .i64 f) ∧ w.cell? ⟨b, i * 5 + 3, none⟩ = some (.int .i64 p) ∧ w.cell? ⟨b, i * 5 + 4, none⟩ = some (.int .i64 q)

theorem RefAt.carry {w w' : World} {b i : Nat} {t m f p q : Int} (h : RefAt w b i t m f p q) (hb : Below w.heap.size w w') : RefAt w' b i t m f p q := by
  have lb : b < w.heap.size := World.block_lt_of_cell? w _ h.1
  obtain ⟨h1, h2, h3, h4, h5⟩ := h
  exact ⟨((bcell hb).1 b _ lb).trans h1, ((bcell hb).1 b _ lb).trans h2, ((bcell hb).1 b _ lb).trans h3, ((bcell hb).1 b _ lb).trans h4, ((bcell hb).1 b _ lb).trans h5⟩

def SomeInt (w : World) (e : Ending) (w' : World) : Prop := ∃ c : Int, e = .returned (.int .i64 c) ∧ Below w.heap.size w w'
def SomeV (w : World) (e : Ending) (w' : World) : Prop := ∃ v, e = .returned v ∧ Below w.heap.size w w'

theorem may_early (kind turns : Int) (A : Option Addr) (n c : Nat) (w : World) (h : kind < 0 ∨ 3 < kind ∨ turns < 0 ∨ 1000 < turns ∨ 64 < n) (hn : n ≤ 70) : Calls Tryd.prog 14 #[.int .i64 kind, .int .i64 turns, .slice A n c] w (SomeInt w) := by
  by_cases h1 : kind < 0
  · clear h
    go_enter Tryd.func14, Tryd.ntmps14
    go_wp2_with fail
    go_ret
    exact ⟨_, rfl, Below.refl _ _⟩
  by_cases h2 : 3 < kind
  · clear h
    go_enter Tryd.func14, Tryd.ntmps14
    go_wp2_with fail
    go_ret
    exact ⟨_, rfl, Below.refl _ _⟩
  by_cases h3 : turns < 0
  · clear h
    go_enter Tryd.func14, Tryd.ntmps14
    go_wp2_with fail
    go_ret
    exact ⟨_, rfl, Below.refl _ _⟩
  by_cases h4 : 1000 < turns
  · clear h
    go_enter Tryd.func14, Tryd.ntmps14
    go_wp2_with fail
    go_ret
    exact ⟨_, rfl, Below.refl _ _⟩
  have h5 : 64 < n := by omega
  clear h
  go_enter Tryd.func14, Tryd.ntmps14
  go_wp2_with fail
  go_ret
  exact ⟨_, rfl, Below.refl _ _⟩

/-- What May's loop keeps. -/
def MayI (w : World) (n q : Nat) (v : Value) (w' : World) : Prop := ∃ j : Nat, v = .int .i64 j ∧ j + q = n ∧ Below w.heap.size w w'

set_option maxRecDepth 100000 in
set_option maxHeartbeats 3200000 in
theorem may_main (kind turns : Int) (A : Option Addr) (n c : Nat) (t m f p q : Nat → Int) (w : World) (hk0 : 0 ≤ kind) (hk3 : kind ≤ 3) (ht0 : 0 ≤ turns) (ht1 : turns ≤ 1000) (hn : n ≤ 64)
    (h0 : A = none → n = 0) (h1 : ∀ a, A = some a → ∃ b, a = ⟨b, 0, none⟩ ∧ ∀ i, i < n → RefAt w b i (t i) (m i) (f i) (p i) (q i)) :
    Calls Tryd.prog 14 #[.int .i64 kind, .int .i64 turns, .slice A n c] w (SomeInt w) := by
  have H0 := Lib.hid h0
  have H1 := Lib.hid h1
  clear h0 h1
  go_enter Tryd.func14, Tryd.ntmps14
  go_wp2_with fail
  go_loopg [7] n (fun q s7 wx => MayI w n q s7 wx)
  case atStart => exact ⟨0, rfl, by omega, Below.refl _ _⟩
  case round =>
    obtain ⟨j, rfl, hj, hbel⟩ := hrel
    have HB := Lib.hid hbel
    clear hbel
    by_cases hjn : j = n
    · subst hjn
      go_wp2_with fail
      go_ret
      exact ⟨0, rfl, HB.out⟩
    · have hlt : j < n := by omega
      have j0 : (0 : Int) ≤ (j : Int) := by omega
      have j1 : (j : Int) < (n : Int) := by omega
      cases A with
      | none => exact absurd (H0.out rfl) (by omega)
      | some ad =>
        obtain ⟨b, rfl, hat⟩ := H1.out _ rfl
        have lb : b < w.heap.size := World.block_lt_of_cell? w _ (hat j hlt).1
        obtain ⟨a0, a1, a2, a3, a4⟩ := hat j hlt
        have HAT := Lib.hid hat
        rw [← (bcell HB.out).1 b _ lb] at a0 a1 a2 a3 a4
        clear hat
        have NO := Lib.hid (show ∀ o : Obj, SomeInt w (.returned (.int .i64 10)) (wr.alloc o) from fun o => ⟨10, rfl, HB.out.alloc HB.out.size o⟩)
        by_cases g1 : t j < 0
        · go_wp2_with fail
          go_ret
          exact NO.out _
        by_cases g2 : turns ≤ t j
        · go_wp2_with fail
          go_ret
          exact NO.out _
        by_cases g3 : m j < 0
        · go_wp2_with fail
          go_ret
          exact NO.out _
        by_cases g4 : 7 < m j
        · go_wp2_with fail
          go_ret
          exact NO.out _
        by_cases g5 : f j < 0
        · go_wp2_with fail
          go_ret
          exact NO.out _
        by_cases g6 : 63 < f j
        · go_wp2_with fail
          go_ret
          exact NO.out _
        go_wp2_with fail
        refine (right_any (p j) (q j) _).mono ?_
        rintro e w' ⟨bb, rfl, hb'⟩
        have HB2 := Lib.hid ((HB.out.alloc HB.out.size (.cells #[.int .i64 (t j), .int .i64 (m j), .int .i64 (f j), .int .i64 (p j), .int .i64 (q j)] 61)).call (by have := HB.out.size; simp; omega) hb')
        have OB := Lib.hid ((Own.new wr 61 #[.int .i64 (t j), .int .i64 (m j), .int .i64 (f j), .int .i64 (p j), .int .i64 (q j)]).call hb')
        have d0 := OB.out.cell 0
        have lo := OB.out.lt
        have lb' : b < w'.heap.size := by have := HB2.out.size; omega
        simp at d0
        clear hb' NO g1 g2 g3 g4 g5 g6
        cases bb
        · go_wp2_with fail
          go_ret
          exact ⟨_, rfl, HB2.out⟩
        · go_wp2_with fail
          have NX := Lib.hid (show ∀ W, Below w.heap.size w W → MayI w n (gk - 1) (.int .i64 ((j : Int) + 1)) W from fun W hW => ⟨j + 1, by simp, by omega, hW⟩)
          have HBA := Lib.hid (fun (k : Nat) => below_drewN HB2.out k)
          rcases Nat.eq_zero_or_pos j with rfl | jp
          · go_quiet (fail)
            go_wp2_with fail
            go_roundg (gk - 1)
            case measure => omega
            case rel => exact NX.out _ (HBA.out _)
          · obtain ⟨k, rfl⟩ : ∃ k, j = k + 1 := ⟨j - 1, by omega⟩
            obtain ⟨q0, _⟩ := HAT.out k (by omega)
            rw [← (bcell HB2.out).1 b _ lb] at q0
            have k0 : (0 : Int) ≤ (k : Int) := by omega
            have k1 : (k : Int) < (n : Int) := by omega
            have k2 : IntKind.i64.wrap (k : Int) = (k : Int) := IntWalk.i64_in _ (by omega)
            by_cases ht : t (k + 1) ≤ t k
            · go_quiet (fail)
              go_wp2_with fail
              go_ret
              exact ⟨_, rfl, HBA.out _⟩
            · go_quiet (fail)
              go_wp2_with fail
              go_roundg (gk - 1)
              case measure => omega
              case rel => exact NX.out _ (HBA.out _)

theorem may_ref (kind turns : Int) (A : Option Addr) (n c : Nat) (t m f p q : Nat → Int) (w : World) (hn : n ≤ 70)
    (h0 : A = none → n = 0) (h1 : ∀ a, A = some a → ∃ b, a = ⟨b, 0, none⟩ ∧ ∀ i, i < n → RefAt w b i (t i) (m i) (f i) (p i) (q i)) :
    Calls Tryd.prog 14 #[.int .i64 kind, .int .i64 turns, .slice A n c] w (SomeInt w) := by
  by_cases h : kind < 0 ∨ 3 < kind ∨ turns < 0 ∨ 1000 < turns ∨ 64 < n
  · exact may_early kind turns A n c w h hn
  · exact may_main kind turns A n c t m f p q w (by omega) (by omega) (by omega) (by omega) (by omega) h0 h1

theorem own_slice {w : World} {base : Nat} {e : TypeId} {size : Nat} {v : Value} {n : Nat} {xs : List Value} (h : w.ownsRow base e size v n xs) (hv : v ≠ .slice none 0 0) : ∃ g cap, v = .slice (some ⟨g, 0, none⟩) n cap := by
  rcases h.2 with ⟨rfl, _⟩ | ⟨g, cap, _, rfl, _⟩
  · exact absurd rfl hv
  · exact ⟨g, cap, rfl⟩

theorem five_of (j : Nat) : ∃ i r, j = i * 5 + r ∧ (r = 0 ∨ r = 1 ∨ r = 2 ∨ r = 3 ∨ r = 4) := ⟨j / 5, j % 5, by omega, by omega⟩
theorem val_cell {w : World} {p : Addr} {v : Value} (h : w.cell? p = some v) : val w p = v := by unfold val; rw [h]; rfl

/-- The cells of a row of the document's orders, as they lie. -/
def refC (w : World) (b n : Nat) : List Value := (List.range (n * 5)).map fun j => val w ⟨b, j, none⟩

set_option maxRecDepth 20000 in
theorem begin_ref (kind turns : Int) (b n c : Nat) (t m f p q : Nat → Int) (w : World) (hn : n ≤ 70) (hat : ∀ i, i < n → RefAt w b i (t i) (m i) (f i) (p i) (q i)) :
    Calls Tryd.prog 13 #[.int .i64 kind, .int .i64 turns, .slice (some ⟨b, 0, none⟩) n c] w (SomeV w) := by
  obtain ⟨i0, hi0, hz0, hz1, hz2⟩ := info_parts info61
  have hcell : ∀ j, j < n * 5 → ∃ v, w.cell? ⟨b, j, none⟩ = some v ∧ v.oneCell' = true := by
    intro j hj
    obtain ⟨i, r, rfl, hr⟩ := five_of j
    obtain ⟨a0, a1, a2, a3, a4⟩ := hat i (by omega)
    rcases hr with rfl | rfl | rfl | rfl | rfl
    · exact ⟨_, a0, rfl⟩
    · exact ⟨_, a1, rfl⟩
    · exact ⟨_, a2, rfl⟩
    · exact ⟨_, a3, rfl⟩
    · exact ⟨_, a4, rfl⟩
  have HN := Lib.hid (show ∀ j u, (refC w b n)[j]? = some u → (w.alloc (.cells #[] 61)).cell? ((⟨b, 0, none⟩ : Addr).add j) = some u from fun j u hj => by
    have hjn : j < n * 5 := by
      have := (List.getElem?_eq_some_iff.1 hj).1
      simpa [refC] using this
    simp [refC, hjn] at hj
    obtain ⟨v, hv, _⟩ := hcell j hjn
    have hlt := World.block_lt_of_cell? w _ hv
    rw [Addr.add_lit, Nat.zero_add]
    rw [← hj, val_cell hv]
    exact ((bcell ((Below.refl w.heap.size w).alloc (Nat.le_refl _) (.cells #[] 61))).1 b j hlt).trans hv)
  have HC := Lib.hid (show ∀ u ∈ refC w b n, u.oneCell' = true from fun u hu => by
    simp only [refC, List.mem_map, List.mem_range] at hu
    obtain ⟨j, hj, rfl⟩ := hu
    obtain ⟨v, hv, h1⟩ := hcell j hj
    rw [val_cell hv]; exact h1)
  clear hcell hat
  go_enter Tryd.func13, Tryd.ntmps13
  go_wp2_with (at_builtin; refine wpList_append_own _ rfl _ _ 51 rfl w.heap.size 61 i0 _ 5 40 Tryd.underlying51 hi0 hz0 hz1 hz2 rfl (by decide) _ 0 [] rfl (World.ownsRow_made w #[] 0 (Nat.le_refl _) (Nat.zero_le _) rfl) ⟨b, 0, none⟩ n c (refC w b n) rfl (by simp [refC]) HN.out HC.out (by simp only [maxLen]; omega) (by omega) (by simp) ?_; intro v' w1 hown hgrow hnil; obtain ⟨g1, cap1, rfl⟩ := own_slice hown (fun e => absurd (hnil.1 e).1 (by intro h; cases h)); clear hnil)
  go_ret
  have hb1 : Below w.heap.size w w1 := ((Below.refl w.heap.size w).alloc (Nat.le_refl _) (.cells #[] 61)).grown hgrow (by simp) (by intro k hk; exact Nat.le_of_eq (Option.some.inj hk))
  exact ⟨_, rfl, hb1.alloc hb1.size _⟩

end Go.Proofs.YtmhnodbmcciifaaDoor
