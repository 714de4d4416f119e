/- The order of a turn: the walks of order$1, slices.IndexFunc, Task.order. Each theorem says under which conditions. -/
import Derived.Test.YtmhnodbmcciifaaDoorTask
namespace Go.Proofs.YtmhnodbmcciifaaDoor
open Go.RowKit Flt

theorem is_any (t m f : Int) (x y B T : Nat) (u : Int) (w : World) (hB : w.cell? ⟨B, 0, none⟩ = some (.pointer (some ⟨T, 0, none⟩))) (hT : w.cell? ⟨T, 2, none⟩ = some (.int .i64 u)) (lB : B < w.heap.size) (lT : T < w.heap.size) :
    Calls Tryd.prog 53 #[.agg #[.int .i64 t, .int .i64 m, .int .i64 f, .complex .f64 x y], .pointer (some ⟨B, 0, none⟩)] w fun e w' => (∃ b, e = .returned (.bool b)) ∧ Below w.heap.size w w' := by
  go_enter Tryd.func53, Tryd.ntmps53
  go_wp2_with fail
  go_region
  all_goals
    go_wp2_with fail
    go_ret
    exact ⟨⟨_, rfl⟩, ((Below.refl _ _).alloc (Nat.le_refl _) _).drew⟩

/-- What IndexFunc's loop keeps. -/
def IdxI (w : World) (n : Nat) (q : Nat) (v : Value) (w' : World) : Prop := ∃ j : Nat, v = .int .i64 j ∧ j + q = n ∧ Below w.heap.size w w'

def GotIdx (w : World) (n : Nat) (e : Ending) (w' : World) : Prop := ∃ r : Int, e = .returned (.int .i64 r) ∧ (r = -1 ∨ (0 ≤ r ∧ r < n)) ∧ Below w.heap.size w w'

theorem index_any (b n c B T : Nat) (t m f : Nat → Int) (x y : Nat → Nat) (u : Int) (w : World) (n64 : n ≤ 64) (hB : w.cell? ⟨B, 0, none⟩ = some (.pointer (some ⟨T, 0, none⟩))) (hT : w.cell? ⟨T, 2, none⟩ = some (.int .i64 u)) (lB : B < w.heap.size) (lT : T < w.heap.size)
    (lb : b < w.heap.size) (hat : ∀ i, i < n → OrderAt w b i (t i) (m i) (f i) (x i) (y i)) :
    Calls Tryd.prog 52 #[.slice (some ⟨b, 0, none⟩) n c, .func (.func 53) #[] #[.pointer (some ⟨B, 0, none⟩)]] w (GotIdx w n) := by
  have HAT := Lib.hid hat
  have HF := Lib.hid (And.intro hB (And.intro hT (And.intro lB (And.intro lT lb))))
  clear hat hB hT lB lT lb
  go_enter Tryd.func52, Tryd.ntmps52
  go_wp2_with fail
  go_loopg [8, 5] n (fun q s8 s5 wx => IdxI w n q s8 wx)
  case atStart => exact ⟨0, rfl, by omega, Below.refl _ _⟩
  case round =>
    obtain ⟨j, rfl, hj, hbel⟩ := hrel
    have HB := Lib.hid hbel
    clear hbel
    obtain ⟨hc, hf⟩ := (show (∀ b o, b < w.heap.size → wr.cell? ⟨b, o, none⟩ = w.cell? ⟨b, o, none⟩) ∧ True from ⟨(bcell HB.out).1, trivial⟩)
    have HC := Lib.hid hc
    clear hc hf
    by_cases hjn : j = n
    · subst hjn
      go_wp2_with fail
      go_ret
      exact ⟨-1, rfl, .inl rfl, HB.out⟩
    · have hlt : j < n := by omega
      obtain ⟨a0, a1, a2, a3⟩ := HAT.out j hlt
      rw [← HC.out _ _ HF.out.2.2.2.2] at a0 a1 a2 a3
      go_wp2_with fail
      refine (is_any _ _ _ _ _ B T u wr ((HC.out _ _ HF.out.2.2.1).trans HF.out.1) ((HC.out _ _ HF.out.2.2.2.1).trans HF.out.2.1) (by have := HF.out.2.2.1; have := HB.out.size; omega) (by have := HF.out.2.2.2.1; have := HB.out.size; omega)).mono ?_
      rintro e w2 ⟨⟨bo, rfl⟩, hb2⟩
      have HB2 := Lib.hid (HB.out.call HB.out.size hb2)
      clear hb2
      cases bo
      all_goals go_wp2_with fail
      · go_roundg (gk - 1)
        case measure => omega
        case rel => exact ⟨j + 1, by simp, by omega, HB2.out⟩
      · go_ret
        exact ⟨j, rfl, .inr ⟨by omega, by omega⟩, HB2.out⟩

theorem index_zero (A : Option Addr) (c : Nat) (g : Value) (w : World) : Calls Tryd.prog 52 #[.slice A 0 c, g] w fun e w' => e = .returned (.int .i64 (-1)) ∧ w = w' := by
  go_enter Tryd.func52, Tryd.ntmps52
  go_wp2_with fail
  go_loopg [8, 5] 0 (fun q s8 s5 wx => s8 = .int .i64 0 ∧ wx = w)
  case atStart => exact ⟨rfl, rfl⟩
  case round =>
    obtain ⟨rfl, rfl⟩ := hrel
    go_wp2_with fail
    go_ret
    exact ⟨rfl, rfl⟩

theorem Own.c4 {w : World} {g : Nat} {t : TypeId} {a b c d : Value} (h : Own w g t #[a, b, c, d]) :
    w.cell? ⟨g, 0, none⟩ = some a ∧ w.cell? ⟨g, 1, none⟩ = some b ∧ w.cell? ⟨g, 2, none⟩ = some c ∧ w.cell? ⟨g, 3, none⟩ = some d ∧ w.frozen? ⟨g, 0, none⟩ = false ∧ w.frozen? ⟨g, 1, none⟩ = false ∧ w.frozen? ⟨g, 2, none⟩ = false ∧ w.frozen? ⟨g, 3, none⟩ = false :=
  ⟨h.cell 0, h.cell 1, h.cell 2, h.cell 3, h.free 0, h.free 1, h.free 2, h.free 3⟩

theorem Own.put4 {w : World} {g : Nat} {t : TypeId} {a b c d a' b' c' d' : Value} (h : Own w g t #[a, b, c, d]) : Own ((((w.setCell ⟨g, 0, none⟩ a').setCell ⟨g, 1, none⟩ b').setCell ⟨g, 2, none⟩ c').setCell ⟨g, 3, none⟩ d') g t #[a', b', c', d'] :=
  (((h.put 0 a').put 1 b').put 2 c').put 3 d'

/-- A row of fresh cells written at 'g'. -/
theorem below_put4 {B : Nat} {a w : World} (h : Below B a w) {g : Nat} (hg : B ≤ g) (p q r s : Value) : Below B a ((((w.setCell ⟨g, 0, none⟩ p).setCell ⟨g, 1, none⟩ q).setCell ⟨g, 2, none⟩ r).setCell ⟨g, 3, none⟩ s) :=
  (((h.setCell hg p).setCell hg q).setCell hg r).setCell hg s

def GotOrder (w : World) (n : Nat) (e : Ending) (w' : World) : Prop := ∃ (t m f : Int) (x y : Nat) (b : Bool),
      e = .returned (.tuple #[.agg #[.int .i64 t, .int .i64 m, .int .i64 f, .complex .f64 x y], .bool b]) ∧ OrderGood m f x y ∧ (n = 0 → b = false) ∧ Below w.heap.size w w'

theorem zero_good : OrderGood 0 0 0 0 := ⟨by decide, by decide, by decide, by decide, is_mayB zero_is zero_is (by decide) (by decide) (by decide) (by decide)⟩

theorem order_none (T : Nat) (A : Option Addr) (c : Nat) (w : World) (c0 : w.cell? ⟨T, 0, none⟩ = some (.slice A 0 c)) (lT : T < w.heap.size) : Calls Tryd.prog 37 #[.pointer (some ⟨T, 0, none⟩)] w (GotOrder w 0) := by
  have hmf : ∀ (fn : Fn) (first cap : Array Value) (w : World), (Instr.makeFunc fn first cap).run Tryd.prog w = .ok (.func fn first cap) w := fun _ _ _ _ => rfl
  go_enter Tryd.func37, Tryd.ntmps37
  go_wp2_with fail
  refine (index_zero _ _ _ _).mono ?_
  rintro e w2 ⟨rfl, rfl⟩
  go_wp2_with fail
  exact bodyPost_ret (v := .tuple #[.agg #[.int .i64 0, .int .i64 0, .int .i64 0, .complex .f64 0 0], .bool false]) (by simp [results, Tryd.results37, go_sem]) rfl ⟨_, _, _, _, _, _, rfl, zero_good, fun _ => rfl, below_alloc2 _ _ _⟩

theorem order_some (T b n c : Nat) (t m f : Nat → Int) (x y : Nat → Nat) (u : Int) (w : World) (n64 : n ≤ 64) (c0 : w.cell? ⟨T, 0, none⟩ = some (.slice (some ⟨b, 0, none⟩) n c)) (c2 : w.cell? ⟨T, 2, none⟩ = some (.int .i64 u)) (lT : T < w.heap.size)
    (lb : b < w.heap.size) (n0 : 0 < n) (hat : ∀ i, i < n → OrderAt w b i (t i) (m i) (f i) (x i) (y i)) (hg : ∀ i, i < n → OrderGood (m i) (f i) (x i) (y i)) : Calls Tryd.prog 37 #[.pointer (some ⟨T, 0, none⟩)] w (GotOrder w n) := by
  have hmf : ∀ (fn : Fn) (first cap : Array Value) (w : World), (Instr.makeFunc fn first cap).run Tryd.prog w = .ok (.func fn first cap) w := fun _ _ _ _ => rfl
  have hal : ∀ g o, g < w.heap.size → ((w.alloc (.cells #[.pointer (some ⟨T, 0, none⟩)] 28)).alloc (.cells #[.int .i64 0, .int .i64 0, .int .i64 0, .complex .f64 0 0] 56)).cell? ⟨g, o, none⟩ = w.cell? ⟨g, o, none⟩ := fun g o hg => (bcell (below_alloc2 w _ _)).1 g o hg
  have C := Lib.hid (index_any b n c w.heap.size T t m f x y u ((w.alloc (.cells #[.pointer (some ⟨T, 0, none⟩)] 28)).alloc (.cells #[.int .i64 0, .int .i64 0, .int .i64 0, .complex .f64 0 0] 56)) n64 (by simp) ((hal _ _ lT).trans c2) (by simp; omega) (by simp; omega) (by simp; omega)
    (fun i hi => ⟨(hal _ _ lb).trans (hat i hi).1, (hal _ _ lb).trans (hat i hi).2.1, (hal _ _ lb).trans (hat i hi).2.2.1, (hal _ _ lb).trans (hat i hi).2.2.2⟩))
  have HAT := Lib.hid hat
  have HG := Lib.hid hg
  clear hal hat hg
  go_enter Tryd.func37, Tryd.ntmps37
  go_wp2_with fail
  refine C.out.mono ?_
  rintro e w2 ⟨r, rfl, hr, hb2⟩
  have HB := Lib.hid ((below_alloc2 w (.cells #[.pointer (some ⟨T, 0, none⟩)] 28) (.cells #[.int .i64 0, .int .i64 0, .int .i64 0, .complex .f64 0 0] 56)).call (by simp; omega) hb2)
  have OB := Lib.hid (((Own.new w 28 #[.pointer (some ⟨T, 0, none⟩)]).alloc (.cells #[.int .i64 0, .int .i64 0, .int .i64 0, .complex .f64 0 0] 56)).call hb2)
  have OR := Lib.hid ((own_second w (.cells #[.pointer (some ⟨T, 0, none⟩)] 28) 56 #[.int .i64 0, .int .i64 0, .int .i64 0, .complex .f64 0 0]).call hb2)
  clear hb2
  have k0 := OB.out.cell 0
  obtain ⟨d0, d1, d2, d3, f0, f1, f2, f3⟩ := OR.out.c4
  have e0 := ((bcell HB.out).1 T 0 lT).trans c0
  clear c0 c2
  rcases hr with rfl | ⟨r0, r1⟩
  · go_wp2_with fail
    obtain ⟨d0, d1, d2, d3, _⟩ := (OR.out.put4 (a' := .int .i64 0) (b' := .int .i64 0) (c' := .int .i64 0) (d' := .complex .f64 0 0)).c4
    exact bodyPost_ret (v := .tuple #[.agg #[.int .i64 0, .int .i64 0, .int .i64 0, .complex .f64 0 0], .bool false]) (by simp [results, Tryd.results37, go_sem, d0, d1, d2, d3]) rfl ⟨_, _, _, _, _, _, rfl, zero_good, fun _ => rfl, below_put4 HB.out (by omega) _ _ _ _⟩
  · obtain ⟨j, rfl⟩ : ∃ j : Nat, r = j := ⟨r.toNat, by omega⟩
    have hj : j < n := by omega
    obtain ⟨a0, a1, a2, a3⟩ := HAT.out j hj
    rw [← (bcell HB.out).1 b _ lb] at a0 a1 a2 a3
    go_wp2_with fail
    obtain ⟨d0, d1, d2, d3, _⟩ := (OR.out.put4 (a' := .int .i64 (t j)) (b' := .int .i64 (m j)) (c' := .int .i64 (f j)) (d' := .complex .f64 (x j) (y j))).c4
    exact bodyPost_ret (v := .tuple #[.agg #[.int .i64 (t j), .int .i64 (m j), .int .i64 (f j), .complex .f64 (x j) (y j)], .bool true]) (by simp [results, Tryd.results37, go_sem, d0, d1, d2, d3]) rfl ⟨_, _, _, _, _, _, rfl, HG.out j hj, fun h => by omega, below_put4 HB.out (by omega) _ _ _ _⟩

theorem order_any (T n : Nat) (s : TS) (w : World) (ho : Own w T 70 s.row) (hos : Orders w T s.os n) : Calls Tryd.prog 37 #[.pointer (some ⟨T, 0, none⟩)] w (GotOrder w n) := by
  obtain ⟨A, c, hos, h64, hr⟩ := hos
  obtain ⟨c0, _, c2, _⟩ := row_cells ho
  rw [hos] at c0
  rcases Nat.eq_zero_or_pos n with rfl | n0
  · exact order_none T A c w c0 ho.lt
  · obtain ⟨b, t, m, f, x, y, rfl, _, lb, hat, hg⟩ := hr n0
    exact order_some T b n c t m f x y s.turn w h64 c0 c2 ho.lt lb n0 hat hg

end Go.Proofs.YtmhnodbmcciifaaDoor
