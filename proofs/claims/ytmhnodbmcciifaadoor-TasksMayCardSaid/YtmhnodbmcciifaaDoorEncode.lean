/- codec.Encode and codec.Decode for records of complex numbers alone: the walks. Each theorem says under which conditions. -/
import Derived.Test.YtmhnodbmcciifaaDoorForm
import Derived.Deep.RegionWith
import Derived.Deep.DeepCutAuto
namespace Go.Proofs.YtmhnodbmcciifaaDoor
open Go.RowKit Flt

theorem own_has {w : World} {base : Nat} {e : TypeId} {g n : Nat} {xs : List Value} (h : w.ownsRow base e 1 (.slice (some ⟨g, 0, none⟩) n n) n xs) : Has w g e n := by
  rcases h.2 with ⟨h0, _⟩ | ⟨g', cap, cur, hv, _, hh, _, _, hs, _⟩
  · cases h0
  · injection hv with h1 h2 h3
    subst h3
    injection h1 with h1
    injection h1 with h1
    subst h1
    exact ⟨cur, by omega, hh⟩

theorem info33 : (Tryd.prog.info? 33).map (fun i => (i.zero, i.size, i.bytes)) = some (some (.int .u64 0), 1, 8) := by kernel_rfl

theorem placeL_at (n : Nat) : ∀ i, i < n → (placeL n)[i * 2]? = some (.int .i64 (i : Int)) ∧ (placeL n)[i * 2 + 1]? = some (.int .i64 0) := by
  induction n with
  | zero => intro i hi; omega
  | succ n ih =>
    intro i hi
    have hl : (placeL n).length = n * 2 := by
      clear ih hi
      induction n with
      | zero => rfl
      | succ n ih => rw [placeL_succ, List.length_append, ih]; simp; omega
    rw [placeL_succ]
    by_cases h : i < n
    · have := ih i h
      rw [List.getElem?_append_left (by omega), List.getElem?_append_left (by omega)]
      exact this
    · obtain rfl : i = n := by omega
      rw [List.getElem?_append_right (by omega), List.getElem?_append_right (by omega), hl]
      simp

/-- What a round of Encode's loop leaves. -/
theorem enc_close {w wr w' : World} {Q k n : Nat} {t : TypeId} {cs : Array Value} (hz : w.heap.size < Q) (hQ : Q < wr.heap.size)
    (H : Has wr Q 33 n ∧ wr.ownsRow w.heap.size 125 2 (.slice (some ⟨w.heap.size, 0, none⟩) n n) n (placeL n) ∧ Below w.heap.size w wr)
    (hb : Below (wr.alloc (.cells cs t)).drew.heap.size (wr.alloc (.cells cs t)).drew w') (u : Value) :
    Has (w'.setCell ⟨Q, k, none⟩ u) Q 33 n ∧ (w'.setCell ⟨Q, k, none⟩ u).ownsRow w.heap.size 125 2 (.slice (some ⟨w.heap.size, 0, none⟩) n n) n (placeL n) ∧ Below w.heap.size w (w'.setCell ⟨Q, k, none⟩ u) := by
  obtain ⟨h1, h2, h3⟩ := H
  refine ⟨(((h1.alloc _).drew).call hb).put k u, ?_, ?_⟩
  · have h4 := ((h2.alloc (.cells cs t)).drew).kept (grown_below hb none) (own_em _)
    refine h4.kept (w' := w'.setCell ⟨Q, k, none⟩ u) (row := some Q) ⟨rfl, rfl, rfl, by simp [World.setCell], fun j _ hne => Below.heap_setCell w' ⟨Q, k, none⟩ u j (fun e => hne (by rw [e]))⟩ ?_
    right
    simp only [Value.ownBlock, ne_eq, Option.some.injEq]
    omega
  · exact ((((h3.alloc (by omega) _).drew).trans (hb.mono (by show _ ≤ (wr.alloc (.cells cs t)).heap.size; simp; omega))).setCell (by simp only; omega) u)

def Encoded (w : World) (n : Nat) (e : Ending) (w' : World) : Prop := ∃ q, e = .returned (.tuple #[.slice (some ⟨q, 0, none⟩) n n, .int .i64 0]) ∧ Below w.heap.size w w'

set_option maxHeartbeats 3200000 in
set_option maxRecDepth 100000 in
theorem encode_any (g h n : Nat) (n1 : 1 ≤ n) (n64 : n ≤ 64) (X Y : Nat → Nat) (A C : Nat → Int) (w : World) (hg : g < w.heap.size) (hh : h < w.heap.size)
    (h3 : ∀ i, i < n → w.cell? ⟨g, i * 2, none⟩ = some (.int .i64 3)) (h64 : ∀ i, i < n → w.cell? ⟨g, i * 2 + 1, none⟩ = some (.int .i64 64))
    (v0 : ∀ i, i < n → w.cell? ⟨h, i * 2, none⟩ = some (.int .i64 0)) (v1 : ∀ i, i < n → w.cell? ⟨h, i * 2 + 1, none⟩ = some (.complex .f64 (X i) (Y i)))
    (hX : ∀ i, i < n → Is (X i) (A i) ∧ -1048576 < A i ∧ A i < 1048576) (hY : ∀ i, i < n → Is (Y i) (C i) ∧ -1048576 < C i ∧ C i < 1048576) :
    Calls Tryd.prog 55 #[.slice (some ⟨g, 0, none⟩) n n, .slice (some ⟨h, 0, none⟩) n n] w (Encoded w n) := by
  obtain ⟨i0, hi0, hz0, hz1, hz2⟩ := info_parts info33
  have H3 := Lib.hid h3
  have H64 := Lib.hid h64
  have V0 := Lib.hid v0
  have V1 := Lib.hid v1
  have HX := Lib.hid hX
  have HY := Lib.hid hY
  clear h3 h64 v0 v1 hX hY
  have hne : ((n : Int) != (n : Int)) = false := by simp
  go_enter Tryd.func55, Tryd.ntmps55
  go_wp2_with fail
  refine (places_any g n n1 n64 _ hg H3.out H64.out).mono ?_
  rintro e w1 ⟨rfl, hpl, hb1⟩
  have HP := Lib.hid hpl
  clear hpl
  have hz : w.heap.size < w1.heap.size := (HP.out.lt _ rfl).2
  go_wp2_with (at_make; refine wpList_make_full _ rfl _ _ 36 rfl w1.heap.size 33 i0 _ 1 Tryd.underlying36 hi0 hz0 hz1 .i64 .i64 n n n rfl rfl rfl rfl (by rw [hz2]; omega) (by unfold maxLen; omega) (Nat.le_refl _) ?_; intro w2 hown hgrow)
  have HH := Lib.hid (own_has hown)
  have HB := Lib.hid ((hb1.grown hgrow (by omega) (by simp) : Below w.heap.size w w2))
  have HR := Lib.hid (HP.out.kept hgrow (own_em _))
  clear hown hgrow hb1 HP
  generalize w1.heap.size = Q at *
  go_loopg [8, 31] n (fun q s8 s31 wx => ∃ k : Nat, k + q = n ∧ s8 = .int .i64 0 ∧ s31 = .int .i64 k ∧ Hid (Has wx Q 33 n ∧ wx.ownsRow w.heap.size 125 2 (.slice (some ⟨w.heap.size, 0, none⟩) n n) n (placeL n) ∧ Below w.heap.size w wx))
  case atStart => exact ⟨0, by omega, rfl, rfl, HH.out, HR.out, HB.out⟩
  case round =>
    obtain ⟨k, hkq, rfl, rfl, HK⟩ := hrel
    cases gk with
    | zero =>
      have hkz : ¬ ((k : Int) < (n : Int)) := by omega
      go_wp2_with fail
      go_ret2
      exact ⟨Q, by simp, HK.out.2.2⟩
    | succ q =>
      have hkz : (k : Int) < (n : Int) := by omega
      have hkn : k < n := by omega
      have hpl := placeL_at n k hkn
      have hrc := HK.out.2.1.cells (g := w.heap.size) rfl
      have hbel := HK.out.2.2
      have r0 : wr.cell? ⟨w.heap.size, k * 2, none⟩ = some (.int .i64 (k : Int)) := by have := hrc _ _ hpl.1; unfold Addr.add at this; split at this <;> simp_all
      have r1 : wr.cell? ⟨w.heap.size, k * 2 + 1, none⟩ = some (.int .i64 0) := by have := hrc _ _ hpl.2; unfold Addr.add at this; split at this <;> simp_all
      have c3 : wr.cell? ⟨g, k * 2, none⟩ = some (.int .i64 3) := (hbel.cell (p := ⟨g, k * 2, none⟩) hg).trans (H3.out k hkn)
      have c64 : wr.cell? ⟨g, k * 2 + 1, none⟩ = some (.int .i64 64) := (hbel.cell (p := ⟨g, k * 2 + 1, none⟩) hg).trans (H64.out k hkn)
      have d0 : wr.cell? ⟨h, k * 2, none⟩ = some (.int .i64 0) := (hbel.cell (p := ⟨h, k * 2, none⟩) hh).trans (V0.out k hkn)
      have d1 : wr.cell? ⟨h, k * 2 + 1, none⟩ = some (.complex .f64 (X k) (Y k)) := (hbel.cell (p := ⟨h, k * 2 + 1, none⟩) hh).trans (V1.out k hkn)
      have hQ : Q < wr.heap.size := HK.out.1.lt
      have hzw : w.heap.size < wr.heap.size := by omega
      have hhw : h < wr.heap.size := by omega
      clear hpl hrc
      have HL := Lib.hid hbel
      clear hbel
      go_upto_region 11 with fail
      go_cut [8] (fun s8 wx => s8 = .int .i64 0 ∧ Hid (Has wx Q 33 n ∧ wx.ownsRow w.heap.size 125 2 (.slice (some ⟨w.heap.size, 0, none⟩) n n) n (placeL n) ∧ Below w.heap.size w wx))
      case first =>
        have HA : Has (wr.alloc (.cells #[.int .i64 3, .int .i64 64] 124)).drew Q 33 n := (HK.out.1.alloc _).drew
        have q0 := HA.cell hkn
        have HS := Lib.hid HA
        clear HA
        go_region_with (go_at_call 66; refine (put_point _ _ _ _ _ _ (HX.out k hkn).1 (HY.out k hkn).1 (HX.out k hkn).2.1 (HX.out k hkn).2.2 (HY.out k hkn).2.1 (HY.out k hkn).2.2 _).mono ?_; rintro e w' ⟨rfl, hb⟩; have HA2 := HS.out.call hb; have q2 := HA2.cell hkn; have q3 := HA2.free k)
        all_goals (go_wp2_with fail; go_meet; exact ⟨rfl, enc_close hz hQ HK.out hb _⟩)
      case rest =>
        obtain ⟨rfl, HK2⟩ := hcut
        go_wp2_with fail
        go_roundg q
        case measure => omega
        case rel => exact ⟨k + 1, by omega, rfl, by go_num, HK2⟩

end Go.Proofs.YtmhnodbmcciifaaDoor
