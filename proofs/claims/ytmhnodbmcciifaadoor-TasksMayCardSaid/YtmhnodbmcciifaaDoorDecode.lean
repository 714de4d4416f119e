/- codec.Decode for records of complex numbers alone: the walk. Each theorem says under which conditions. -/
import Derived.Test.YtmhnodbmcciifaaDoorEncode
import Derived.Deep.QuietTactic
import Derived.BigQuiet
import Derived.Deep.RegionWith
import Derived.Deep.DeepCutAuto
namespace Go.Proofs.YtmhnodbmcciifaaDoor
open Go.RowKit Flt

/-- The number in a word. -/
def wordC (x : Int) : Value := .complex .f64 (floatOfInt .f64 (lowOf x)) (floatOfInt .f64 (highOf x))

/-- How far Decode's loop is: 'a' words are struck, 'c' values are there. -/
def DecI (w wx : World) (L O n a c : Nat) (ws : Nat → Int) : Prop :=
  wx.ownsRow w.heap.size 125 2 (.slice (some ⟨w.heap.size, 0, none⟩) n n) n (placeL n) ∧
  (∃ cur, Own wx L 33 cur ∧ n ≤ cur.size ∧ ∀ i, i < n → cur[i]? = some (.int .u64 (if i < a then 0 else ws i))) ∧
  Has wx O 110 (n * 2) ∧ (∀ i, i < c → wx.cell? ⟨O, i * 2 + 1, none⟩ = some (wordC (ws i))) ∧
  w.heap.size < L ∧ L < O ∧ Below w.heap.size w wx

section
variable {w wx wy : World} {L O n a c : Nat} {ws : Nat → Int}

theorem DecI.call (h : DecI w wx L O n a c ws) (hb : Below wx.heap.size wx wy) : DecI w wy L O n a c ws := by
  obtain ⟨h1, ⟨cur, h2, h3, h4⟩, h5, h6, h7, h8, h9⟩ := h
  refine ⟨h1.kept (grown_below hb none) (own_em _), ⟨cur, h2.call hb, h3, h4⟩, h5.call hb, fun i hi => ?_, h7, h8, h9.call (by have := h2.lt; omega) hb⟩
  exact (hb.cell (p := ⟨O, i * 2 + 1, none⟩) h5.lt).trans (h6 i hi)

theorem below_alloc_self (wx : World) (o : Obj) : Below wx.heap.size wx (wx.alloc o) := (Below.refl _ _).alloc (Nat.le_refl _) o

theorem set_kept {w : World} {base : Nat} {e : TypeId} {size n : Nat} {v : Value} {xs : List Value} (h : w.ownsRow base e size v n xs) {p : Addr} (hp : v.ownBlock ≠ some p.block) (u : Value) : (w.setCell p u).ownsRow base e size v n xs :=
  h.kept (row := some p.block) ⟨rfl, rfl, rfl, by simp [World.setCell], fun j _ hne => Below.heap_setCell w p u j (fun e => hne (by rw [e]))⟩ (.inr hp)

theorem DecI.out (h : DecI w wx L O n a c ws) (hc : c < n) : DecI w ((wx.setCell ⟨O, c * 2, none⟩ (.int .i64 0)).setCell ⟨O, c * 2 + 1, none⟩ (wordC (ws c))) L O n a (c + 1) ws := by
  obtain ⟨h1, ⟨cur, h2, h3, h4⟩, h5, h6, h7, h8, h9⟩ := h
  have n1 : w.heap.size ≠ O := by omega
  have n2 : L ≠ O := by omega
  refine ⟨set_kept (set_kept h1 (by simpa [Value.ownBlock] using n1) _) (by simpa [Value.ownBlock] using n1) _, ⟨cur, (h2.far n2 _).far n2 _, h3, h4⟩, (h5.put _ _).put _ _, fun i hi => ?_, h7, h8, (h9.setCell (by simp only; omega) _).setCell (by simp only; omega) _⟩
  by_cases hic : i = c
  · subst hic
    exact World.cell?_setCell_same _ _ _ ((h5.put (i * 2) (.int .i64 0)).cell (i := i * 2 + 1) (by omega))
  · rw [World.cell?_setCell_other _ _ _ _ (by simp only [ne_eq, Addr.mk.injEq]; omega), World.cell?_setCell_other _ _ _ _ (by simp only [ne_eq, Addr.mk.injEq]; omega)]
    exact h6 i (by omega)

theorem DecI.strike (h : DecI w wx L O n a c ws) (ha : a < n) : DecI w (wx.setCell ⟨L, a, none⟩ (.int .u64 0)) L O n (a + 1) c ws := by
  obtain ⟨h1, ⟨cur, h2, h3, h4⟩, h5, h6, h7, h8, h9⟩ := h
  have n1 : w.heap.size ≠ L := by omega
  have n2 : O ≠ L := by omega
  refine ⟨set_kept h1 (by simpa [Value.ownBlock] using n1) _, ⟨_, h2.put a (.int .u64 0), by simpa using h3, fun i hi => ?_⟩, h5.far n2 _, fun i hi => ?_, h7, h8, h9.setCell (by simp only; omega) _⟩
  · by_cases hia : i = a
    · subst hia
      have : i < cur.size := by omega
      simp [this]
    · have := h4 i hi
      rw [Array.getElem?_setIfInBounds_ne (by omega), this]
      by_cases hlt : i < a
      · rw [if_pos hlt, if_pos (by omega)]
      · rw [if_neg hlt, if_neg (by omega)]
  · rw [World.cell?_setCell_other _ _ _ _ (by simp only [ne_eq, Addr.mk.injEq]; omega)]
    exact h6 i hi

end

theorem DecI.grow {w wx : World} {L O n a c : Nat} {ws : Nat → Int} (h : DecI w wx L O n a c ws) (hc : wx.cell? ⟨O, c * 2 + 1, none⟩ = some (wordC (ws c))) : DecI w wx L O n a (c + 1) ws := by
  obtain ⟨h1, h2, h5, h6, h7⟩ := h
  refine ⟨h1, h2, h5, fun i hi => ?_, h7⟩
  by_cases hic : i = c
  · subst hic; exact hc
  · exact h6 i (by omega)

theorem DecI.free {w wx : World} {L O n a c : Nat} {ws : Nat → Int} (h : DecI w wx L O n a c ws) (p : Addr) (hp : p.block ≠ L) (hq : p.block ≠ O) (hr : w.heap.size < p.block) (u : Value) : DecI w (wx.setCell p u) L O n a c ws := by
  obtain ⟨h1, ⟨cur, h2, h3, h4⟩, h5, h6, h7, h8, h9⟩ := h
  refine ⟨set_kept h1 (by simp only [Value.ownBlock, ne_eq, Option.some.injEq]; omega) _, ⟨cur, h2.far (Ne.symm hp) _, h3, h4⟩, h5.far (Ne.symm hq) _, fun i hi => ?_, h7, h8, h9.setCell (by omega) _⟩
  rw [World.cell?_setCell_other _ _ _ _ (fun e => hq (by rw [e]))]
  exact h6 i hi

/-- A store into the values' row at or behind the place that is next. -/
theorem DecI.put {w wx : World} {L O n a c i : Nat} {ws : Nat → Int} (h : DecI w wx L O n a c ws) (hi : c * 2 ≤ i) (u : Value) : DecI w (wx.setCell ⟨O, i, none⟩ u) L O n a c ws := by
  obtain ⟨h1, ⟨cur, h2, h3, h4⟩, h5, h6, h7, h8, h9⟩ := h
  have n2 : L ≠ O := by omega
  refine ⟨set_kept h1 (by simp only [Value.ownBlock, ne_eq, Option.some.injEq]; omega) _, ⟨cur, h2.far n2 _, h3, h4⟩, h5.put _ _, fun j hj => ?_, h7, h8, h9.setCell (by simp only; omega) _⟩
  rw [World.cell?_setCell_other _ _ _ _ (by simp only [ne_eq, Addr.mk.injEq]; omega)]
  exact h6 j hj

/-- What the statement 'out[i] = p.get(w[k], bit)' reads, and where it writes. -/
def GotS (w : World) (p L O n k b off : Nat) (ws : Nat → Int) (w' : World) : Prop :=
  w'.cell? ⟨p, 0, none⟩ = some (.int .i64 3) ∧ w'.cell? ⟨p, 1, none⟩ = some (.int .i64 64) ∧ w'.cell? ⟨b, off + k, none⟩ = some (.int .u64 (ws k)) ∧ w'.cell? ⟨O, k * 2, none⟩ = some (val w' ⟨O, k * 2, none⟩) ∧ w'.cell? ⟨O, k * 2 + 1, none⟩ = some (val w' ⟨O, k * 2 + 1, none⟩) ∧
  w'.frozen? ⟨O, k * 2, none⟩ = false ∧ w'.frozen? ⟨O, k * 2 + 1, none⟩ = false ∧ Own w' p 124 #[.int .i64 3, .int .i64 64] ∧ DecI w w' L O n k k ws

theorem GotS.of {w w' : World} {p L O n k b off : Nat} {ws : Nat → Int} (hk : k < n) (h1 : Own w' p 124 #[.int .i64 3, .int .i64 64]) (h2 : w'.cell? ⟨b, off + k, none⟩ = some (.int .u64 (ws k))) (h : DecI w w' L O n k k ws) : GotS w p L O n k b off ws w' :=
  ⟨h1.cell 0, h1.cell 1, h2, h.2.2.1.cell (by omega), h.2.2.1.cell (by omega), h.2.2.1.free _, h.2.2.1.free _, h1, h⟩

theorem GotS.drewN {w w' : World} {p L O n k b off : Nat} {ws : Nat → Int} (hk : k < n) (H : GotS w p L O n k b off ws w') (q : Nat) : GotS w p L O n k b off ws (w'.drewN q).drew := by
  obtain ⟨_, _, h2, _, _, _, _, h1, h3, h4, h5, h6, h7, h8, h9⟩ := H
  exact GotS.of hk (h1.drewN q).drew h2 ⟨h3, h4, h5, h6, h7, h8, (below_drewN h9 q).drew⟩

theorem GotS.call {w w1 w2 : World} {p L O n k b off : Nat} {ws : Nat → Int} (hk : k < n) (hb : b < w.heap.size) (H : GotS w p L O n k b off ws w1) (hc : Below w1.heap.size w1 w2) : GotS w p L O n k b off ws w2 := by
  obtain ⟨_, _, h2, _, _, _, _, h1, h3⟩ := H
  exact GotS.of hk (h1.call hc) ((hc.cell (p := ⟨b, off + k, none⟩) (by have := h3.2.2.2.2.2.2.size; simp only; omega)).trans h2) (h3.call hc)

theorem GotS.store {w w1 : World} {p L O n k b off : Nat} {ws : Nat → Int} (hk : k < n) (hb : b < w.heap.size) (hp : O < p) (H : GotS w p L O n k b off ws w1) (u v : Value) : GotS w p L O n k b off ws ((w1.setCell ⟨O, k * 2, none⟩ u).setCell ⟨O, k * 2 + 1, none⟩ v) := by
  obtain ⟨_, _, h2, _, _, _, _, h1, h3⟩ := H
  have hO := h3.2.2.2.2.2.1
  have hL := h3.2.2.2.2.1
  have n1 : p ≠ O := by omega
  refine GotS.of hk ((h1.far n1 _).far n1 _) ?_ ((h3.put (by omega) u).put (by omega) v)
  rw [World.cell?_setCell_other _ _ _ _ (by simp only [ne_eq, Addr.mk.injEq]; omega), World.cell?_setCell_other _ _ _ _ (by simp only [ne_eq, Addr.mk.injEq]; omega)]
  exact h2

theorem DecI.drew {w wx : World} {L O n a c : Nat} {ws : Nat → Int} (h : DecI w wx L O n a c ws) : DecI w wx.drew L O n a c ws := by
  obtain ⟨h1, ⟨cur, h2, h3⟩, h5, h6, h7, h8, h9⟩ := h
  exact ⟨h1.drew, ⟨cur, h2.drew, h3⟩, h5.drew, h6, h7, h8, h9.drew⟩

theorem dec_close {w wx : World} {L O n k c : Nat} {ws : Nat → Int} {y : Int} (h : DecI w wx L O n k c ws) (hk : k < n) (hy : y = 0) : DecI w (wx.setCell ⟨L, k, none⟩ (.int .u64 y)) L O n (k + 1) c ws := by
  subst hy
  exact h.strike hk

theorem GotS.done {w w1 : World} {p L O n k b off : Nat} {ws : Nat → Int} {u : Value} (hk : k < n) (H : GotS w p L O n k b off ws ((w1.setCell ⟨O, k * 2, none⟩ u).setCell ⟨O, k * 2 + 1, none⟩ (wordC (ws k)))) :
    DecI w ((w1.setCell ⟨O, k * 2, none⟩ u).setCell ⟨O, k * 2 + 1, none⟩ (wordC (ws k))) L O n k (k + 1) ws ∧ Own ((w1.setCell ⟨O, k * 2, none⟩ u).setCell ⟨O, k * 2 + 1, none⟩ (wordC (ws k))) p 124 #[.int .i64 3, .int .i64 64] := by
  obtain ⟨_, _, _, _, _, _, _, h1, h3⟩ := H
  exact ⟨h3.grow (World.cell?_setCell_same _ _ _ (h3.2.2.1.of_put.cell (i := k * 2 + 1) (by omega))), h1⟩

/-- A word without all its bits. -/
theorem strike_all (x y : Int) (hy : y = 18446744073709551615) (h0 : 0 ≤ x) (h1 : x < 18446744073709551616) : bits .andNot .u64 x y = 0 := by
  subst hy
  rw [u64_andNot x _ h0 h1 (by omega) (by omega)]
  simp

theorem own_has2 {w : World} {base : Nat} {e : TypeId} {g n : Nat} {xs : List Value} (h : w.ownsRow base e 2 (.slice (some ⟨g, 0, none⟩) n n) n xs) : Has w g e (n * 2) := by
  rcases h.2 with ⟨h0, _⟩ | ⟨g', cap, cur, hv, _, hh, _, _, hs, _⟩
  · cases h0
  · injection hv with h1 h2 h3
    subst h3
    injection h1 with h1
    injection h1 with h1
    subst h1
    exact ⟨cur, by omega, hh⟩

theorem own_words {w : World} {base : Nat} {g n cap : Nat} {ws : Nat → Int} (h : w.ownsRow base 33 1 (.slice (some ⟨g, 0, none⟩) n cap) n ((List.range n).map fun i => .int .u64 (ws i))) :
    ∃ cur, Own w g 33 cur ∧ n ≤ cur.size ∧ ∀ i, i < n → cur[i]? = some (.int .u64 (if i < 0 then 0 else ws i)) := by
  rcases h.2 with ⟨h0, _⟩ | ⟨g', cap', cur, hv, _, hh, hle, _, hs, htk⟩
  · cases h0
  · injection hv with h1 h2 h3
    subst h3
    injection h1 with h1
    injection h1 with h1
    subst h1
    refine ⟨cur, hh, by omega, fun i hi => ?_⟩
    have : (cur.toList.take (n * 1))[i]? = some (.int .u64 (ws i)) := by rw [htk]; simp [hi]
    rw [List.getElem?_take] at this
    split at this
    · simpa using this
    · cases this

theorem info110 : (Tryd.prog.info? 110).map (fun i => (i.zero, i.size, i.bytes)) = some (some (.agg #[.int .i64 0, .complex .f64 0 0]), 2, 24) := by kernel_rfl

def Decoded (w : World) (n : Nat) (ws : Nat → Int) (e : Ending) (w' : World) : Prop :=
  ∃ q, e = .returned (.tuple #[.slice (some ⟨q, 0, none⟩) n n, .int .i64 0]) ∧ (∀ i, i < n → w'.cell? ⟨q, i * 2 + 1, none⟩ = some (wordC (ws i))) ∧ w.heap.size ≤ q ∧ q < w'.heap.size ∧ Below w.heap.size w w'

set_option maxHeartbeats 3200000 in
set_option maxRecDepth 100000 in
theorem decode_any (g n b off c : Nat) (n1 : 1 ≤ n) (n64 : n ≤ 64) (ws : Nat → Int) (w : World) (hg : g < w.heap.size) (hbw : b < w.heap.size)
    (h3 : ∀ i, i < n → w.cell? ⟨g, i * 2, none⟩ = some (.int .i64 3)) (h64 : ∀ i, i < n → w.cell? ⟨g, i * 2 + 1, none⟩ = some (.int .i64 64))
    (hw : ∀ i, i < n → w.cell? ⟨b, off + i, none⟩ = some (.int .u64 (ws i))) (hr : ∀ i, i < n → 0 ≤ ws i ∧ ws i < 18446744073709551616) :
    Calls Tryd.prog 47 #[.slice (some ⟨g, 0, none⟩) n n, .slice (some ⟨b, off, none⟩) n c] w (Decoded w n ws) := by
  obtain ⟨i0, hi0, hz0, hz1, hz2⟩ := info_parts info33
  obtain ⟨j0, hj0, hy0, hy1, hy2⟩ := info_parts info110
  have H3 := Lib.hid h3
  have H64 := Lib.hid h64
  have HW := Lib.hid hw
  have HRG := Lib.hid hr
  clear h3 h64 hw hr
  have hne : ((n : Int) != (n : Int)) = false := by simp
  go_enter Tryd.func47, Tryd.ntmps47
  go_wp2_with fail
  refine (places_any g n n1 n64 _ hg H3.out H64.out).mono ?_
  rintro e w1 ⟨rfl, hpl, hb1⟩
  have HP := Lib.hid hpl
  clear hpl
  have hz : w.heap.size < w1.heap.size := (HP.out.lt _ rfl).2
  have HN := Lib.hid (fun (j : Nat) (u : Value) (hj : ((List.range n).map fun i => Value.int .u64 (ws i))[j]? = some u) => (show w1.cell? ((⟨b, off, none⟩ : Addr).add j) = some u from by
    have hjn : j < n := by
      have := (List.getElem?_eq_some_iff.1 hj).1
      simpa using this
    simp [hjn] at hj
    subst hj
    have := (hb1.cell (p := ⟨b, off + j, none⟩) hbw).trans (HW.out j hjn)
    unfold Addr.add; split
    · simp_all
    · exact this))
  go_wp2_with (first
    | (at_builtin; go_must (refine wpList_append_lies _ rfl _ _ 36 rfl w1.heap.size 33 i0 _ 1 8 Tryd.underlying36 hi0 hz0 hz1 hz2 rfl (by omega) (.slice none 0 0) 0 [] rfl (World.ownsRow_nil _ _ _ _) ⟨b, off, none⟩ n c ((List.range n).map fun i => Value.int .u64 (ws i)) rfl (by simp) HN.out (by intro u hu; simp at hu; obtain ⟨i, _, rfl⟩ := hu; rfl) (by omega) (by unfold maxLen; omega) (by omega) (Nat.le_refl _) w1.heap.size rfl ?_); intro L cap w2 hown2 hgrow2 hL2 hLt)
    | (at_make; go_must (refine wpList_make_full _ rfl _ _ 104 rfl w2.heap.size 110 j0 _ 2 Tryd.underlying104 hj0 hy0 hy1 .i64 .i64 n n n rfl rfl rfl rfl (by rw [hy2]; omega) (by unfold maxLen; omega) (Nat.le_refl _) ?_); intro w3 hown3 hgrow3))
  have hLe : L = w1.heap.size := by
    rcases hL2 with h | h
    · simp [Value.ownBlock] at h
    · exact h
  have HD := Lib.hid (show DecI w w3 L w2.heap.size n 0 0 ws from by
    refine ⟨(HP.out.kept hgrow2 (.inr (by simp [Value.ownBlock]))).kept hgrow3 (own_em _), ?_, own_has2 hown3, fun i hi => by omega, by omega, by omega, ?_⟩
    · obtain ⟨cur, k1, k2, k3⟩ := own_words (by simpa using hown2)
      exact ⟨cur, k1.grown hgrow3 (by simp), k2, k3⟩
    · exact (hb1.grown hgrow2 (by omega) (by simp [Value.ownBlock])).grown hgrow3 (by have := hgrow2.size; omega) (by simp))
  clear hLe hown2 hgrow2 hL2 hLt hown3 hgrow3 HN HP hb1
  generalize w2.heap.size = O at *
  go_loopg [37] n (fun q s37 wx => ∃ k : Nat, k + q = n ∧ s37 = .int .i64 k ∧ Hid (DecI w wx L O n k k ws))
  case atStart => exact ⟨0, by omega, rfl, HD⟩
  case round =>
    obtain ⟨k, hkq, rfl, HK⟩ := hrel
    cases gk with
    | zero =>
      have hkz : ¬ ((k : Int) < (n : Int)) := by omega
      go_wp2_with fail
      obtain rfl : k = n := by omega
      have hz0 : ∀ i, i < k → wr.cell? ⟨L, i, none⟩ = some (.int .u64 0) := fun i hi => by
        obtain ⟨cur, o, _, h4⟩ := HK.out.2.1
        rw [o.cell, h4 i hi, if_pos hi]
      have HZ := Lib.hid hz0
      clear hz0
      go_loopg [78] k (fun q s78 wx => ∃ j : Nat, j + q = k ∧ s78 = .int .i64 j ∧ wx = wr)
      case atStart => exact ⟨0, by omega, rfl, rfl⟩
      case round =>
        obtain ⟨j, hjq, rfl, rfl⟩ := hrel
        cases gk with
        | zero =>
          have hjz : ¬ ((j : Int) < (k : Int)) := by omega
          go_wp2_with fail
          go_ret2
          exact ⟨O, by simp, HK.out.2.2.2.1, by have := HK.out.2.2.2.2; omega, HK.out.2.2.1.lt, HK.out.2.2.2.2.2.2⟩
        | succ q =>
          have hjz : (j : Int) < (k : Int) := by omega
          have cz := HZ.out j (by omega)
          go_wp2_with fail
          go_roundg q
          case measure => omega
          case rel => exact ⟨j + 1, by omega, by go_num, rfl⟩
    | succ q =>
      have hkz : (k : Int) < (n : Int) := by omega
      have hk0 : (0 : Int) ≤ (k : Int) := by omega
      have hkn : k < n := by omega
      have hpl := placeL_at n k hkn
      have hrc := HK.out.1.cells (g := w.heap.size) rfl
      have hbel := HK.out.2.2.2.2.2.2
      have r0 : wr.cell? ⟨w.heap.size, k * 2, none⟩ = some (.int .i64 (k : Int)) := by have := hrc _ _ hpl.1; unfold Addr.add at this; split at this <;> simp_all
      have r1 : wr.cell? ⟨w.heap.size, k * 2 + 1, none⟩ = some (.int .i64 0) := by have := hrc _ _ hpl.2; unfold Addr.add at this; split at this <;> simp_all
      have c3 : wr.cell? ⟨g, k * 2, none⟩ = some (.int .i64 3) := (hbel.cell (p := ⟨g, k * 2, none⟩) hg).trans (H3.out k hkn)
      have c64 : wr.cell? ⟨g, k * 2 + 1, none⟩ = some (.int .i64 64) := (hbel.cell (p := ⟨g, k * 2 + 1, none⟩) hg).trans (H64.out k hkn)
      have cw : wr.cell? ⟨b, off + k, none⟩ = some (.int .u64 (ws k)) := (hbel.cell (p := ⟨b, off + k, none⟩) hbw).trans (HW.out k hkn)
      have hO : O < wr.heap.size := HK.out.2.2.1.lt
      have hLO := HK.out.2.2.2.2.2.1
      have hwL := HK.out.2.2.2.2.1
      have hzw : w.heap.size < wr.heap.size := by omega
      have hbw2 : b < wr.heap.size := by omega
      clear hpl hrc hbel
      go_wp2_with fail
      go_quiet (fail)
      have HE := Lib.hid (show ∀ nq, GotS w wr.heap.size L O n k b off ws ((wr.alloc (.cells #[.int .i64 3, .int .i64 64] 124)).drewN nq).drew from fun nq => by
        refine GotS.drewN hkn (GotS.of hkn (Own.new _ _ _) ?_ (HK.out.call (below_alloc_self _ _))) nq
        rw [World.cell?_alloc_lt _ _ _ (by simp only; omega)]; exact cw)
      clear cw r0 r1 c3 c64
      go_upto_region 12 with fail
      go_cut [] (fun wx => Hid (DecI w wx L O n k (k + 1) ws ∧ Own wx wr.heap.size 124 #[.int .i64 3, .int .i64 64]))
      case first =>
        go_region_held3 (fun w' => w'.cell? ⟨wr.heap.size, 0, none⟩ = some (.int .i64 3) ∧ w'.cell? ⟨wr.heap.size, 1, none⟩ = some (.int .i64 64) ∧ w'.cell? ⟨b, off + k, none⟩ = some (.int .u64 (ws k)) ∧ w'.cell? ⟨O, k * 2, none⟩ = some (val w' ⟨O, k * 2, none⟩) ∧ w'.cell? ⟨O, k * 2 + 1, none⟩ = some (val w' ⟨O, k * 2 + 1, none⟩) ∧ w'.frozen? ⟨O, k * 2, none⟩ = false ∧ w'.frozen? ⟨O, k * 2 + 1, none⟩ = false ∧ Own w' wr.heap.size 124 #[.int .i64 3, .int .i64 64] ∧ DecI w w' L O n k k ws)
          (first | assumption | exact HE.out _ | exact GotS.call hkn hbw (by assumption) hb | exact GotS.store hkn hbw hO (by assumption) _ _)
          (first | (go_at_call 62; refine (get_point _ _ _).mono ?_; rintro e w' ⟨rfl, hb⟩))
        rename_i hG
        have hG2 := GotS.done hkn hG
        go_wp2_with fail
        go_meet
        exact hG2
      case rest =>
        have HR := hcut
        clear hcut
        go_wp2_with fail
        have p0 : wc.cell? ⟨wr.heap.size, 0, none⟩ = some (.int .i64 3) := HR.out.2.cell 0
        have p1 : wc.cell? ⟨wr.heap.size, 1, none⟩ = some (.int .i64 64) := HR.out.2.cell 1
        have l0 : wc.cell? ⟨L, k, none⟩ = some (.int .u64 (ws k)) := by
          obtain ⟨cur, o, _, h4⟩ := HR.out.1.2.1
          rw [o.cell, h4 k hkn, if_neg (by omega)]
        have hncap : (k : Int) < (n : Int) := by omega
        go_region_with (go_at_call 63; go_must (refine (max64 _).mono ?_); rintro e w' ⟨rfl, hb⟩; have HD2 := (DecI.drew HR.out.1).call hb; have q2 : w'.cell? ⟨L, k, none⟩ = some (.int .u64 (ws k)) := (hb.cell (p := ⟨L, k, none⟩) (by have := HR.out.2.lt; show L < wc.heap.size; omega)).trans l0; have q3 : w'.frozen? ⟨L, k, none⟩ = false := (HD2.2.1.choose_spec.1).free k; have HD := Lib.hid HD2; clear HD2)
        all_goals
          go_wp2_with fail
          go_roundg q
          case measure => omega
          case rel => exact ⟨k + 1, by omega, by go_num, dec_close HD.out hkn (strike_all (ws k) _ rfl (HRG.out k hkn).1 (HRG.out k hkn).2)⟩

set_option maxHeartbeats 1600000 in
theorem decode_len (g n m c : Nat) (A : Option Addr) (n1 : 1 ≤ n) (n64 : n ≤ 64) (hm : m ≠ n) (w : World) (hg : g < w.heap.size)
    (h3 : ∀ i, i < n → w.cell? ⟨g, i * 2, none⟩ = some (.int .i64 3)) (h64 : ∀ i, i < n → w.cell? ⟨g, i * 2 + 1, none⟩ = some (.int .i64 64)) :
    Calls Tryd.prog 47 #[.slice (some ⟨g, 0, none⟩) n n, .slice A m c] w fun e w' => e = .returned (.tuple #[.slice none 0 0, .int .i64 17]) ∧ Below w.heap.size w w' := by
  have H3 := Lib.hid h3
  have H64 := Lib.hid h64
  clear h3 h64
  have hne : ((m : Int) != (n : Int)) = true := by rw [bne_iff_ne]; omega
  go_enter Tryd.func47, Tryd.ntmps47
  go_wp2_with fail
  refine (places_any g n n1 n64 _ hg H3.out H64.out).mono ?_
  rintro e w1 ⟨rfl, hpl, hb1⟩
  have HP := Lib.hid hpl
  clear hpl
  go_wp2_with fail
  go_ret2
  exact ⟨rfl, hb1⟩

end Go.Proofs.YtmhnodbmcciifaaDoor
