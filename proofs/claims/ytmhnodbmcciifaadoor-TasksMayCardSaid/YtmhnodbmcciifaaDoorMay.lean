/- The walk of TasksMay. Each theorem says under which conditions. -/
import Derived.Test.YtmhnodbmcciifaaDoorAwake
import Derived.Test.YtmhnodbmcciifaaDoorCall
import Derived.Test.YtmhnodbmcciifaaDoorSame
import Derived.Deep.DeepCutAuto
namespace Go.Proofs.YtmhnodbmcciifaaDoor
open Go.RowKit Flt

/-- The answers, as they came in. -/
def AnsAt (w : World) (b off n : Nat) (a : Nat → AS) : Prop :=
  b < w.heap.size ∧ ∀ i, i < n → (∀ r v, (a i).row[r]? = some v → w.cell? ⟨b, off + i * 12 + r, none⟩ = some v) ∧ (∃ A m c, (a i).gens = .slice A m c) ∧ Words w (a i).words

theorem FieldsAt.chg {w w' : World} {T : Nat} (h : FieldsAt w) (hc : Chg T w w') (hT : T ≠ 0) : FieldsAt w' :=
  ⟨Nat.lt_of_lt_of_le h.1 hc.size, fun i v hi => (hc.cell i h.1 (Ne.symm hT)).trans (h.2 i v hi)⟩

/-- What TasksMay's loop keeps. -/
def MayL (wB : World) (bx T kn n : Nat) (kind turns : Int) (jv : Value) (q : Nat) (s9 s10 s11 : Value) (W : World) : Prop :=
  ∃ (l : List (Array Value)) (s : TS) (i calls : Int), s9 = .int .i64 calls ∧ s10 = .int .i64 s.turn ∧ s11 = .int .i64 i ∧ MayInv kn turns l s i calls ∧ (4 * turns + 10 - i).toNat = q ∧ TaskI W T kn n l s ∧ Chg T wB W ∧ Own W bx 24 #[.int .i64 kind, .int .i64 turns, jv]

def MayQ (w : World) (e : Ending) (w' : World) : Prop := e = .returned (.bool true) ∧ Below w.heap.size w w'

theorem may_early1 (kind turns : Int) (A : Option Addr) (n c : Nat) (LA : Option Addr) (ln lc : Nat) (w : World) (h : 70 < n ∨ 60 < turns ∨ 300 < ln) :
    Calls Tryd.prog 3 #[.agg #[.int .i64 kind, .int .i64 turns, .slice A n c], .slice LA ln lc] w (MayQ w) := by
  have hB1 := Lib.hid ((Below.refl w.heap.size w).alloc (Nat.le_refl _) (.cells #[.int .i64 kind, .int .i64 turns, .slice A n c] 24))
  have O1 := Lib.hid (Own.new w 24 #[.int .i64 kind, .int .i64 turns, .slice A n c])
  go_enter Tryd.func3, Tryd.ntmps3
  go_wp2_with fail
  refine (few_any kind turns A n c _).mono ?_
  rintro e w1 ⟨rfl, hb1⟩
  have HB1 := Lib.hid (hB1.out.call (by simp) hb1)
  obtain ⟨b0, b1, b2, _⟩ := (O1.out.call hb1).c3
  have lt := (O1.out.call hb1).lt
  clear hb1
  have fin : Calls Tryd.prog 5 #[] w1 (MayQ w) := (awake_ok w1).mono fun e w' h => ⟨h.1, HB1.out.call HB1.out.size h.2⟩
  have FIN := Lib.hid fin
  clear fin
  by_cases h1 : n ≤ 70
  · rw [decide_eq_true h1]
    by_cases h2 : 60 < turns
    · clear h
      go_wp2_with fail
      refine FIN.out.mono ?_
      rintro e w2 ⟨rfl, hb⟩
      go_wp2_with fail
      go_ret
      exact ⟨rfl, hb⟩
    · have h3 : 300 < ln := by omega
      clear h
      go_wp2_with fail
      refine FIN.out.mono ?_
      rintro e w2 ⟨rfl, hb⟩
      go_wp2_with fail
      go_ret
      exact ⟨rfl, hb⟩
  · rw [decide_eq_false h1]
    clear h
    go_wp2_with fail
    refine FIN.out.mono ?_
    rintro e w2 ⟨rfl, hb⟩
    go_wp2_with fail
    go_ret
    exact ⟨rfl, hb⟩


/-- The cells of a block of twelve. -/
theorem AS.cells {w : World} {b o : Nat} {a : AS} (h : ∀ r v, a.row[r]? = some v → w.cell? ⟨b, o + r, none⟩ = some v) :
    w.cell? ⟨b, o, none⟩ = some (.int .i64 a.code) ∧ w.cell? ⟨b, o + 1, none⟩ = some (.int .i64 a.sub) ∧ w.cell? ⟨b, o + 2, none⟩ = some (.int .u64 a.gen) ∧ w.cell? ⟨b, o + 3, none⟩ = some (.int .i64 a.count) ∧ w.cell? ⟨b, o + 4, none⟩ = some (.int .u64 a.lost) ∧
    w.cell? ⟨b, o + 5, none⟩ = some (.int .i64 a.mode) ∧ w.cell? ⟨b, o + 6, none⟩ = some (.int .i64 a.src) ∧ w.cell? ⟨b, o + 7, none⟩ = some (.bool a.hold) ∧ w.cell? ⟨b, o + 8, none⟩ = some (.int .i64 a.fl) ∧ w.cell? ⟨b, o + 9, none⟩ = some (.int .u64 a.ep) ∧ w.cell? ⟨b, o + 10, none⟩ = some a.gens ∧ w.cell? ⟨b, o + 11, none⟩ = some a.words :=
  ⟨h 0 _ rfl, h 1 _ rfl, h 2 _ rfl, h 3 _ rfl, h 4 _ rfl, h 5 _ rfl, h 6 _ rfl, h 7 _ rfl, h 8 _ rfl, h 9 _ rfl, h 10 _ rfl, h 11 _ rfl⟩

/-- A task that has ended stays so. -/
theorem may_ended2 {kind n : Nat} {l' : List (Array Value)} {a : AS} {s s' : TS} {c : Array Value} {b : Bool} (hd : s.turn = s.turns) (hn : NextR kind n [] a s c b l' s') : c = zero11 ∧ b = false ∧ s'.turn = s.turn := by
  obtain ⟨s1, hh, _, ha⟩ := next_again hn
  obtain ⟨k1, k2, k3⟩ := hh.keep
  obtain ⟨r1, r2, r3⟩ := again_done ha (by omega)
  subst r3
  exact ⟨r1, r2, k2⟩

/-- The answer that is handed in. -/
def AnsP (w wr : World) (v : Value) (W : World) : Prop := ∃ a : AS, v = .pointer (some ⟨wr.heap.size, 0, none⟩) ∧ W = wr.alloc (.cells a.row 38) ∧ ∀ W', Below w.heap.size w W' → Words W' a.words

set_option maxRecDepth 100000 in
set_option maxHeartbeats 6400000 in
theorem may_loop (kind turns : Int) (A : Option Addr) (n c : Nat) (LA : Option Addr) (ln lc : Nat) (t m f re im kd : Nat → Int) (an : Nat → AS) (w : World) (hn : n ≤ 70) (ht : turns ≤ 60) (hln : ln ≤ 300) (hw : FieldsAt w)
    (hj : 0 < n → ∃ b off, A = some ⟨b, off, none⟩ ∧ JobAt w b off n t m f re im kd) (hl : 0 < ln → ∃ b off, LA = some ⟨b, off, none⟩ ∧ AnsAt w b off ln an) :
    Calls Tryd.prog 3 #[.agg #[.int .i64 kind, .int .i64 turns, .slice A n c], .slice LA ln lc] w (MayQ w) := by
  have HB0 := Lib.hid ((Below.refl w.heap.size w).alloc (Nat.le_refl _) (.cells #[.int .i64 kind, .int .i64 turns, .slice A n c] 24))
  have O0 := Lib.hid (Own.new w 24 #[.int .i64 kind, .int .i64 turns, .slice A n c])
  have HJ := Lib.hid hj
  have HL := Lib.hid hl
  have HW := Lib.hid hw
  clear hj hl hw
  go_enter Tryd.func3, Tryd.ntmps3
  go_wp2_with fail
  refine (few_any kind turns A n c _).mono ?_
  rintro e w1 ⟨rfl, hb1⟩
  have HB1 := Lib.hid (HB0.out.call (by simp) hb1)
  have O1 := Lib.hid (O0.out.call hb1)
  obtain ⟨b0, b1, b2, _⟩ := O1.out.c3
  have lt := O1.out.lt
  clear hb1
  rw [decide_eq_true hn]
  go_wp2_with fail
  refine (begin_any kind turns A n c t m f re im kd w1 hn (fun h0 => by
    obtain ⟨b, off, hA, hlt, hat⟩ := HJ.out h0
    have hc := (bcell HB1.out).1
    exact ⟨b, off, hA, Nat.lt_of_lt_of_le hlt HB1.out.size, fun i hi => by
      obtain ⟨q0, q1, q2, q3, q4, q5⟩ := hat i hi
      exact ⟨(hc _ _ hlt).trans q0, (hc _ _ hlt).trans q1, (hc _ _ hlt).trans q2, (hc _ _ hlt).trans q3, (hc _ _ hlt).trans q4, (hc _ _ hlt).trans q5⟩⟩)).mono ?_
  rintro e wB ⟨r, c2, ⟨ec, hec, rfl, hbB⟩ | ⟨T, kn, s0, rfl, hkn, hk3, t0, t1, hT0, hTI, p1, p2, p3, p4, hbB⟩⟩
  · have HBB := Lib.hid (HB1.out.call HB1.out.size hbB)
    have hne : (ec == 0) = false := by simpa using hec
    have hne2 : (ec != 0) = true := by simpa using hec
    clear hbB hec
    go_wp2_with fail
    refine (awake_ok wB).mono ?_
    rintro e w2 ⟨rfl, hb⟩
    have HB2 := Lib.hid (HBB.out.call HBB.out.size hb)
    clear hb
    go_wp2_with fail
    go_ret
    exact ⟨rfl, HB2.out⟩
  · have HBB := Lib.hid (HB1.out.call HB1.out.size hbB)
    have OB := Lib.hid (O1.out.call hbB)
    have HT0 := Lib.hid hTI
    have HI0 := Lib.hid (may_start kn s0 turns p1 p2 p3 t0 t1)
    have hTw : w.heap.size < T := by omega
    have hs0 := p2
    have HS0 := Lib.hid hs0
    have hT00 : T ≠ 0 := by omega
    have HTW := Lib.hid (And.intro hTw hT00)
    have HKN := Lib.hid hkn
    clear hbB hTI p1 p2 p3 p4 b0 b1 b2 lt hs0 hkn hT00
    go_wp2_with fail
    go_loopg [9, 10, 11] (4 * turns + 10 - 0).toNat (fun q s9 s10 s11 wx => MayL wB w.heap.size T kn n kind turns (.slice A n c) q s9 s10 s11 wx)
    case atStart => exact ⟨onceOf kn, s0, 0, 0, rfl, by rw [HS0.out], rfl, HI0.out, rfl, HT0.out, Chg.refl _ _, OB.out⟩
    case round =>
      obtain ⟨l, s, i, calls, rfl, rfl, rfl, hinv, hq, hT, hC, hO⟩ := hrel
      have HIN := Lib.hid hinv
      have HT := Lib.hid hT
      have HC := Lib.hid hC
      have HO := Lib.hid hO
      have hib := may_bound hinv
      have hi0 : 0 ≤ i := hinv.2.2.2.2.2.2.1
      have hq' : (4 * turns + 10 - i).toNat = gk := hq
      have HQ := Lib.hid hq'
      obtain ⟨b0, b1, b2, _⟩ := hO.c3
      have lt := hO.lt
      clear hinv hT hC hO hq hq'
      have HBW := Lib.hid (HBB.out.trans (Below.of_chg HC.out (Nat.le_of_lt hTw) HBB.out.size))
      go_upto_if 57 with fail
      go_cut [12] (fun s12 wx => AnsP w wr s12 wx)
      case first =>
        by_cases hl0 : ln = 0
        · subst hl0
          go_wp2_with fail
          go_meet
          case rel => exact ⟨answerA 0, rfl, rfl, fun _ _ => answerA_words _ _⟩
        · obtain ⟨b, off, hLA, hlb, hat⟩ := HL.out (by omega)
          obtain ⟨mm, hmm⟩ : ∃ mm : Nat, i % (ln : Int) = mm := ⟨(i % (ln : Int)).toNat, by have := Int.emod_nonneg i (show (ln : Int) ≠ 0 by omega); omega⟩
          have hml : mm < ln := by have := Int.emod_lt_of_pos i (show (0 : Int) < ln by omega); omega
          obtain ⟨hrow, ⟨gA, gm, gc, hg⟩, hwords⟩ := hat mm hml
          have hcw := (bcell HBW.out).1
          obtain ⟨q0, q1, q2, q3, q4, q5, q6, q7, q8, q9, q10, q11⟩ := AS.cells (w := wr) (b := b) (o := off + mm * 12) (a := an mm) (fun r v h => (hcw b _ hlb).trans (hrow r v h))
          subst hLA
          have lbr : b < wr.heap.size := by have := HBW.out.size; omega
          have m0 : (0 : Int) ≤ (mm : Int) := by omega
          have m1 : (mm : Int) < (ln : Int) := by omega
          have l0 : (0 : Int) < (ln : Int) := by omega
          obtain ⟨vA, vm, vc, hv, hvr⟩ := hwords
          have HVR := Lib.hid (show ∀ W', Below w.heap.size w W' → Words W' (.slice vA vm vc) from fun W' hW' => (show Words w (.slice vA vm vc) from ⟨vA, vm, vc, rfl, hvr⟩).below hW')
          rw [hg] at q10
          rw [hv] at q11
          clear hat hrow hcw hg hv hvr
          go_wp2_with fail
          go_meet
          case rel => exact ⟨{ code := (an mm).code, sub := (an mm).sub, gen := (an mm).gen, count := (an mm).count, lost := (an mm).lost, mode := (an mm).mode, src := (an mm).src, hold := (an mm).hold, fl := (an mm).fl, ep := (an mm).ep, gens := .slice gA gm gc, words := .slice vA vm vc }, rfl, rfl, HVR.out⟩
      case rest =>
        obtain ⟨a, rfl, rfl, hwd⟩ := hcut
        have HWD := Lib.hid hwd
        have HBA := Lib.hid (HBW.out.alloc HBW.out.size (.cells a.row 38))
        have O12 := Lib.hid (Own.new wr 38 a.row)
        have HTA := Lib.hid (HT.out.allocT (.cells a.row 38))
        have HCA := Lib.hid (HC.out.alloc (.cells a.row 38))
        have HOA := Lib.hid (HO.out.alloc (.cells a.row 38))
        have hxT : wr.heap.size ≠ T := by have := HT.out.lt; omega
        have hbT : w.heap.size ≠ T := by omega
        obtain ⟨m0, m1, m2, m3, m4, m5, m6, m7, m8, m9, m10, m11⟩ := (show Own _ _ 38 #[_, _, _, _, _, _, _, _, _, _, _, _] from O12.out).d12
        clear hwd b0 b1 b2 lt
        generalize hWA : wr.alloc (.cells a.row 38) = WA at HBA O12 HTA HCA HOA m0 m1 m2 m3 m4 m5 m6 m7 m8 m9 m10 m11 ⊢
        have lA := O12.out.lt
        clear hWA
        go_wp2_with fail
        refine (next_any T kn n l a s WA HTA.out HIN.out.2.1 (HWD.out _ HBA.out) HIN.out.2.2.2.1).mono ?_
        rintro e w3 ⟨cc, b, l', s', rfl, hnr, hT3, hC3⟩
        obtain ⟨g1, g2, g3, g4⟩ := may_next HIN.out hnr
        cases b
        · obtain ⟨rfl, z1, rfl, z2, z3⟩ := g3 rfl
          have HZ := Lib.hid (And.intro z1 (And.intro z2 z3))
          have heq : (s'.turn == turns) = true := by simpa using z1
          clear g3 g4 z1 z2 z3
          simp only [zero11]
          have HT4 := Lib.hid (hT3.allocT (.cells #[.int .i64 0, .int .i64 0, .int .i64 0, .int .i64 0, .int .i64 0, .int .i64 0, .int .i64 0, .int .i64 0, .bool false, .slice none 0 0, .slice none 0 0] 41))
          have HC4 := Lib.hid ((HCA.out.trans hC3).alloc (.cells #[.int .i64 0, .int .i64 0, .int .i64 0, .int .i64 0, .int .i64 0, .int .i64 0, .int .i64 0, .int .i64 0, .bool false, .slice none 0 0, .slice none 0 0] 41))
          have HO4 := Lib.hid ((HOA.out.chg hC3 hbT).alloc (.cells #[.int .i64 0, .int .i64 0, .int .i64 0, .int .i64 0, .int .i64 0, .int .i64 0, .int .i64 0, .int .i64 0, .bool false, .slice none 0 0, .slice none 0 0] 41))
          have O124 := Lib.hid ((O12.out.chg hC3 hxT).alloc (.cells #[.int .i64 0, .int .i64 0, .int .i64 0, .int .i64 0, .int .i64 0, .int .i64 0, .int .i64 0, .int .i64 0, .bool false, .slice none 0 0, .slice none 0 0] 41))
          have O13 := Lib.hid (Own.new w3 41 #[.int .i64 0, .int .i64 0, .int .i64 0, .int .i64 0, .int .i64 0, .int .i64 0, .int .i64 0, .int .i64 0, .bool false, .slice none 0 0, .slice none 0 0])
          have hgT : w3.heap.size ≠ T := by have := hT3.lt; omega
          clear hnr hT3 hC3 m0 m1 m2 m3 m4 m5 m6 m7 m8 m9 m10 m11 lA
          have hs0 : 0 ≤ s.turn := HIN.out.2.1.1
          have hs1 : s.turn ≤ 1000 := by have := HIN.out.2.1.2.1; have := HIN.out.2.1.2.2.1; omega
          go_wp2_with fail
          generalize hW4 : w3.alloc (.cells #[.int .i64 0, .int .i64 0, .int .i64 0, .int .i64 0, .int .i64 0, .int .i64 0, .int .i64 0, .int .i64 0, .bool false, .slice none 0 0, .slice none 0 0] 41) = W4 at HT4 HC4 HO4 O124 O13 ⊢
          clear hW4
          refine (turn_ok T s' W4 HT4.out.own).mono ?_
          rintro e w4 ⟨rfl, rfl⟩
          go_upto_if 84 with fail
          go_cut [9] (fun s9 wx => s9 = .int .i64 (if s.turn < s'.turn then 0 else calls) ∧ wx = W4)
          case first =>
            by_cases hlt : s.turn < s'.turn
            · go_wp2_with fail
              go_meet
              case rel => exact ⟨by rw [if_pos (by omega)], rfl⟩
            · go_wp2_with fail
              go_meet
              case rel => exact ⟨by rw [if_neg (by omega)], rfl⟩
          case rest =>
            obtain ⟨rfl, rfl⟩ := hcut
            obtain ⟨b0, b1, b2, _⟩ := HO4.out.c3
            have lt := HO4.out.lt
            have HBX := Lib.hid (HBB.out.trans (Below.of_chg HC4.out (Nat.le_of_lt hTw) HBB.out.size))
            generalize (if s.turn < s'.turn then (0 : Int) else calls) = calls2
            obtain ⟨m0, m1, m2, m3, m4, m5, m6, m7, m8, m9, m10, m11⟩ := (show Own _ _ 38 #[_, _, _, _, _, _, _, _, _, _, _, _] from O124.out).d12
            have lx := O124.out.lt
            clear g1 g2 hib
            go_wp2_with fail
            refine (next_any T kn n [] a s' wc HT4.out HZ.out.2.2 (HWD.out _ HBX.out) (fun c h => absurd h (by simp))).mono ?_
            rintro e w5 ⟨c5, b5, l5, s5, rfl, hn5, hT5, hC5⟩
            obtain ⟨rfl, rfl, e5⟩ := may_ended2 (by have := HZ.out.1; have := HZ.out.2.1; omega) hn5
            have heq5 : (s5.turn == s'.turn) = true := by simpa using e5
            have HT5 := Lib.hid (hT5.allocT (.cells #[.int .i64 0, .int .i64 0, .int .i64 0, .int .i64 0, .int .i64 0, .int .i64 0, .int .i64 0, .int .i64 0, .bool false, .slice none 0 0, .slice none 0 0] 41))
            have HC5 := Lib.hid ((HC4.out.trans hC5).alloc (.cells #[.int .i64 0, .int .i64 0, .int .i64 0, .int .i64 0, .int .i64 0, .int .i64 0, .int .i64 0, .int .i64 0, .bool false, .slice none 0 0, .slice none 0 0] 41))
            have O135 := Lib.hid (O13.out.chg hC5 hgT)
            have HO5 := Lib.hid (HO4.out.chg hC5 hbT)
            clear hn5 hT5 hC5 e5 b0 b1 b2 lt m0 m1 m2 m3 m4 m5 m6 m7 m8 m9 m10 m11 lx
            obtain ⟨b0, b1, b2, _⟩ := HO5.out.c3
            obtain ⟨d0, d1, d2, d3, d4, d5, d6, d7, d8, d9, d10⟩ := O135.out.c11.1
            have lt := HO5.out.lt
            have ld := O135.out.lt
            simp only [zero11]
            go_wp2_with fail
            refine (same_zero _).mono ?_
            rintro e w6 ⟨rfl, hb6⟩
            have HT6 := Lib.hid (HT5.out.below hb6)
            have HB6 := Lib.hid ((HBB.out.trans (Below.of_chg HC5.out (Nat.le_of_lt hTw) HBB.out.size)).call (Nat.le_trans HBB.out.size HC5.out.size) hb6)
            clear hb6
            go_wp2_with fail
            refine (turn_ok T s5 w6 HT6.out.own).mono ?_
            rintro e w7 ⟨rfl, rfl⟩
            go_wp2_with fail
            refine (awake_ok w6).mono ?_
            rintro e w7 ⟨rfl, hb7⟩
            have HB7 := Lib.hid (HB6.out.call HB6.out.size hb7)
            clear hb7
            go_wp2_with fail
            go_ret
            exact ⟨rfl, HB7.out⟩
        · obtain ⟨hok, hinv, hend⟩ := g4 rfl
          obtain ⟨q, tt, cap, rank, src, mode, fl, free, pA, pn, pc, rfl⟩ := hok.shape
          have HOK := Lib.hid hok
          have HIV := Lib.hid hinv
          clear g3 g4 hok hinv
          simp only [callC]
          have HT4 := Lib.hid (hT3.allocT (.cells #[.int .i64 q, .int .i64 tt, .int .i64 0, .int .i64 cap, .int .i64 rank, .int .i64 src, .int .i64 mode, .int .i64 fl, .bool free, .slice none 0 0, .slice pA pn pc] 41))
          have HC4 := Lib.hid ((HCA.out.trans hC3).alloc (.cells #[.int .i64 q, .int .i64 tt, .int .i64 0, .int .i64 cap, .int .i64 rank, .int .i64 src, .int .i64 mode, .int .i64 fl, .bool free, .slice none 0 0, .slice pA pn pc] 41))
          have HO4 := Lib.hid ((HOA.out.chg hC3 hbT).alloc (.cells #[.int .i64 q, .int .i64 tt, .int .i64 0, .int .i64 cap, .int .i64 rank, .int .i64 src, .int .i64 mode, .int .i64 fl, .bool free, .slice none 0 0, .slice pA pn pc] 41))
          have O124 := Lib.hid ((O12.out.chg hC3 hxT).alloc (.cells #[.int .i64 q, .int .i64 tt, .int .i64 0, .int .i64 cap, .int .i64 rank, .int .i64 src, .int .i64 mode, .int .i64 fl, .bool free, .slice none 0 0, .slice pA pn pc] 41))
          have O13 := Lib.hid (Own.new w3 41 #[.int .i64 q, .int .i64 tt, .int .i64 0, .int .i64 cap, .int .i64 rank, .int .i64 src, .int .i64 mode, .int .i64 fl, .bool free, .slice none 0 0, .slice pA pn pc])
          have hgT : w3.heap.size ≠ T := by have := hT3.lt; omega
          clear hnr hT3 hC3 m0 m1 m2 m3 m4 m5 m6 m7 m8 m9 m10 m11 lA
          have hs0 : 0 ≤ s.turn := HIN.out.2.1.1
          have hs1 : s.turn ≤ 1000 := by have := HIN.out.2.1.2.1; have := HIN.out.2.1.2.2.1; omega
          go_wp2_with fail
          generalize hW4 : w3.alloc (.cells #[.int .i64 q, .int .i64 tt, .int .i64 0, .int .i64 cap, .int .i64 rank, .int .i64 src, .int .i64 mode, .int .i64 fl, .bool free, .slice none 0 0, .slice pA pn pc] 41) = W4 at HT4 HC4 HO4 O124 O13 ⊢
          clear hW4
          refine (turn_ok T s' W4 HT4.out.own).mono ?_
          rintro e w4 ⟨rfl, rfl⟩
          go_upto_if 84 with fail
          go_cut [9] (fun s9 wx => s9 = .int .i64 (if s.turn < s'.turn then 0 else calls) ∧ wx = W4)
          case first =>
            by_cases hlt : s.turn < s'.turn
            · go_wp2_with fail
              go_meet
              case rel => exact ⟨by rw [if_pos (by omega)], rfl⟩
            · go_wp2_with fail
              go_meet
              case rel => exact ⟨by rw [if_neg (by omega)], rfl⟩
          case rest =>
            obtain ⟨rfl, rfl⟩ := hcut
            obtain ⟨b0, b1, b2, _⟩ := HO4.out.c3
            have lt := HO4.out.lt
            have HBX := Lib.hid (HBB.out.trans (Below.of_chg HC4.out (Nat.le_of_lt hTw) HBB.out.size))
            have hiv := HIV.out
            generalize (if s.turn < s'.turn then (0 : Int) else calls) = calls2 at hiv ⊢
            have HIV2 := Lib.hid hiv
            have hc0 : 0 ≤ calls2 + 1 := hiv.2.2.2.2.2.1
            have hc1 : calls2 + 1 ≤ 6 := by
              have h := hiv.2.2.2.2.2.2.2.2
              have := once_le kn
              have := rows_le kn
              have := hiv.2.1.2.2.2.2
              split at h <;> omega
            obtain ⟨d0, d1, d2, d3, d4, d5, d6, d7, d8, d9, d10⟩ := (show Own _ _ _ #[_, _, _, _, _, _, _, _, _, _, _] from O13.out).c11.1
            have ld := O13.out.lt
            clear hiv g1 g2
            go_wp2_with fail
            refine (check_call _ HOK.out _ (HW.out.below HBX.out)).mono ?_
            rintro e w6 ⟨rfl, hb6⟩
            have HT6 := Lib.hid (HT4.out.below hb6)
            have HC6 := Lib.hid (HC4.out.below hb6)
            have HO6 := Lib.hid (HO4.out.call hb6)
            clear b0 b1 b2 lt hb6 d0 d1 d2 d3 d4 d5 d6 d7 d8 d9 d10 ld
            obtain ⟨b0, b1, b2, _⟩ := HO6.out.c3
            have lt := HO6.out.lt
            have HEND := Lib.hid hend
            clear hend
            by_cases h3 : 3 < calls2 + 1
            · obtain ⟨h4, h5⟩ := may_calls HIV2.out h3
              by_cases h6 : turns ≤ s'.turn
              · have h7 : turns ≤ 0 := by have := HEND.out; omega
                go_wp2_with fail
                go_roundg (4 * turns + 10 - (i + 1)).toNat
                case measure => have := HQ.out; omega
                case rel => exact ⟨l', s', i + 1, calls2 + 1, rfl, rfl, rfl, HIV2.out, rfl, HT6.out, HC6.out, HO6.out⟩
              · go_wp2_with fail
                go_roundg (4 * turns + 10 - (i + 1)).toNat
                case measure => have := HQ.out; omega
                case rel => exact ⟨l', s', i + 1, calls2 + 1, rfl, rfl, rfl, HIV2.out, rfl, HT6.out, HC6.out, HO6.out⟩
            · by_cases h6 : turns ≤ s'.turn
              · have h7 : turns ≤ 0 := by have := HEND.out; omega
                go_wp2_with fail
                go_roundg (4 * turns + 10 - (i + 1)).toNat
                case measure => have := HQ.out; omega
                case rel => exact ⟨l', s', i + 1, calls2 + 1, rfl, rfl, rfl, HIV2.out, rfl, HT6.out, HC6.out, HO6.out⟩
              · go_wp2_with fail
                go_roundg (4 * turns + 10 - (i + 1)).toNat
                case measure => have := HQ.out; omega
                case rel => exact ⟨l', s', i + 1, calls2 + 1, rfl, rfl, rfl, HIV2.out, rfl, HT6.out, HC6.out, HO6.out⟩

theorem tasksMay_walk (kind turns : Int) (A : Option Addr) (n c : Nat) (LA : Option Addr) (ln lc : Nat) (t m f re im kd : Nat → Int) (an : Nat → AS) (w : World) (hw : FieldsAt w)
    (hj : 0 < n → ∃ b off, A = some ⟨b, off, none⟩ ∧ JobAt w b off n t m f re im kd) (hl : 0 < ln → ∃ b off, LA = some ⟨b, off, none⟩ ∧ AnsAt w b off ln an) :
    Calls Tryd.prog 3 #[.agg #[.int .i64 kind, .int .i64 turns, .slice A n c], .slice LA ln lc] w (MayQ w) := by
  by_cases h : 70 < n ∨ 60 < turns ∨ 300 < ln
  · exact may_early1 kind turns A n c LA ln lc w h
  · exact may_loop kind turns A n c LA ln lc t m f re im kd an w (by omega) (by omega) (by omega) hw hj hl

end Go.Proofs.YtmhnodbmcciifaaDoor
