/- The walk of begin. Each theorem says under which conditions. -/
import Derived.Test.YtmhnodbmcciifaaDoorNew
import Derived.Test.YtmhnodbmcciifaaDoorRef
import Derived.Deep.RegionHeld3
import Derived.Deep.DeepCutAuto
namespace Go.Proofs.YtmhnodbmcciifaaDoor
open Go.RowKit Flt

section
variable {w W W' : World} {base g : Nat} {e e' t : TypeId} {size size' n n' : Nat} {v v' : Value} {xs ys : List Value} {cs : Array Value}

theorem own_ne (h : Own w g t cs) (h2 : w.ownsRow base e size v n xs) (hne : t ≠ e) : some g ≠ v.ownBlock := by
  rcases h2.2 with ⟨rfl, _⟩ | ⟨k, cap, cur, rfl, _, hk, _⟩
  · simp [Value.ownBlock]
  · intro heq
    simp only [Value.ownBlock, Option.some.injEq] at heq
    subst heq
    unfold Own at h
    rw [h] at hk
    simp only [Option.some.injEq, Obj.cells.injEq] at hk
    exact hne hk.2.1

theorem rows_ne (h : w.ownsRow base e size v n xs) (h2 : w.ownsRow base e' size' v' n' ys) (hne : e ≠ e') : v.ownBlock = none ∨ v.ownBlock ≠ v'.ownBlock := by
  rcases h.2 with ⟨rfl, _⟩ | ⟨k, cap, cur, rfl, _, hk, _⟩
  · exact .inl rfl
  · exact .inr (own_ne (w := w) (t := e) (cs := cur) hk h2 hne)
end

theorem ne2456 : (24 : TypeId) ≠ 56 := by decide
theorem ne6156 : (61 : TypeId) ≠ 56 := by decide
theorem ne5356 : (53 : TypeId) ≠ 56 := by decide

/-- The cells of a block of six. -/
theorem Own.c6 {w : World} {g : Nat} {t : TypeId} {a b c d e f : Value} (o : Own w g t #[a, b, c, d, e, f]) :
    w.cell? ⟨g, 0, none⟩ = some a ∧ w.cell? ⟨g, 1, none⟩ = some b ∧ w.cell? ⟨g, 2, none⟩ = some c ∧ w.cell? ⟨g, 3, none⟩ = some d ∧ w.cell? ⟨g, 4, none⟩ = some e ∧ w.cell? ⟨g, 5, none⟩ = some f := ⟨o.cell 0, o.cell 1, o.cell 2, o.cell 3, o.cell 4, o.cell 5⟩

theorem news1 (w : World) (cs : Array Value) (t : TypeId) : ∀ j u, cs.toList[j]? = some u → (w.alloc (.cells cs t)).cell? ((⟨w.heap.size, 0, none⟩ : Addr).add j) = some u := World.news_of_block (cs := cs) (t := t) (fr := (0, 0)) (heap_alloc_new w _)
theorem news2 (w : World) (o : Obj) (cs : Array Value) (t : TypeId) : ∀ j u, cs.toList[j]? = some u → ((w.alloc o).alloc (.cells cs t)).cell? ((⟨w.heap.size + 1, 0, none⟩ : Addr).add j) = some u := by
  have := news1 (w.alloc o) cs t
  simpa using this

section
variable (t m f re im kd : Nat → Int)
/-- The orders that begin has made so far, cell by cell. -/
def ordL (j : Nat) : List Value := (List.range j).flatMap fun i => [.int .i64 (t i), .int .i64 (m i), .int .i64 (f i), .complex .f64 (xOf (re i) (kd i)) (yOf (im i))]
def pOf (re kd : Int) : Int := if kd = 1 then 1048576 else re
def refL (j : Nat) : List Value := (List.range j).flatMap fun i => [.int .i64 (t i), .int .i64 (m i), .int .i64 (f i), .int .i64 (pOf (re i) (kd i)), .int .i64 (im i)]

theorem ordL_succ (j : Nat) : ordL t m f re im kd (j + 1) = ordL t m f re im kd j ++ [.int .i64 (t j), .int .i64 (m j), .int .i64 (f j), .complex .f64 (xOf (re j) (kd j)) (yOf (im j))] := by
  simp [ordL, List.range_succ]
theorem refL_succ (j : Nat) : refL t m f re im kd (j + 1) = refL t m f re im kd j ++ [.int .i64 (t j), .int .i64 (m j), .int .i64 (f j), .int .i64 (pOf (re j) (kd j)), .int .i64 (im j)] := by
  simp [refL, List.range_succ]
end

/-- What begin's loop keeps: the two rows, and the job's box. -/
def BegS (w : World) (jv : Array Value) (a : Nat) (xs : List Value) (b : Nat) (ys : List Value) (u v : Value) (W : World) : Prop :=
  W.ownsRow w.heap.size 56 4 u a xs ∧ W.ownsRow w.heap.size 61 5 v b ys ∧ Own W w.heap.size 24 jv ∧ Below w.heap.size w W

section
variable {w W W' : World} {jv : Array Value} {a a' b b' : Nat} {xs xs' ys ys' : List Value} {u u' v v' : Value}
theorem BegS.call (h : BegS w jv a xs b ys u v W) (hb : Below W.heap.size W W') : BegS w jv a xs b ys u v W' :=
  ⟨h.1.kept (grown_below hb none) (own_em _), h.2.1.kept (grown_below hb none) (own_em _), h.2.2.1.call hb, h.2.2.2.call h.2.2.2.size hb⟩
theorem BegS.alloc (h : BegS w jv a xs b ys u v W) (o : Obj) : BegS w jv a xs b ys u v (W.alloc o) := h.call ((Below.refl _ _).alloc (Nat.le_refl _) o)
theorem BegS.drew (h : BegS w jv a xs b ys u v W) : BegS w jv a xs b ys u v W.drew := h.call (Below.refl _ _).drew
theorem BegS.app6 (h : BegS w jv a xs b ys u v W) (hown : W'.ownsRow w.heap.size 56 4 u' a' xs') (hg : W.grownBy W' u.ownBlock) : BegS w jv a' xs' b ys u' v W' :=
  ⟨hown, h.2.1.kept hg (rows_ne h.2.1 h.1 (by decide)), h.2.2.1.grown hg (own_ne h.2.2.1 h.1 (by decide)), h.2.2.2.grown hg h.2.2.2.size fun k hk => (h.1.lt k hk).1⟩
theorem BegS.app7 (h : BegS w jv a xs b ys u v W) (hown : W'.ownsRow w.heap.size 61 5 v' b' ys') (hg : W.grownBy W' v.ownBlock) : BegS w jv a xs b' ys' u v' W' :=
  ⟨h.1.kept hg (rows_ne h.1 h.2.1 (by decide)), hown, h.2.2.1.grown hg (own_ne h.2.2.1 h.2.1 (by decide)), h.2.2.2.grown hg h.2.2.2.size fun k hk => (h.2.1.lt k hk).1⟩
end

theorem BegS.next {w W : World} {jv : Array Value} {t m f re im kd : Nat → Int} {j : Nat} {p : Int} {u v : Value}
    (h : BegS w jv (j + 1) (ordL t m f re im kd j ++ [.int .i64 (t j), .int .i64 (m j), .int .i64 (f j), .complex .f64 (xOf (re j) (kd j)) (yOf (im j))]) (j + 1) (refL t m f re im kd j ++ [.int .i64 (t j), .int .i64 (m j), .int .i64 (f j), .int .i64 p, .int .i64 (im j)]) u v W)
    (hp : p = pOf (re j) (kd j)) : BegS w jv (j + 1) (ordL t m f re im kd (j + 1)) (j + 1) (refL t m f re im kd (j + 1)) u v W := by
  rw [ordL_succ, refL_succ, ← hp]
  exact h

/-- What begin's loop keeps, by its slots. -/
def BegI (w : World) (jv : Array Value) (n : Nat) (t m f re im kd : Nat → Int) (q : Nat) (s6 s7 s8 : Value) (W : World) : Prop :=
  ∃ j : Nat, s8 = .int .i64 j ∧ j + q = n ∧ (∃ g c, s6 = .slice (some ⟨g, 0, none⟩) j c) ∧ (∃ g c, s7 = .slice (some ⟨g, 0, none⟩) j c) ∧ BegS w jv j (ordL t m f re im kd j) j (refL t m f re im kd j) s6 s7 W

theorem begS_start (w : World) (jv : Array Value) : BegS w jv 0 [] 0 [] (.slice (some ⟨w.heap.size + 1, 0, none⟩) 0 0) (.slice (some ⟨w.heap.size + 1 + 1, 0, none⟩) 0 0) (((w.alloc (.cells jv 24)).alloc (.cells #[] 56)).alloc (.cells #[] 61)) := by
  have h1 := (World.ownsRow_made (base := w.heap.size) (e := 56) (size := 4) (w.alloc (.cells jv 24)) #[] 0 (by simp) (Nat.zero_le _) rfl).alloc (.cells #[] 61)
  have h2 := World.ownsRow_made (base := w.heap.size) (e := 61) (size := 5) ((w.alloc (.cells jv 24)).alloc (.cells #[] 56)) #[] 0 (by simp; omega) (Nat.zero_le _) rfl
  exact ⟨by simpa using h1, by simpa using h2, ((Own.new w 24 jv).alloc _).alloc _, alloc3_below _ _ _ _⟩

theorem flat_len {α : Type} (g : Nat → List α) (k : Nat) (hk : ∀ i, (g i).length = k) (n : Nat) : ((List.range n).flatMap g).length = n * k := by
  induction n with
  | zero => simp
  | succ n ih => rw [List.range_succ, List.flatMap_append, List.length_append, ih]; simp [hk]; rw [Nat.add_mul]; omega

theorem flat_get {α : Type} (g : Nat → List α) (k : Nat) (hk : ∀ i, (g i).length = k) (n i r : Nat) (hi : i < n) (hr : r < k) : ((List.range n).flatMap g)[i * k + r]? = (g i)[r]? := by
  induction n with
  | zero => omega
  | succ n ih =>
    rw [List.range_succ, List.flatMap_append]
    by_cases h : i < n
    · rw [List.getElem?_append_left, ih h]
      rw [flat_len g k hk]
      have : (i + 1) * k ≤ n * k := Nat.mul_le_mul_right k h
      rw [Nat.add_mul] at this
      omega
    · obtain rfl : i = n := by omega
      rw [List.getElem?_append_right (by rw [flat_len g k hk]; omega), flat_len g k hk]
      simp

theorem rows_ord {W : World} {base g n c : Nat} {t m f re im kd : Nat → Int} (h : W.ownsRow base 56 4 (.slice (some ⟨g, 0, none⟩) n c) n (ordL t m f re im kd n)) : ∀ i, i < n → OrderAt W g i (t i) (m i) (f i) (xOf (re i) (kd i)) (yOf (im i)) := by
  intro i hi
  have hc : ∀ r u, r < 4 → [Value.int .i64 (t i), .int .i64 (m i), .int .i64 (f i), .complex .f64 (xOf (re i) (kd i)) (yOf (im i))][r]? = some u → W.cell? ⟨g, i * 4 + r, none⟩ = some u := by
    intro r u hr hu
    have := h.cells (g := g) rfl (i * 4 + r) u (by
      rw [← hu]
      exact flat_get (fun i => [Value.int .i64 (t i), .int .i64 (m i), .int .i64 (f i), .complex .f64 (xOf (re i) (kd i)) (yOf (im i))]) 4 (fun _ => rfl) n i r hi hr)
    rw [Addr.add_lit, Nat.zero_add] at this
    exact this
  exact ⟨hc 0 _ (by omega) rfl, hc 1 _ (by omega) rfl, hc 2 _ (by omega) rfl, hc 3 _ (by omega) rfl⟩

theorem rows_ref {W : World} {base g n c : Nat} {t m f re im kd : Nat → Int} (h : W.ownsRow base 61 5 (.slice (some ⟨g, 0, none⟩) n c) n (refL t m f re im kd n)) : ∀ i, i < n → RefAt W g i (t i) (m i) (f i) (pOf (re i) (kd i)) (im i) := by
  intro i hi
  have hc : ∀ r u, r < 5 → [Value.int .i64 (t i), .int .i64 (m i), .int .i64 (f i), .int .i64 (pOf (re i) (kd i)), .int .i64 (im i)][r]? = some u → W.cell? ⟨g, i * 5 + r, none⟩ = some u := by
    intro r u hr hu
    have := h.cells (g := g) rfl (i * 5 + r) u (by
      rw [← hu]
      exact flat_get (fun i => [Value.int .i64 (t i), .int .i64 (m i), .int .i64 (f i), .int .i64 (pOf (re i) (kd i)), .int .i64 (im i)]) 5 (fun _ => rfl) n i r hi hr)
    rw [Addr.add_lit, Nat.zero_add] at this
    exact this
  exact ⟨hc 0 _ (by omega) rfl, hc 1 _ (by omega) rfl, hc 2 _ (by omega) rfl, hc 3 _ (by omega) rfl, hc 4 _ (by omega) rfl⟩

theorem row_has {W : World} {base g n c : Nat} {e : TypeId} {size : Nat} {xs : List Value} (h : W.ownsRow base e size (.slice (some ⟨g, 0, none⟩) n c) n xs) : base ≤ g ∧ n ≤ c ∧ Has W g e (c * size) := by
  rcases h.2 with ⟨h0, _⟩ | ⟨k, cap, cur, hv, hb, hk, hn, _, hs, _⟩
  · cases h0
  · cases hv
    exact ⟨hb, hn, cur, hs, hk⟩

theorem Agree.below {B : Nat} {a w W : World} (h : Agree B a w) (hb : Below w.heap.size w W) : Agree B a W := ⟨fun k h1 h2 => (hb.block k (Nat.lt_of_lt_of_le h2 h.2)).trans (h.1 k h1 h2), Nat.le_trans h.2 hb.size⟩
theorem Chg.agree {g B : Nat} {a w : World} (h : Chg g a w) (hg : g < B) : Agree B a w := ⟨fun k h1 h2 => h.block k h2 (by omega), h.size⟩

theorem Chg.to_below {g B : Nat} {a w : World} (h : Chg g a w) (hg : B ≤ g) (hB : B ≤ a.heap.size) : Below B a w := ⟨h.os, h.tape, h.output, h.size, fun k hk => h.block k (by omega) (by omega)⟩

/-- What begin tells. -/
def BeginPost (kind turns : Int) (n : Nat) (w : World) (e : Ending) (w' : World) : Prop :=
  ∃ (r c2 : Value), (∃ c : Int, c ≠ 0 ∧ e = .returned (.tuple #[.pointer none, .int .i64 c, r, c2]) ∧ Below w.heap.size w w') ∨
  (∃ (T kn : Nat) (s : TS), e = .returned (.tuple #[.pointer (some ⟨T, 0, none⟩), .int .i64 0, r, c2]) ∧ kind = kn ∧ kn ≤ 3 ∧ 0 ≤ turns ∧ turns ≤ 1000 ∧ w.heap.size ≤ T ∧ TaskI w' T kn n (onceOf kn) s ∧ s.turns = turns ∧ s.turn = 0 ∧ s.nxt = 0 ∧ s.hear = .nilFunc ∧ Below w.heap.size w w')

/-- What New tells, by its two results. -/
def NewR (kind turns : Int) (n : Nat) (w w' : World) (tv : Value) (c : Int) : Prop :=
  (c ≠ 0 ∧ tv = .pointer none) ∨
  (c = 0 ∧ ∃ (T kn : Nat) (s : TS), tv = .pointer (some ⟨T, 0, none⟩) ∧ kind = kn ∧ kn ≤ 3 ∧ 0 ≤ turns ∧ turns ≤ 1000 ∧ w.heap.size ≤ T ∧ (∀ W, Agree w.heap.size w' W → TaskI W T kn n (onceOf kn) s) ∧ s.turns = turns ∧ s.turn = 0 ∧ s.nxt = 0 ∧ s.hear = .nilFunc)

theorem NewPost.both {kind turns : Int} {n : Nat} {w w' : World} {e : Ending} (h : NewPost kind turns n w e w') : ∃ (tv : Value) (c : Int), e = .returned (.tuple #[tv, .int .i64 c]) ∧ NewR kind turns n w w' tv c ∧ Below w.heap.size w w' := by
  rcases h with ⟨c, hc, _, rfl, hb⟩ | ⟨T, kn, s, rfl, h1, h2, h3, h4, h5, _, h6, h7, h8, h9, h10, hb⟩
  · exact ⟨_, c, rfl, .inl ⟨hc, rfl⟩, hb⟩
  · exact ⟨_, 0, rfl, .inr ⟨rfl, T, kn, s, rfl, h1, h2, h3, h4, h5, h6, h7, h8, h9, h10⟩, hb⟩

theorem NewR.end {kind turns : Int} {n : Nat} {w w1 w2 W : World} {tv r c2 : Value} {c : Int} (h : NewR kind turns n w1 w2 tv c) (hw : w.heap.size ≤ w1.heap.size) (ha : Agree w1.heap.size w2 W) (hb : Below w.heap.size w W) :
    BeginPost kind turns n w (.returned (.tuple #[tv, .int .i64 c, r, c2])) W := by
  rcases h with ⟨hc, rfl⟩ | ⟨rfl, T, kn, s, rfl, h1, h2, h3, h4, h5, h6, h7, h8, h9, h10⟩
  · exact ⟨r, c2, .inl ⟨c, hc, rfl, hb⟩⟩
  · exact ⟨r, c2, .inr ⟨T, kn, s, rfl, h1, h2, h3, h4, Nat.le_trans hw h5, h6 W ha, h7, h8, h9, h10, hb⟩⟩

/-- What begin's second loop keeps. -/
def WipeI (g N n : Nat) (a : World) (q : Nat) (v : Value) (W : World) : Prop := ∃ j : Nat, v = .int .i64 j ∧ j + q = n ∧ Chg g a W ∧ Has W g 56 N

/-- The job's box, behind what has been made since. -/
def BxS (a : World) (b : Nat) (kind turns : Int) (W : World) : Prop := W.cell? ⟨b, 0, none⟩ = some (.int .i64 kind) ∧ W.cell? ⟨b, 1, none⟩ = some (.int .i64 turns) ∧ b < a.heap.size ∧ Below a.heap.size a W
theorem BxS.call {a : World} {b : Nat} {kind turns : Int} {W W' : World} (h : BxS a b kind turns W) (hb : Below W.heap.size W W') : BxS a b kind turns W' := by
  have hs := h.2.2.2.size
  have hl := h.2.2.1
  exact ⟨((bcell hb).1 b 0 (by omega)).trans h.1, ((bcell hb).1 b 1 (by omega)).trans h.2.1, hl, h.2.2.2.call hs hb⟩

/-- The orders of a job, as they came in. -/
def JobAt (w : World) (b off n : Nat) (t m f re im kd : Nat → Int) : Prop :=
  b < w.heap.size ∧ ∀ i, i < n → w.cell? ⟨b, off + i * 6, none⟩ = some (.int .i64 (t i)) ∧ w.cell? ⟨b, off + i * 6 + 1, none⟩ = some (.int .i64 (m i)) ∧ w.cell? ⟨b, off + i * 6 + 2, none⟩ = some (.int .i64 (f i)) ∧
    w.cell? ⟨b, off + i * 6 + 3, none⟩ = some (.int .i64 (re i)) ∧ w.cell? ⟨b, off + i * 6 + 4, none⟩ = some (.int .i64 (im i)) ∧ w.cell? ⟨b, off + i * 6 + 5, none⟩ = some (.int .i64 (kd i))

set_option maxRecDepth 100000 in
set_option maxHeartbeats 3200000 in
theorem begin_any (kind turns : Int) (A : Option Addr) (n c : Nat) (t m f re im kd : Nat → Int) (w : World) (hn : n ≤ 70)
    (hj : 0 < n → ∃ b off, A = some ⟨b, off, none⟩ ∧ JobAt w b off n t m f re im kd) :
    Calls Tryd.prog 6 #[.agg #[.int .i64 kind, .int .i64 turns, .slice A n c]] w (BeginPost kind turns n w) := by
  obtain ⟨i0, hi0, hz0, hz1, hz2⟩ := info_parts info56
  obtain ⟨k0, hk0, hy0, hy1, hy2⟩ := info_parts info61
  have HJ := Lib.hid hj
  clear hj
  go_enter Tryd.func6, Tryd.ntmps6
  go_wp2_with fail
  go_loopg [6, 7, 8] n (fun q s6 s7 s8 wx => BegI w #[.int .i64 kind, .int .i64 turns, .slice A n c] n t m f re im kd q s6 s7 s8 wx)
  case atStart =>
    exact ⟨0, rfl, by omega, ⟨_, _, rfl⟩, ⟨_, _, rfl⟩, begS_start w _⟩
  case round =>
    obtain ⟨j, rfl, hjq, ⟨g6, c6, rfl⟩, ⟨g7, c7, rfl⟩, hS⟩ := hrel
    have HS := Lib.hid hS
    have b2 := hS.2.2.1.cell 2
    have b0 := hS.2.2.1.cell 0
    have b1 := hS.2.2.1.cell 1
    simp at b0 b1 b2
    clear hS
    by_cases hjn : j = n
    · subst hjn
      have CN := Lib.hid (new_any kind turns (some ⟨g6, 0, none⟩) j c6 t m f (fun i => xOf (re i) (kd i)) (fun i => yOf (im i)) wr hn (by intro h; cases h) (fun a ha => ⟨g6, (Option.some.inj ha).symm, rows_ord HS.out.1⟩) (fun i _ => xOf_num _ _) (fun i _ => yOf_num _))
      go_wp2_with fail
      refine CN.out.mono ?_
      rintro e wN hNew
      obtain ⟨tv, ec, rfl, hNR, hbN⟩ := hNew.both
      have HNR := Lib.hid hNR
      have HSN := Lib.hid (HS.out.call hbN)
      have HR := Lib.hid (And.intro (row_has HSN.out.1) (And.intro (own_ne HSN.out.2.2.1 HSN.out.1 ne2456) (rows_ne HSN.out.2.1 HSN.out.1 ne6156)))
      have hg6 : g6 < wr.heap.size := (HS.out.1.lt g6 rfl).2
      have hgw : w.heap.size ≤ wr.heap.size := HS.out.2.2.2.size
      have hcap := HR.out.1.2.1
      clear hNew hNR hbN b0 b1 b2 CN
      obtain ⟨wa, hwa⟩ : ∃ wa : World, wa = wr := ⟨_, rfl⟩
      subst hwa
      have HWA := Lib.hid (And.intro hg6 hgw)
      go_wp2_with fail
      go_loopg [13] j (fun q s13 wx => WipeI g6 (c6 * 4) j wN q s13 wx)
      case atStart => exact ⟨0, rfl, by omega, Chg.refl _ _, HR.out.1.2.2⟩
      case round =>
        obtain ⟨i, rfl, hiq, hC, hH⟩ := hrel
        have HC := Lib.hid hC
        have HH := Lib.hid hH
        have lg := hH.lt
        clear hC hH
        by_cases hij : i = j
        · subst hij
          have lbx := HSN.out.2.2.1.lt
          have hbx : w.heap.size ≠ g6 := fun e => HR.out.2.1 (congrArg some e)
          have hg7 : g7 ≠ g6 := by
            rcases HR.out.2.2 with h | h
            · cases h
            · exact fun e => h (congrArg some e)
          have HX := Lib.hid (show BxS wr w.heap.size kind turns wr from ⟨(HSN.out.2.2.1.chg HC.out hbx).cell 0, (HSN.out.2.2.1.chg HC.out hbx).cell 1, Nat.lt_of_lt_of_le lbx HC.out.size, Below.refl _ _⟩)
          have HRF := Lib.hid (show ∀ k, k < i → RefAt wr g7 k (t k) (m k) (f k) (pOf (re k) (kd k)) (im k) from fun k hk => by
            have hr := rows_ref HSN.out.2.1 k hk
            have hl : g7 < wN.heap.size := World.block_lt_of_cell? wN _ hr.1
            obtain ⟨h1, h2, h3, h4, h5⟩ := hr
            exact ⟨(HC.out.cell _ hl hg7).trans h1, (HC.out.cell _ hl hg7).trans h2, (HC.out.cell _ hl hg7).trans h3, (HC.out.cell _ hl hg7).trans h4, (HC.out.cell _ hl hg7).trans h5⟩)
          have H13 := Lib.hid (fun (W : World) (h : BxS wr w.heap.size kind turns W) => begin_ref kind turns g7 i c7 t m f (fun k => pOf (re k) (kd k)) im W hn (fun k hk => (HRF.out k hk).carry h.2.2.2))
          have H14 := Lib.hid (fun (W : World) (h : BxS wr w.heap.size kind turns W) => may_ref kind turns (some ⟨g7, 0, none⟩) i c7 t m f (fun k => pOf (re k) (kd k)) im W hn (by intro h; cases h) (fun a ha => ⟨g7, (Option.some.inj ha).symm, fun k hk => (HRF.out k hk).carry h.2.2.2⟩))
          go_wp2_with fail
          go_region_held3 (fun W => W.cell? ⟨w.heap.size, 0, none⟩ = some (.int .i64 kind) ∧ W.cell? ⟨w.heap.size, 1, none⟩ = some (.int .i64 turns) ∧ w.heap.size < wr.heap.size ∧ Below wr.heap.size wr W)
            (first | assumption | exact BxS.call HX.out (Below.refl _ _).drew | exact BxS.call (by assumption) hbC)
            (first | (go_at_call 13; refine (H13.out _ (by assumption)).mono ?_; rintro e w' ⟨r1, rfl, hbC⟩) | (go_at_call 14; refine (H14.out _ (by assumption)).mono ?_; rintro e w' ⟨r2, rfl, hbC⟩))
          all_goals
            rename_i hH
            have HBX := Lib.hid hH.2.2.2
            clear hH hbC
            go_wp2_with fail
            exact bodyPost_ret (v := .tuple #[tv, .int .i64 ec, r1, .int .i64 r2]) (by simp [results, Tryd.results6, go_sem]) rfl (HNR.out.end HWA.out.2 ((HC.out.agree HWA.out.1).below HBX.out)
              ((HSN.out.2.2.2.trans (HC.out.to_below HR.out.1.1 HSN.out.2.2.2.size)).call (Nat.le_trans HSN.out.2.2.2.size HC.out.size) HBX.out))
        · have hlt : i < j := by omega
          have i0 : (0 : Int) ≤ (i : Int) := by omega
          have i1 : (i : Int) < (j : Int) := by omega
          have q0 := HH.out.cell (i := i * 4) (by omega)
          have q1 := HH.out.cell (i := i * 4 + 1) (by omega)
          have q2 := HH.out.free (i * 4)
          have q3 := HH.out.free (i * 4 + 1)
          go_wp2_with fail
          go_roundg (gk - 1)
          case measure => omega
          case rel => exact ⟨i + 1, by simp, by omega, (HC.out.setCell (p := ⟨g6, i * 4 + 1, none⟩) (.inl rfl) _).setCell (p := ⟨g6, i * 4, none⟩) (.inl rfl) _, (HH.out.put _ _).put _ _⟩
    · have hlt : j < n := by omega
      have j0 : (0 : Int) ≤ (j : Int) := by omega
      have j1 : (j : Int) < (n : Int) := by omega
      obtain ⟨b, off, hA, hlb, hat⟩ := HJ.out (by omega)
      subst hA
      obtain ⟨q0, q1, q2, q3, q4, q5⟩ := hat j hlt
      rw [← (bcell HS.out.2.2.2).1 b _ hlb] at q0 q1 q2 q3 q4 q5
      have HAT := Lib.hid hat
      clear hat
      by_cases hkd : kd j = 1
      · have HKP := Lib.hid (show (1048576 : Int) = pOf (re j) (kd j) from (if_pos hkd).symm)
        have hkb : (kd j == 1) = true := by rw [hkd]; rfl
        clear hkd
        go_wp2_with fail
        refine (order_law _ _ _ _ _ _ _).mono ?_
        rintro e w2 ⟨rfl, hb2⟩
        have HS2 := Lib.hid ((HS.out.alloc (.cells #[.int .i64 (t j), .int .i64 (m j), .int .i64 (f j), .int .i64 (re j), .int .i64 (im j), .int .i64 (kd j)] 53)).call hb2)
        have O2 := Lib.hid ((Own.new wr 53 #[.int .i64 (t j), .int .i64 (m j), .int .i64 (f j), .int .i64 (re j), .int .i64 (im j), .int .i64 (kd j)]).call hb2)
        clear hb2 q0 q1 q2 q3 q4 q5 b2
        go_upto_region 8 with (first | (at_builtin; go_must (refine wpList_append_own _ rfl (.tmp 28) (.tmp 31) 50 rfl w.heap.size 56 i0 _ 4 40 Tryd.underlying50 hi0 hz0 hz1 hz2 rfl (by decide) _ j (ordL t m f re im kd j) rfl (HS2.out.1.alloc _) ⟨w2.heap.size, 0, none⟩ 1 1 [.int .i64 (t j), .int .i64 (m j), .int .i64 (f j), .complex .f64 (xOf (re j) (kd j)) (yOf (im j))] rfl rfl (news1 w2 #[.int .i64 (t j), .int .i64 (m j), .int .i64 (f j), .complex .f64 (xOf (re j) (kd j)) (yOf (im j))] 56) (by simp [Value.oneCell']) (by simp only [maxLen]; omega) (by omega) (by simp; have := HS2.out.2.2.2.size; omega) ?_); intro v6 w3 hown3 hgrow3 hnil3))
        obtain ⟨g3, c3, rfl⟩ := own_slice hown3 (fun e => Nat.one_ne_zero (hnil3.1 e).2)
        have HS3 := Lib.hid (BegS.app6 (HS2.out.alloc _) hown3 hgrow3)
        have O3 := Lib.hid ((O2.out.alloc _).grown hgrow3 (own_ne O2.out HS2.out.1 ne5356))
        obtain ⟨e0, e1, e2, e3, e4, e5⟩ := O3.out.c6
        have lt3 := O3.out.lt
        clear hown3 hgrow3 hnil3
        go_wp2_with (first | (at_builtin; go_must (refine wpList_append_own _ rfl (.tmp 42) (.tmp 51) 51 rfl w.heap.size 61 k0 _ 5 40 Tryd.underlying51 hk0 hy0 hy1 hy2 rfl (by decide) _ j (refL t m f re im kd j) rfl ((HS3.out.2.1.alloc _).alloc _) ⟨w3.heap.size + 1, 0, none⟩ 1 1 [.int .i64 (t j), .int .i64 (m j), .int .i64 (f j), .int .i64 1048576, .int .i64 (im j)] rfl rfl (news2 w3 _ #[.int .i64 (t j), .int .i64 (m j), .int .i64 (f j), .int .i64 1048576, .int .i64 (im j)] 61) (by simp [Value.oneCell']) (by simp only [maxLen]; omega) (by omega) (by simp; have := HS3.out.2.2.2.size; omega) ?_); intro v7 w4 hown4 hgrow4 hnil4; go_must ((obtain ⟨g4, c4, rfl⟩ := own_slice hown4 (fun e => Nat.one_ne_zero (hnil4.1 e).2); have HS4 := Lib.hid (BegS.app7 ((HS3.out.alloc _).alloc _) hown4 hgrow4); clear hown4 hgrow4 hnil4))))
        go_roundg (gk - 1)
        case measure => omega
        case rel => exact ⟨j + 1, by simp, by omega, ⟨_, _, rfl⟩, ⟨_, _, rfl⟩, BegS.next HS4.out HKP.out⟩
      · have HKP := Lib.hid (show re j = pOf (re j) (kd j) from (if_neg hkd).symm)
        have hkb : (kd j == 1) = false := by simpa using hkd
        clear hkd
        go_wp2_with fail
        refine (order_law _ _ _ _ _ _ _).mono ?_
        rintro e w2 ⟨rfl, hb2⟩
        have HS2 := Lib.hid ((HS.out.alloc (.cells #[.int .i64 (t j), .int .i64 (m j), .int .i64 (f j), .int .i64 (re j), .int .i64 (im j), .int .i64 (kd j)] 53)).call hb2)
        have O2 := Lib.hid ((Own.new wr 53 #[.int .i64 (t j), .int .i64 (m j), .int .i64 (f j), .int .i64 (re j), .int .i64 (im j), .int .i64 (kd j)]).call hb2)
        clear hb2 q0 q1 q2 q3 q4 q5 b2
        go_upto_region 8 with (first | (at_builtin; go_must (refine wpList_append_own _ rfl (.tmp 28) (.tmp 31) 50 rfl w.heap.size 56 i0 _ 4 40 Tryd.underlying50 hi0 hz0 hz1 hz2 rfl (by decide) _ j (ordL t m f re im kd j) rfl (HS2.out.1.alloc _) ⟨w2.heap.size, 0, none⟩ 1 1 [.int .i64 (t j), .int .i64 (m j), .int .i64 (f j), .complex .f64 (xOf (re j) (kd j)) (yOf (im j))] rfl rfl (news1 w2 #[.int .i64 (t j), .int .i64 (m j), .int .i64 (f j), .complex .f64 (xOf (re j) (kd j)) (yOf (im j))] 56) (by simp [Value.oneCell']) (by simp only [maxLen]; omega) (by omega) (by simp; have := HS2.out.2.2.2.size; omega) ?_); intro v6 w3 hown3 hgrow3 hnil3))
        obtain ⟨g3, c3, rfl⟩ := own_slice hown3 (fun e => Nat.one_ne_zero (hnil3.1 e).2)
        have HS3 := Lib.hid (BegS.app6 (HS2.out.alloc _) hown3 hgrow3)
        have O3 := Lib.hid ((O2.out.alloc _).grown hgrow3 (own_ne O2.out HS2.out.1 ne5356))
        obtain ⟨e0, e1, e2, e3, e4, e5⟩ := O3.out.c6
        have lt3 := O3.out.lt
        clear hown3 hgrow3 hnil3
        go_wp2_with (first | (at_builtin; go_must (refine wpList_append_own _ rfl (.tmp 42) (.tmp 51) 51 rfl w.heap.size 61 k0 _ 5 40 Tryd.underlying51 hk0 hy0 hy1 hy2 rfl (by decide) _ j (refL t m f re im kd j) rfl ((HS3.out.2.1.alloc _).alloc _) ⟨w3.heap.size + 1, 0, none⟩ 1 1 [.int .i64 (t j), .int .i64 (m j), .int .i64 (f j), .int .i64 (re j), .int .i64 (im j)] rfl rfl (news2 w3 _ #[.int .i64 (t j), .int .i64 (m j), .int .i64 (f j), .int .i64 (re j), .int .i64 (im j)] 61) (by simp [Value.oneCell']) (by simp only [maxLen]; omega) (by omega) (by simp; have := HS3.out.2.2.2.size; omega) ?_); intro v7 w4 hown4 hgrow4 hnil4; go_must ((obtain ⟨g4, c4, rfl⟩ := own_slice hown4 (fun e => Nat.one_ne_zero (hnil4.1 e).2); have HS4 := Lib.hid (BegS.app7 ((HS3.out.alloc _).alloc _) hown4 hgrow4); clear hown4 hgrow4 hnil4))))
        go_roundg (gk - 1)
        case measure => omega
        case rel => exact ⟨j + 1, by simp, by omega, ⟨_, _, rfl⟩, ⟨_, _, rfl⟩, BegS.next HS4.out HKP.out⟩

end Go.Proofs.YtmhnodbmcciifaaDoor
