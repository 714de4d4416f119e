/- The walk of tasks.New, and of slices.Clone. Each theorem says under which conditions. -/
import Derived.Test.YtmhnodbmcciifaaDoorOrder
import Derived.LoopTactic
import Derived.BigQuiet
import Derived.IntWalk
import Derived.WalkSpells
namespace Go.Proofs.YtmhnodbmcciifaaDoor
open Go.RowKit Flt

theorem info56 : (Tryd.prog.info? 56).map (fun i => (i.zero, i.size, i.bytes)) = some (some (.agg #[.int .i64 0, .int .i64 0, .int .i64 0, .complex .f64 0 0]), 4, 40) := by kernel_rfl

set_option maxRecDepth 20000 in
theorem clone_none (w : World) : Calls Tryd.prog 21 #[.slice none 0 0] w fun e w' => e = .returned (.slice none 0 0) ∧ w = w' := by
  have he := fun (w : World) (A : Option Addr) (n c : Nat) => Lib.run_eql_slice_nil (P := Tryd.prog) w 50 56 A n c 0 0 Tryd.underlying50
  go_enter Tryd.func21, Tryd.ntmps21
  go_wp2_with fail
  go_ret
  exact ⟨rfl, rfl⟩

/-- The clone of a row. -/
def Cloned (w : World) (n : Nat) (xs : List Value) (e : Ending) (w' : World) : Prop := ∃ v, e = .returned v ∧ w'.ownsRow w.heap.size 56 4 v n xs ∧ Below w.heap.size w w'

set_option maxRecDepth 20000 in
theorem clone_some (b n c : Nat) (xs : List Value) (w : World) (hn : n ≤ 64) (hl : xs.length = n * 4) (hx : ∀ j u, xs[j]? = some u → w.cell? ⟨b, j, none⟩ = some u) (h1 : ∀ u ∈ xs, u.oneCell' = true) :
    Calls Tryd.prog 21 #[.slice (some ⟨b, 0, none⟩) n c] w (Cloned w n xs) := by
  have HX := Lib.hid hx
  have HL := Lib.hid hl
  have H1 := Lib.hid h1
  clear hx hl h1
  have he := fun (w : World) (A : Option Addr) (n c : Nat) => Lib.run_eql_slice_nil (P := Tryd.prog) w 50 56 A n c 0 0 Tryd.underlying50
  go_enter Tryd.func21, Tryd.ntmps21
  obtain ⟨i0, hi0, hz0, hz1, hz2⟩ := info_parts info56
  have HN := Lib.hid (show ∀ j u, xs[j]? = some u → (w.alloc (.cells #[] 56)).cell? ((⟨b, 0, none⟩ : Addr).add j) = some u from fun j u hu => by
    have := HX.out j u hu
    have hlt := World.block_lt_of_cell? w _ this
    rw [Addr.add_lit, Nat.zero_add]
    exact (((bcell ((Below.refl w.heap.size w).alloc (Nat.le_refl _) (.cells #[] 56))).1 b j hlt).trans this))
  go_wp2_with (at_builtin; refine wpList_append_own _ rfl _ _ 50 rfl w.heap.size 56 i0 _ 4 40 Tryd.underlying50 hi0 hz0 hz1 hz2 rfl (by decide) _ 0 [] rfl (World.ownsRow_made w #[] 0 (Nat.le_refl _) (Nat.zero_le _) rfl) ⟨b, 0, none⟩ n c xs rfl HL.out HN.out H1.out (by simp only [maxLen]; omega) (by omega) (by simp) ?_; intro v' w1 hown hgrow _)
  go_ret
  exact ⟨v', rfl, by simpa using hown, (((Below.refl w.heap.size w).alloc (Nat.le_refl _) (.cells #[] 56)).grown hgrow (by simp) (by intro k hk; exact Nat.le_of_eq (Option.some.inj hk)))⟩

/-- The cells of a row of orders, as they lie. -/
def ordC (w : World) (b n : Nat) : List Value := (List.range (n * 4)).map fun j => val w ⟨b, j, none⟩

theorem four_of (j : Nat) : ∃ i r, j = i * 4 + r ∧ (r = 0 ∨ r = 1 ∨ r = 2 ∨ r = 3) := ⟨j / 4, j % 4, by omega, by omega⟩

theorem val_of {w : World} {p : Addr} {v : Value} (h : w.cell? p = some v) : val w p = v := by unfold val; rw [h]; rfl

/-- The orders' rows, copied. -/
def ClonedO (w : World) (n : Nat) (t m f : Nat → Int) (x y : Nat → Nat) (e : Ending) (w' : World) : Prop :=
  ∃ (A : Option Addr) (c : Nat), e = .returned (.slice A n c) ∧ (0 < n → ∃ g, A = some ⟨g, 0, none⟩ ∧ w.heap.size ≤ g ∧ g < w'.heap.size ∧ ∀ i, i < n → OrderAt w' g i (t i) (m i) (f i) (x i) (y i)) ∧ Below w.heap.size w w'

theorem cloneO (A : Option Addr) (n c : Nat) (t m f : Nat → Int) (x y : Nat → Nat) (w : World) (hn : n ≤ 64) (h0 : A = none → n = 0 ∧ c = 0) (h1 : ∀ a, A = some a → ∃ b, a = ⟨b, 0, none⟩ ∧ ∀ i, i < n → OrderAt w b i (t i) (m i) (f i) (x i) (y i)) :
    Calls Tryd.prog 21 #[.slice A n c] w (ClonedO w n t m f x y) := by
  cases A with
  | none =>
    obtain ⟨rfl, rfl⟩ := h0 rfl
    refine (clone_none w).mono ?_
    rintro e w' ⟨rfl, rfl⟩
    exact ⟨none, 0, rfl, fun h => absurd h (by omega), Below.refl _ _⟩
  | some a =>
    obtain ⟨b, rfl, hat⟩ := h1 a rfl
    have hcell : ∀ j, j < n * 4 → ∃ v, w.cell? ⟨b, j, none⟩ = some v ∧ v.oneCell' = true := by
      intro j hj
      obtain ⟨i, r, rfl, hr⟩ := four_of j
      obtain ⟨a0, a1, a2, a3⟩ := hat i (by omega)
      rcases hr with rfl | rfl | rfl | rfl
      · exact ⟨_, a0, rfl⟩
      · exact ⟨_, a1, rfl⟩
      · exact ⟨_, a2, rfl⟩
      · exact ⟨_, a3, rfl⟩
    refine (clone_some b n c (ordC w b n) w hn (by simp [ordC]) ?_ ?_).mono ?_
    · intro j u hj
      have hjn : j < n * 4 := by
        have := (List.getElem?_eq_some_iff.1 hj).1
        simpa [ordC] using this
      simp [ordC, hjn] at hj
      obtain ⟨v, hv, _⟩ := hcell j hjn
      rw [← hj, val_of hv]; exact hv
    · intro u hu
      simp only [ordC, List.mem_map, List.mem_range] at hu
      obtain ⟨j, hj, rfl⟩ := hu
      obtain ⟨v, hv, h1⟩ := hcell j hj
      rw [val_of hv]; exact h1
    · rintro e w' ⟨v, rfl, hown, hb⟩
      obtain ⟨hl, hv⟩ := id hown
      rcases hv with ⟨rfl, rfl⟩ | ⟨g, cap, cur, rfl, hg, hgg, hnc, hcm, hsz, htk⟩
      · exact ⟨none, 0, rfl, fun h => absurd h (by omega), hb⟩
      · refine ⟨some ⟨g, 0, none⟩, cap, rfl, fun _ => ⟨g, rfl, hg, (hown.lt g rfl).2, fun i hi => ?_⟩, hb⟩
        have hc : ∀ j, j < n * 4 → ∀ u, w.cell? ⟨b, j, none⟩ = some u → w'.cell? ⟨g, j, none⟩ = some u := by
          intro j hj u hu
          have := hown.cells (g := g) rfl j u (by simp only [ordC, List.getElem?_map, List.getElem?_range hj, Option.map_some]; rw [val_of hu])
          rw [Addr.add_lit, Nat.zero_add] at this
          exact this
        obtain ⟨a0, a1, a2, a3⟩ := hat i hi
        exact ⟨hc _ (by omega) _ a0, hc _ (by omega) _ a1, hc _ (by omega) _ a2, hc _ (by omega) _ a3⟩

/-- From block 'B' on, what was there is as it was. -/
def Agree (B : Nat) (w W : World) : Prop := (∀ k, B ≤ k → k < w.heap.size → W.heap[k]? = w.heap[k]?) ∧ w.heap.size ≤ W.heap.size

theorem Agree.refl (B : Nat) (w : World) : Agree B w w := ⟨fun _ _ _ => rfl, Nat.le_refl _⟩
theorem Own.agree {w W : World} {B g : Nat} {t : TypeId} {cs : Array Value} (h : Own w g t cs) (hW : Agree B w W) (hB : B ≤ g) : Own W g t cs := (hW.1 g hB h.lt).trans h
theorem OrderAt.agree {w W : World} {B b i : Nat} {t m f : Int} {x y : Nat} (h : OrderAt w b i t m f x y) (hW : Agree B w W) (hB : B ≤ b) : OrderAt W b i t m f x y := by
  have lb : b < w.heap.size := World.block_lt_of_cell? w _ h.1
  have hc : ∀ o, W.cell? ⟨b, o, none⟩ = w.cell? ⟨b, o, none⟩ := fun o => World.cell?_of_block (w := w) (hW.1 b hB lb)
  obtain ⟨h1, h2, h3, h4⟩ := h
  exact ⟨(hc _).trans h1, (hc _).trans h2, (hc _).trans h3, (hc _).trans h4⟩

/-- What New tells: a task that has called nothing, or an error. -/
def NewPost (kind turns : Int) (n : Nat) (w : World) (e : Ending) (w' : World) : Prop :=
  (∃ c : Int, c ≠ 0 ∧ (kind < 0 ∨ 3 < kind ∨ turns < 0 ∨ 1000 < turns ∨ 0 < n) ∧ e = .returned (.tuple #[.pointer none, .int .i64 c]) ∧ Below w.heap.size w w') ∨
  (∃ (T kn : Nat) (s : TS), e = .returned (.tuple #[.pointer (some ⟨T, 0, none⟩), .int .i64 0]) ∧ kind = kn ∧ kn ≤ 3 ∧ 0 ≤ turns ∧ turns ≤ 1000 ∧ w.heap.size ≤ T ∧ T < w'.heap.size ∧ (∀ W, Agree w.heap.size w' W → TaskI W T kn n (onceOf kn) s) ∧ s.turns = turns ∧ s.turn = 0 ∧ s.nxt = 0 ∧ s.hear = .nilFunc ∧ Below w.heap.size w w')

theorem NewPost.no {kind turns : Int} {n : Nat} {w w' : World} (c : Int) (hc : c ≠ 0) (hbad : kind < 0 ∨ 3 < kind ∨ turns < 0 ∨ 1000 < turns ∨ 0 < n) (hb : Below w.heap.size w w') : NewPost kind turns n w (.returned (.tuple #[.pointer none, .int .i64 c])) w' := .inl ⟨c, hc, hbad, rfl, hb⟩

theorem new_early (kind turns : Int) (A : Option Addr) (n c : Nat) (w : World) (h : kind < 0 ∨ 3 < kind ∨ turns < 0 ∨ 1000 < turns ∨ 64 < n) (hn : n ≤ 70) : Calls Tryd.prog 11 #[.int .i64 kind, .int .i64 turns, .slice A n c] w (NewPost kind turns n w) := by
  by_cases h1 : kind < 0
  · clear h
    go_enter Tryd.func11, Tryd.ntmps11
    go_wp2_with fail
    go_ret2
    exact .no 1 (by decide) (by omega) (Below.refl _ _)
  by_cases h2 : 3 < kind
  · clear h
    go_enter Tryd.func11, Tryd.ntmps11
    go_wp2_with fail
    go_ret2
    exact .no 1 (by decide) (by omega) (Below.refl _ _)
  by_cases h3 : turns < 0
  · clear h
    go_enter Tryd.func11, Tryd.ntmps11
    go_wp2_with fail
    go_ret2
    exact .no 10 (by decide) (by omega) (Below.refl _ _)
  by_cases h4 : 1000 < turns
  · clear h
    go_enter Tryd.func11, Tryd.ntmps11
    go_wp2_with fail
    go_ret2
    exact .no 10 (by decide) (by omega) (Below.refl _ _)
  have h5 : 64 < n := by omega
  clear h
  go_enter Tryd.func11, Tryd.ntmps11
  go_wp2_with fail
  go_ret2
  exact .no 12 (by decide) (by omega) (Below.refl _ _)


theorem OrderAt.carry {w w' : World} {b i : Nat} {t m f : Int} {x y : Nat} (h : OrderAt w b i t m f x y) (hb : Below w.heap.size w w') : OrderAt w' b i t m f x y := by
  have lb : b < w.heap.size := World.block_lt_of_cell? w _ h.1
  obtain ⟨h1, h2, h3, h4⟩ := h
  exact ⟨((bcell hb).1 b _ lb).trans h1, ((bcell hb).1 b _ lb).trans h2, ((bcell hb).1 b _ lb).trans h3, ((bcell hb).1 b _ lb).trans h4⟩

/-- A task that has called nothing. -/
def startT (os tb once : Value) (turns : Int) : TS := { os := os, turns := turns, turn := 0, tb := tb, nxt := 0, once := once, hear := .nilFunc, ax := 0, ay := 0, gx := 0, gy := 0, nx := 4607182418800017408, ny := 0, zx := 0, zy := 0, mode := 0, src := 0, hold := false, fl := 0, ep := 0 }

theorem zero_mayB : mayB 0 0 = true := is_mayB zero_is zero_is (by decide) (by decide) (by decide) (by decide)

theorem start_task {W : World} {T kn n : Nat} {os tb once : Value} {turns : Int} (hT : Own W T 70 (startT os tb once turns).row) (ho : Orders W T os n) (ht : TableOK W T kn tb) (hon : OnceOK W T (onceOf kn) once) : TaskI W T kn n (onceOf kn) (startT os tb once turns) :=
  ⟨hT, ho, ht, hon, .inl rfl, ⟨zero_mayB, zero_mayB, ⟨1, 0, one_is, zero_is, .inl ⟨rfl, rfl⟩⟩⟩, zero_mayB⟩

theorem orders_of {w w2 W : World} {T n c : Nat} {A : Option Addr} {t m f : Nat → Int} {x y : Nat → Nat} (hn : n ≤ 64) (h : 0 < n → ∃ g, A = some ⟨g, 0, none⟩ ∧ w.heap.size ≤ g ∧ g < w2.heap.size ∧ ∀ i, i < n → OrderAt w2 g i (t i) (m i) (f i) (x i) (y i))
    (hg : ∀ i, i < n → OrderGood (m i) (f i) (x i) (y i)) (hb : Below w2.heap.size w2 W) (hT : w2.heap.size ≤ T) {B : Nat} {V : World} (hV : Agree B W V) (hB : B ≤ w.heap.size) : Orders V T (.slice A n c) n :=
  ⟨A, c, rfl, hn, fun h0 => by
    obtain ⟨g, hA, hg0, hlt, hat⟩ := h h0
    exact ⟨g, t, m, f, x, y, hA, by omega, Nat.lt_of_lt_of_le (Nat.lt_of_lt_of_le hlt hb.size) hV.2, fun i hi => ((hat i hi).carry hb).agree hV (by omega), hg⟩⟩

theorem once_one {W : World} {T b : Nat} {t : TypeId} {c : Array Value} (hO : Own W b t c) (hb : b ≠ T) : OnceOK W T [c] (.slice (some ⟨b, 0, none⟩) 1 1) :=
  ⟨_, _, rfl, Nat.le_refl _, fun _ => ⟨b, 0, rfl, hb, hO.lt, fun i hi j hj => by
    obtain rfl : i = 0 := by simp at hi; exact hi
    rw [hO.cell]
    simp⟩⟩

def three33 : Array Value := #[.int .i64 0, .int .i64 2, .int .i64 0, .int .i64 0, .int .i64 0, .int .i64 0, .int .i64 0, .int .i64 0, .bool false, .slice none 0 0, .slice none 0 0, .int .i64 4, .int .i64 0, .int .i64 0, .int .i64 1, .int .i64 0, .int .i64 0, .int .i64 0, .int .i64 0, .bool false, .slice none 0 0, .slice none 0 0, .int .i64 4, .int .i64 1, .int .i64 0, .int .i64 2, .int .i64 1, .int .i64 0, .int .i64 0, .int .i64 0, .bool false, .slice none 0 0, .slice none 0 0]

theorem once_three {W : World} {T b : Nat} {t : TypeId} (hO : Own W b t three33) (hb : b ≠ T) : OnceOK W T (onceOf 2) (.slice (some ⟨b, 0, none⟩) 3 3) :=
  ⟨_, _, rfl, Nat.le_refl _, fun _ => ⟨b, 0, rfl, hb, hO.lt, fun i hi j hj => by
    rw [hO.cell]
    have hi' : i = 0 ∨ i = 1 ∨ i = 2 := by simp [onceOf] at hi; omega
    have hj' : j = 0 ∨ j = 1 ∨ j = 2 ∨ j = 3 ∨ j = 4 ∨ j = 5 ∨ j = 6 ∨ j = 7 ∨ j = 8 ∨ j = 9 ∨ j = 10 := by omega
    rcases hi' with rfl | rfl | rfl <;> rcases hj' with rfl | rfl | rfl | rfl | rfl | rfl | rfl | rfl | rfl | rfl | rfl <;> rfl⟩⟩

theorem own_third (w : World) (o p : Obj) (t : TypeId) (cs : Array Value) : Own (((w.alloc o).alloc p).alloc (.cells cs t)) (w.heap.size + 1 + 1) t cs := by
  have := Own.new ((w.alloc o).alloc p) t cs
  simpa using this

theorem alloc2_below (w : World) (o p : Obj) : Below w.heap.size w ((w.alloc o).alloc p) := ((Below.refl _ _).alloc (Nat.le_refl _) _).alloc (by simp) _
theorem alloc3_below (w : World) (o p q : Obj) : Below w.heap.size w (((w.alloc o).alloc p).alloc q) := (alloc2_below w o p).alloc (by simp; omega) _

/-- What New's loop keeps. -/
def NewI (w : World) (n : Nat) (m f : Nat → Int) (x y : Nat → Nat) (q : Nat) (v : Value) (w' : World) : Prop :=
  ∃ j : Nat, v = .int .i64 j ∧ j + q = n ∧ (∀ i, i < j → OrderGood (m i) (f i) (x i) (y i)) ∧ Below w.heap.size w w'

set_option maxRecDepth 100000 in
set_option maxHeartbeats 3200000 in
theorem new_main (kind turns : Int) (A : Option Addr) (n c : Nat) (t m f : Nat → Int) (x y : Nat → Nat) (w : World) (hk : kind = 0 ∨ kind = 1 ∨ kind = 2 ∨ kind = 3) (ht0 : 0 ≤ turns) (ht1 : turns ≤ 1000) (hn : n ≤ 64)
    (h0 : A = none → n = 0 ∧ c = 0) (h1 : ∀ a, A = some a → ∃ b, a = ⟨b, 0, none⟩ ∧ ∀ i, i < n → OrderAt w b i (t i) (m i) (f i) (x i) (y i)) (hx : ∀ i, i < n → Num (x i)) (hy : ∀ i, i < n → Num (y i)) :
    Calls Tryd.prog 11 #[.int .i64 kind, .int .i64 turns, .slice A n c] w (NewPost kind turns n w) := by
  have hk0 : 0 ≤ kind := by omega
  have hk3 : kind ≤ 3 := by omega
  have HK := Lib.hid hk
  have H0 := Lib.hid h0
  have H1 := Lib.hid h1
  have HN := Lib.hid (And.intro hx hy)
  clear hk h0 h1 hx hy
  go_enter Tryd.func11, Tryd.ntmps11
  go_wp2_with fail
  go_loopg [28] n (fun q s28 wx => NewI w n m f x y q s28 wx)
  case atStart => exact ⟨0, rfl, by omega, fun i h => absurd h (by omega), Below.refl _ _⟩
  case round =>
    obtain ⟨j, rfl, hj, hgd, hbel⟩ := hrel
    have HG := Lib.hid hgd
    have HB := Lib.hid hbel
    clear hgd hbel
    by_cases hjn : j = n
    · subst hjn
      have C := Lib.hid (cloneO A j c t m f x y wr hn H0.out (fun a ha => by
        obtain ⟨b, rfl, hat⟩ := H1.out a ha
        exact ⟨b, rfl, fun i hi => (hat i hi).carry HB.out⟩))
      have hmf : ∀ (fn : Fn) (first cap : Array Value) (w : World), (Instr.makeFunc fn first cap).run Tryd.prog w = .ok (.func fn first cap) w := fun _ _ _ _ => rfl
      go_wp2_with fail
      refine C.out.mono ?_
      rintro e w2 ⟨A2, c2, rfl, hat2, hb2⟩
      have H2 := Lib.hid hat2
      have HB2 := Lib.hid (HB.out.call HB.out.size hb2)
      clear hat2 hb2
      have hsz : w.heap.size ≤ w2.heap.size := HB2.out.size
      rcases HK.out with rfl | rfl | rfl | rfl
      · go_wp2_with fail
        go_ret2
        exact .inr ⟨w2.heap.size, 0, startT (.slice A2 j c2) (.slice (some ⟨w2.heap.size + 1 + 1, 0, none⟩) 3 3) (.slice (some ⟨w2.heap.size + 1, 0, none⟩) 1 1) turns, rfl, rfl, by omega, ht0, ht1, HB2.out.size, by simp; omega,
          fun V hV => start_task ((((Own.new w2 70 (startT (.slice A2 j c2) (.slice (some ⟨w2.heap.size + 1 + 1, 0, none⟩) 3 3) (.slice (some ⟨w2.heap.size + 1, 0, none⟩) 1 1) turns).row).alloc _).alloc _).agree hV hsz) (orders_of hn H2.out HG.out (alloc3_below _ _ _ _) (Nat.le_refl _) hV HB.out.size) ⟨w2.heap.size + 1 + 1, 72, rfl, by omega, (own_third _ _ _ 72 _).agree hV (by omega)⟩ (once_one (((own_second _ _ 41 (callC 0 0 0 0 0 0 0 false (.slice none 0 0))).alloc _).agree hV (by omega)) (by omega)), rfl, rfl, rfl, rfl, HB2.out.trans ((alloc3_below _ _ _ _).mono HB2.out.size)⟩
      · go_wp2_with fail
        go_ret2
        exact .inr ⟨w2.heap.size, 1, startT (.slice A2 j c2) (.slice (some ⟨w2.heap.size + 1 + 1, 0, none⟩) 3 3) (.slice (some ⟨w2.heap.size + 1, 0, none⟩) 1 1) turns, rfl, rfl, by omega, ht0, ht1, HB2.out.size, by simp; omega,
          fun V hV => start_task ((((Own.new w2 70 (startT (.slice A2 j c2) (.slice (some ⟨w2.heap.size + 1 + 1, 0, none⟩) 3 3) (.slice (some ⟨w2.heap.size + 1, 0, none⟩) 1 1) turns).row).alloc _).alloc _).agree hV hsz) (orders_of hn H2.out HG.out (alloc3_below _ _ _ _) (Nat.le_refl _) hV HB.out.size) ⟨w2.heap.size + 1 + 1, 72, rfl, by omega, (own_third _ _ _ 72 _).agree hV (by omega)⟩ (once_one (((own_second _ _ 41 (callC 0 1 0 0 0 0 0 false (.slice none 0 0))).alloc _).agree hV (by omega)) (by omega)), rfl, rfl, rfl, rfl, HB2.out.trans ((alloc3_below _ _ _ _).mono HB2.out.size)⟩
      · go_wp2_with fail
        go_ret2
        exact .inr ⟨w2.heap.size, 2, startT (.slice A2 j c2) (.slice (some ⟨w2.heap.size + 1 + 1, 0, none⟩) 3 3) (.slice (some ⟨w2.heap.size + 1, 0, none⟩) 3 3) turns, rfl, rfl, by omega, ht0, ht1, HB2.out.size, by simp; omega,
          fun V hV => start_task ((((Own.new w2 70 (startT (.slice A2 j c2) (.slice (some ⟨w2.heap.size + 1 + 1, 0, none⟩) 3 3) (.slice (some ⟨w2.heap.size + 1, 0, none⟩) 3 3) turns).row).alloc _).alloc _).agree hV hsz) (orders_of hn H2.out HG.out (alloc3_below _ _ _ _) (Nat.le_refl _) hV HB.out.size) ⟨w2.heap.size + 1 + 1, 72, rfl, by omega, (own_third _ _ _ 72 _).agree hV (by omega)⟩ (once_three (((own_second _ _ 41 three33).alloc _).agree hV (by omega)) (by omega)), rfl, rfl, rfl, rfl, HB2.out.trans ((alloc3_below _ _ _ _).mono HB2.out.size)⟩
      · go_wp2_with fail
        go_ret2
        exact .inr ⟨w2.heap.size, 3, startT (.slice A2 j c2) (.slice (some ⟨w2.heap.size + 1, 0, none⟩) 2 2) (.slice none 0 0) turns, rfl, rfl, by omega, ht0, ht1, HB2.out.size, by simp; omega,
          fun V hV => start_task (((Own.new w2 70 (startT (.slice A2 j c2) (.slice (some ⟨w2.heap.size + 1, 0, none⟩) 2 2) (.slice none 0 0) turns).row).alloc _).agree hV hsz) (orders_of hn H2.out HG.out (alloc2_below _ _ _) (Nat.le_refl _) hV HB.out.size) ⟨w2.heap.size + 1, 72, rfl, by omega, (own_second _ _ 72 _).agree hV (by omega)⟩ ⟨none, 0, rfl, Nat.le_refl _, fun h => absurd h (by decide)⟩, rfl, rfl, rfl, rfl, HB2.out.trans ((alloc2_below _ _ _).mono HB2.out.size)⟩
    · have hlt : j < n := by omega
      have j0 : (0 : Int) ≤ (j : Int) := by omega
      have j1 : (j : Int) < (n : Int) := by omega
      cases A with
      | none => exact absurd (H0.out rfl).1 (by omega)
      | some ad =>
        obtain ⟨b, rfl, hat⟩ := H1.out _ rfl
        have lb : b < w.heap.size := World.block_lt_of_cell? w _ (hat j hlt).1
        obtain ⟨a0, a1, a2, a3⟩ := hat j hlt
        have HAT := Lib.hid hat
        rw [← (bcell HB.out).1 b _ lb] at a0 a1 a2 a3
        clear hat
        have no : ∀ c : Int, c ≠ 0 → ∀ o : Obj, NewPost kind turns n w (.returned (.tuple #[.pointer none, .int .i64 c])) (wr.alloc o) := fun c hc o => .no c hc (by omega) (HB.out.alloc HB.out.size o)
        have NO := Lib.hid no
        clear no
        by_cases g1 : t j < 0
        · go_wp2_with fail
          go_ret2
          exact NO.out 10 (by decide) _
        by_cases g2 : turns ≤ t j
        · go_wp2_with fail
          go_ret2
          exact NO.out 10 (by decide) _
        by_cases g3 : m j < 0
        · go_wp2_with fail
          go_ret2
          exact NO.out 10 (by decide) _
        by_cases g4 : 8 ≤ m j
        · go_wp2_with fail
          go_ret2
          exact NO.out 10 (by decide) _
        by_cases g5 : f j < 0
        · go_wp2_with fail
          go_ret2
          exact NO.out 10 (by decide) _
        by_cases g6 : 63 < f j
        · go_wp2_with fail
          go_ret2
          exact NO.out 10 (by decide) _
        go_wp2_with fail
        refine (may_any (x j) (y j) (HN.out.1 j hlt) (HN.out.2 j hlt) _).mono ?_
        rintro e w' ⟨rfl, rfl⟩
        cases hmay : mayB (x j) (y j)
        · go_wp2_with fail
          go_ret2
          exact NO.out 10 (by decide) _
        · have HM := Lib.hid (show OrderGood (m j) (f j) (x j) (y j) from ⟨by omega, by omega, by omega, by omega, hmay⟩)
          clear hmay
          clear g1 g2 g3 g4 g5 g6
          go_wp2_with fail
          have next : ∀ W, Below w.heap.size w W → NewI w n m f x y (gk - 1) (.int .i64 ((j : Int) + 1)) W := fun W hW =>
            ⟨j + 1, by simp, by omega, fun i hi => by
              rcases Nat.lt_succ_iff_lt_or_eq.1 hi with h | rfl
              · exact HG.out i h
              · exact HM.out, hW⟩
          have NX := Lib.hid next
          clear next
          have HBA := Lib.hid (fun (k : Nat) (o : Obj) => below_drewN (HB.out.alloc HB.out.size o) k)
          rcases Nat.eq_zero_or_pos j with rfl | jp
          · go_quiet (fail)
            go_wp2_with fail
            go_roundg (gk - 1)
            case measure => omega
            case rel => exact NX.out _ (HBA.out _ _)
          · obtain ⟨k, rfl⟩ : ∃ k, j = k + 1 := ⟨j - 1, by omega⟩
            obtain ⟨q0, _⟩ := HAT.out k (by omega)
            rw [← (bcell HB.out).1 b _ lb] at q0
            have k0 : (0 : Int) ≤ (k : Int) := by omega
            have k1 : (k : Int) < (n : Int) := by omega
            have k2 : IntKind.i64.wrap (k : Int) = (k : Int) := IntWalk.i64_in _ (by omega)
            have lbr : b < wr.heap.size := by have := HB.out.size; omega
            by_cases ht : t (k + 1) ≤ t k
            · go_quiet (fail)
              go_wp2_with fail
              go_ret2
              exact .no 18 (by decide) (by omega) (HBA.out _ _)
            · go_quiet (fail)
              go_wp2_with fail
              go_roundg (gk - 1)
              case measure => omega
              case rel => exact NX.out _ (HBA.out _ _)

theorem new_any (kind turns : Int) (A : Option Addr) (n c : Nat) (t m f : Nat → Int) (x y : Nat → Nat) (w : World) (hn : n ≤ 70)
    (h0 : A = none → n = 0 ∧ c = 0) (h1 : ∀ a, A = some a → ∃ b, a = ⟨b, 0, none⟩ ∧ ∀ i, i < n → OrderAt w b i (t i) (m i) (f i) (x i) (y i)) (hx : ∀ i, i < n → Num (x i)) (hy : ∀ i, i < n → Num (y i)) :
    Calls Tryd.prog 11 #[.int .i64 kind, .int .i64 turns, .slice A n c] w (NewPost kind turns n w) := by
  by_cases h : kind < 0 ∨ 3 < kind ∨ turns < 0 ∨ 1000 < turns ∨ 64 < n
  · exact new_early kind turns A n c w h hn
  · exact new_main kind turns A n c t m f x y w (by omega) (by omega) (by omega) (by omega) h0 h1 hx hy

end Go.Proofs.YtmhnodbmcciifaaDoor
