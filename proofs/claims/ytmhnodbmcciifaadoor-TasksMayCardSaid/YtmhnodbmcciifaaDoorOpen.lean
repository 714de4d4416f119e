/- The arguments of TasksMay opened to cells, and the table of the kinds as it was laid. Each theorem says under which conditions. -/
import Derived.Test.YtmhnodbmcciifaaDoorMay
import Derived.Test.YtmhnodbmcciifaaDoorRows
import Derived.Deep.Slices
import Derived.Deep.Fields
import Derived.ChangeSame
import Derived.ProofKit
import Derived.LaidMore
import Derived.OpenShut
import Derived.Lib.SmallJoins
namespace Go.Proofs.YtmhnodbmcciifaaDoor
open Go.ChangeShapes Go.WideShapes Go.Deep Go.RowKit Go.Joins Flt

section
variable {H : Type} {enc : TypeId × Value → H} {P : Program} {w : World} {base : Nat} {spare : Nat → Bool} {held : Bool}
theorem open_slice_fields {t e : TypeId} {fs : Array Field} {fuel : Nat} {cs : List Value} {x : DataW H × List MemPlace} (ht : P.underlying t = some (.slice e)) (he : P.underlying e = some (.struct fs))
    (hone : oneCellFields P fs = true) (hC : P.cellsOf e = fs.size) (h : DataW.trod enc P w base spare held fuel t cs = some x) :
    (cs = [.slice none 0 0] ∧ x = (.nil, [])) ∨
    ∃ (a : Addr) (len cap m : Nat) (D : Nat → DataW H) (Pl : Nat → List MemPlace), cs = [.slice (some a) len cap] ∧ base ≤ a.block ∧ len ≤ cap ∧ cap ≤ maxLen ∧ m = (if spare a.block then cap else len) ∧
      x = (.slice ((List.range len).map D) ((List.range (m - len)).map fun j => D (len + j)), MemPlace.row a (m * fs.size) ++ (List.range m).flatMap Pl) ∧
      ∀ i, i < m → ∃ (ys : List (DataW H × List MemPlace)) (n : Nat), D i = .agg (ys.map (·.1)) ∧ Pl i = ys.flatMap (·.2) ∧ ys.length = fs.size ∧
        ∀ (j : Nat) (f : Field), fs[j]? = some f → ∃ (v : Value) (y : DataW H × List MemPlace), w.cell? (a.add (i * fs.size + j)) = some v ∧ ys[j]? = some y ∧ DataW.trod enc P w base spare held n f.type [v] = some y := by
  rcases open_slice ht h with h0 | ⟨a, len, cap, m, n, D, Pl, hcs, hb, hl, hm, hmm, hx, hi⟩
  · exact .inl h0
  · refine .inr ⟨a, len, cap, m, D, Pl, hcs, hb, hl, hm, hmm, by rw [hC] at hx; exact hx, fun i him => ?_⟩
    obtain ⟨cs', hc, ht'⟩ := hi i him
    rw [hC] at hc
    obtain ⟨ys, n', hn', hy, hlen, hyl, hf⟩ := DataW.trod_struct he ht'
    obtain ⟨_, hcl, hat⟩ := World.cells?_some hc
    simp only [Prod.mk.injEq] at hy
    refine ⟨ys, n', hy.1, hy.2, hyl, fun j f hj => ?_⟩
    obtain ⟨ho, hk⟩ := hone_of hone j f hj
    have hjl : j < fs.size := (Array.getElem?_eq_some_iff.1 hj).1
    have hcell := hat j hjl
    have hv : cs'[j]? = some (cs'[j]'(by omega)) := List.getElem?_eq_getElem (by omega)
    have h1 := hf j f hj
    rw [ho, hk] at h1
    have hone' : (cs'.drop j).take 1 = [cs'[j]'(by omega)] := by
      rw [List.drop_eq_getElem_cons (by omega)]
      rfl
    rw [hone'] at h1
    have hys : ys[j]? = some (ys[j]'(by omega)) := List.getElem?_eq_getElem (by omega)
    refine ⟨_, _, ?_, hys, h1.trans hys⟩
    rw [← Go.Deep.add_add, hcell, hv]
end

/-- The whole number that a value is. -/
def intOf : Value → Int
  | .int _ n => n
  | _ => 0

/-- The job's six numbers, read from the cells. -/
def jobF (w : World) (b off r : Nat) (i : Nat) : Int := intOf (val w ⟨b, off + i * 6 + r, none⟩)

theorem jobF_cell {w : World} {b off r i : Nat} (h : ∃ n, w.cell? ⟨b, off + i * 6 + r, none⟩ = some (.int .i64 n)) : w.cell? ⟨b, off + i * 6 + r, none⟩ = some (.int .i64 (jobF w b off r i)) := by
  obtain ⟨n, hn⟩ := h
  simp [jobF, val, hn, intOf]

section
variable {H : Type} {enc : TypeId × Value → H} {w : World} {base : Nat} {held : Bool}

theorem open_job {fuel : Nat} {cs : List Value} {x : DataW H × List MemPlace} (h : DataW.trod enc Tryd.prog w base (fun _ => true) held fuel 22 cs = some x) :
    ∃ (A : Option Addr) (n c : Nat) (F : Nat → Nat → Int), cs = [.slice A n c] ∧ (0 < n → ∃ b off, A = some ⟨b, off, none⟩ ∧ JobAt w b off n (F 0) (F 1) (F 2) (F 3) (F 4) (F 5)) := by
  rcases open_slice_fields Tryd.underlying22 Tryd.underlying53 (by kernel_rfl) (by kernel_rfl) h with ⟨hcs, _⟩ | ⟨a, len, cap, m, D, Pl, hcs, _, hl, _, hm, _, hi⟩
  · exact ⟨none, 0, 0, fun _ _ => 0, hcs, fun h0 => absurd h0 (by omega)⟩
  · refine ⟨some a, len, cap, jobF w a.block a.off, hcs, fun h0 => ?_⟩
    have hmm : m = cap := by simpa using hm
    have cell : ∀ i r, i < len → r < 6 → ∃ k, w.cell? (a.add (i * 6 + r)) = some (.int .i64 k) := by
      intro i r hlt hr
      obtain ⟨ys, n, _, _, hys, hf⟩ := hi i (by omega)
      have go : ∀ (f : Field), f.type = 3 → (∃ (v : Value) (y : DataW H × List MemPlace), w.cell? (a.add (i * 6 + r)) = some v ∧ ys[r]? = some y ∧ DataW.trod enc Tryd.prog w base (fun _ => true) held n f.type [v] = some y) → ∃ k, w.cell? (a.add (i * 6 + r)) = some (.int .i64 k) := by
        intro f hft hv
        obtain ⟨v, y, hc, _, ht⟩ := hv
        rw [hft] at ht
        obtain ⟨k, e, _, _⟩ := DataW.trod_int Tryd.underlying3 ht
        obtain rfl := (List.cons.inj e).1
        exact ⟨k, hc⟩
      match r, hr with
      | 0, _ => exact go _ rfl (hf 0 _ rfl)
      | 1, _ => exact go _ rfl (hf 1 _ rfl)
      | 2, _ => exact go _ rfl (hf 2 _ rfl)
      | 3, _ => exact go _ rfl (hf 3 _ rfl)
      | 4, _ => exact go _ rfl (hf 4 _ rfl)
      | 5, _ => exact go _ rfl (hf 5 _ rfl)
    obtain ⟨k0, hk0⟩ := cell 0 0 h0 (by omega)
    have hs := World.cell?_spot hk0
    have hb := World.block_lt_of_cell? _ _ hk0
    obtain ⟨b, off, spot⟩ := a
    have hsp : spot = none := by simpa [Addr.add] using hs
    subst hsp
    refine ⟨b, off, rfl, by simpa [Addr.add] using hb, fun i hlt => ?_⟩
    have at_ : ∀ r, r < 6 → w.cell? ⟨b, off + i * 6 + r, none⟩ = some (.int .i64 (jobF w b off r i)) := by
      intro r hr
      obtain ⟨k, hk⟩ := cell i r hlt hr
      refine jobF_cell ⟨k, ?_⟩
      rw [Addr.add_lit] at hk
      rw [Nat.add_assoc]
      exact hk
    exact ⟨at_ 0 (by omega), at_ 1 (by omega), at_ 2 (by omega), at_ 3 (by omega), at_ 4 (by omega), at_ 5 (by omega)⟩

/-- A slice of numbers without a sign: a slice, and its cells. -/
theorem open_words {fuel : Nat} {cs : List Value} {x : DataW H × List MemPlace} (h : DataW.trod enc Tryd.prog w base (fun _ => true) held fuel 36 cs = some x) :
    ∃ v, cs = [v] ∧ (∃ A m c, v = .slice A m c) ∧ Words w v := by
  rcases open_ints Tryd.underlying36 Tryd.underlying33 (by kernel_rfl) h with ⟨hcs, _⟩ | ⟨a, len, cap, zs, hcs, _, hl, _, hz, _, hc, hwf⟩
  · exact ⟨_, hcs, ⟨none, 0, 0, rfl⟩, none, 0, 0, rfl, fun h => absurd h (by omega)⟩
  · refine ⟨_, hcs, ⟨_, _, _, rfl⟩, some a, len, cap, rfl, fun hm => ?_⟩
    have hzc : zs.length = cap := by simpa using hz
    obtain ⟨b, off, rfl, hcell⟩ := ints_at hc (by omega)
    refine ⟨b, off, fun i => zs.getD i 0, rfl, ?_, fun i hi => hcell i (by omega), fun i hi => ?_⟩
    · exact World.block_lt_of_cell? _ ⟨b, off + 0, none⟩ (hcell 0 (by omega))
    · have hmem : zs.getD i 0 ∈ zs := by
        rw [List.getD_eq_getElem?_getD, List.getElem?_eq_getElem (by omega), Option.getD_some]
        exact List.getElem_mem _
      have := hwf _ hmem
      show 0 ≤ zs.getD i 0 ∧ zs.getD i 0 < 18446744073709551616
      clear hmem
      generalize zs.getD i 0 = q at this ⊢
      simp [Lit.wf, IntKind.min, IntKind.max, IntKind.bits, IntKind.signed] at this
      omega

theorem open_int3 {n : Nat} {t : TypeId} {k : IntKind} {c : Value} {y : DataW H × List MemPlace} (ht : Tryd.prog.underlying t = some (.int k)) (h : DataW.trod enc Tryd.prog w base (fun _ => true) held n t [c] = some y) : ∃ z, c = .int k z := by
  obtain ⟨z, e, _, _⟩ := DataW.trod_int ht h
  exact ⟨z, (List.cons.inj e).1⟩

instance : Inhabited AS := ⟨⟨0, 0, 0, 0, 0, 0, 0, false, 0, 0, .slice none 0 0, .slice none 0 0⟩⟩

set_option maxRecDepth 4000 in
/-- One answer: twelve cells. -/
theorem open_answer {fuel : Nat} {cs : List Value} {x : DataW H × List MemPlace} (hlen : cs.length = 12) (h : DataW.trod enc Tryd.prog w base (fun _ => true) held fuel 38 cs = some x) :
    ∃ a : AS, cs = a.row.toList ∧ (∃ A m c, a.gens = .slice A m c) ∧ Words w a.words := by
  match cs, hlen with
  | [c0, c1, c2, c3, c4, c5, c6, c7, c8, c9, c10, c11], _ =>
    obtain ⟨xs, n, _, _, _, hxl, hf⟩ := DataW.trod_struct Tryd.underlying38 h
    match xs, hxl with
    | [y0, y1, y2, y3, y4, y5, y6, y7], _ =>
      have h0 := hf 0 _ rfl
      have h1 := hf 1 _ rfl
      have h2 := hf 2 _ rfl
      have h3 := hf 3 _ rfl
      have h4 := hf 4 _ rfl
      have h5 := hf 5 _ rfl
      have h6 := hf 6 _ rfl
      have h7 := hf 7 _ rfl
      simp only [List.getElem?_cons_zero, List.getElem?_cons_succ] at h0 h1 h2 h3 h4 h5 h6 h7
      obtain ⟨z0, rfl⟩ := open_int3 Tryd.underlying29 h0
      obtain ⟨z1, rfl⟩ := open_int3 Tryd.underlying3 h1
      obtain ⟨z2, rfl⟩ := open_int3 Tryd.underlying33 h2
      obtain ⟨z3, rfl⟩ := open_int3 Tryd.underlying3 h3
      obtain ⟨z4, rfl⟩ := open_int3 Tryd.underlying33 h4
      obtain ⟨xs5, n5, _, _, _, hx5, hf5⟩ := DataW.trod_struct Tryd.underlying35 h5
      match xs5, hx5 with
      | [u0, u1, u2, u3, u4], _ =>
        have q0 := hf5 0 _ rfl
        have q1 := hf5 1 _ rfl
        have q2 := hf5 2 _ rfl
        have q3 := hf5 3 _ rfl
        have q4 := hf5 4 _ rfl
        simp only [List.getElem?_cons_zero, List.getElem?_cons_succ] at q0 q1 q2 q3 q4
        obtain ⟨z5, rfl⟩ := open_int3 Tryd.underlying3 q0
        obtain ⟨z6, rfl⟩ := open_int3 Tryd.underlying3 q1
        obtain ⟨z7, e7, _⟩ := DataW.trod_bool Tryd.underlying4 q2
        obtain rfl := (List.cons.inj e7).1
        obtain ⟨z8, rfl⟩ := open_int3 Tryd.underlying3 q3
        obtain ⟨z9, rfl⟩ := open_int3 Tryd.underlying33 q4
        obtain ⟨v6, e6, g6, _⟩ := open_words h6
        obtain ⟨v7, e7, _, w7⟩ := open_words h7
        obtain rfl := (List.cons.inj e6).1
        obtain rfl := (List.cons.inj e7).1
        exact ⟨⟨z0, z1, z2, z3, z4, z5, z6, z7, z8, z9, _, _⟩, rfl, g6, w7⟩

/-- The answers: each of them twelve cells. -/
theorem open_answers {fuel : Nat} {cs : List Value} {x : DataW H × List MemPlace} (h : DataW.trod enc Tryd.prog w base (fun _ => true) held fuel 25 cs = some x) :
    ∃ (LA : Option Addr) (ln lc : Nat) (an : Nat → AS), cs = [.slice LA ln lc] ∧ (0 < ln → ∃ b off, LA = some ⟨b, off, none⟩ ∧ AnsAt w b off ln an) := by
  have k38 : Tryd.prog.cellsOf 38 = 12 := by kernel_rfl
  rcases open_slice Tryd.underlying25 h with ⟨hcs, _⟩ | ⟨a, len, cap, m, n, D, Pl, hcs, _, hl, _, hm, _, hi⟩
  · exact ⟨none, 0, 0, default, hcs, fun h0 => absurd h0 (by omega)⟩
  · have hmm : m = cap := by simpa using hm
    rw [k38] at hi
    have each : ∀ i, i < len → ∃ s : AS, (∀ r v, s.row[r]? = some v → w.cell? (a.add (i * 12 + r)) = some v) ∧ (∃ A m c, s.gens = .slice A m c) ∧ Words w s.words := by
      intro i hlt
      obtain ⟨cs', hc, ht⟩ := hi i (by omega)
      obtain ⟨_, hcl, hat⟩ := World.cells?_some hc
      obtain ⟨s, rfl, hg, hw⟩ := open_answer hcl ht
      refine ⟨s, fun r v hr => ?_, hg, hw⟩
      have hrl : r < 12 := (Array.getElem?_eq_some_iff.1 hr).1
      rw [← Go.Deep.add_add, hat r hrl]
      simpa using hr
    obtain ⟨an, han⟩ := choose_lt each
    refine ⟨some a, len, cap, an, hcs, fun h0 => ?_⟩
    have hk0 := (han 0 h0).1 0 _ rfl
    have hs := World.cell?_spot hk0
    have hb := World.block_lt_of_cell? _ _ hk0
    obtain ⟨b, off, spot⟩ := a
    have hsp : spot = none := by simpa [Addr.add] using hs
    subst hsp
    refine ⟨b, off, rfl, by simpa [Addr.add] using hb, fun i hlt => ?_⟩
    obtain ⟨p1, p2, p3⟩ := han i hlt
    refine ⟨fun r v hr => ?_, p2, p3⟩
    have := p1 r v hr
    rw [Addr.add_lit] at this
    rw [Nat.add_assoc]
    exact this
end
/-- The table of the kinds, where it was laid. -/
theorem of_laid {W : World} (h : laidMetH Tryd.prog [("aileron/call.fields", Rows.laid_aileron_call_fields)] W) : FieldsAt W := by
  have gF : Tryd.prog.globalNamed "aileron/call.fields" = some 0 := by kernel_rfl
  have tF : (Tryd.prog.globals[0]?).map (·.type) = some 77 := by kernel_rfl
  have k3 : Tryd.prog.cellsOf 3 = 1 := by kernel_rfl
  rw [MakeChecks.laidMetH_plain _ _ _ (by kernel_rfl)] at h
  obtain ⟨ps, ⟨g0, t0, cs0, f0, p0, q0, hg0, ht0, hv0, hd0, _, _⟩, _, _⟩ := h
  obtain rfl := Option.some.inj (gF.symm.trans hg0)
  obtain rfl := Option.some.inj (tF.symm.trans ht0)
  obtain ⟨xs, m1, rfl, hx1, hlen, hn3, hel⟩ := DataW.trod_array Tryd.underlying77 hd0
  simp only [Prod.mk.injEq, Rows.laid_aileron_call_fields, DataW.agg.injEq] at hx1
  have hmap : xs.map (·.1) = fieldsL.map fun v => .lit (.int .i64 v) := hx1.1.symm
  have cell : ∀ i v, fieldsL[i]? = some v → W.cell? ⟨0, i, none⟩ = some (.int .i64 v) := by
    intro i v hv
    have hi : i < 10 := (List.getElem?_eq_some_iff.1 hv).1
    have h0 := hel i hi
    have hxi : xs[i]? = some (xs[i]'(by omega)) := List.getElem?_eq_getElem (by omega)
    rw [hxi] at h0
    obtain ⟨k, e1, e2, _⟩ := DataW.trod_int Tryd.underlying3 h0
    have e3 : (xs.map (·.1))[i]? = some (.lit (.int .i64 k)) := by rw [List.getElem?_map, hxi, e2]; rfl
    rw [hmap, List.getElem?_map, hv] at e3
    simp only [Option.map_some, Option.some.injEq, DataW.lit.injEq, Lit.int.injEq, true_and] at e3
    subst e3
    rw [k3, Nat.mul_one] at e1
    have e4 : cs0.toList[i]? = some (.int .i64 v) := by
      have := congrArg (fun l => l[0]?) e1
      simpa [List.getElem?_take, List.getElem?_drop] using this
    have := World.var?_cell hg0 hv0 i
    rw [this, ← Array.getElem?_toList]
    exact e4
  exact ⟨World.block_lt_of_cell? W ⟨0, 0, none⟩ (cell 0 1 rfl), cell⟩
end Go.Proofs.YtmhnodbmcciifaaDoor
