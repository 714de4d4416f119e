/- The walk of Task.Next. Each theorem says under which conditions. -/
import Derived.Test.YtmhnodbmcciifaaDoorTurn
import Derived.Test.YtmhnodbmcciifaaDoorEst
import Derived.BigQuiet
import Derived.Deep.RegionHeld3
import Derived.ScopeJumps
namespace Go.Proofs.YtmhnodbmcciifaaDoor
open Go.RowKit Flt

/-- A scope whose code jumps back to one label: the pass first, then the way to the label, at which the pass may be taken. -/
theorem scope_pass {P : Program} {a : Act} {w : World} {Q : Exit → Act → World → Prop} {c rest : Code} (l : Nat) (J : Act → World → Prop) (μ : Act → World → Nat) (hf : findLabel c l = some (.seq .skip rest))
    (pass : ∀ a w, J a w → rest.wp P (Exit.jump l (fun a' w' => J a' w' ∧ μ a' w' < μ a w) Q) a w)
    (first : Hid (∀ a w, J a w → rest.wp P (Exit.jump l J Q) a w) → c.wp P (Exit.jump l J Q) a w) : (Code.scope c).wp P Q a w := by
  refine wp_scope_jumps l J μ hf (first fun a w h => Code.wp_mono ?_ (pass a w h)) fun a w h => wp_seq (wp_skip (pass a w h))
  intro e a w h
  cases e with
  | goto l' => exact ⟨h.1, h.2.1⟩
  | _ => exact h

/-- At the label. -/
theorem at_label {P : Program} {a : Act} {w : World} {Q : Exit → Act → World → Prop} {l : Nat} {r : Code} (h : r.wp P Q a w) : ((Code.label l).seq r).wp P Q a w := wp_seq (wp_label h)

def NextPost (T kind n : Nat) (l : List (Array Value)) (a : AS) (s : TS) (w : World) (e : Ending) (w' : World) : Prop :=
  ∃ c b l' s', e = .returned (.tuple #[.agg c, .bool b]) ∧ NextR kind n l a s c b l' s' ∧ TaskI w' T kind n l' s' ∧ Chg T w w'

/-- A contract of what is done behind the answer. -/
theorem hear_ok (T kind n B k : Nat) (l : List (Array Value)) (s : TS) (a : AS) (w : World) (hk : k = 34 ∨ k = 41 ∨ k = 42) (h : TaskI w T kind n l s) (hB : Own w B 28 #[.pointer (some ⟨T, 0, none⟩)]) (hw : Words w a.words) :
    Calls Tryd.prog k #[.agg a.row, .pointer (some ⟨B, 0, none⟩)] w (HearPost k T kind n l s a w) := by
  rcases hk with rfl | rfl | rfl
  · exact listen1_ok T kind n B l s a w h hB hw
  · exact look1_ok T kind n B l s a w h hB
  · exact poll1_ok T kind n B l s a w h hB hw

/-- A contract of the functions of a table. -/
theorem step_ok (T kind n i k : Nat) (hk : (rowsOf kind)[i]? = some k) (l : List (Array Value)) (s : TS) (w : World) (h : TaskI w T kind n l s) : Calls Tryd.prog k #[.pointer (some ⟨T, 0, none⟩)] w (StepPost k T kind n l s w) := by
  match kind, i, hk with
  | 0, 0, hk => cases hk; exact listen_ok T 0 n l s w h
  | 0, 1, hk => cases hk; exact estimate_ok T 0 n l s w h
  | 0, 2, hk => cases hk; exact feel_ok T 0 n l s w h
  | 1, 0, hk => cases hk; exact point_ok T 1 n l s w h
  | 1, 1, hk => cases hk; exact command_ok T 1 n l s w h
  | 1, 2, hk => cases hk; exact look_ok T 1 n l s w h
  | 2, 0, hk => cases hk; exact poll_ok T 2 n l s w h
  | 2, 1, hk => cases hk; exact look_ok T 2 n l s w h
  | 2, 2, hk => cases hk; exact tsteer_ok T 2 n l s w h
  | 0, i + 3, hk => cases hk
  | 1, i + 3, hk => cases hk
  | 2, i + 3, hk => cases hk
  | k + 3, 0, hk => cases hk; exact look_ok T (k + 3) n l s w h
  | k + 3, 1, hk => cases hk; exact guard_ok T (k + 3) n l s w h
  | k + 3, i + 2, hk => cases hk

/-- A call that may be has eleven cells. -/
theorem CallOK.shape {c : Array Value} (h : CallOK c) : ∃ (k t cap rank src mode fl : Int) (free : Bool) (pA : Option Addr) (pn pc : Nat), c = callC k t cap rank src mode fl free (.slice pA pn pc) := by
  rcases h with ⟨t, _, _, rfl⟩ | ⟨t, q, m, _, _, _, rfl⟩ | rfl | rfl | rfl | rfl | ⟨src, m, free, _, _, _, rfl⟩ | ⟨f, _, _, rfl⟩ | rfl <;> exact ⟨_, _, _, _, _, _, _, _, _, _, _, rfl⟩

/-- The numbers of a task are as they should be. -/
def Rng (kind : Nat) (s : TS) : Prop := 0 ≤ s.turn ∧ s.turn ≤ s.turns ∧ s.turns ≤ 1000 ∧ 0 ≤ s.nxt ∧ s.nxt ≤ (rowsOf kind).length

/-- What Next's loop keeps at its label: 's0' is the task as the loop began. -/
def LoopS (w : World) (T kind n : Nat) (s0 s : TS) (W : World) : Prop :=
  TaskI W T kind n [] s ∧ Chg T w W ∧ Own W (w.heap.size + 1) 41 zero11 ∧ Rng kind s ∧ ∀ c b s', Again kind n s c b s' → Again kind n s0 c b s'

def jumpF (w : World) (T : Nat) (a : AS) (u2 u6 u7 u8 u9 u10 u11 u12 u13 u14 u15 u16 u17 u18 u19 u20 u21 u22 u23 u24 u25 u26 u27 u28 u29 u30 u31 u32 u33 u34 u35 u36 u37 u38 u39 u40 u41 u42 u43 u44 u45 u46 u47 u48 u49 u50 u51 u52 u53 u54 u55 u56 u57 u58 u59 u60 u61 u62 u63 u64 u65 u66 u67 u68 u69 u70 u71 u72 u73 u74 u75 u76 u77 u78 u79 u80 u81 u82 u83 u84 u85 u86 u87 u88 u89 u90 u91 u92 u93 u94 u95 u96 u97 u98 u99 u100 u101 : Value) : Act := { tmps := #[.pointer (some ⟨T, 0, none⟩), .agg a.row, u2, .pointer (some ⟨w.heap.size, 0, none⟩), .pointer (some ⟨w.heap.size + 1, 0, none⟩), .bool false, u6, u7, u8, u9, u10, u11, u12, u13, u14, u15, u16, u17, u18, u19, u20, u21, u22, u23, u24, u25, u26, u27, u28, u29, u30, u31, u32, u33, u34, u35, u36, u37, u38, u39, u40, u41, u42, u43, u44, u45, u46, u47, u48, u49, u50, u51, u52, u53, u54, u55, u56, u57, u58, u59, u60, u61, u62, u63, u64, u65, u66, u67, u68, u69, u70, u71, u72, u73, u74, u75, u76, u77, u78, u79, u80, u81, u82, u83, u84, u85, u86, u87, u88, u89, u90, u91, u92, u93, u94, u95, u96, u97, u98, u99, u100, u101], defers := [] }

def LoopJ (w : World) (T kind n : Nat) (l : List (Array Value)) (a : AS) (s : TS) (f : Act) (W : World) : Prop :=
  (∃ u2 u6 u7 u8 u9 u10 u11 u12 u13 u14 u15 u16 u17 u18 u19 u20 u21 u22 u23 u24 u25 u26 u27 u28 u29 u30 u31 u32 u33 u34 u35 u36 u37 u38 u39 u40 u41 u42 u43 u44 u45 u46 u47 u48 u49 u50 u51 u52 u53 u54 u55 u56 u57 u58 u59 u60 u61 u62 u63 u64 u65 u66 u67 u68 u69 u70 u71 u72 u73 u74 u75 u76 u77 u78 u79 u80 u81 u82 u83 u84 u85 u86 u87 u88 u89 u90 u91 u92 u93 u94 u95 u96 u97 u98 u99 u100 u101, f = jumpF w T a u2 u6 u7 u8 u9 u10 u11 u12 u13 u14 u15 u16 u17 u18 u19 u20 u21 u22 u23 u24 u25 u26 u27 u28 u29 u30 u31 u32 u33 u34 u35 u36 u37 u38 u39 u40 u41 u42 u43 u44 u45 u46 u47 u48 u49 u50 u51 u52 u53 u54 u55 u56 u57 u58 u59 u60 u61 u62 u63 u64 u65 u66 u67 u68 u69 u70 u71 u72 u73 u74 u75 u76 u77 u78 u79 u80 u81 u82 u83 u84 u85 u86 u87 u88 u89 u90 u91 u92 u93 u94 u95 u96 u97 u98 u99 u100 u101) ∧ l = [] ∧ ∃ s0 s1, Heard a s s0 ∧ LoopS w T kind n s0 s1 W ∧ s1.turns = s.turns

theorem frame_cases {w : World} {T : Nat} {a : AS} {P : Act → Prop} (h : ∀ u2 u6 u7 u8 u9 u10 u11 u12 u13 u14 u15 u16 u17 u18 u19 u20 u21 u22 u23 u24 u25 u26 u27 u28 u29 u30 u31 u32 u33 u34 u35 u36 u37 u38 u39 u40 u41 u42 u43 u44 u45 u46 u47 u48 u49 u50 u51 u52 u53 u54 u55 u56 u57 u58 u59 u60 u61 u62 u63 u64 u65 u66 u67 u68 u69 u70 u71 u72 u73 u74 u75 u76 u77 u78 u79 u80 u81 u82 u83 u84 u85 u86 u87 u88 u89 u90 u91 u92 u93 u94 u95 u96 u97 u98 u99 u100 u101, P (jumpF w T a u2 u6 u7 u8 u9 u10 u11 u12 u13 u14 u15 u16 u17 u18 u19 u20 u21 u22 u23 u24 u25 u26 u27 u28 u29 u30 u31 u32 u33 u34 u35 u36 u37 u38 u39 u40 u41 u42 u43 u44 u45 u46 u47 u48 u49 u50 u51 u52 u53 u54 u55 u56 u57 u58 u59 u60 u61 u62 u63 u64 u65 u66 u67 u68 u69 u70 u71 u72 u73 u74 u75 u76 u77 u78 u79 u80 u81 u82 u83 u84 u85 u86 u87 u88 u89 u90 u91 u92 u93 u94 u95 u96 u97 u98 u99 u100 u101)) {f : Act} (hf : ∃ u2 u6 u7 u8 u9 u10 u11 u12 u13 u14 u15 u16 u17 u18 u19 u20 u21 u22 u23 u24 u25 u26 u27 u28 u29 u30 u31 u32 u33 u34 u35 u36 u37 u38 u39 u40 u41 u42 u43 u44 u45 u46 u47 u48 u49 u50 u51 u52 u53 u54 u55 u56 u57 u58 u59 u60 u61 u62 u63 u64 u65 u66 u67 u68 u69 u70 u71 u72 u73 u74 u75 u76 u77 u78 u79 u80 u81 u82 u83 u84 u85 u86 u87 u88 u89 u90 u91 u92 u93 u94 u95 u96 u97 u98 u99 u100 u101, f = jumpF w T a u2 u6 u7 u8 u9 u10 u11 u12 u13 u14 u15 u16 u17 u18 u19 u20 u21 u22 u23 u24 u25 u26 u27 u28 u29 u30 u31 u32 u33 u34 u35 u36 u37 u38 u39 u40 u41 u42 u43 u44 u45 u46 u47 u48 u49 u50 u51 u52 u53 u54 u55 u56 u57 u58 u59 u60 u61 u62 u63 u64 u65 u66 u67 u68 u69 u70 u71 u72 u73 u74 u75 u76 u77 u78 u79 u80 u81 u82 u83 u84 u85 u86 u87 u88 u89 u90 u91 u92 u93 u94 u95 u96 u97 u98 u99 u100 u101) : P f := by
  exact Exists.elim hf fun u2 hf => Exists.elim hf fun u6 hf => Exists.elim hf fun u7 hf => Exists.elim hf fun u8 hf => Exists.elim hf fun u9 hf => Exists.elim hf fun u10 hf => Exists.elim hf fun u11 hf => Exists.elim hf fun u12 hf => Exists.elim hf fun u13 hf => Exists.elim hf fun u14 hf => Exists.elim hf fun u15 hf => Exists.elim hf fun u16 hf => Exists.elim hf fun u17 hf => Exists.elim hf fun u18 hf => Exists.elim hf fun u19 hf => Exists.elim hf fun u20 hf => Exists.elim hf fun u21 hf => Exists.elim hf fun u22 hf => Exists.elim hf fun u23 hf => Exists.elim hf fun u24 hf => Exists.elim hf fun u25 hf => Exists.elim hf fun u26 hf => Exists.elim hf fun u27 hf => Exists.elim hf fun u28 hf => Exists.elim hf fun u29 hf => Exists.elim hf fun u30 hf => Exists.elim hf fun u31 hf => Exists.elim hf fun u32 hf => Exists.elim hf fun u33 hf => Exists.elim hf fun u34 hf => Exists.elim hf fun u35 hf => Exists.elim hf fun u36 hf => Exists.elim hf fun u37 hf => Exists.elim hf fun u38 hf => Exists.elim hf fun u39 hf => Exists.elim hf fun u40 hf => Exists.elim hf fun u41 hf => Exists.elim hf fun u42 hf => Exists.elim hf fun u43 hf => Exists.elim hf fun u44 hf => Exists.elim hf fun u45 hf => Exists.elim hf fun u46 hf => Exists.elim hf fun u47 hf => Exists.elim hf fun u48 hf => Exists.elim hf fun u49 hf => Exists.elim hf fun u50 hf => Exists.elim hf fun u51 hf => Exists.elim hf fun u52 hf => Exists.elim hf fun u53 hf => Exists.elim hf fun u54 hf => Exists.elim hf fun u55 hf => Exists.elim hf fun u56 hf => Exists.elim hf fun u57 hf => Exists.elim hf fun u58 hf => Exists.elim hf fun u59 hf => Exists.elim hf fun u60 hf => Exists.elim hf fun u61 hf => Exists.elim hf fun u62 hf => Exists.elim hf fun u63 hf => Exists.elim hf fun u64 hf => Exists.elim hf fun u65 hf => Exists.elim hf fun u66 hf => Exists.elim hf fun u67 hf => Exists.elim hf fun u68 hf => Exists.elim hf fun u69 hf => Exists.elim hf fun u70 hf => Exists.elim hf fun u71 hf => Exists.elim hf fun u72 hf => Exists.elim hf fun u73 hf => Exists.elim hf fun u74 hf => Exists.elim hf fun u75 hf => Exists.elim hf fun u76 hf => Exists.elim hf fun u77 hf => Exists.elim hf fun u78 hf => Exists.elim hf fun u79 hf => Exists.elim hf fun u80 hf => Exists.elim hf fun u81 hf => Exists.elim hf fun u82 hf => Exists.elim hf fun u83 hf => Exists.elim hf fun u84 hf => Exists.elim hf fun u85 hf => Exists.elim hf fun u86 hf => Exists.elim hf fun u87 hf => Exists.elim hf fun u88 hf => Exists.elim hf fun u89 hf => Exists.elim hf fun u90 hf => Exists.elim hf fun u91 hf => Exists.elim hf fun u92 hf => Exists.elim hf fun u93 hf => Exists.elim hf fun u94 hf => Exists.elim hf fun u95 hf => Exists.elim hf fun u96 hf => Exists.elim hf fun u97 hf => Exists.elim hf fun u98 hf => Exists.elim hf fun u99 hf => Exists.elim hf fun u100 hf => Exists.elim hf fun u101 hf => (hf ▸ h _ _ _ _ _ _ _ _ _ _ _ _ _ _ _ _ _ _ _ _ _ _ _ _ _ _ _ _ _ _ _ _ _ _ _ _ _ _ _ _ _ _ _ _ _ _ _ _ _ _ _ _ _ _ _ _ _ _ _ _ _ _ _ _ _ _ _ _ _ _ _ _ _ _ _ _ _ _ _ _ _ _ _ _ _ _ _ _ _ _ _ _ _ _ _ _ _)

/-- How far the loop still may go. -/
def loopM (T : Nat) (turns : Int) (W : World) : Nat := (turns - intOf (val W ⟨T, 2, none⟩)).toNat * 5 + (3 - (intOf (val W ⟨T, 4, none⟩))).toNat


theorem loopM_of {W : World} {T kind n : Nat} {l : List (Array Value)} {s : TS} (h : TaskI W T kind n l s) (tn : Int) : loopM T tn W = (tn - s.turn).toNat * 5 + (3 - s.nxt).toNat := by
  obtain ⟨_, _, c2, _, c4, _⟩ := row_cells h.own
  unfold loopM val
  rw [c2, c4]; rfl

theorem rows_le (kind : Nat) : (rowsOf kind).length ≤ 3 := by
  unfold rowsOf; split <;> decide

theorem rows_k {kind i k : Nat} (h : (rowsOf kind)[i]? = some k) : k = 22 ∨ k = 23 ∨ k = 24 ∨ k = 25 ∨ k = 26 ∨ k = 27 ∨ k = 28 ∨ k = 29 ∨ k = 30 := by
  have hm := List.mem_of_getElem? h
  unfold rowsOf at hm
  split at hm <;> simp at hm <;> omega

theorem enter_k {kind i k : Nat} (h : (rowsOf kind)[i]? = some k) (args : Array Value) (w : World) : (callFunc k args).run Tryd.prog w = .ok (.enter k args) w := by
  rcases rows_k h with rfl | rfl | rfl | rfl | rfl | rfl | rfl | rfl | rfl <;> kernel_rfl

theorem heap_w11 (W : World) (g j : Nat) (hj : j ≠ g) (a b c d e f h i k l m : Value) : (w11 W g a b c d e f h i k l m).heap[j]? = W.heap[j]? := by
  simp only [w11]
  iterate 11 (rw [Below.heap_setCell _ _ _ _ hj])
theorem size_w11 (W : World) (g : Nat) (a b c d e f h i k l m : Value) : (w11 W g a b c d e f h i k l m).heap.size = W.heap.size := by simp only [w11, size_setCell]

/-- A task, where a block that holds a call has turned. -/
theorem TaskI.offL {W W' : World} {T kind n g : Nat} {l : List (Array Value)} {s : TS} {k t cap rank src mode fl : Int} {free : Bool} {words : Value} (h : TaskI W T kind n l s) (hT : g ≠ T) (ho : Own W g 41 (callC k t cap rank src mode fl free words))
    (hW : ∀ j, j ≠ g → W'.heap[j]? = W.heap[j]?) (hsz : W.heap.size ≤ W'.heap.size) (hon : OnceOK W' T l s.once) : TaskI W' T kind n l s := by
  have hcell : ∀ b o, b ≠ g → W'.cell? ⟨b, o, none⟩ = W.cell? ⟨b, o, none⟩ := fun b o hb => World.cell?_of_block (w := W) (hW b hb)
  refine ⟨(hW T (Ne.symm hT)).trans h.own, ?_, ?_, hon, ?_, h.pose, h.goal⟩
  · obtain ⟨A, c, hv, hn, hr⟩ := h.orders
    refine ⟨A, c, hv, hn, fun h0 => ?_⟩
    obtain ⟨b, t', m, f, x, y, hA, hb, hlt, hat, hg⟩ := hr h0
    have hbg : b ≠ g := by
      rintro rfl
      have h1 := (hat 0 h0).2.2.2
      rw [ho.cell] at h1
      exact absurd h1 (by simp [callC])
    refine ⟨b, t', m, f, x, y, hA, hb, Nat.lt_of_lt_of_le hlt hsz, fun i hi => ?_, hg⟩
    obtain ⟨h1, h2, h3, h4⟩ := hat i hi
    exact ⟨(hcell _ _ hbg).trans h1, (hcell _ _ hbg).trans h2, (hcell _ _ hbg).trans h3, (hcell _ _ hbg).trans h4⟩
  · obtain ⟨B, tt, hv, hB, hOB⟩ := h.table
    have hbg : B ≠ g := by
      rintro rfl
      unfold Own at hOB ho
      rw [hOB] at ho
      simp only [Option.some.injEq, Obj.cells.injEq] at ho
      have := congrArg Array.size ho.1
      have h3 := rows_le kind
      simp [callC] at this
      omega
    exact ⟨B, tt, hv, hB, (hW B hbg).trans hOB⟩
  · rcases h.hear with hv | ⟨B, q, hq, hv, hB, hOB⟩
    · exact .inl hv
    · have hbg : B ≠ g := by
        rintro rfl
        unfold Own at hOB ho
        rw [hOB] at ho
        simp at ho
      exact .inr ⟨B, q, hq, hv, hB, (hW B hbg).trans hOB⟩

theorem TaskI.off {W W' : World} {T kind n g : Nat} {s : TS} {k t cap rank src mode fl : Int} {free : Bool} {words : Value} (h : TaskI W T kind n [] s) (hT : g ≠ T) (ho : Own W g 41 (callC k t cap rank src mode fl free words))
    (hW : ∀ j, j ≠ g → W'.heap[j]? = W.heap[j]?) (hsz : W.heap.size ≤ W'.heap.size) : TaskI W' T kind n [] s := by
  refine h.offL hT ho hW hsz ?_
  obtain ⟨A, c, hv, hc, _⟩ := h.once
  exact ⟨A, c, hv, hc, fun h0 => absurd h0 (by simp)⟩

theorem TaskI.off11 {W : World} {T kind n g : Nat} {s : TS} {k t cap rank src mode fl : Int} {free : Bool} {words : Value} (h : TaskI W T kind n [] s) (hT : g ≠ T) (ho : Own W g 41 (callC k t cap rank src mode fl free words)) (a b c d e f i j p q r : Value) :
    TaskI (w11 W g a b c d e f i j p q r) T kind n [] s := h.off hT ho (fun x hx => heap_w11 W g x hx _ _ _ _ _ _ _ _ _ _ _) (Nat.le_of_eq (size_w11 _ _ _ _ _ _ _ _ _ _ _ _ _).symm)

/-- A task whose counters have turned. -/
theorem TaskI.nxt {W : World} {T kind n : Nat} {l : List (Array Value)} {s : TS} (h : TaskI W T kind n l s) (v : Int) : TaskI (W.setCell ⟨T, 4, none⟩ (.int .i64 v)) T kind n l { s with nxt := v } ∧ Chg T W (W.setCell ⟨T, 4, none⟩ (.int .i64 v)) := by
  have hc := (Chg.refl T W).setCell (p := ⟨T, 4, none⟩) (.inl rfl) (.int .i64 v)
  exact ⟨h.step hc (h.own.put 4 (.int .i64 v)) rfl rfl rfl (h.hear.chg hc) h.pose h.goal, hc⟩

theorem TaskI.wrap {W : World} {T kind n : Nat} {l : List (Array Value)} {s : TS} (h : TaskI W T kind n l s) (u v : Int) : TaskI ((W.setCell ⟨T, 2, none⟩ (.int .i64 u)).setCell ⟨T, 4, none⟩ (.int .i64 v)) T kind n l { s with turn := u, nxt := v } ∧
    Chg T W ((W.setCell ⟨T, 2, none⟩ (.int .i64 u)).setCell ⟨T, 4, none⟩ (.int .i64 v)) := by
  have hc := ((Chg.refl T W).setCell (p := ⟨T, 2, none⟩) (.inl rfl) (.int .i64 u)).setCell (p := ⟨T, 4, none⟩) (.inl rfl) (.int .i64 v)
  exact ⟨h.step hc ((h.own.put 2 (.int .i64 u)).put 4 (.int .i64 v)) rfl rfl rfl (h.hear.chg hc) h.pose h.goal, hc⟩

/-- What the call in Next's loop leaves as it was. -/
def NxS (w W0 : World) (T : Nat) (tb : Value) (nx : Int) (B i k : Nat) (W : World) : Prop :=
  W.cell? ⟨T, 3, none⟩ = some tb ∧ W.cell? ⟨T, 4, none⟩ = some (.int .i64 nx) ∧ W.cell? ⟨B, i, none⟩ = some (bound T k) ∧ B < W0.heap.size ∧ T < W0.heap.size ∧ W0.heap.size ≤ W.heap.size ∧ B ≠ T ∧ w.heap.size + 1 ≠ T ∧ w.heap.size + 1 < W0.heap.size ∧ Own W (w.heap.size + 1) 41 zero11 ∧ Chg T w W

theorem NxS.below {w W0 W W' : World} {T : Nat} {tb : Value} {nx : Int} {B i k : Nat} (h : NxS w W0 T tb nx B i k W) (hb : Below W.heap.size W W') : NxS w W0 T tb nx B i k W' := by
  obtain ⟨h1, h2, h3, lB, lT, l0, hBT, hRT, lR, ho, hc⟩ := h
  exact ⟨((bcell hb).1 T 3 (by omega)).trans h1, ((bcell hb).1 T 4 (by omega)).trans h2, ((bcell hb).1 B i (by omega)).trans h3, lB, lT, Nat.le_trans l0 hb.size, hBT, hRT, lR, ho.call hb, hc.below hb⟩
theorem NxS.drew {w W0 W : World} {T : Nat} {tb : Value} {nx : Int} {B i k : Nat} (h : NxS w W0 T tb nx B i k W) : NxS w W0 T tb nx B i k W.drew := h.below (Below.refl _ _).drew
theorem NxS.alloc {w W0 W : World} {T : Nat} {tb : Value} {nx : Int} {B i k : Nat} (h : NxS w W0 T tb nx B i k W) (o : Obj) : NxS w W0 T tb nx B i k (W.alloc o) := h.below ((Below.refl _ _).alloc (Nat.le_refl _) o)
theorem NxS.chg {w W0 W W' : World} {T kind n : Nat} {tb : Value} {nx : Int} {B i k : Nat} (h : NxS w W0 T tb nx B i k W) (hc' : Chg T W W') {s : TS} (hs : TaskI W' T kind n [] s) (e1 : s.tb = tb) (e2 : s.nxt = nx) : NxS w W0 T tb nx B i k W' := by
  subst e1 e2
  obtain ⟨_, _, _, c3, c4, _⟩ := row_cells hs.own
  obtain ⟨_, _, h3, lB, lT, l0, hBT, hRT, lR, ho, hc⟩ := h
  exact ⟨c3, c4, (hc'.cell i (by omega) hBT).trans h3, lB, lT, Nat.le_trans l0 hc'.size, hBT, hRT, lR, ho.chg hc' hRT, hc.trans hc'⟩
theorem NxS.off11 {w W0 W : World} {T : Nat} {tb : Value} {nx : Int} {B i k : Nat} (h : NxS w W0 T tb nx B i k W) {g : Nat} (hg : W0.heap.size ≤ g) (x0 x1 x2 x3 x4 x5 x6 x7 x8 x9 x10 : Value) : NxS w W0 T tb nx B i k (w11 W g x0 x1 x2 x3 x4 x5 x6 x7 x8 x9 x10) := by
  obtain ⟨h1, h2, h3, lB, lT, l0, hBT, hRT, lR, ho, hc⟩ := h
  have hcell : ∀ b o, b ≠ g → (w11 W g x0 x1 x2 x3 x4 x5 x6 x7 x8 x9 x10).cell? ⟨b, o, none⟩ = W.cell? ⟨b, o, none⟩ := fun b o hb => World.cell?_of_block (w := W) (heap_w11 W g b hb _ _ _ _ _ _ _ _ _ _ _)
  exact ⟨(hcell _ _ (by omega)).trans h1, (hcell _ _ (by omega)).trans h2, (hcell _ _ (by omega)).trans h3, lB, lT, by rw [size_w11]; exact l0, hBT, hRT, lR, ho.far11 (by omega) _ _ _ _ _ _ _ _ _ _ _, hc.put11 (by have := hc.size; omega) _ _ _ _ _ _ _ _ _ _ _⟩

/-- What the call in Next's loop has told, in its block. -/
def NxP (w : World) (T kind n : Nat) (s : TS) (k : Nat) (u v : Value) (W : World) : Prop :=
  ∃ (g : Nat) (q t cap rank src mode fl : Int) (free : Bool) (pA : Option Addr) (pn pc : Nat) (b : Bool) (s2 : TS), u = .pointer (some ⟨g, 0, none⟩) ∧ v = .bool b ∧ Row k n s (callC q t cap rank src mode fl free (.slice pA pn pc)) b s2 ∧ w.heap.size + 1 < g ∧ g ≠ T ∧
    Own W g 41 (callC q t cap rank src mode fl free (.slice pA pn pc)) ∧ TaskI W T kind n [] s2 ∧ Chg T w W ∧ Own W (w.heap.size + 1) 41 zero11

/-- The call of a row, as the walk meets it. -/
def StepQ (k T kind n : Nat) (s : TS) (w : World) (e : Ending) (w' : World) : Prop :=
  ∃ (q t cap rank src mode fl : Int) (free : Bool) (pA : Option Addr) (pn pc : Nat) (b : Bool) (s' : TS), e = .returned (.tuple #[.agg #[.int .i64 q, .int .i64 t, .int .i64 0, .int .i64 cap, .int .i64 rank, .int .i64 src, .int .i64 mode, .int .i64 fl, .bool free, .slice none 0 0, .slice pA pn pc], .bool b]) ∧ Row k n s (callC q t cap rank src mode fl free (.slice pA pn pc)) b s' ∧ TaskI w' T kind n [] s' ∧ Chg T w w'

theorem step_q (T kind n i k : Nat) (hk : (rowsOf kind)[i]? = some k) (s : TS) (w : World) (h : TaskI w T kind n [] s) : Calls Tryd.prog k #[.pointer (some ⟨T, 0, none⟩)] w (StepQ k T kind n s w) := by
  refine (step_ok T kind n i k hk [] s w h).mono ?_
  rintro e w' ⟨c, b, s', rfl, hr, hT, hC⟩
  obtain ⟨q, t, cap, rank, src, mode, fl, free, pA, pn, pc, rfl⟩ := hr.1.shape
  exact ⟨q, t, cap, rank, src, mode, fl, free, pA, pn, pc, b, s', rfl, hr, hT, hC⟩

theorem wrap_loop {w W : World} {T kind n : Nat} {s0 s1 : TS} (h : LoopS w T kind n s0 s1 W) (lT : T < w.heap.size) (hd : s1.turn < s1.turns) (hn : s1.nxt = (rowsOf kind).length) (m : Nat) (v : Int) (hv : v = s1.turn + 1) :
    LoopS w T kind n s0 { s1 with turn := v, nxt := 0 } (((W.drewN m).setCell ⟨T, 2, none⟩ (.int .i64 v)).setCell ⟨T, 4, none⟩ (.int .i64 0)) ∧
    loopM T s1.turns (((W.drewN m).setCell ⟨T, 2, none⟩ (.int .i64 v)).setCell ⟨T, 4, none⟩ (.int .i64 0)) < loopM T s1.turns W := by
  subst hv
  obtain ⟨hT, hC, hO, hR, hA⟩ := h
  obtain ⟨hT', hC'⟩ := (hT.below (below_drewN (Below.refl _ W) m)).wrap (s1.turn + 1) 0
  have hlen := rows_le kind
  obtain ⟨r1, r2, r3, r4, r5⟩ := hR
  refine ⟨⟨hT', (hC.below (below_drewN (Below.refl _ W) m)).trans hC', (hO.call (below_drewN (Below.refl _ W) m)).chg hC' (by omega), ⟨?_, ?_, r3, ?_, ?_⟩, fun c b s' ha => hA c b s' (.wrap s1 s' c b hd hn ha)⟩, ?_⟩
  · show 0 ≤ s1.turn + 1; omega
  · show s1.turn + 1 ≤ s1.turns; omega
  · show (0 : Int) ≤ 0; omega
  · show (0 : Int) ≤ _; omega
  · rw [loopM_of hT', loopM_of hT]
    show (s1.turns - (s1.turn + 1)).toNat * 5 + ((3 : Int) - 0).toNat < _
    omega

theorem skip_loop {w W W2 : World} {T kind n i k : Nat} {s0 s1 s2 : TS} {c : Array Value} (h : LoopS w T kind n s0 s1 W) (lT : T < w.heap.size) (hd : s1.turn < s1.turns) (hi : s1.nxt = i) (hk : (rowsOf kind)[i]? = some k) (hr : Row k n s1 c false s2)
    (hT2 : TaskI W2 T kind n [] s2) (hC2 : Chg T w W2) (hO2 : Own W2 (w.heap.size + 1) 41 zero11) (v : Int) (hv : v = i + 1) :
    LoopS w T kind n s0 { s2 with nxt := v } (W2.setCell ⟨T, 4, none⟩ (.int .i64 v)) ∧ loopM T s1.turns (W2.setCell ⟨T, 4, none⟩ (.int .i64 v)) < loopM T s1.turns W := by
  have hv' : v = s1.nxt + 1 := by omega
  obtain ⟨hT, hC, hO, hR, hA⟩ := h
  obtain ⟨hT', hC'⟩ := hT2.nxt v
  have hlen := rows_le kind
  have hil : i < (rowsOf kind).length := (List.getElem?_eq_some_iff.1 hk).1
  obtain ⟨r1, r2, r3, r4, r5⟩ := hR
  have e1 := hr.2.1
  have e2 := hr.2.2.1
  refine ⟨⟨hT', hC2.trans hC', hO2.chg hC' (by omega), ⟨?_, ?_, ?_, ?_, ?_⟩, fun c' b s' ha => hA c' b s' ?_⟩, ?_⟩
  · show 0 ≤ s2.turn; omega
  · show s2.turn ≤ s2.turns; omega
  · show s2.turns ≤ 1000; omega
  · show 0 ≤ v; omega
  · show v ≤ _; omega
  · rw [hv'] at ha
    exact .skip s1 s2 s' c c' b i k hd hi hk hr ha
  · rw [loopM_of hT', loopM_of hT]
    show (s1.turns - s2.turn).toNat * 5 + (3 - v).toNat < _
    omega

theorem hear_b {W : World} {T : Nat} {v : Value} (h : HearOK W T v) : ∃ b : Bool, (∀ w, (eqGuard .neq 66 (.tmp 15) (.const .nilFunc) v .nilFunc).run Tryd.prog w = .ok () w) ∧ (∀ w, (binOp .neq 66 v .nilFunc).run Tryd.prog w = .ok (.bool b) w) ∧
    ((b = false ∧ v = .nilFunc) ∨ (b = true ∧ ∃ B k, (k = 34 ∨ k = 41 ∨ k = 42) ∧ v = closure k B ∧ B ≠ T ∧ Own W B 28 #[.pointer (some ⟨T, 0, none⟩)])) := by
  rcases h with rfl | ⟨B, k, hk, rfl, hB, hO⟩
  · exact ⟨false, fun _ => by kernel_rfl, fun _ => by kernel_rfl, .inl ⟨rfl, rfl⟩⟩
  · exact ⟨true, fun _ => by kernel_rfl, fun _ => by kernel_rfl, .inr ⟨rfl, B, k, hk, rfl, hB, hO⟩⟩

theorem TaskI.unhear {W : World} {T kind n : Nat} {l : List (Array Value)} {s : TS} (h : TaskI W T kind n l s) : TaskI (W.setCell ⟨T, 6, none⟩ .nilFunc) T kind n l { s with hear := .nilFunc } ∧ Chg T W (W.setCell ⟨T, 6, none⟩ .nilFunc) := by
  have hc := (Chg.refl T W).setCell (p := ⟨T, 6, none⟩) (.inl rfl) .nilFunc
  exact ⟨h.step hc (h.own.put 6 .nilFunc) rfl rfl rfl (.inl rfl) h.pose h.goal, hc⟩

theorem HeardR.rng {k kind : Nat} {a : AS} {s s' : TS} (h : HeardR k a s s') (hr : Rng kind s) : Rng kind { s' with hear := .nilFunc } := by
  obtain ⟨_, h1, h2, _, h3, _⟩ := h
  obtain ⟨r1, r2, r3, r4, r5⟩ := hr
  refine ⟨?_, ?_, ?_, ?_, ?_⟩
  · show 0 ≤ s'.turn; omega
  · show s'.turn ≤ s'.turns; omega
  · show s'.turns ≤ 1000; omega
  · show 0 ≤ s'.nxt; omega
  · show s'.nxt ≤ _; omega

theorem Heard.once {a : AS} {s s' : TS} (h : Heard a s s') : s'.once = s.once := by
  rcases h with ⟨_, rfl⟩ | ⟨B, k, s1, _, hr, rfl⟩
  · rfl
  · exact hr.2.2.2.2.2.1

theorem cell_w11 (W : World) (g b o : Nat) (hb : b ≠ g) (x0 x1 x2 x3 x4 x5 x6 x7 x8 x9 x10 : Value) : (w11 W g x0 x1 x2 x3 x4 x5 x6 x7 x8 x9 x10).cell? ⟨b, o, none⟩ = W.cell? ⟨b, o, none⟩ :=
  World.cell?_of_block (w := W) (heap_w11 W g b hb _ _ _ _ _ _ _ _ _ _ _)

theorem TaskI.off11L {W : World} {T kind n g : Nat} {l : List (Array Value)} {s : TS} {k t cap rank src mode fl : Int} {free : Bool} {words : Value} (h : TaskI W T kind n l s) (hT : g ≠ T) (ho : Own W g 41 (callC k t cap rank src mode fl free words)) (x0 x1 x2 x3 x4 x5 x6 x7 x8 x9 x10 : Value)
    (hon : OnceOK (w11 W g x0 x1 x2 x3 x4 x5 x6 x7 x8 x9 x10) T l s.once) : TaskI (w11 W g x0 x1 x2 x3 x4 x5 x6 x7 x8 x9 x10) T kind n l s :=
  h.offL hT ho (fun x hx => heap_w11 W g x hx _ _ _ _ _ _ _ _ _ _ _) (Nat.le_of_eq (size_w11 _ _ _ _ _ _ _ _ _ _ _ _ _).symm) hon

theorem once_end {w W : World} {T kind n b off cc : Nat} {c : Array Value} {l : List (Array Value)} {s : TS} (h : TaskI W T kind n (c :: l) s) (hO : Own W (w.heap.size + 1) 41 zero11) (hC : Chg T w W) (lT : T < w.heap.size) (hbw : b < w.heap.size) (hbT : b ≠ T)
    (hcell : ∀ i, i < (c :: l).length → ∀ j, j < 11 → W.cell? ⟨b, off + i * 11 + j, none⟩ = ((c :: l).getD i #[])[j]?) (A : Option Addr) (hcap : l.length ≤ cc) (hA : 0 < l.length → A = some ⟨b, off + 11, none⟩) (x0 x1 x2 x3 x4 x5 x6 x7 x8 x9 x10 : Value) (o : Obj) :
    TaskI ((w11 (W.setCell ⟨T, 5, none⟩ (.slice A l.length cc)) (w.heap.size + 1) x0 x1 x2 x3 x4 x5 x6 x7 x8 x9 x10).alloc o) T kind n l { s with once := .slice A l.length cc } ∧
    Chg T w ((w11 (W.setCell ⟨T, 5, none⟩ (.slice A l.length cc)) (w.heap.size + 1) x0 x1 x2 x3 x4 x5 x6 x7 x8 x9 x10).alloc o) := by
  have hc := (Chg.refl T W).setCell (p := ⟨T, 5, none⟩) (.inl rfl) (.slice A l.length cc)
  have hRT : w.heap.size + 1 ≠ T := by omega
  have hbR : b ≠ w.heap.size + 1 := by omega
  have hbs : b < W.heap.size := Nat.lt_of_lt_of_le hbw hC.size
  have hon : ∀ W' : World, W.heap.size ≤ W'.heap.size → (∀ o, W'.cell? ⟨b, o, none⟩ = W.cell? ⟨b, o, none⟩) → OnceOK W' T l (.slice A l.length cc) := fun W' hsz hk =>
    ⟨A, cc, rfl, hcap, fun h0 => ⟨b, off + 11, hA h0, hbT, by omega, fun i hi j hj => by
      have := hcell (i + 1) (by simp; omega) j hj
      rw [hk, show off + 11 + i * 11 + j = off + (i + 1) * 11 + j by omega, this]
      simp⟩⟩
  have h1 : TaskI (W.setCell ⟨T, 5, none⟩ (.slice A l.length cc)) T kind n l { s with once := .slice A l.length cc } :=
    ⟨h.own.put 5 (.slice A l.length cc), h.orders.chg hc, h.table.chg hc, hon _ (by rw [size_setCell]; exact Nat.le_refl _) (fun o => hc.cell o hbs hbT), h.hear.chg hc, h.pose, h.goal⟩
  have hO1 : Own (W.setCell ⟨T, 5, none⟩ (.slice A l.length cc)) (w.heap.size + 1) 41 (callC 0 0 0 0 0 0 0 false (.slice none 0 0)) := hO.far hRT _
  have hk1 : ∀ o, (W.setCell ⟨T, 5, none⟩ (.slice A l.length cc)).cell? ⟨b, o, none⟩ = W.cell? ⟨b, o, none⟩ := fun o => hc.cell o hbs hbT
  have hz1 : W.heap.size ≤ (W.setCell ⟨T, 5, none⟩ (.slice A l.length cc)).heap.size := hc.size
  have hc1 := hC.trans hc
  generalize W.setCell ⟨T, 5, none⟩ (.slice A l.length cc) = W1 at h1 hO1 hk1 hz1 hc1 ⊢
  refine alloc_end ⟨h1.off11L hRT hO1 _ _ _ _ _ _ _ _ _ _ _ (hon _ ?_ ?_), hc1.put11 (by omega) _ _ _ _ _ _ _ _ _ _ _⟩ o
  · rw [size_w11]; exact hz1
  · intro o
    rw [cell_w11 _ _ _ _ hbR]
    exact hk1 o

/-- The cells of an answer's box. -/
theorem Own.d12 {w : World} {g : Nat} {t : TypeId} {a b c d e f h i j k l m : Value} (o : Own w g t #[a, b, c, d, e, f, h, i, j, k, l, m]) :
    w.cell? ⟨g, 0, none⟩ = some a ∧ w.cell? ⟨g, 1, none⟩ = some b ∧ w.cell? ⟨g, 2, none⟩ = some c ∧ w.cell? ⟨g, 3, none⟩ = some d ∧ w.cell? ⟨g, 4, none⟩ = some e ∧ w.cell? ⟨g, 5, none⟩ = some f ∧ w.cell? ⟨g, 6, none⟩ = some h ∧ w.cell? ⟨g, 7, none⟩ = some i ∧ w.cell? ⟨g, 8, none⟩ = some j ∧ w.cell? ⟨g, 9, none⟩ = some k ∧ w.cell? ⟨g, 10, none⟩ = some l ∧ w.cell? ⟨g, 11, none⟩ = some m :=
  ⟨o.cell 0, o.cell 1, o.cell 2, o.cell 3, o.cell 4, o.cell 5, o.cell 6, o.cell 7, o.cell 8, o.cell 9, o.cell 10, o.cell 11⟩

/-- What Next knows behind what is heard. -/
def HdP (w : World) (T kind n : Nat) (l : List (Array Value)) (a : AS) (s : TS) (W : World) : Prop :=
  ∃ s1, Heard a s s1 ∧ TaskI W T kind n l s1 ∧ Chg T w W ∧ Own W (w.heap.size + 1) 41 zero11 ∧ Rng kind s1 ∧ s1.turns = s.turns

theorem enter_h {k : Nat} (h : k = 34 ∨ k = 41 ∨ k = 42) (args : Array Value) (w : World) : (callFunc k args).run Tryd.prog w = .ok (.enter k args) w := by
  rcases h with rfl | rfl | rfl <;> kernel_rfl

set_option maxRecDepth 20000 in
set_option maxHeartbeats 3200000 in


theorem next_any (T kind n : Nat) (l : List (Array Value)) (a : AS) (s : TS) (w : World) (h : TaskI w T kind n l s) (hr : Rng kind s) (hwd : Words w a.words) (hl : ∀ c ∈ l, CallOK c) : Calls Tryd.prog 7 #[.pointer (some ⟨T, 0, none⟩), .agg a.row] w (NextPost T kind n l a s w) := by
  have HT := Lib.hid h
  have HR := Lib.hid hr
  have HWD := Lib.hid hwd
  have HL := Lib.hid hl
  have lT := h.lt
  obtain ⟨c0, c1, c2, c3, c4, c5, c6, _⟩ := row_cells h.own
  have f6 := h.own.free 6
  have f5 := h.own.free 5
  clear h hr hwd hl
  go_enter Tryd.func7, Tryd.ntmps7
  simp only [AS.row]
  go_wp2_with fail
  refine scope_pass 0 (fun f W => LoopJ w T kind n l a s f W) (fun _ W => loopM T s.turns W) rfl ?_ ?_
  · clear c0 c1 c2 c3 c4 c5 c6 f6 f5
    rintro f W ⟨hf, rfl, s0, s1, hh, ⟨hT, hC, hO, hR, hA⟩, htn⟩
    refine frame_cases (P := fun f => Code.wp _ _ (Exit.jump 0 (fun a' w' => LoopJ w T kind n [] a s a' w' ∧ loopM T s.turns w' < loopM T s.turns W) _) f W) ?_ hf
    intro u2 u6 u7 u8 u9 u10 u11 u12 u13 u14 u15 u16 u17 u18 u19 u20 u21 u22 u23 u24 u25 u26 u27 u28 u29 u30 u31 u32 u33 u34 u35 u36 u37 u38 u39 u40 u41 u42 u43 u44 u45 u46 u47 u48 u49 u50 u51 u52 u53 u54 u55 u56 u57 u58 u59 u60 u61 u62 u63 u64 u65 u66 u67 u68 u69 u70 u71 u72 u73 u74 u75 u76 u77 u78 u79 u80 u81 u82 u83 u84 u85 u86 u87 u88 u89 u90 u91 u92 u93 u94 u95 u96 u97 u98 u99 u100 u101
    clear hf
    have HH := Lib.hid hh
    have HS := Lib.hid hT
    have HC := Lib.hid hC
    have HO := Lib.hid hO
    have HR1 := Lib.hid hR
    have HA := Lib.hid hA
    have HTN := Lib.hid htn
    obtain ⟨c0, c1, c2, c3, c4, c5, c6, _⟩ := row_cells hT.own
    have k2 := hT.own.free 2
    have k4 := hT.own.free 4
    have lW := hT.lt
    have hRT : w.heap.size + 1 ≠ T := by omega
    clear hh hT hC hO hR hA htn
    simp only [jumpF]
    by_cases hd : s1.turn < s1.turns
    · have b0 : 0 ≤ s1.turn := HR1.out.1
      have b1 : s1.turn < 1000 := by have := HR1.out.2.2.1; omega
      obtain ⟨B, tt, htb, hBT, hOB⟩ := HS.out.table
      have HTB := Lib.hid htb
      rw [htb] at c3
      have lB := hOB.lt
      have HOB := Lib.hid hOB
      clear htb hOB
      go_wp2_with fail
      go_quiet (fail)
      go_wp2_with fail
      by_cases hn : s1.nxt = (rowsOf kind).length
      · have HNN := Lib.hid hn
        rw [hn] at c4
        clear hn
        go_quiet (fail)
        go_wp2_with fail
        go_step3
        have HW := fun m => wrap_loop ⟨HS.out, HC.out, HO.out, HR1.out, HA.out⟩ lT hd HNN.out m _ rfl
        rw [HTN.out] at HW
        exact ⟨rfl, ⟨⟨_, _, _, _, _, _, _, _, _, _, _, _, _, _, _, _, _, _, _, _, _, _, _, _, _, _, _, _, _, _, _, _, _, _, _, _, _, _, _, _, _, _, _, _, _, _, _, _, _, _, _, _, _, _, _, _, _, _, _, _, _, _, _, _, _, _, _, _, _, _, _, _, _, _, _, _, _, _, _, _, _, _, _, _, _, _, _, _, _, _, _, _, _, _, _, _, _, rfl⟩, rfl, s0, _, HH.out, (HW _).1, rfl⟩, (HW _).2⟩
      · have b2 : 0 ≤ s1.nxt := HR1.out.2.2.2.1
        have hlen := rows_le kind
        obtain ⟨i, hi⟩ : ∃ i : Nat, s1.nxt = i := ⟨s1.nxt.toNat, by omega⟩
        have hil : i < (rowsOf kind).length := by have := HR1.out.2.2.2.2; omega
        have hnb : ((i : Int) == ((rowsOf kind).length : Int)) = false := by rw [← hi]; simpa using hn
        have HI := Lib.hid hi
        rw [hi] at c4
        have i0 : (0 : Int) ≤ (i : Int) := by omega
        have i1 : (i : Int) < ((rowsOf kind).length : Int) := by omega
        clear hi hn
        go_quiet (fail)
        go_wp2_with fail
        obtain ⟨k, hk⟩ : ∃ k, (rowsOf kind)[i]? = some k := ⟨_, List.getElem?_eq_getElem hil⟩
        have hcB : W.cell? ⟨B, i, none⟩ = some (bound T k) := by rw [HOB.out.cell]; simp [hk]
        have HK := Lib.hid hk
        have HNX := Lib.hid (show NxS w W T _ (i : Int) B i k W from ⟨c3, c4, hcB, lB, lW, Nat.le_refl _, hBT, hRT, HO.out.lt, HO.out, HC.out⟩)
        have HNY := Lib.hid (fun a => HNX.out.below (below_drewN (Below.refl _ W) a))
        have HN0 := Lib.hid (fun a b => (HNX.out.below (below_drewN (below_drewN (Below.refl _ W) a) b)).drew)
        have hWT : W.heap.size ≠ T := by omega
        have HBA := Lib.hid (fun (m : Nat) (o : Obj) => (show Below W.heap.size W ((W.drewN m).alloc o) from (below_drewN (Below.refl _ W) m).alloc (Nat.le_refl _) o))
        clear hk HNX
        go_cut [7, 8] (fun s7 s8 wx => NxP w T kind n s1 k s7 s8 wx)
        case first =>
          have HTQ := Lib.hid (fun W' (hb : Below W.heap.size W W') => step_q T kind n i k HK.out s1 W' (HS.out.below hb))
          have hcf : ∀ args w, (callFunc k args).run Tryd.prog w = .ok (.enter k args) w := enter_k HK.out
          go_region_held3 (fun W' => W'.cell? ⟨T, 3, none⟩ = some (.slice (some ⟨B, 0, none⟩) (rowsOf kind).length (rowsOf kind).length) ∧ W'.cell? ⟨T, 4, none⟩ = some (.int .i64 (i : Int)) ∧ W'.cell? ⟨B, i, none⟩ = some (.func (.func k) #[.pointer (some ⟨T, 0, none⟩)] #[]) ∧ B < W.heap.size ∧ T < W.heap.size ∧ W.heap.size ≤ W'.heap.size ∧ B ≠ T ∧ w.heap.size + 1 ≠ T ∧ w.heap.size + 1 < W.heap.size ∧ Own W' (w.heap.size + 1) 41 zero11 ∧ Chg T w W')
            (first | (with_reducible assumption) | (show NxS w W T (.slice (some ⟨B, 0, none⟩) (rowsOf kind).length (rowsOf kind).length) (i : Int) B i k _; first | with_reducible exact HNY.out _ | with_reducible exact NxS.alloc (HNY.out _) _ | with_reducible exact HNC.out | with_reducible exact NxS.alloc HNC.out _ | with_reducible exact NxS.off11 HNC.out (Nat.le_refl _) _ _ _ _ _ _ _ _ _ _ _ | with_reducible exact HN0.out _ _))
            (first
              | ((with_reducible refine (HTQ.out _ ?_).mono ?_); (with_reducible exact below_drewN (Below.refl _ W) _); rintro e w' ⟨q, t, cap, rank, src, mode, fl, free, pA, pn, pc, b, s2, rfl, hr2, hT2, hC2⟩; have HNC := Lib.hid (NxS.chg (HNY.out _) hC2 hT2 (hr2.2.2.2.1.2.trans HTB.out) (hr2.2.2.2.1.1.trans HI.out)))
              | ((with_reducible refine (HTQ.out _ ?_).mono ?_); (with_reducible exact HBA.out _ _); rintro e w' ⟨q, t, cap, rank, src, mode, fl, free, pA, pn, pc, b, s2, rfl, hr2, hT2, hC2⟩; have HNC := Lib.hid (NxS.chg ((HNY.out _).alloc _) hC2 hT2 (hr2.2.2.2.1.2.trans HTB.out) (hr2.2.2.2.1.1.trans HI.out)); have HOG := Lib.hid (show Own w' W.heap.size 41 zero11 from (Own.new (W.drewN _) 41 zero11).chg hC2 hWT); obtain ⟨⟨d0, d1, d2, d3, d4, d5, d6, d7, d8, d9, d10⟩, f0, f1, f2, f3, f4, f5, f6, f7, f8, f9, f10⟩ := emptyC HOG.out; have lg := HOG.out.lt))
          all_goals
            rename_i hH
            clear hH
            obtain ⟨_, _, _, _, _, hsz, _, _, hlR, hoR, hcR⟩ := HNC.out
            have HQ := Lib.hid (And.intro hoR (And.intro hcR (And.intro hr2 (And.intro hT2 hC2))))
            clear hoR hcR hr2 hT2 hC2 hcf
            go_wp2_with fail
            go_meet
            case rel =>
              first
              | (have hog := HOG.out; exact ⟨W.heap.size, q, t, cap, rank, src, mode, fl, free, pA, pn, pc, b, s2, rfl, rfl, HQ.out.2.2.1, hlR, hWT, Own.putZ hog, HQ.out.2.2.2.1.off11 hWT (show Own w' W.heap.size 41 (callC 0 0 0 0 0 0 0 false (.slice none 0 0)) from hog) _ _ _ _ _ _ _ _ _ _ _, HQ.out.2.1.put11 (by omega) _ _ _ _ _ _ _ _ _ _ _, HQ.out.1.far11 (by omega) _ _ _ _ _ _ _ _ _ _ _⟩)
              | exact ⟨w'.heap.size, q, t, cap, rank, src, mode, fl, free, pA, pn, pc, b, s2, rfl, rfl, HQ.out.2.2.1, by omega, by omega, Own.new w' 41 _, HQ.out.2.2.2.1.below ((Below.refl _ _).alloc (Nat.le_refl _) _), HQ.out.2.1.alloc _, HQ.out.1.alloc _⟩
        case rest =>
          obtain ⟨g, q, t, cap, rank, src, mode, fl, free, pA, pn, pc, b, s2, rfl, rfl, hr2, hg1, hg2, hog, hT2, hC2, hO2⟩ := hcut
          clear c0 c1 c2 c3 c4 c5 c6 k2 k4 hcB
          obtain ⟨_, _, _, _, c4, _⟩ := row_cells hT2.own
          rw [hr2.2.2.2.1.1.trans HI.out] at c4
          have k4 := hT2.own.free 4
          obtain ⟨e0, e1, e2, e3, e4, e5, e6, e7, e8, e9, e10⟩ := cellsC hog
          obtain ⟨⟨d0, d1, d2, d3, d4, d5, d6, d7, d8, d9, d10⟩, f0, f1, f2, f3, f4, f5, f6, f7, f8, f9, f10⟩ := emptyC hO2
          have lg := hog.lt
          have lT2 := hT2.lt
          have lR2 := hO2.lt
          have hRT' := Ne.symm hRT
          have hgR : g ≠ w.heap.size + 1 := by omega
          have HR2 := Lib.hid hr2
          have HT2 := Lib.hid hT2
          have HC2 := Lib.hid hC2
          have HO2 := Lib.hid hO2
          clear hr2 hT2 hC2 hO2 hog
          cases b
          · go_wp2_with fail
            go_step3
            have HW := skip_loop ⟨HS.out, HC.out, HO.out, HR1.out, HA.out⟩ lT hd HI.out HK.out HR2.out HT2.out HC2.out HO2.out _ rfl
            rw [HTN.out] at HW
            exact ⟨rfl, ⟨⟨_, _, _, _, _, _, _, _, _, _, _, _, _, _, _, _, _, _, _, _, _, _, _, _, _, _, _, _, _, _, _, _, _, _, _, _, _, _, _, _, _, _, _, _, _, _, _, _, _, _, _, _, _, _, _, _, _, _, _, _, _, _, _, _, _, _, _, _, _, _, _, _, _, _, _, _, _, _, _, _, _, _, _, _, _, _, _, _, _, _, _, _, _, _, _, _, _, rfl⟩, rfl, s0, _, HH.out, HW.1, HR2.out.2.1.trans HTN.out⟩, HW.2⟩
          · go_wp2_with fail
            simp only [Exit.jump]
            have hO3 := HO2.out.far (p := ⟨T, 4, none⟩) hRT (.int .i64 ((i : Int) + 1))
            have hy := Again.yield s1 s2 _ i k hd HI.out HK.out HR2.out
            rw [HI.out] at hy
            obtain ⟨d0, d1, d2, d3, d4, d5, d6, d7, d8, d9, d10⟩ := cellsC (putC q t cap rank src mode fl free (.slice pA pn pc) hO3)
            exact bodyPost_ret (v := .tuple #[.agg (callC q t cap rank src mode fl free (.slice pA pn pc)), .bool true]) (by simp [results, Tryd.results7, go_sem, callC, d0, d1, d2, d3, d4, d5, d6, d7, d8, d9, d10]) rfl
              ⟨_, true, [], { s2 with nxt := (i : Int) + 1 }, rfl, ⟨s0, HH.out, .inr ⟨rfl, rfl, HA.out _ _ _ hy⟩⟩, (HT2.out.nxt ((i : Int) + 1)).1.off11 hRT (show Own _ (w.heap.size + 1) 41 (callC 0 0 0 0 0 0 0 false (.slice none 0 0)) from hO3) _ _ _ _ _ _ _ _ _ _ _, (HC2.out.trans (HT2.out.nxt ((i : Int) + 1)).2).put11 (by omega) _ _ _ _ _ _ _ _ _ _ _⟩
    · obtain ⟨⟨d0, d1, d2, d3, d4, d5, d6, d7, d8, d9, d10⟩, f0, f1, f2, f3, f4, f5, f6, f7, f8, f9, f10⟩ := emptyC HO.out
      have lR := HO.out.lt
      go_wp2_with fail
      go_quiet (fail)
      go_wp2_with fail
      simp only [Exit.jump]
      obtain ⟨d0, d1, d2, d3, d4, d5, d6, d7, d8, d9, d10⟩ := cellsC (putC 0 0 0 0 0 0 0 false (.slice none 0 0) (HO.out.drewN nq))
      exact bodyPost_ret (v := .tuple #[.agg zero11, .bool false]) (by simp [results, Tryd.results7, go_sem, zero11, d0, d1, d2, d3, d4, d5, d6, d7, d8, d9, d10]) rfl
        ⟨zero11, false, [], s1, rfl, ⟨s0, HH.out, .inr ⟨rfl, rfl, HA.out _ _ _ (.done s1 hd)⟩⟩, (HS.out.below (below_drewN (Below.refl _ W) nq)).off11 hRT (show Own (W.drewN nq) (w.heap.size + 1) 41 (callC 0 0 0 0 0 0 0 false (.slice none 0 0)) from HO.out.drewN nq) _ _ _ _ _ _ _ _ _ _ _, (HC.out.below (below_drewN (Below.refl _ W) nq)).put11 (by omega) _ _ _ _ _ _ _ _ _ _ _⟩
  · intro HN
    obtain ⟨b, hq1, hq2, hq3⟩ := hear_b HT.out.hear
    have HQ := Lib.hid hq3
    clear hq3
    go_upto_if 16 with fail
    clear hq1 hq2
    go_cut [] (fun wx => HdP w T kind n l a s wx)
    case first =>
      rcases HQ.out with ⟨rfl, hh⟩ | ⟨rfl, B, k, hk, hv, hB, hOB⟩
      · have HHN := Lib.hid hh
        clear hh
        go_wp2_with fail
        go_meet
        case rel => exact ⟨s, .inl ⟨HHN.out, rfl⟩, HT.out.below (((Below.refl _ _).alloc (Nat.le_refl _) _).alloc (by simp) _), ((Chg.refl T w).alloc _).alloc _, own_second w (.cells a.row 38) 41 zero11, HR.out, rfl⟩
      · have HV := Lib.hid hv
        have HB0 := Lib.hid (show Below w.heap.size w ((w.alloc (.cells a.row 38)).alloc (.cells zero11 41)) from ((Below.refl _ _).alloc (Nat.le_refl _) _).alloc (by simp) _)
        obtain ⟨W1, hW1⟩ : ∃ W1 : World, W1 = (w.alloc (.cells a.row 38)).alloc (.cells zero11 41) := ⟨_, rfl⟩
        have HF := Lib.hid (show Own W1 w.heap.size 38 a.row ∧ TaskI W1 T kind n l s ∧ Chg T w W1 ∧ Own W1 (w.heap.size + 1) 41 zero11 ∧ Own W1 B 28 #[.pointer (some ⟨T, 0, none⟩)] ∧ Words W1 a.words from by
          subst hW1
          exact ⟨(Own.new w 38 a.row).alloc _, HT.out.below HB0.out, .of_below HB0.out, own_second w (.cells a.row 38) 41 zero11, hOB.call HB0.out, HWD.out.below HB0.out⟩)
        have HK := Lib.hid hk
        have hcf := enter_h hk
        clear hOB hk
        go_wp2_with fail
        change Code.wp _ _ _ _ ((w.alloc (.cells a.row 38)).alloc (.cells zero11 41))
        rw [← hW1]
        clear hW1 c0 c1 c2 c3 c4 c5 c6 f5 f6 HB0
        obtain ⟨_, _, _, _, _, _, e6, _⟩ := row_cells HF.out.2.1.own
        rw [hv] at e6
        simp only [closure] at e6
        obtain ⟨m0, m1, m2, m3, m4, m5, m6, m7, m8, m9, m10, m11⟩ := (show Own W1 w.heap.size 38 #[_, _, _, _, _, _, _, _, _, _, _, _] from HF.out.1).d12
        have lT1 := HF.out.2.1.lt
        have lB1 := HF.out.1.lt
        clear hv
        go_still_tail 5, (by kernel_rfl)
        repeat still_step
        change wpList _ _ _ _ _ W1.drew
        have HCL := Lib.hid (hear_ok T kind n B k l s a W1.drew HK.out (HF.out.2.1.below (Below.refl _ _).drew) HF.out.2.2.2.2.1.drew (HF.out.2.2.2.2.2.below (Below.refl _ _).drew))
        have HF2 := Lib.hid (And.intro (HF.out.2.2.1.drew) HF.out.2.2.2.1.drew)
        generalize W1.drew = W2 at HCL HF2 ⊢
        go_wp2_with fail
        refine HCL.out.mono ?_
        rintro e w2 ⟨s1, rfl, hr1, hT1, hC1⟩
        have hRT : w.heap.size + 1 ≠ T := by omega
        have HR1 := Lib.hid (And.intro hr1 (And.intro hT1 hC1))
        clear m0 m1 m2 m3 m4 m5 m6 m7 m8 m9 m10 m11 e6 lT1 lB1
        obtain ⟨_, _, _, _, _, _, e6, _⟩ := row_cells hT1.own
        have k6 := hT1.own.free 6
        have lT1 := hT1.lt
        clear hr1 hT1 hC1 hcf
        go_wp2_with fail
        go_meet
        case rel => exact ⟨{ s1 with hear := .nilFunc }, .inr ⟨B, k, s1, HV.out, HR1.out.1, rfl⟩, HR1.out.2.1.unhear.1, (HF2.out.1.trans HR1.out.2.2).trans HR1.out.2.1.unhear.2, (HF2.out.2.chg HR1.out.2.2 hRT).far hRT _, HR1.out.1.rng HR.out, HR1.out.1.2.1⟩
    case rest =>
      obtain ⟨s1, hh, hT1, hC1, hO1, hR1, htn⟩ := hcut
      have HH := Lib.hid hh
      have HX := Lib.hid (And.intro hT1 (And.intro hC1 (And.intro hO1 (And.intro hR1 htn))))
      obtain ⟨_, _, _, _, _, e5, _⟩ := row_cells hT1.own
      obtain ⟨A, cc, ho, hcc, hat⟩ := hT1.once
      have HOV := Lib.hid ho
      have HAT := Lib.hid hat
      rw [ho] at e5
      have k5 := hT1.own.free 5
      have lT1 := hT1.lt
      have hRT : w.heap.size + 1 ≠ T := by omega
      clear hh hT1 hC1 hO1 hR1 htn ho hat
      cases l with
      | nil =>
        simp only [List.length_nil] at e5
        go_wp2_with fail
        rename_i hK
        exact wp_label (hK _ _ (HN.out _ _ ⟨⟨_, _, _, _, _, _, _, _, _, _, _, _, _, _, _, _, _, _, _, _, _, _, _, _, _, _, _, _, _, _, _, _, _, _, _, _, _, _, _, _, _, _, _, _, _, _, _, _, _, _, _, _, _, _, _, _, _, _, _, _, _, _, _, _, _, _, _, _, _, _, _, _, _, _, _, _, _, _, _, _, _, _, _, _, _, _, _, _, _, _, _, _, _, _, _, _, _, rfl⟩, rfl, s1, s1, HH.out, ⟨HX.out.1, HX.out.2.1, HX.out.2.2.1, HX.out.2.2.2.1, fun _ _ _ h => h⟩, HX.out.2.2.2.2⟩))
      | cons c l =>
        obtain ⟨k, t, cap, rank, src, mode, fl, free, pA, pn, pc, rfl⟩ := (HL.out c (List.mem_cons_self ..)).shape
        simp only [List.length_cons] at e5
        obtain ⟨b, off, rfl, hbT, hlt, hcell⟩ := HAT.out (by simp)
        have hc : ∀ j, j < 11 → wc.cell? ⟨b, off + j, none⟩ = (callC k t cap rank src mode fl free (.slice pA pn pc))[j]? := by
          intro j hj
          have := hcell 0 (by simp) j hj
          simpa using this
        have e0 := hc 0 (by omega)
        have e1 := hc 1 (by omega)
        have e2 := hc 2 (by omega)
        have e3 := hc 3 (by omega)
        have e4 := hc 4 (by omega)
        have x5 := hc 5 (by omega)
        have e6 := hc 6 (by omega)
        have e7 := hc 7 (by omega)
        have e8 := hc 8 (by omega)
        have e9 := hc 9 (by omega)
        have e10 := hc 10 (by omega)
        simp [callC] at e0 e1 e2 e3 e4 x5 e6 e7 e8 e9 e10
        have HCL := Lib.hid hcell
        obtain ⟨⟨d0, d1, d2, d3, d4, d5, d6, d7, d8, d9, d10⟩, f0, f1, f2, f3, f4, f5, f6, f7, f8, f9, f10⟩ := emptyC HX.out.2.2.1
        have lR := HX.out.2.2.1.lt
        clear hc hcell
        obtain ⟨A', cc', ho', _, hat'⟩ := HT.out.once
        obtain ⟨b', off', hA', _, hbw', _⟩ := hat' (by simp)
        have hbw : b < w.heap.size := by
          have e := HOV.out.symm.trans (HH.out.once.trans ho')
          rw [hA'] at e
          simp only [Value.slice.injEq, Option.some.injEq, Addr.mk.injEq] at e
          omega
        have HB := Lib.hid (And.intro hbw (And.intro hbT hcc))
        clear hat' hA' ho' hbw'
        by_cases hc1 : cc = 1
        · have hl0 : l = [] := List.eq_nil_of_length_eq_zero (by simp only [List.length_cons] at hcc; omega)
          subst hl0
          subst hc1
          simp only [List.length_nil] at e5
          go_wp2_with fail
          simp only [Exit.jump]
          have hO3 := HX.out.2.2.1.far (p := ⟨T, 5, none⟩) hRT (.slice (some ⟨b, off, none⟩) 0 0)
          obtain ⟨d0, d1, d2, d3, d4, d5, d6, d7, d8, d9, d10⟩ := cellsC ((putC k t cap rank src mode fl free (.slice pA pn pc) hO3).alloc (.cells #[.int .i64 k, .int .i64 t, .int .i64 0, .int .i64 cap, .int .i64 rank, .int .i64 src, .int .i64 mode, .int .i64 fl, .bool free, .slice none 0 0, .slice pA pn pc] 41))
          exact bodyPost_ret (v := .tuple #[.agg (callC k t cap rank src mode fl free (.slice pA pn pc)), .bool true]) (by simp [results, Tryd.results7, go_sem, callC, d0, d1, d2, d3, d4, d5, d6, d7, d8, d9, d10]) rfl
            ⟨_, true, _, { s1 with once := .slice (some ⟨b, off, none⟩) 0 0 }, rfl, ⟨s1, HH.out, .inl ⟨_, rfl, rfl, rfl⟩⟩, once_end (b := b) (off := off) HX.out.1 HX.out.2.2.1 HX.out.2.1 lT HB.out.1 HB.out.2.1 HCL.out (some ⟨b, off, none⟩) (Nat.le_refl 0) (fun h => absurd h (by simp)) _ _ _ _ _ _ _ _ _ _ _ _⟩
        · go_wp2_with fail
          simp only [Exit.jump]
          have hO3 := HX.out.2.2.1.far (p := ⟨T, 5, none⟩) hRT (.slice (some ⟨b, off + 11, none⟩) l.length (cc - 1))
          obtain ⟨d0, d1, d2, d3, d4, d5, d6, d7, d8, d9, d10⟩ := cellsC ((putC k t cap rank src mode fl free (.slice pA pn pc) hO3).alloc (.cells #[.int .i64 k, .int .i64 t, .int .i64 0, .int .i64 cap, .int .i64 rank, .int .i64 src, .int .i64 mode, .int .i64 fl, .bool free, .slice none 0 0, .slice pA pn pc] 41))
          exact bodyPost_ret (v := .tuple #[.agg (callC k t cap rank src mode fl free (.slice pA pn pc)), .bool true]) (by simp [results, Tryd.results7, go_sem, callC, d0, d1, d2, d3, d4, d5, d6, d7, d8, d9, d10]) rfl
            ⟨_, true, _, { s1 with once := .slice (some ⟨b, off + 11, none⟩) l.length (cc - 1) }, rfl, ⟨s1, HH.out, .inl ⟨_, rfl, rfl, rfl⟩⟩, once_end (b := b) (off := off) HX.out.1 HX.out.2.2.1 HX.out.2.1 lT HB.out.1 HB.out.2.1 HCL.out (some ⟨b, off + 11, none⟩) (by have := HB.out.2.2; simp only [List.length_cons] at this; omega) (fun _ => rfl) _ _ _ _ _ _ _ _ _ _ _ _⟩

end Go.Proofs.YtmhnodbmcciifaaDoor
