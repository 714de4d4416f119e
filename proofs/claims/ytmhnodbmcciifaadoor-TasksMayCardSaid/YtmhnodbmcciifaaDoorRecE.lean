/- Records: the walk of nav's Encode. Each theorem says under which conditions. -/
import Derived.Test.YtmhnodbmcciifaaDoorRec
namespace Go.Proofs.YtmhnodbmcciifaaDoor
open Go.RowKit Flt

set_option maxRecDepth 20000 in
set_option maxHeartbeats 3200000 in
theorem nencode_ok (ax ay gx gy nx ny : Nat) (h : PoseOK ax ay gx gy nx ny) (w : World) :
    Calls Tryd.prog 39 #[.agg #[.complex .f64 ax ay, .complex .f64 gx gy, .complex .f64 nx ny]] w (Encoded w 3) := by
  obtain ⟨a, b, ia, ib, _⟩ := mayB_is h.1
  obtain ⟨c, d, ic, id, _⟩ := mayB_is h.2.1
  obtain ⟨p, q, ip, iq, _⟩ := mayB_is h.2.2.may
  have C1 := Lib.hid (fun W => nplain_is ax ay a b ia ib (by omega) (by omega) W)
  have C2 := Lib.hid (fun W => nplain_is gx gy c d ic id (by omega) (by omega) W)
  have C3 := Lib.hid (fun W => nplain_is nx ny p q ip iq (by omega) (by omega) W)
  have CE := Lib.hid (fun (W : World) (g : Nat) (o1 : Own W g 124 #[.int .i64 3, .int .i64 64, .int .i64 3, .int .i64 64, .int .i64 3, .int .i64 64]) => encode_three _ _ _ _ _ _ (mayB_addZ h.1) (mayB_addZ h.2.1) (mayB_addZ h.2.2.may) g W.heap.size (W.alloc (.cells #[.int .i64 0, .complex .f64 (addZ ax) (addZ ay), .int .i64 0, .complex .f64 (addZ gx) (addZ gy), .int .i64 0, .complex .f64 (addZ nx) (addZ ny)] 110)) (o1.alloc _) (Own.new _ _ _))
  have HP := Lib.hid h
  clear h ia ib ic id ip iq
  go_enter Tryd.func39, Tryd.ntmps39
  go_wp2_with fail
  refine (check_ok ax ay gx gy nx ny HP.out _).mono ?_
  rintro e w1 ⟨rfl, hb1⟩
  have HS := Lib.hid (EncS.of ((Own.new w 68 #[.complex .f64 ax ay, .complex .f64 gx gy, .complex .f64 nx ny]).call hb1) (((Below.refl w.heap.size w).alloc (Nat.le_refl _) _).call (by simp) hb1))
  clear hb1
  go_wp2_with fail
  go_region_held3 (fun w' => w'.cell? ⟨w.heap.size, 0, none⟩ = some (.complex .f64 ax ay) ∧ w'.cell? ⟨w.heap.size, 1, none⟩ = some (.complex .f64 gx gy) ∧ w'.cell? ⟨w.heap.size, 2, none⟩ = some (.complex .f64 nx ny) ∧ Own w' w.heap.size 68 #[.complex .f64 ax ay, .complex .f64 gx gy, .complex .f64 nx ny] ∧ Below w.heap.size w w')
    (first | assumption | exact HS.out.drew | exact EncS.call (by assumption) hbF | exact EncS.alloc (by assumption) _ | exact EncS.call (by assumption) hbE)
    (first
      | (go_at_call_of 57 (Value.complex FloatKind.f64 ax ay); refine (C1.out _).mono ?_; rintro e w' ⟨rfl, rfl⟩)
      | (go_at_call_of 57 (Value.complex FloatKind.f64 gx gy); refine (C2.out _).mono ?_; rintro e w' ⟨rfl, rfl⟩)
      | (go_at_call_of 57 (Value.complex FloatKind.f64 nx ny); refine (C3.out _).mono ?_; rintro e w' ⟨rfl, rfl⟩)
      | (go_at_call 56; refine (nform_any _).mono ?_; rintro e w' ⟨g, rfl, oF, _, hbF⟩)
      | (go_at_call 55; refine (CE.out _ _ oF).mono ?_; rintro e w' ⟨q, rfl, hbE⟩))
  all_goals
    rename_i hH
    have HB := hH.2.2.2.2
    go_wp2_with fail
    go_ret2
    exact ⟨q, rfl, HB⟩

end Go.Proofs.YtmhnodbmcciifaaDoor
