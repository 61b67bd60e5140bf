/- Contract: law23.FactRight. -/
import Derived.Test.YtilgijmokjekgaaGreatDoorZv
import Derived.Test.YtilgijmokjekgaaGreatDoorZ8
import Derived.Test.YtilgijmokjekgaaGreatDoorA12
import Derived.Test.YtilgijmokjekgaaGreatDoorzQ
import Derived.Test.YtilgijmokjekgaaGreatDoorzU
import Derived.Deep.RegionHeld3
import Derived.Outline
namespace Go.Proofs.YtilgijmokjekgaaGreatDoor
open Go Go.RowKit

/-- Rows of a world's facts, read as rows. -/
theorem rd_rowsN {ns : List Nat} {w : World} {F : Nat → Prop} {v : Value} {rows : List RowN} (h : SliceRd (tRowN ns) w F v rows) (hok : ∀ r ∈ rows, r.Ok ns) (hn : ns.length ≤ 11) : SliceRd tRow w F v (rows.map (rowOf ns)) := by
 obtain ⟨A, cap, hv, h1, h2, h3⟩ := h.shape
 refine ⟨A, cap, by rw [List.length_map]; exact hv, by rw [List.length_map]; exact h1, h2, fun k hk => ?_⟩
 have hk' : k < rows.length := by simpa using hk
 obtain ⟨g, o, cs, e1, e2, e3, e4, tv, e5, e6⟩ := h3 k hk'
 have hx := hok _ (List.getElem_mem hk')
 have hu := hx.u
 have hkd := hx.kind
 refine ⟨g, o, cs, e1, e2, e3, e4, tv, ?_, ?_⟩
 ·rw [List.getElem_map]; exact e5
 ·rw [List.getElem_map]
  exact ⟨⟨by show _ ≤ rows[k].kind; omega, by show rows[k].kind ≤ _; omega⟩, ⟨by show _ ≤ (rows[k].u : Int); omega, by show (rows[k].u : Int) ≤ _; omega⟩, (show I64 (0 : Int) from ⟨by decide, by decide⟩), (show I64 (0 : Int) from ⟨by decide, by decide⟩), e6⟩
theorem allrd23_any (v : Value) (us : List UnitW) (w : World) (h : WorldRd w (Lt w.heap.size) v us) (ho : UnitsOk us) (h0 : (nsOf us).head? = some 1) :
  Calls Tryz.prog 15 #[v] w (AllRd us w) := by
 refine (all23_any v us w h ho h0).mono ?_
 rintro e w' ⟨rv, xs, rfl, hx, hb⟩
 refine ⟨rv, rfl, rd_rowsN hx.rd (units_ok ho h0 us.length (Nat.le_refl _)).1 (by have := ho.ns.hi; exact this), hb⟩
theorem all_len {us : List UnitW} (ho : UnitsOk us) (h0 : (nsOf us).head? = some 1) : (allN us).length ≤ 600 := by
 have h1 := (units_ok ho h0 us.length (Nat.le_refl _)).2
 have h2 : us.length ≤ 11 := by have := ho.ns.hi; simpa [nsOf] using this
 show (unitsN us us.length).length ≤ 600
 omega
set_option maxRecDepth 100000 in
set_option maxHeartbeats 8000000 in
theorem factRight_any (wv tv : Value) (ws : List Int) (r : Row) (at_ which by_ : Int) (w : World) (hw : SliceRd tInt w (Lt w.heap.size) wv ws) (htv : SliceRd tTerm w (Lt w.heap.size) tv r.terms) (ha : I64 at_) (hwh : I64 which) (hby : I64 by_) (hF : FirstIs w) (hT : TabIs w) :
  Calls Tryz.prog 4 #[wv, .agg #[.int .i64 r.kind, .int .i64 r.unit, .int .i64 r.a, .int .i64 r.b, tv], .int .i64 at_, .int .i64 which, .int .i64 by_] w fun e w' => e = .returned (.bool true) ∧ Below w.heap.size w w' := by
 have HW := hid hw
 have HF := hid hF
 have HT := hid hT
 have HTV := hid htv
 obtain ⟨Aw, wcap, rfl, -⟩ := hw.ints
 obtain ⟨At, ct, rfl, -⟩ := htv.terms
 obtain ⟨tn, htn⟩ : ∃ tn, r.terms.length = tn := ⟨_, rfl⟩
 rw [htn] at HTV ⊢
 obtain ⟨w0, hw0⟩ : ∃ w0 : World, w0 = w.alloc (.cells #[.int .i64 r.kind, .int .i64 r.unit, .int .i64 r.a, .int .i64 r.b, .slice At tn ct] 36) := ⟨_, rfl⟩
 have hb0 : Below w.heap.size w w0 := hw0 ▸ balloc (b0 w) _
 have hl0 : w.heap.size < w0.heap.size := by rw [hw0]; simp
 have R0 := hid (show w0.cell? ⟨w.heap.size, 0, none⟩ = some (.int .i64 r.kind) by rw [hw0, alloc_cell]; rfl)
 have R1 := hid (show w0.cell? ⟨w.heap.size, 1, none⟩ = some (.int .i64 r.unit) by rw [hw0, alloc_cell]; rfl)
 have R2 := hid (show w0.cell? ⟨w.heap.size, 2, none⟩ = some (.int .i64 r.a) by rw [hw0, alloc_cell]; rfl)
 have R3 := hid (show w0.cell? ⟨w.heap.size, 3, none⟩ = some (.int .i64 r.b) by rw [hw0, alloc_cell]; rfl)
 have R4 := hid (show w0.cell? ⟨w.heap.size, 4, none⟩ = some (.slice At tn ct) by rw [hw0, alloc_cell]; rfl)
 have HB0 := hid hb0
 have HW0 := hid hw0
 clear hw htv hF hT hw0 hb0 htn
 by_cases h40 : tn ≤ 40
 ·have z0 : decide ((40 : Int) < ↑tn) = false := decide_eq_false (by omega)
  have z1 : ¬ ((40 : Int) < ↑tn) := by omega
  clear h40
  go_enter Tryz.func4, Tryz.ntmps4
  go_wp2_with (go_at_call 11; go_must (rw [← HW0.out]; refine (world23_any _ ws 4 _ (HW.out.lift HB0.out HB0.out.size) (by decide) (by decide)).mono ?_; rintro e w1 ⟨g, c, us, rfl, hwr, huo, h0, hb1⟩; have HWR := hid hwr; have HUO := hid huo; have H0 := hid h0; have HB1 := hid hb1; clear hwr huo h0 hb1))
  obtain ⟨w2, hw2⟩ : ∃ w2 : World, w2 = w1.alloc (.cells #[.slice (some ⟨g, 0, none⟩) us.length c] 25) := ⟨_, rfl⟩
  have hb2 : Below w1.heap.size w1 w2 := hw2 ▸ balloc (b0 w1) _
  have hl2 : w1.heap.size < w2.heap.size := by rw [hw2]; simp
  have q2 : w2.cell? ⟨w1.heap.size, 0, none⟩ = some (.slice (some ⟨g, 0, none⟩) us.length c) := by rw [hw2, alloc_cell]; rfl
  have HW2 := hid (HWR.out.lift hb2 hb2.size)
  have HB2 := hid (bstep HB1.out hb2)
  have hn11 : (nsOf us).length ≤ 11 := HUO.out.ns.hi
  have hrn := all_len HUO.out.ok H0.out
  have HTERM := hid (show ∀ x ∈ (allN us).map (rowOf (nsOf us)), x.terms.length ≤ 11 from fun x hx => by
   obtain ⟨y, -, rfl⟩ := List.mem_map.1 hx
   exact Nat.le_trans (canon_len _) hn11)
  rw [← hw2]
  clear hw2 hb2 HWR
  go_wp2_with (first
   | (go_at_call 15; go_must (refine (allrd23_any _ us w2 HW2.out HUO.out.ok H0.out).mono ?_; rintro e w3 ⟨rv, rfl, hrd, hb3⟩; have HRD := hid hrd; have HB3 := hid hb3; clear hrd hb3))
   | (go_at_call 18; go_must (refine (bent_any _ _ 11 at_ which by_ w3 HRD.out (by rw [List.length_map]; omega) HTERM.out (by decide) ha hwh hby).mono ?_; rintro e w4 ⟨bv, L, rfl, hrd4, hlen4, -, hb4⟩; obtain ⟨A4, c4, hv4, hc4, hm4, hrow4⟩ := hrd4.rows; subst hv4; have HROW := hid hrow4; have HB4 := hid (bstep HB3.out hb4); have HLEN := hid hlen4; clear hrd4 hrow4 hb4 hlen4)))
  unfold maxLen at hm4
  have q4 := cell_below HB4.out hl2 q2
  have hl4 : w1.heap.size < w4.heap.size := Nat.lt_of_lt_of_le hl2 HB4.out.size
  have HW4 := hid (HW2.out.lift HB4.out HB4.out.size)
  have HB24 := hid (bstep HB2.out HB4.out)
  obtain ⟨ln, hln⟩ : ∃ ln, L.length = ln := ⟨_, rfl⟩
  have HLN := hid hln
  have hln600 : ln ≤ 600 := by rw [← hln, HLEN.out, List.length_map]; omega
  rw [hln] at hc4 ⊢
  clear hln q2 hl2 HW2 HRD hrn
  go_wp2_with fail
  go_loopw [13] (fun iv wr => ∃ i : Nat, i ≤ ln ∧ iv = .int .i64 i ∧ Hid (Below w4.heap.size w4 wr)) (fun iv _ => ln - (RowKit.intOf iv).toNat)
  case atStart => exact ⟨0, Nat.zero_le _, rfl, hid (b0 w4)⟩
  case round =>
   obtain ⟨i, hi, rfl, hb⟩ := hrel
   have l0 := lat hb.out hl4 q4
   by_cases hlt : i < ln
   ·have i0 : (0 : Int) ≤ ↑i := by omega
    have i1 : (↑i : Int) < ↑ln := by omega
    obtain ⟨g4, o4, tv4, hA4, hF4, x0, x1, x2, x3, x4, -, htr⟩ := HROW.out i (by rw [HLN.out]; exact hlt)
    subst hA4
    obtain ⟨x, hx⟩ : ∃ x, L[i]'(by rw [HLN.out]; exact hlt) = x := ⟨_, rfl⟩
    rw [hx] at x0 x1 x2 x3 htr
    have HFR := hid (fun e : Later wr => pright_any (.agg #[.slice (some ⟨g, 0, none⟩) us.length c]) tv4 us x e.w (HW4.out.lat hb.out e) HUO.out.ok ((HF.out.below HB0.out).below (bstep HB24.out (bstep hb.out e.below))) (htr.lat hb.out e))
    have HRR := hid (fun e : Later wr => rright_any (.agg #[.slice (some ⟨g, 0, none⟩) us.length c]) tv4 us x e.w (HW4.out.lat hb.out e) HUO.out.ok (htr.lat hb.out e))
    obtain ⟨At4, ct4, hte, -⟩ := htr.terms
    obtain ⟨bb, hbb⟩ : ∃ bb, rightR us x = bb := ⟨_, rfl⟩
    rw [hbb] at HFR HRR
    obtain ⟨k1, k2, k3, k4, k5⟩ := x
    dsimp only at x0 x1 x2 x3 hte HFR HRR
    generalize k5.length = tl4 at hte
    subst hte
    have hbn : (bb != bb) = false := by cases bb <;> rfl
    have hF4w : g4 < wr.heap.size := Nat.lt_of_lt_of_le hF4 hb.out.size
    have l1 := later_cell hF4w (cell_below hb.out hF4 x0)
    have l2 := later_cell hF4w (cell_below hb.out hF4 x1)
    have l3 := later_cell hF4w (cell_below hb.out hF4 x2)
    have l4 := later_cell hF4w (cell_below hb.out hF4 x3)
    have l5 := later_cell hF4w (cell_below hb.out hF4 x4)
    clear x0 x1 x2 x3 x4 htr hx hbb
    go_wp2_with fail
    (refine wp_region_later (by kernel_rfl) (by kernel_rfl) ?_; (repeat (go_big_quiet_step ((first | (go_at_call 19; exact Calls.later (HFR.out _) rfl) | (go_at_call 20; exact Calls.later (HRR.out _) rfl))))); refine wpQuiet_nil ?_; rintro w5 ⟨⟨_, hw5⟩, rfl⟩)
    go_wp2
    exact ⟨⟨i + 1, by omega, by go_num, hid (bstep hb.out hw5)⟩, by simp [RowKit.intOf]; omega⟩
   ·have hie : i = ln := by omega
    subst hie
    clear hlt
    have hbw : Below w0.heap.size w0 wr := bstep HB24.out hb.out
    have hbW := bstep HB0.out hbw
    have HTV4 := hid (HTV.out.lift hbW hbW.size)
    have HFR := hid (fun e : Later wr => pright_any (.agg #[.slice (some ⟨g, 0, none⟩) us.length c]) (.slice At tn ct) us r e.w (HW4.out.lat hb.out e) HUO.out.ok ((HF.out.below HB0.out).below (bstep HB24.out (bstep hb.out e.below))) (HTV4.out.lift e.below e.below.size))
    have HRR := hid (fun e : Later wr => rright_any (.agg #[.slice (some ⟨g, 0, none⟩) us.length c]) (.slice At tn ct) us r e.w (HW4.out.lat hb.out e) HUO.out.ok (HTV4.out.lift e.below e.below.size))
    have HAW := hid (fun e : Later wr => awake_any e.w ((HF.out.below HB0.out).below (bstep HB24.out (bstep hb.out e.below))) ((HT.out.later HB0.out).later (bstep HB24.out (bstep hb.out e.below))))
    obtain ⟨bb, hbb⟩ : ∃ bb, rightR us r = bb := ⟨_, rfl⟩
    rw [hbb] at HFR HRR
    have hbn : (bb == bb) = true := by cases bb <;> rfl
    have hbw0 : w.heap.size < wr.heap.size := Nat.lt_of_lt_of_le hl0 hbw.size
    have l1 := later_cell hbw0 (cell_below hbw hl0 R0.out)
    have l2 := later_cell hbw0 (cell_below hbw hl0 R1.out)
    have l3 := later_cell hbw0 (cell_below hbw hl0 R2.out)
    have l4 := later_cell hbw0 (cell_below hbw hl0 R3.out)
    have l5 := later_cell hbw0 (cell_below hbw hl0 R4.out)
    have HBW := hid hbW
    clear hbb hbW
    go_wp2_with fail
    (refine wp_region_later (by kernel_rfl) (by kernel_rfl) ?_; (repeat (go_big_quiet_step ((first | (go_at_call 19; exact Calls.later (HFR.out _) rfl) | (go_at_call 20; exact Calls.later (HRR.out _) rfl) | (go_at_call 17; exact Calls.later (HAW.out _) rfl))))); refine wpQuiet_nil ?_; rintro w5 ⟨⟨_, hw5⟩, rfl⟩)
    go_wp2
    go_ret
    exact ⟨rfl, bstep HBW.out hw5⟩
 ·have z0 : decide ((40 : Int) < ↑tn) = true := decide_eq_true (by omega)
  have z1 : (40 : Int) < ↑tn := by omega
  clear h40
  go_enter Tryz.func4, Tryz.ntmps4
  go_wp2_with (go_at_call 17; rw [← HW0.out]; refine (awake_any _ (HF.out.below HB0.out) (HT.out.later HB0.out)).mono ?_; rintro e wz ⟨rfl, hbz⟩; have HBZ := hid (bstep HB0.out hbz); clear hbz)
  go_ret
  exact ⟨rfl, HBZ.out⟩
end Go.Proofs.YtilgijmokjekgaaGreatDoor
