import Derived.Test.YthneiolcljnbeaaGreatDoorY6
import Derived.Test.YthneiolcljnbeaaGreatDoorzLater
import Derived.Outline
namespace Go.Proofs.YthneiolcljnbeaaGreatDoor
open Go Go.RowKit
section
def BoxS (w : World) (g : Nat) (s : Span) : Prop := w.cell? ⟨g, 0, none⟩ = some (.int .i64 s.lo.en) ∧ w.cell? ⟨g, 1, none⟩ = some (.int .i64 s.lo.v.major) ∧ w.cell? ⟨g, 2, none⟩ = some (.int .i64 s.lo.v.minor) ∧ w.cell? ⟨g, 3, none⟩ = some (.int .i64 s.lo.v.patch) ∧ w.cell? ⟨g, 4, none⟩ = some (.string s.lo.v.pre) ∧ w.cell? ⟨g, 5, none⟩ = some (.string s.lo.v.build) ∧ w.cell? ⟨g, 6, none⟩ = some (.bool s.lo.after) ∧ w.cell? ⟨g, 7, none⟩ = some (.int .i64 s.hi.en) ∧ w.cell? ⟨g, 8, none⟩ = some (.int .i64 s.hi.v.major) ∧ w.cell? ⟨g, 9, none⟩ = some (.int .i64 s.hi.v.minor) ∧ w.cell? ⟨g, 10, none⟩ = some (.int .i64 s.hi.v.patch) ∧ w.cell? ⟨g, 11, none⟩ = some (.string s.hi.v.pre) ∧ w.cell? ⟨g, 12, none⟩ = some (.string s.hi.v.build) ∧ w.cell? ⟨g, 13, none⟩ = some (.bool s.hi.after)
theorem BoxS.later {w : World} {g : Nat} (hg : g < w.heap.size) {s : Span} (h : BoxS w g s) : (∀ e : Later w, e.w.cell? ⟨g, 0, none⟩ = some (.int .i64 s.lo.en)) ∧ (∀ e : Later w, e.w.cell? ⟨g, 1, none⟩ = some (.int .i64 s.lo.v.major)) ∧ (∀ e : Later w, e.w.cell? ⟨g, 2, none⟩ = some (.int .i64 s.lo.v.minor)) ∧ (∀ e : Later w, e.w.cell? ⟨g, 3, none⟩ = some (.int .i64 s.lo.v.patch)) ∧ (∀ e : Later w, e.w.cell? ⟨g, 4, none⟩ = some (.string s.lo.v.pre)) ∧ (∀ e : Later w, e.w.cell? ⟨g, 5, none⟩ = some (.string s.lo.v.build)) ∧ (∀ e : Later w, e.w.cell? ⟨g, 6, none⟩ = some (.bool s.lo.after)) ∧ (∀ e : Later w, e.w.cell? ⟨g, 7, none⟩ = some (.int .i64 s.hi.en)) ∧ (∀ e : Later w, e.w.cell? ⟨g, 8, none⟩ = some (.int .i64 s.hi.v.major)) ∧ (∀ e : Later w, e.w.cell? ⟨g, 9, none⟩ = some (.int .i64 s.hi.v.minor)) ∧ (∀ e : Later w, e.w.cell? ⟨g, 10, none⟩ = some (.int .i64 s.hi.v.patch)) ∧ (∀ e : Later w, e.w.cell? ⟨g, 11, none⟩ = some (.string s.hi.v.pre)) ∧ (∀ e : Later w, e.w.cell? ⟨g, 12, none⟩ = some (.string s.hi.v.build)) ∧ (∀ e : Later w, e.w.cell? ⟨g, 13, none⟩ = some (.bool s.hi.after)) := by
 obtain ⟨h0, h1, h2, h3, h4, h5, h6, h7, h8, h9, h10, h11, h12, h13⟩ := h
 exact ⟨later_cell hg h0, later_cell hg h1, later_cell hg h2, later_cell hg h3, later_cell hg h4, later_cell hg h5, later_cell hg h6, later_cell hg h7, later_cell hg h8, later_cell hg h9, later_cell hg h10, later_cell hg h11, later_cell hg h12, later_cell hg h13⟩
theorem BoxS.below {B : Nat} {w w' : World} (hb : Below B w w') {g : Nat} (hg : g < B) {s : Span} (h : BoxS w g s) : BoxS w' g s := by
 obtain ⟨h0, h1, h2, h3, h4, h5, h6, h7, h8, h9, h10, h11, h12, h13⟩ := h
 exact ⟨cell_below hb hg h0, cell_below hb hg h1, cell_below hb hg h2, cell_below hb hg h3, cell_below hb hg h4, cell_below hb hg h5, cell_below hb hg h6, cell_below hb hg h7, cell_below hb hg h8, cell_below hb hg h9, cell_below hb hg h10, cell_below hb hg h11, cell_below hb hg h12, cell_below hb hg h13⟩
theorem BoxS.new (w : World) (s : Span) (T : TypeId) : BoxS (w.alloc (.cells #[.int .i64 s.lo.en, .int .i64 s.lo.v.major, .int .i64 s.lo.v.minor, .int .i64 s.lo.v.patch, .string s.lo.v.pre, .string s.lo.v.build, .bool s.lo.after, .int .i64 s.hi.en, .int .i64 s.hi.v.major, .int .i64 s.hi.v.minor, .int .i64 s.hi.v.patch, .string s.hi.v.pre, .string s.hi.v.build, .bool s.hi.after] T)) w.heap.size s := by
 have h := heap_alloc_new w (.cells #[.int .i64 s.lo.en, .int .i64 s.lo.v.major, .int .i64 s.lo.v.minor, .int .i64 s.lo.v.patch, .string s.lo.v.pre, .string s.lo.v.build, .bool s.lo.after, .int .i64 s.hi.en, .int .i64 s.hi.v.major, .int .i64 s.hi.v.minor, .int .i64 s.hi.v.patch, .string s.hi.v.pre, .string s.hi.v.build, .bool s.hi.after] T)
 refine ⟨?_, ?_, ?_, ?_, ?_, ?_, ?_, ?_, ?_, ?_, ?_, ?_, ?_, ?_⟩ <;> (rw [cell_of_row _ _ _ _ T (0, 0) h]; rfl)
theorem psmay_s (s : Span) (w : World) (h : s.B) :
  Calls Tryz.prog 148 #[.agg #[.int .i64 s.lo.en, .int .i64 s.lo.v.major, .int .i64 s.lo.v.minor, .int .i64 s.lo.v.patch, .string s.lo.v.pre, .string s.lo.v.build, .bool s.lo.after, .int .i64 s.hi.en, .int .i64 s.hi.v.major, .int .i64 s.hi.v.minor, .int .i64 s.hi.v.patch, .string s.hi.v.pre, .string s.hi.v.build, .bool s.hi.after]] w fun e w' => e = .returned (.bool (spanMay s)) ∧ Below w.heap.size w w' :=
 psmay_any _ _ _ _ _ _ _ _ _ _ _ _ _ _ w h.1.2 h.2.2
theorem pccmp_c (u v : Cut) (w : World) (hu : u.B) (hv : v.B) :
  Calls Tryz.prog 149 #[.agg #[.int .i64 u.en, .int .i64 u.v.major, .int .i64 u.v.minor, .int .i64 u.v.patch, .string u.v.pre, .string u.v.build, .bool u.after], .agg #[.int .i64 v.en, .int .i64 v.v.major, .int .i64 v.v.minor, .int .i64 v.v.patch, .string v.v.pre, .string v.v.build, .bool v.after]] w fun e w' => e = .returned (.int .i64 (cmpC u v)) ∧ Below w.heap.size w w' :=
 pccmp_any _ _ _ _ _ _ _ _ _ _ _ _ _ _ w hu.2 hv.2
theorem pholds_s (t : Span) (v : Ver) (w : World) (h : t.B) (hv : v.B) :
  Calls Tryz.prog 124 #[.agg #[.int .i64 t.lo.en, .int .i64 t.lo.v.major, .int .i64 t.lo.v.minor, .int .i64 t.lo.v.patch, .string t.lo.v.pre, .string t.lo.v.build, .bool t.lo.after, .int .i64 t.hi.en, .int .i64 t.hi.v.major, .int .i64 t.hi.v.minor, .int .i64 t.hi.v.patch, .string t.hi.v.pre, .string t.hi.v.build, .bool t.hi.after], .agg #[.int .i64 v.major, .int .i64 v.minor, .int .i64 v.patch, .string v.pre, .string v.build]] w fun e w' => e = .returned (.bool (holdsB t v)) ∧ Below w.heap.size w w' :=
 pholds_any _ _ _ _ _ _ _ _ _ _ _ _ _ _ _ _ _ _ _ w (by have := h.1.1; exact ⟨by omega, by omega⟩) (by have := h.2.1; exact ⟨by omega, by omega⟩) h.1.2 h.2.2 hv
theorem has4_hit {l : List Span} {v : Ver} {k : Nat} (hm : rowMayB l = true) (hk : k < l.length) (h : holdsB l[k] v = true) : has4B l v = true := by
 unfold has4B
 rw [hm, Bool.true_and, List.any_eq_true]
 exact ⟨_, List.getElem_mem hk, h⟩
theorem has4_miss {l : List Span} {v : Ver} (h : ∀ k, (hk : k < l.length) → holdsB l[k] v = false) : has4B l v = false := by
 unfold has4B
 have : (l.any fun s => holdsB s v) = false := List.any_eq_false.2 fun s hs => by
  obtain ⟨k, hk, rfl⟩ := List.getElem_of_mem hs
  rw [h k hk]; decide
 rw [this, Bool.and_false]
set_option maxRecDepth 100000 in
set_option maxHeartbeats 4000000 in
theorem prmay_any (v : Value) (l : List Span) (w : World) (h : SliceRd fSpan.ty w (Lt w.heap.size) v l) :
  Calls Tryz.prog 120 #[v] w fun e w' => e = .returned (.bool (rowMayB l)) ∧ Below w.heap.size w w' := by
 obtain ⟨A, cap, rfl, hcap, hmax, hc⟩ := h.spans
 have HC := hid hc
 unfold maxLen at hmax
 clear h hc
 obtain ⟨ln, hln⟩ : ∃ ln, l.length = ln := ⟨_, rfl⟩
 have HLN := hid hln
 rw [hln] at hcap ⊢
 clear hln
 go_enter Tryz.func120, Tryz.ntmps120
 go_wp2
 go_loopw [3, 4, 7] (fun _ _ iv wr => ∃ k : Nat, k ≤ ln ∧ iv = .int .i64 k ∧ Hid (∀ i, i < k → rowBad l i = false) ∧ Hid (Below w.heap.size w wr)) (fun _ _ iv _ => ln - (intOf iv).toNat)
 case atStart => exact ⟨0, Nat.zero_le _, rfl, hid (fun i hi => absurd hi (by omega)), hid (b0 w)⟩
 case round =>
  obtain ⟨k, hk, rfl, hgood, hb⟩ := hrel
  rename World => wo
  by_cases hlt : k < ln
  ·have hltl : k < l.length := by rw [HLN.out]; exact hlt
   obtain ⟨g, o, hA, hF, hB, hat⟩ := HC.out k hltl
   subst hA
   have HBB := hid hB
   have hbb : g < wo.heap.size := Nat.lt_of_lt_of_le hF hb.out.size
   obtain ⟨q0, q1, q2, q3, q4, q5, q6, q7, q8, q9, q10, q11, q12, q13⟩ := hat.below hb.out hF
   clear hat hB
   have i1 : (0 : Int) ≤ ↑k := by omega
   have i2 : (↑k : Int) < ↑ln := by omega
   have i9 : IntKind.i64.wrap (↑k + 1) = (↑k : Int) + 1 := IntWalk.i64_in _ (by omega)
   have HPREV := hid (fun (h0 : k ≠ 0) => HC.out (k - 1) (by omega))
   have HRB0 := hid (fun (h0 : k = 0) => rowBad_zero hltl h0)
   have HRBG := hid (fun (h0 : 0 < k) => rowBad_get hltl h0)
   have HRMB := hid (fun (h : rowBad l k = true) => rowMay_bad hltl h)
   obtain ⟨s, hs⟩ : ∃ s, l[k] = s := ⟨_, rfl⟩
   rw [hs] at q0 q1 q2 q3 q4 q5 q6 q7 q8 q9 q10 q11 q12 q13 HBB HRB0 HRBG
   clear hs
   go_wp2_with fail
   obtain ⟨wb, hwb⟩ : ∃ wb : World, wb = wo.alloc (.cells #[.int .i64 s.lo.en, .int .i64 s.lo.v.major, .int .i64 s.lo.v.minor, .int .i64 s.lo.v.patch, .string s.lo.v.pre, .string s.lo.v.build, .bool s.lo.after, .int .i64 s.hi.en, .int .i64 s.hi.v.major, .int .i64 s.hi.v.minor, .int .i64 s.hi.v.patch, .string s.hi.v.pre, .string s.hi.v.build, .bool s.hi.after] 106) := ⟨_, rfl⟩
   have hbo : Below wo.heap.size wo wb := hwb ▸ balloc (b0 wo) _
   have hbx : BoxS wb wo.heap.size s := hwb ▸ BoxS.new wo s _
   have hbz : wo.heap.size < wb.heap.size := by rw [hwb]; simp
   have HBW := hid (bstep hb.out hbo)
   have hgz : g < wb.heap.size := Nat.lt_trans hbb hbz
   rw [← hwb]
   clear hwb hbo q0 q1 q2 q3 q4 q5 q6 q7 q8 q9 q10 q11 q12 q13
   obtain ⟨c0, c1, c2, c3, c4, c5, c6, c7, c8, c9, c10, c11, c12, c13⟩ := hbx.later hbz
   clear hbx
   have HSM := hid (fun e : Later wb => psmay_s s e.w HBB.out)
   obtain ⟨sm, hsm⟩ : ∃ sm, spanMay s = sm := ⟨_, rfl⟩
   have HSE := hid hsm
   rw [hsm] at HSM
   clear hsm
   cases sm with
   | false =>
    have HBAD : Hid (rowBad l k = true) := hid (by
     by_cases h0 : k = 0
     ·rw [HRB0.out h0, HSE.out]; rfl
     ·rw [HRBG.out (by omega), HSE.out]; rfl)
    (refine wp_region_later (by kernel_rfl) (by kernel_rfl) ?_; (repeat (go_big_quiet_step ((go_at_call 148; exact Calls.later (HSM.out _) rfl)))); refine wpQuiet_nil ?_; rintro _ ⟨⟨w1, hb1⟩, rfl⟩)
    go_wp2
    go_ret
    exact ⟨ret_bool (HRMB.out HBAD.out).symm, bstep HBW.out hb1⟩
   | true =>
    by_cases h0 : k = 0
    ·have HOK : Hid (rowBad l k = false) := hid (by rw [HRB0.out h0, HSE.out]; rfl)
     have z1 : decide (0 < k) = false := decide_eq_false (by omega)
     have z2 : decide ((0 : Int) < ↑k) = false := decide_eq_false (by omega)
     clear h0
     (refine wp_region_later (by kernel_rfl) (by kernel_rfl) ?_; (repeat (go_big_quiet_step ((go_at_call 148; exact Calls.later (HSM.out _) rfl)))); refine wpQuiet_nil ?_; rintro _ ⟨⟨w1, hb1⟩, rfl⟩)
     go_wp2
     exact ⟨⟨k + 1, by omega, by go_num, hid (fun i hi => if e : i = k then by subst e; exact HOK.out else hgood.out i (by omega)), hid (bstep HBW.out hb1)⟩, by simp [intOf]; omega⟩
    ·obtain ⟨g2, o2, hA2, hF2, hB2, hat2⟩ := HPREV.out h0
     cases hA2
     have HBB2 := hid hB2
     obtain ⟨e0, e1, e2, e3, e4, e5, e6, e7, e8, e9, e10, e11, e12, e13⟩ := (hat2.below HBW.out hF2).later hgz
     clear hat2 hB2
     have i3 : (0 : Int) ≤ ↑k - 1 := by omega
     have i4 : (↑k : Int) - 1 < ↑ln := by omega
     have i5 : ((↑k : Int) - 1).toNat = k - 1 := by omega
     have i6 : IntKind.i64.wrap (↑k - 1) = (↑k : Int) - 1 := IntWalk.i64_in _ (by omega)
     have z1 : decide (0 < k) = true := decide_eq_true (by omega)
     have z2 : decide ((0 : Int) < ↑k) = true := decide_eq_true (by omega)
     have hk1 : k - 1 < l.length := by omega
     have HG := HRBG.out (by omega)
     obtain ⟨t, ht⟩ : ∃ t, l[k-1]'hk1 = t := ⟨_, rfl⟩
     rw [ht] at HG e7 e8 e9 e10 e11 e12 e13 HBB2
     have HCM := hid (fun e : Later wb => pccmp_c t.hi s.lo e.w HBB2.out.2 HBB.out.1)
     obtain ⟨cm, hcm⟩ : ∃ cm, cmpC t.hi s.lo = cm := ⟨_, rfl⟩
     rw [hcm] at HCM HG
     rw [HSE.out] at HG
     have HGE := hid HG
     clear ht hcm HG e0 e1 e2 e3 e4 e5 e6 h0
     by_cases hcm : 0 ≤ cm
     ·have HBAD : Hid (rowBad l k = true) := hid (by rw [HGE.out, decide_eq_true hcm]; rfl)
      have z3 : decide (0 ≤ cm) = true := decide_eq_true hcm
      (refine wp_region_later (by kernel_rfl) (by kernel_rfl) ?_; (repeat (go_big_quiet_step ((first | (go_at_call 148; exact Calls.later (HSM.out _) rfl) | (go_at_call 149; exact Calls.later (HCM.out _) rfl))))); refine wpQuiet_nil ?_; rintro _ ⟨⟨w1, hb1⟩, rfl⟩)
      go_wp2
      go_ret
      exact ⟨ret_bool (HRMB.out HBAD.out).symm, bstep HBW.out hb1⟩
     ·have HOK : Hid (rowBad l k = false) := hid (by rw [HGE.out, decide_eq_false hcm]; rfl)
      have z3 : decide (0 ≤ cm) = false := decide_eq_false hcm
      (refine wp_region_later (by kernel_rfl) (by kernel_rfl) ?_; (repeat (go_big_quiet_step ((first | (go_at_call 148; exact Calls.later (HSM.out _) rfl) | (go_at_call 149; exact Calls.later (HCM.out _) rfl))))); refine wpQuiet_nil ?_; rintro _ ⟨⟨w1, hb1⟩, rfl⟩)
      go_wp2
      exact ⟨⟨k + 1, by omega, by go_num, hid (fun i hi => if e : i = k then by subst e; exact HOK.out else hgood.out i (by omega)), hid (bstep HBW.out hb1)⟩, by simp [intOf]; omega⟩
  ·have HN : Hid (rowMayB l = true) := hid (rowMay_good (fun i hi => hgood.out i (by rw [HLN.out] at hi; omega)))
   go_wp2
   go_ret
   exact ⟨ret_bool HN.out.symm, hb.out⟩
end
section
set_option maxRecDepth 100000 in
set_option maxHeartbeats 4000000 in
theorem phas4_any (lv : Value) (l : List Span) (v : Ver) (w : World) (h : SliceRd fSpan.ty w (Lt w.heap.size) lv l) (hv : v.B) :
  Calls Tryz.prog 102 #[lv, .agg #[.int .i64 v.major, .int .i64 v.minor, .int .i64 v.patch, .string v.pre, .string v.build]] w fun e w' => e = .returned (.bool (has4B l v)) ∧ Below w.heap.size w w' := by
 have HL := hid h
 have HV := hid hv
 obtain ⟨A, cap, rfl, hcap, hmax, hc⟩ := h.spans
 have HC := hid hc
 unfold maxLen at hmax
 obtain ⟨ln, hln⟩ : ∃ ln, l.length = ln := ⟨_, rfl⟩
 have HLN := hid hln
 rw [hln] at hcap HL ⊢
 clear h hc hv hln
 obtain ⟨b, hbb⟩ : ∃ b, rowMayB l = b := ⟨_, rfl⟩
 have HM := hid hbb
 have HMY := hid (fun (W : World) (hb : Below w.heap.size w W) => prmay_any (.slice A ln cap) l W (HL.out.lift hb hb.size))
 rw [hbb] at HMY
 clear hbb
 obtain ⟨va, vb, vc, vp, vq⟩ := v
 go_enter Tryz.func102, Tryz.ntmps102
 go_wp2_with fail
 obtain ⟨w0, hw0⟩ : ∃ w0 : World, w0 = w.alloc (.cells #[.int .i64 va, .int .i64 vb, .int .i64 vc, .string vp, .string vq] 52) := ⟨_, rfl⟩
 have hb0 : Below w.heap.size w w0 := hw0 ▸ balloc (b0 w) _
 have hz0 : w.heap.size < w0.heap.size := by rw [hw0]; simp
 have v0 : w0.cell? ⟨w.heap.size, 0, none⟩ = some (.int .i64 va) := by rw [hw0, alloc_cell]; rfl
 have v1 : w0.cell? ⟨w.heap.size, 1, none⟩ = some (.int .i64 vb) := by rw [hw0, alloc_cell]; rfl
 have v2 : w0.cell? ⟨w.heap.size, 2, none⟩ = some (.int .i64 vc) := by rw [hw0, alloc_cell]; rfl
 have v3 : w0.cell? ⟨w.heap.size, 3, none⟩ = some (.string vp) := by rw [hw0, alloc_cell]; rfl
 have v4 : w0.cell? ⟨w.heap.size, 4, none⟩ = some (.string vq) := by rw [hw0, alloc_cell]; rfl
 have HB0 := hid hb0
 rw [← hw0]
 clear hw0 hb0
 refine (HMY.out w0 HB0.out).mono ?_
 rintro e w1 ⟨rfl, hb1⟩
 have HB1 := hid (bstep HB0.out hb1)
 have x0 := cell_below hb1 hz0 v0
 have x1 := cell_below hb1 hz0 v1
 have x2 := cell_below hb1 hz0 v2
 have x3 := cell_below hb1 hz0 v3
 have x4 := cell_below hb1 hz0 v4
 have hz1 := Nat.lt_of_lt_of_le hz0 hb1.size
 clear hb1 v0 v1 v2 v3 v4
 cases b with
 | false =>
  have H : Hid (has4B l ⟨va, vb, vc, vp, vq⟩ = false) := hid (by unfold has4B; rw [HM.out]; rfl)
  go_wp2
  go_ret
  exact ⟨ret_bool H.out.symm, HB1.out⟩
 | true =>
  go_wp2
  go_loopw [6, 12] (fun _ iv wr => ∃ k : Nat, k ≤ ln ∧ iv = .int .i64 k ∧ Hid (Below w1.heap.size w1 wr) ∧ Hid (∀ j, (hj : j < l.length) → j < k → holdsB l[j] ⟨va, vb, vc, vp, vq⟩ = false)) (fun _ iv _ => ln - (intOf iv).toNat)
  case atStart => exact ⟨0, Nat.zero_le _, rfl, hid (b0 w1), hid (fun j _ hj => absurd hj (by omega))⟩
  case round =>
   obtain ⟨k, hk, rfl, hb, hn⟩ := hrel
   rename World => wo
   have HBW := hid (bstep HB1.out hb.out)
   have hzr := Nat.lt_of_lt_of_le hz1 hb.out.size
   by_cases hlt : k < ln
   ·have hltl : k < l.length := by rw [HLN.out]; exact hlt
    have z0 : (↑k : Int) < ↑ln := by omega
    have j0 : (0 : Int) ≤ ↑k := by omega
    have i9 : IntKind.i64.wrap (↑k + 1) = (↑k : Int) + 1 := IntWalk.i64_in _ (by omega)
    obtain ⟨g, o, hA, hF, hB, hat⟩ := HC.out k hltl
    subst hA
    have HBB := hid hB
    obtain ⟨q0, q1, q2, q3, q4, q5, q6, q7, q8, q9, q10, q11, q12, q13⟩ := hat.below HBW.out hF
    have HHIT := hid (fun (h : holdsB l[k] ⟨va, vb, vc, vp, vq⟩ = true) => has4_hit HM.out hltl h)
    have HLK : Hid (∃ s, l[k] = s) := hid ⟨_, rfl⟩
    clear hat hB
    obtain ⟨t, ht⟩ := HLK.out
    rw [ht] at q0 q1 q2 q3 q4 q5 q6 q7 q8 q9 q10 q11 q12 q13 HBB HHIT
    have HTE := hid ht
    have y0 := fun o => cell_below (balloc (b0 wo) o) hzr (cell_below hb.out hz1 x0)
    have y1 := fun o => cell_below (balloc (b0 wo) o) hzr (cell_below hb.out hz1 x1)
    have y2 := fun o => cell_below (balloc (b0 wo) o) hzr (cell_below hb.out hz1 x2)
    have y3 := fun o => cell_below (balloc (b0 wo) o) hzr (cell_below hb.out hz1 x3)
    have y4 := fun o => cell_below (balloc (b0 wo) o) hzr (cell_below hb.out hz1 x4)
    have hhb : ∃ hB, holdsB t ⟨va, vb, vc, vp, vq⟩ = hB := ⟨_, rfl⟩
    clear ht HLK
    go_wp2_with fail
    obtain ⟨wb, hwb⟩ : ∃ wb : World, wb = wo.alloc (.cells #[.int .i64 t.lo.en, .int .i64 t.lo.v.major, .int .i64 t.lo.v.minor, .int .i64 t.lo.v.patch, .string t.lo.v.pre, .string t.lo.v.build, .bool t.lo.after, .int .i64 t.hi.en, .int .i64 t.hi.v.major, .int .i64 t.hi.v.minor, .int .i64 t.hi.v.patch, .string t.hi.v.pre, .string t.hi.v.build, .bool t.hi.after] 106) := ⟨_, rfl⟩
    have hbo : Below wo.heap.size wo wb := hwb ▸ balloc (b0 wo) _
    have hbx : BoxS wb wo.heap.size t := hwb ▸ BoxS.new wo t _
    have hbz : wo.heap.size < wb.heap.size := by rw [hwb]; simp
    have HBWb := hid (bstep hb.out hbo)
    have HBWw := hid (bstep HBW.out hbo)
    rw [← hwb]
    clear hwb hbo q0 q1 q2 q3 q4 q5 q6 q7 q8 q9 q10 q11 q12 q13
    obtain ⟨c0, c1, c2, c3, c4, c5, c6, c7, c8, c9, c10, c11, c12, c13⟩ := hbx
    obtain ⟨hB, hhB⟩ := hhb
    have HHS := hid (fun W => pholds_s t ⟨va, vb, vc, vp, vq⟩ W HBB.out HV.out)
    dsimp only at HHS
    rw [hhB] at HHS HHIT
    have HHB := hid (show holdsB l[k] ⟨va, vb, vc, vp, vq⟩ = hB by rw [HTE.out, hhB])
    clear hhB
    cases hB with
    | true =>
     go_wp2_with fail
     refine (HHS.out wb).mono ?_
     rintro e w2 ⟨rfl, hb2⟩
     have HB2 := hid (bstep HBWw.out hb2)
     clear hb2
     go_wp2
     go_ret
     exact ⟨ret_bool (by first | exact (HHIT.out rfl).symm | exact (HHIT.out trivial).symm), HB2.out⟩
    | false =>
     go_wp2_with fail
     refine (HHS.out wb).mono ?_
     rintro e w2 ⟨rfl, hb2⟩
     have HB2 := hid (bstep HBWb.out hb2)
     clear hb2
     go_wp2
     exact ⟨⟨k + 1, by omega, by go_num, HB2, hid (fun j hj hjk => if e : j = k then by subst e; exact HHB.out else hn.out j hj (by omega))⟩, by simp [intOf]; omega⟩
   ·have z0 : ¬ ((↑k : Int) < ↑ln) := by omega
    have H := hid (has4_miss (l := l) (v := ⟨va, vb, vc, vp, vq⟩) (fun j hj => hn.out j hj (by rw [HLN.out] at hj; omega)))
    go_wp2
    go_ret
    exact ⟨ret_bool H.out.symm, HBW.out⟩
end
section
theorem gfirst : Tryz.prog.globalNamed "linchpin/set.first" = some 0 := by kernel_rfl
def FirstIs (w : World) : Prop := 0 < w.heap.size ∧ w.cell? ⟨0, 0, none⟩ = some (.int .i64 0) ∧ w.cell? ⟨0, 1, none⟩ = some (.int .i64 0) ∧ w.cell? ⟨0, 2, none⟩ = some (.int .i64 0) ∧ w.cell? ⟨0, 3, none⟩ = some (.string ⟨#[]⟩) ∧ w.cell? ⟨0, 4, none⟩ = some (.string ⟨#[]⟩)
theorem FirstIs.below {w w' : World} (h : FirstIs w) (hb : Below w.heap.size w w') : FirstIs w' := by
 obtain ⟨h0, h1, h2, h3, h4, h5⟩ := h
 exact ⟨Nat.lt_of_lt_of_le h0 hb.size, cell_below hb h0 h1, cell_below hb h0 h2, cell_below hb h0 h3, cell_below hb h0 h4, cell_below hb h0 h5⟩
theorem ver_nzero (a b c : Int) (p q : ByteArray) (W : World) : (binOp .neq 52 (.agg #[.int .i64 a, .int .i64 b, .int .i64 c, .string p, .string q]) (.agg #[.int .i64 0, .int .i64 0, .int .i64 0, .string ⟨#[]⟩, .string ⟨#[]⟩])).run Tryz.prog W = .ok (.bool (!zeroB a b c p q)) W := by
 have h := ver_zero a b c p q W
 rw [run_eql_struct] at h
 rw [run_neq_struct]
 cases hx : (Op.equalIn 10000 52 (.agg #[.int .i64 a, .int .i64 b, .int .i64 c, .string p, .string q]) (.agg #[.int .i64 0, .int .i64 0, .int .i64 0, .string ⟨#[]⟩, .string ⟨#[]⟩])).run Tryz.prog W <;> rw [hx] at h <;> simp_all [Result.andThen]
def settledB (c : Cut) : Bool := decide (c.en ≠ 0) || (!c.after && (decide (c.v.pre.size = 0) && !zeroB c.v.major c.v.minor c.v.patch c.v.pre c.v.build))
theorem settled_right {c : Cut} (h : cutMay c = true) : settledB c = rightB c := by
 unfold settledB rightB
 by_cases he : c.en = 0
 ·unfold cutMay at h
  rw [if_pos he, Bool.and_eq_true, decide_eq_true_eq] at h
  by_cases hp : c.v.pre.size = 0
  ·have : zeroB c.v.major c.v.minor c.v.patch c.v.pre c.v.build = leastB c.v.major c.v.minor c.v.patch := by
    unfold zeroB leastB
    rw [decide_eq_true hp, decide_eq_true h.2]
    simp
   rw [this]
  ·rw [decide_eq_false hp]; rfl
 ·rw [decide_eq_true he]; rfl
theorem rowMay_at {l : List Span} (h : rowMayB l = true) {s : Span} (hs : s ∈ l) : cutMay s.lo = true ∧ cutMay s.hi = true := by
 obtain ⟨k, hk, rfl⟩ := List.getElem_of_mem hs
 unfold rowMayB at h
 rw [List.all_eq_true] at h
 have h1 := h k (List.mem_range.2 hk)
 rw [getElem!_pos l k hk, Bool.and_eq_true] at h1
 have h2 := h1.1
 unfold spanMay at h2
 simp only [Bool.and_eq_true] at h2
 exact ⟨h2.1, h2.2.1⟩
theorem setMay_settled (l m : List Span) : setMayB l m = ((l.all fun s => settledB s.lo && settledB s.hi) && (rowMayB l && rowMayB m)) := by
 unfold setMayB
 cases hl : rowMayB l with
 | false => simp
 | true =>
  have : (l.all fun s => settledB s.lo && settledB s.hi) = l.all fun s => rightB s.lo && rightB s.hi := by
   apply Bool.eq_iff_iff.2
   rw [List.all_eq_true, List.all_eq_true]
   constructor
   ·intro h s hs
    rw [← settled_right (rowMay_at hl hs).1, ← settled_right (rowMay_at hl hs).2]; exact h s hs
   ·intro h s hs
    rw [settled_right (rowMay_at hl hs).1, settled_right (rowMay_at hl hs).2]; exact h s hs
  rw [this, Bool.true_and, Bool.true_and]
  exact Bool.and_comm _ _
set_option maxHeartbeats 2000000 in
theorem settled_any (u : Cut) (w : World) (hF : FirstIs w) :
  Calls Tryz.prog 119 #[.agg #[.int .i64 u.en, .int .i64 u.v.major, .int .i64 u.v.minor, .int .i64 u.v.patch, .string u.v.pre, .string u.v.build, .bool u.after]] w fun e w' => e = .returned (.bool (settledB u)) ∧ Below w.heap.size w w' := by
 obtain ⟨n, ⟨a, b, c, p, q⟩, f⟩ := u
 obtain ⟨g0, f0, f1, f2, f3, f4⟩ := hF
 have hzz := fun W => ver_nzero a b c p q W
 have hgd := fun op x y xs ys W => ver_eguard op x y xs ys W
 have HU := hid (show settledB ⟨n, ⟨a, b, c, p, q⟩, f⟩ = (decide (n ≠ 0) || (!f && (decide (p.size = 0) && !zeroB a b c p q))) from rfl)
 have k0 := fun o => cell_below (balloc (b0 w) o) g0 f0
 have k1 := fun o => cell_below (balloc (b0 w) o) g0 f1
 have k2 := fun o => cell_below (balloc (b0 w) o) g0 f2
 have k3 := fun o => cell_below (balloc (b0 w) o) g0 f3
 have k4 := fun o => cell_below (balloc (b0 w) o) g0 f4
 dsimp only
 clear f0 f1 f2 f3 f4
 by_cases hn : n = 0
 ·have e1 : (n != 0) = false := by rw [hn]; rfl
  have HU1 : Hid (settledB ⟨n, ⟨a, b, c, p, q⟩, f⟩ = (!f && (decide (p.size = 0) && !zeroB a b c p q))) := hid (by rw [HU.out, hn]; rfl)
  clear hn
  by_cases hp : p.size = 0
  ·have e2 := empty_toList hp
   have HU2 : Hid (settledB ⟨n, ⟨a, b, c, p, q⟩, f⟩ = (!f && !zeroB a b c p q)) := hid (by rw [HU1.out, decide_eq_true hp, Bool.true_and])
   clear hp
   cases f
   all_goals
    go_enter Tryz.func119, Tryz.ntmps119
    go_wp2
    go_ret
    exact ⟨ret_bool (by rw [HU2.out]; try rfl), balloc (b0 w) _⟩
  ·have e2 := nonempty_toList (s := p) (by omega)
   have HU2 : Hid (settledB ⟨n, ⟨a, b, c, p, q⟩, f⟩ = false) := hid (by rw [HU1.out, decide_eq_false hp, Bool.false_and, Bool.and_false])
   clear hp
   cases f
   all_goals
    go_enter Tryz.func119, Tryz.ntmps119
    go_wp2
    go_ret
    exact ⟨ret_bool HU2.out.symm, balloc (b0 w) _⟩
 ·have e1 : (n != 0) = true := by rw [bne_iff_ne]; exact hn
  have HU1 : Hid (settledB ⟨n, ⟨a, b, c, p, q⟩, f⟩ = true) := hid (by rw [HU.out, decide_eq_true hn]; rfl)
  clear hn
  go_enter Tryz.func119, Tryz.ntmps119
  go_wp2
  go_ret
  exact ⟨ret_bool HU1.out.symm, balloc (b0 w) _⟩
theorem all_bad {l : List Span} {k : Nat} (hk : k < l.length) (h : (settledB l[k].lo && settledB l[k].hi) = false) : (l.all fun s => settledB s.lo && settledB s.hi) = false := by
 rw [List.all_eq_false]
 exact ⟨l[k], List.getElem_mem hk, by rw [h]; decide⟩
set_option maxRecDepth 100000 in
set_option maxHeartbeats 4000000 in
theorem psetMay_any (lv mv : Value) (l m : List Span) (w : World) (h : SliceRd fSpan.ty w (Lt w.heap.size) lv l) (h' : SliceRd fSpan.ty w (Lt w.heap.size) mv m) (hF : FirstIs w) :
  Calls Tryz.prog 100 #[.agg #[lv, mv]] w fun e w' => e = .returned (.bool (setMayB l m)) ∧ Below w.heap.size w w' := by
 have HL := hid h
 have HM := hid h'
 have HF := hid hF
 have HS := hid (setMay_settled l m)
 obtain ⟨A, cap, rfl, hcap, hmax, hc⟩ := h.spans
 obtain ⟨A', cap', rfl, hcap', hmax', -⟩ := h'.flat
 have HC := hid hc
 unfold maxLen at hmax
 obtain ⟨ln, hln⟩ : ∃ ln, l.length = ln := ⟨_, rfl⟩
 have HLN := hid hln
 rw [hln] at hcap HL ⊢
 obtain ⟨mn, hmn⟩ : ∃ mn, m.length = mn := ⟨_, rfl⟩
 rw [hmn] at HM ⊢
 clear h h' hc hF hln hmn hcap' hmax'
 go_enter Tryz.func100, Tryz.ntmps100
 go_wp2_with fail
 obtain ⟨w0, hw0⟩ : ∃ w0 : World, w0 = w.alloc (.cells #[.slice A ln cap, .slice A' mn cap'] 62) := ⟨_, rfl⟩
 have hb0 : Below w.heap.size w w0 := hw0 ▸ balloc (b0 w) _
 have hz0 : w.heap.size < w0.heap.size := by rw [hw0]; simp
 have v0 : w0.cell? ⟨w.heap.size, 0, none⟩ = some (.slice A ln cap) := by rw [hw0, alloc_cell]; rfl
 have v1 : w0.cell? ⟨w.heap.size, 1, none⟩ = some (.slice A' mn cap') := by rw [hw0, alloc_cell]; rfl
 have HB0 := hid hb0
 rw [← hw0]
 clear hw0 hb0
 go_loopw [4, 8] (fun _ iv wr => ∃ k : Nat, k ≤ ln ∧ iv = .int .i64 k ∧ Hid (Below w0.heap.size w0 wr) ∧ Hid ((l.take k).all (fun s => settledB s.lo && settledB s.hi) = true)) (fun _ iv _ => ln - (intOf iv).toNat)
 case atStart => exact ⟨0, Nat.zero_le _, rfl, hid (b0 w0), hid rfl⟩
 case round =>
  obtain ⟨k, hk, rfl, hb, hall⟩ := hrel
  rename World => wo
  have HBW := hid (bstep HB0.out hb.out)
  have hzr := Nat.lt_of_lt_of_le hz0 hb.out.size
  have p0 := cell_below hb.out hz0 v0
  have p1 := cell_below hb.out hz0 v1
  by_cases hlt : k < ln
  ·have hltl : k < l.length := by rw [HLN.out]; exact hlt
   have z0 : (↑k : Int) < ↑ln := by omega
   have j0 : (0 : Int) ≤ ↑k := by omega
   have i9 : IntKind.i64.wrap (↑k + 1) = (↑k : Int) + 1 := IntWalk.i64_in _ (by omega)
   obtain ⟨g, o, hA, hFF, hB, hat⟩ := HC.out k hltl
   subst hA
   obtain ⟨q0, q1, q2, q3, q4, q5, q6, q7, q8, q9, q10, q11, q12, q13⟩ := hat.below HBW.out hFF
   have HAT := hid (show (l.take (k + 1)).all (fun s => settledB s.lo && settledB s.hi) = ((l.take k).all (fun s => settledB s.lo && settledB s.hi) && (settledB l[k].lo && settledB l[k].hi)) by rw [List.take_succ_eq_append_getElem hltl, List.all_append]; simp)
   have HBD := hid (fun (h : (settledB l[k].lo && settledB l[k].hi) = false) => show setMayB l m = false by rw [HS.out, all_bad hltl h]; rfl)
   clear hat hB
   obtain ⟨t, ht⟩ : ∃ t, l[k] = t := ⟨_, rfl⟩
   rw [ht] at q0 q1 q2 q3 q4 q5 q6 q7 q8 q9 q10 q11 q12 q13 HAT HBD
   clear ht
   obtain ⟨s1, hs1⟩ : ∃ s1, settledB t.lo = s1 := ⟨_, rfl⟩
   obtain ⟨s2, hs2⟩ : ∃ s2, settledB t.hi = s2 := ⟨_, rfl⟩
   have HS1 := hid (fun (W : World) (hb2 : Below w.heap.size w W) => settled_any t.lo W (HF.out.below hb2))
   have HS2 := hid (fun (W : World) (hb2 : Below w.heap.size w W) => settled_any t.hi W (HF.out.below hb2))
   rw [hs1] at HS1 HAT HBD
   rw [hs2] at HS2 HAT HBD
   clear hs1 hs2
   go_wp2_with fail
   obtain ⟨wb, hwb⟩ : ∃ wb : World, wb = wo.alloc (.cells #[.int .i64 t.lo.en, .int .i64 t.lo.v.major, .int .i64 t.lo.v.minor, .int .i64 t.lo.v.patch, .string t.lo.v.pre, .string t.lo.v.build, .bool t.lo.after, .int .i64 t.hi.en, .int .i64 t.hi.v.major, .int .i64 t.hi.v.minor, .int .i64 t.hi.v.patch, .string t.hi.v.pre, .string t.hi.v.build, .bool t.hi.after] 106) := ⟨_, rfl⟩
   have hbo : Below wo.heap.size wo wb := hwb ▸ balloc (b0 wo) _
   have hbx : BoxS wb wo.heap.size t := hwb ▸ BoxS.new wo t _
   have hbz : wo.heap.size < wb.heap.size := by rw [hwb]; simp
   have HBWb := hid (bstep hb.out hbo)
   have HBWw := hid (bstep HBW.out hbo)
   rw [← hwb]
   clear hwb hbo q0 q1 q2 q3 q4 q5 q6 q7 q8 q9 q10 q11 q12 q13
   refine (HS1.out wb HBWw.out).mono ?_
   rintro e w2 ⟨rfl, hb2⟩
   obtain ⟨-, -, -, -, -, -, -, c7, c8, c9, c10, c11, c12, c13⟩ := hbx.below hb2 hbz
   have HB2 := hid (bstep HBWw.out hb2)
   have HB2o := hid (bstep HBWb.out hb2)
   clear hb2 hbx
   cases s1 with
   | false =>
    go_wp2
    go_ret
    exact ⟨ret_bool (HBD.out rfl).symm, HB2.out⟩
   | true =>
    go_wp2_with fail
    refine (HS2.out w2 HB2.out).mono ?_
    rintro e w3 ⟨rfl, hb3⟩
    have HB3 := hid (bstep HB2.out hb3)
    have HB3o := hid (bstep HB2o.out hb3)
    clear hb3
    cases s2 with
    | false =>
     go_wp2
     go_ret
     exact ⟨ret_bool (HBD.out rfl).symm, HB3.out⟩
    | true =>
     go_wp2
     exact ⟨⟨k + 1, by omega, by go_num, HB3o, hid (by rw [HAT.out, hall.out]; rfl)⟩, by simp [intOf]; omega⟩
  ·have z0 : ¬ ((↑k : Int) < ↑ln) := by omega
   have HOK : Hid (setMayB l m = (rowMayB l && rowMayB m)) := hid (by
    rw [HS.out]
    have h := hall.out
    rw [List.take_of_length_le (by rw [HLN.out]; omega)] at h
    rw [h, Bool.true_and])
   obtain ⟨b1, hb1⟩ : ∃ b1, rowMayB l = b1 := ⟨_, rfl⟩
   obtain ⟨b2, hb2⟩ : ∃ b2, rowMayB m = b2 := ⟨_, rfl⟩
   have HR1 := hid (prmay_any (.slice A ln cap) l wo (HL.out.lift HBW.out HBW.out.size))
   have HR2 := hid (fun (W : World) (hb2 : Below w.heap.size w W) => prmay_any (.slice A' mn cap') m W (HM.out.lift hb2 hb2.size))
   rw [hb1] at HR1 HOK
   rw [hb2] at HR2 HOK
   clear hb1 hb2 hlt
   go_wp2_with fail
   refine HR1.out.mono ?_
   rintro e w2 ⟨rfl, hb2⟩
   have r1 := cell_below hb2 hzr p1
   have HB2 := hid (bstep HBW.out hb2)
   clear hb2
   cases b1 with
   | false =>
    go_wp2
    go_ret
    exact ⟨ret_bool HOK.out.symm, HB2.out⟩
   | true =>
    go_wp2_with fail
    refine (HR2.out w2 HB2.out).mono ?_
    rintro e w3 ⟨rfl, hb3⟩
    have HB3 := hid (bstep HB2.out hb3)
    go_wp2
    go_ret
    exact ⟨ret_bool HOK.out.symm, HB3.out⟩
theorem size_zero_list {p : ByteArray} (h : p.size = 0) : p.toList = [] := by
 rw [ByteArray.toList_eq]
 exact List.eq_nil_of_length_eq_zero (by simpa using h)
theorem size_pos_list {p : ByteArray} (h : p.size ≠ 0) : (p.toList == []) = false := by rw [toList_size]; exact decide_eq_false h
set_option maxRecDepth 100000 in
set_option maxHeartbeats 2000000 in
theorem phas5_any (av bv : Value) (s : SetD) (v : Ver) (w : World) (h1 : SliceRd fSpan.ty w (Lt w.heap.size) av s.rel) (h2 : SliceRd fSpan.ty w (Lt w.heap.size) bv s.pre) (hv : v.B) (hF : FirstIs w) :
  Calls Tryz.prog 78 #[.agg #[av, bv], .agg #[.int .i64 v.major, .int .i64 v.minor, .int .i64 v.patch, .string v.pre, .string v.build]] w fun e w' => e = .returned (.bool (hasB s v)) ∧ Below w.heap.size w w' := by
 have HV := hid hv
 have HS := hid (fun (W : World) (hb : Below w.heap.size w W) => psetMay_any av bv s.rel s.pre W (h1.lift hb hb.size) (h2.lift hb hb.size) (hF.below hb))
 have HA := hid (fun (W : World) (hb : Below w.heap.size w W) => phas4_any av s.rel v W (h1.lift hb hb.size) hv)
 have HB := hid (fun (W : World) (hb : Below w.heap.size w W) => phas4_any bv s.pre v W (h2.lift hb hb.size) hv)
 obtain ⟨A, c, hav, -⟩ := h1.shape
 obtain ⟨A', c', hbv, -⟩ := h2.shape
 have HM := hid (fun W => pvmay_any v.major v.minor v.patch v.pre v.build W HV.out)
 have hH : hasB s v = (setMayB s.rel s.pre && (mayV v && if v.pre.size = 0 then has4B s.rel v else has4B s.pre v)) := rfl
 obtain ⟨b1, hb1⟩ : ∃ b, setMayB s.rel s.pre = b := ⟨_, rfl⟩
 obtain ⟨b2, hb2⟩ : ∃ b, mayV v = b := ⟨_, rfl⟩
 have hm2 : mayV ⟨v.major, v.minor, v.patch, v.pre, v.build⟩ = b2 := hb2
 rw [hb1] at HS hH
 rw [hb2] at hH
 rw [hm2] at HM
 generalize s.rel.length = n1 at hav
 generalize s.pre.length = n2 at hbv
 subst hav hbv
 obtain ⟨va, vb, vc, vp, vq⟩ := v
 dsimp only at HM HA HB hH
 clear h1 h2 hv hF hb1 hb2 hm2
 obtain ⟨w0, hw0⟩ : ∃ w0 : World, w0 = (w.alloc (.cells #[.slice A n1 c, .slice A' n2 c'] 62)).alloc (.cells #[.int .i64 va, .int .i64 vb, .int .i64 vc, .string vp, .string vq] 52) := ⟨_, rfl⟩
 have hb0 : Below w.heap.size w w0 := hw0 ▸ balloc (balloc (b0 w) _) _
 have hz0 : w.heap.size + 1 < w0.heap.size := by rw [hw0]; simp
 have s0 : w0.cell? ⟨w.heap.size, 0, none⟩ = some (.slice A n1 c) := by rw [hw0]; exact alloc2_old rfl
 have s1 : w0.cell? ⟨w.heap.size, 1, none⟩ = some (.slice A' n2 c') := by rw [hw0]; exact alloc2_old rfl
 have v0 : w0.cell? ⟨w.heap.size + 1, 0, none⟩ = some (.int .i64 va) := by rw [hw0]; exact alloc2_new rfl
 have v1 : w0.cell? ⟨w.heap.size + 1, 1, none⟩ = some (.int .i64 vb) := by rw [hw0]; exact alloc2_new rfl
 have v2 : w0.cell? ⟨w.heap.size + 1, 2, none⟩ = some (.int .i64 vc) := by rw [hw0]; exact alloc2_new rfl
 have v3 : w0.cell? ⟨w.heap.size + 1, 3, none⟩ = some (.string vp) := by rw [hw0]; exact alloc2_new rfl
 have v4 : w0.cell? ⟨w.heap.size + 1, 4, none⟩ = some (.string vq) := by rw [hw0]; exact alloc2_new rfl
 have HW0 := hid hw0
 have HB0 := hid hb0
 clear hw0 hb0
 go_enter Tryz.func78, Tryz.ntmps78
 go_wp2_with fail
 rw [← HW0.out]
 refine (HS.out w0 HB0.out).mono ?_
 rintro e w1 ⟨rfl, hb1⟩
 have HB1 := hid (bstep HB0.out hb1)
 have u0 := cell_below hb1 hz0 v0
 have u1 := cell_below hb1 hz0 v1
 have u2 := cell_below hb1 hz0 v2
 have u3 := cell_below hb1 hz0 v3
 have u4 := cell_below hb1 hz0 v4
 have r0 := cell_below hb1 (by omega) s0
 have r1 := cell_below hb1 (by omega) s1
 have hz1 := Nat.lt_of_lt_of_le hz0 hb1.size
 clear hb1 s0 s1 v0 v1 v2 v3 v4
 cases b1 with
 | false =>
  have H := hid (show hasB s ⟨va, vb, vc, vp, vq⟩ = false by rw [hH]; rfl)
  clear hH
  go_wp2
  go_ret
  exact ⟨ret_bool H.out.symm, HB1.out⟩
 | true =>
  go_wp2_with fail
  refine (HM.out w1).mono ?_
  rintro e w2 ⟨rfl, hb2⟩
  have HB2 := hid (bstep HB1.out hb2)
  have x0 := cell_below hb2 hz1 u0
  have x1 := cell_below hb2 hz1 u1
  have x2 := cell_below hb2 hz1 u2
  have x3 := cell_below hb2 hz1 u3
  have x4 := cell_below hb2 hz1 u4
  have y0 := cell_below hb2 (by omega) r0
  have y1 := cell_below hb2 (by omega) r1
  clear hb2 u0 u1 u2 u3 u4 r0 r1
  cases b2 with
  | false =>
   have H := hid (show hasB s ⟨va, vb, vc, vp, vq⟩ = false by rw [hH]; rfl)
   clear hH
   go_wp2
   go_ret
   exact ⟨ret_bool H.out.symm, HB2.out⟩
  | true =>
   by_cases hp : vp.size = 0
   ·have H := hid (show hasB s ⟨va, vb, vc, vp, vq⟩ = has4B s.rel ⟨va, vb, vc, vp, vq⟩ by rw [hH, if_pos hp]; rfl)
    have hl := size_zero_list hp
    clear hH hp
    go_wp2_with (go_at_call 102; refine (HA.out w2 HB2.out).mono ?_; rintro e w3 ⟨rfl, hb3⟩)
    go_ret
    exact ⟨ret_bool H.out.symm, bstep HB2.out hb3⟩
   ·have H := hid (show hasB s ⟨va, vb, vc, vp, vq⟩ = has4B s.pre ⟨va, vb, vc, vp, vq⟩ by rw [hH, if_neg hp]; rfl)
    have hl := size_pos_list hp
    have hl2 := nonempty_toList (s := vp) (by omega)
    clear hH hp
    go_wp2_with (go_at_call 102; refine (HB.out w2 HB2.out).mono ?_; rintro e w3 ⟨rfl, hb3⟩)
    go_ret
    exact ⟨ret_bool H.out.symm, bstep HB2.out hb3⟩
end
end Go.Proofs.YthneiolcljnbeaaGreatDoor
