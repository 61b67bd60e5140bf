import Derived.Test.YthneiolcljnbeaaGreatDoorZt
import Derived.Test.YthneiolcljnbeaaGreatDoorZ8
import Derived.Test.YthneiolcljnbeaaGreatDoorY20
import Derived.Deep.RegionHeld3
import Derived.Outline
namespace Go.Proofs.YthneiolcljnbeaaGreatDoor
open Go Go.RowKit
abbrev TabIs (w : World) : Prop := Lib.TabBelow Tryz.prog w.heap.size w "internal/strconv.uint64pow10" .u64 Lib.pow10Tab
theorem TabIs.later {w w' : World} (h : TabIs w) (hb : Below w.heap.size w w') : TabIs w' := fun W hW => h W (bstep hb hW)
def W23 (w : World) (e : Ending) (w' : World) : Prop :=
 ∃ (g c : Nat) (us : List UnitW), e = .returned (.agg #[.slice (some ⟨g, 0, none⟩) us.length c]) ∧ WorldRd w' (Lt w'.heap.size) (.agg #[.slice (some ⟨g, 0, none⟩) us.length c]) us ∧ UnitsT us ∧ (nsOf us).head? = some 1 ∧ Below w.heap.size w w'
theorem world23_any (lv : Value) (xs : List Int) (most : Int) (w : World) (h : SliceRd tInt w (Lt w.heap.size) lv xs) (hm1 : 1 ≤ most) (hm2 : most ≤ 5) :
  Calls Tryz.prog 4 #[lv, .int .i64 most] w (W23 w) := by
 refine (world_any lv xs most w h hm1 hm2).mono ?_
 rintro e w' ⟨g, c, us, nf, rfl, hB, h2, h11, hhd, hb, R, hdat⟩
 obtain ⟨l, h1, ho, hns, h0⟩ := world_data hB hdat h2 h11 hhd
 have hl : us.length = l.length := by
  have := congrArg List.length hns
  simpa [nsOf] using this.symm
 exact ⟨g, c, l, by rw [hl], by rw [← hl]; exact h1, ho, h0, hb⟩
def AllRd (us : List UnitW) (w : World) (e : Ending) (w' : World) : Prop := ∃ rv, e = .returned rv ∧ SliceRd tRow w' (Lt w'.heap.size) rv ((allN us).map (rowOf (nsOf us))) ∧ Below w.heap.size w w'
theorem pall_rd (v : Value) (us : List UnitW) (w : World) (h : WorldRd w (Lt w.heap.size) v us) (ho : UnitsOk us) (h0 : (nsOf us).head? = some 1) (hF : FirstIs w) (ht : TabIs w) : Calls Tryz.prog 5 #[v] w (AllRd us w) := by
 refine (pall_any v us w h ho h0 hF ht).mono ?_
 rintro e w' ⟨rv, tvs, rfl, hc, hb⟩
 exact ⟨rv, rfl, hc.rd (fun _ _ h => h), hb⟩
theorem awake_rows {w : World} {rv : Value} (h : SliceRd tRow w (Lt w.heap.size) rv [⟨1, 0, 0, 0, [⟨0, 1⟩]⟩, ⟨2, 0, 0, 0, [⟨0, 2⟩, ⟨1, 1⟩]⟩, ⟨2, 1, 0, 0, [⟨1, 2⟩]⟩]) :
  ∃ (gr o c : Nat) (A1 : Option Addr) (c1 : Nat) (A2 : Option Addr) (c2 : Nat), rv = .slice (some ⟨gr, o, none⟩) 3 c ∧ gr < w.heap.size ∧ w.cell? ⟨gr, o, none⟩ = some (.int .i64 1) ∧ w.cell? ⟨gr, o + 5, none⟩ = some (.int .i64 2) ∧ w.cell? ⟨gr, o + 5 + 4, none⟩ = some (.slice A1 2 c1) ∧ w.cell? ⟨gr, o + 10, none⟩ = some (.int .i64 2) ∧ w.cell? ⟨gr, o + 10 + 1, none⟩ = some (.int .i64 1) ∧ w.cell? ⟨gr, o + 10 + 2, none⟩ = some (.int .i64 0) ∧ w.cell? ⟨gr, o + 10 + 3, none⟩ = some (.int .i64 0) ∧ w.cell? ⟨gr, o + 10 + 4, none⟩ = some (.slice A2 1 c2) ∧ SliceRd tTerm w (Lt w.heap.size) (.slice A2 1 c2) [⟨1, 2⟩] := by
 obtain ⟨A, c, hv, -, -, hr⟩ := h.rows
 obtain ⟨g0, o0, t0, hA0, hF0, a0, -⟩ := hr 0 (by decide)
 obtain ⟨g1, o1, t1, hA1, -, b0, -, -, -, b4, -, ht1⟩ := hr 1 (by decide)
 obtain ⟨g2, o2, t2, hA2, -, d0, d1, d2, d3, d4, -, ht2⟩ := hr 2 (by decide)
 subst hA0
 injection hA1 with hA1
 injection hA1 with e1 e2
 injection hA2 with hA2
 injection hA2 with e3 e4
 subst e1 e2 e3 e4
 obtain ⟨A1, c1, rfl, -⟩ := ht1.terms
 have ht3 := ht2
 obtain ⟨A2, c2, rfl, -⟩ := ht2.terms
 exact ⟨g0, o0, c, A1, c1, A2, c2, hv, hF0, a0, b0, b4, d0, d1, d2, d3, d4, ht3⟩
set_option maxRecDepth 100000 in
set_option maxHeartbeats 8000000 in
theorem awake_any (w : World) (hF : FirstIs w) (ht : TabIs w) : Calls Tryz.prog 13 #[] w fun e w' => e = .returned (.bool true) ∧ Below w.heap.size w w' := by
 have HF := hid hF
 have HT := hid ht
 clear hF ht
 go_enter Tryz.func13, Tryz.ntmps13
 go_wp2_with (first
  | (go_at_call 34; refine (small_any _).mono ?_; rintro e w1 ⟨g, rfl, hwr, hb1⟩; have HWR := hid hwr; have HB1 := hid hb1; clear hwr hb1)
  | (go_at_call 5; refine (pall_rd _ smallT w1 HWR.out smallT_ok rfl (HF.out.below HB1.out) (HT.out.later HB1.out)).mono ?_; rintro e w2 ⟨rv, rfl, hrd, hb2⟩; rw [smallT_ns, smallT_rows] at hrd; obtain ⟨gr, o, c, A1, c1, A2, c2, hrv, hl, f0, f1, f2, f3, f4, f5, f6, f7, ht2⟩ := awake_rows hrd; subst hrv; have HB2 := hid (bstep HB1.out hb2); have HT2 := hid ht2; clear hrd hb2 ht2))
 have p1 := hid True.intro
 go_region_held3 (fun w' => w'.cell? ⟨gr, o, none⟩ = some (.int .i64 1) ∧ w'.cell? ⟨gr, o + 5, none⟩ = some (.int .i64 2) ∧ w'.cell? ⟨gr, o + 5 + 4, none⟩ = some (.slice A1 2 c1) ∧ w'.cell? ⟨gr, o + 10, none⟩ = some (.int .i64 2) ∧ w'.cell? ⟨gr, o + 10 + 1, none⟩ = some (.int .i64 1) ∧ w'.cell? ⟨gr, o + 10 + 2, none⟩ = some (.int .i64 0) ∧ w'.cell? ⟨gr, o + 10 + 3, none⟩ = some (.int .i64 0) ∧ w'.cell? ⟨gr, o + 10 + 4, none⟩ = some (.slice A2 1 c2)) (first | exact ⟨by assumption, by assumption, by assumption, by assumption, by assumption, by assumption, by assumption, by assumption⟩ | go_keep) (first
  | (clear p1; go_at_call 34; refine (small_any _).mono ?_; rintro e w3 ⟨g3, rfl, hwr3, hb3⟩; have HB3 := hid ((b0 w2).drew.trans (hb3.mono (Nat.le_refl _))); have HW3 := hid hwr3; have k0 := cell_below HB3.out hl f0; have k1 := cell_below HB3.out hl f1; have k2 := cell_below HB3.out hl f2; have k3 := cell_below HB3.out hl f3; have k4 := cell_below HB3.out hl f4; have k5 := cell_below HB3.out hl f5; have k6 := cell_below HB3.out hl f6; have k7 := cell_below HB3.out hl f7; clear hwr3 hb3)
  | (go_at_call 6; refine (pright_any (.agg #[.slice (some ⟨g3, 0, none⟩) 3 3]) (.slice A2 1 c2) smallT ⟨2, 1, 0, 0, [⟨1, 2⟩]⟩ w3 HW3.out smallT_ok (HF.out.below (bstep HB2.out HB3.out)) (HT2.out.lift HB3.out HB3.out.size)).mono ?_; rintro e w4 ⟨rfl, hb4⟩; rw [smallT_right]; have hl3 : gr < w3.heap.size := Nat.lt_of_lt_of_le hl HB3.out.size; have u0 := cell_below hb4 hl3 k0; have u1 := cell_below hb4 hl3 k1; have u2 := cell_below hb4 hl3 k2; have u3 := cell_below hb4 hl3 k3; have u4 := cell_below hb4 hl3 k4; have u5 := cell_below hb4 hl3 k5; have u6 := cell_below hb4 hl3 k6; have u7 := cell_below hb4 hl3 k7; have HB4 := hid (bstep HB2.out (bstep HB3.out hb4)); clear hb4))
 all_goals go_wp2
 all_goals go_ret
 all_goals exact ⟨rfl, HB4.out⟩
end Go.Proofs.YthneiolcljnbeaaGreatDoor
