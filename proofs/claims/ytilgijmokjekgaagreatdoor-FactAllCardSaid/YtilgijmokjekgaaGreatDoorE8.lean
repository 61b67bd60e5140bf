/- Contract: law23.FactAll. -/
import Derived.Test.YtilgijmokjekgaaGreatDoorZv
import Derived.Test.YtilgijmokjekgaaGreatDoorA12
import Derived.Test.YtilgijmokjekgaaGreatDoorSame
import Derived.Test.YtilgijmokjekgaaGreatDoorzF
import Derived.Deep.RegionHeld3
import Derived.Outline
namespace Go.Proofs.YtilgijmokjekgaaGreatDoor
open Go Go.RowKit

/-- Rows of a world's facts, read as rows. -/
theorem rd_rowsA {ns : List Nat} {w : World} {F : Nat → Prop} {v : Value} {rows : List RowN} (h : SliceRd (tRowN ns) w F v rows) (hok : ∀ r ∈ rows, r.Ok ns) (hn : ns.length ≤ 11) : SliceRd tRow w F v (rows.map (rowOf ns)) := by
 obtain ⟨A, cap, hv, h1, h2, h3⟩ := h.shape
 refine ⟨A, cap, by rw [List.length_map]; exact hv, by rw [List.length_map]; exact h1, h2, fun k hk => ?_⟩
 have hk' : k < rows.length := by simpa using hk
 obtain ⟨g, o, cs, e1, e2, e3, e4, tv, e5, e6⟩ := h3 k hk'
 have hx := hok _ (List.getElem_mem hk')
 have hu := hx.u
 have hkd := hx.kind
 refine ⟨g, o, cs, e1, e2, e3, e4, tv, ?_, ?_⟩
 ·rw [List.getElem_map]; exact e5
 ·rw [List.getElem_map]
  exact ⟨⟨by show _ ≤ rows[k].kind; omega, by show rows[k].kind ≤ _; omega⟩, ⟨by show _ ≤ (rows[k].u : Int); omega, by show (rows[k].u : Int) ≤ _; omega⟩, (show I64 (0 : Int) from ⟨by decide, by decide⟩), (show I64 (0 : Int) from ⟨by decide, by decide⟩), e6⟩
theorem allref_any (v : Value) (us : List UnitW) (w : World) (h : WorldRd w (Lt w.heap.size) v us) (ho : UnitsOk us) (h0 : (nsOf us).head? = some 1) :
  Calls Tryz.prog 15 #[v] w (AllRd us w) := by
 refine (all23_any v us w h ho h0).mono ?_
 rintro e w' ⟨rv, xs, rfl, hx, hb⟩
 refine ⟨rv, rfl, rd_rowsA hx.rd (units_ok ho h0 us.length (Nat.le_refl _)).1 (by have := ho.ns.hi; exact this), hb⟩
/-- A world of one's own, read. -/
theorem world_of_own {us : List UnitW} {w : World} {B : Nat} {vu : Value} {xs : List Value} (h : OwnT tUnit 62 w B vu us xs) (h1 : 1 ≤ us.length) : ∃ g cap, vu = .slice (some ⟨g, 0, none⟩) us.length cap ∧ WorldRd w (Lt w.heap.size) (.agg #[vu]) us := by
 have hr := h.rd
 rcases h.own.2 with ⟨rfl, h0⟩ | ⟨g, cap, cur, rfl, hbase, hg, -⟩
 ·omega
 ·exact ⟨g, cap, rfl, g, cap, rfl, (Array.getElem?_eq_some_iff.1 hg).1, hr⟩
theorem head_len {us : List UnitW} (h0 : (nsOf us).head? = some 1) : 1 ≤ us.length := by
 cases us with
 | nil => cases h0
 | cons x l => simp
set_option maxRecDepth 100000 in
set_option maxHeartbeats 8000000 in
theorem factAll_any (wv : Value) (ws : List Int) (w : World) (hw : SliceRd tInt w (Lt w.heap.size) wv ws) (hF : FirstIs w) (hT : TabIs w) :
  Calls Tryz.prog 3 #[wv] w fun e w' => e = .returned (.bool true) ∧ Below w.heap.size w w' := by
 have HW := hid hw
 have HF := hid hF
 have HT := hid hT
 obtain ⟨Aw, wcap, rfl, -⟩ := hw.ints
 clear hw hF hT
 go_enter Tryz.func3, Tryz.ntmps3
 go_wp2_with (go_at_call 11; go_must (refine (world23_any _ ws 5 _ HW.out (by decide) (by decide)).mono ?_; rintro e w1 ⟨g, c, us, rfl, hwr, huo, h0, hb1⟩; have HWR := hid hwr; have HUO := hid huo; have H0 := hid h0; have HB1 := hid hb1; clear hwr huo h0 hb1))
 obtain ⟨w2, hw2⟩ : ∃ w2 : World, w2 = w1.alloc (.cells #[.slice (some ⟨g, 0, none⟩) us.length c] 25) := ⟨_, rfl⟩
 have hb2 : Below w1.heap.size w1 w2 := hw2 ▸ balloc (b0 w1) _
 have hl2 : w1.heap.size < w2.heap.size := by rw [hw2]; simp
 have q2 : w2.cell? ⟨w1.heap.size, 0, none⟩ = some (.slice (some ⟨g, 0, none⟩) us.length c) := by rw [hw2, alloc_cell]; rfl
 have HW2 := hid (HWR.out.lift hb2 hb2.size)
 have HB2 := hid (bstep HB1.out hb2)
 rw [← hw2]
 clear hw2 hb2 HWR
 go_wp2_with (go_at_call 12; go_must (refine (copyWorld_any _ us w2 HW2.out HUO.out.ok).mono ?_; rintro e w3 ⟨vu, xs, rfl, hox, hb3⟩; obtain ⟨gx, cx, hvu, hxr⟩ := world_of_own hox (head_len H0.out); subst hvu; have HXR := hid hxr; have HB3 := hid (bstep HB2.out hb3); have q3 := cell_below hb3 hl2 q2; have hl3 : w1.heap.size < w3.heap.size := Nat.lt_of_lt_of_le hl2 hb3.size; have HW3 := hid (HW2.out.lift hb3 hb3.size); clear hox hxr hb3))
 obtain ⟨w4, hw4⟩ : ∃ w4 : World, w4 = w3.alloc (.cells #[.slice (some ⟨gx, 0, none⟩) us.length cx] 25) := ⟨_, rfl⟩
 have hb4 : Below w3.heap.size w3 w4 := hw4 ▸ balloc (b0 w3) _
 have hl4 : w3.heap.size < w4.heap.size := by rw [hw4]; simp
 have q4 : w4.cell? ⟨w3.heap.size, 0, none⟩ = some (.slice (some ⟨gx, 0, none⟩) us.length cx) := by rw [hw4, alloc_cell]; rfl
 have q5 := cell_below hb4 hl3 q3
 have hl5 : w1.heap.size < w4.heap.size := Nat.lt_of_lt_of_le hl3 hb4.size
 have HW4 := hid (HW3.out.lift hb4 hb4.size)
 have HX4 := hid (HXR.out.lift hb4 hb4.size)
 have HB4 := hid (bstep HB3.out hb4)
 have HFT := hid (fun (W : World) (hW : Below w4.heap.size w4 W) => And.intro (HF.out.below (bstep HB4.out hW)) (HT.out.later (bstep HB4.out hW)))
 rw [← hw4]
 clear hw4 hb4 q2 q3 hl2 HW2 HW3 HXR
 go_wp2_with fail
 go_region_held3 (fun w' => w'.cell? ⟨w1.heap.size, 0, none⟩ = some (.slice (some ⟨g, 0, none⟩) us.length c) ∧ w'.cell? ⟨w3.heap.size, 0, none⟩ = some (.slice (some ⟨gx, 0, none⟩) us.length cx)) (first | exact ⟨by assumption, by assumption⟩ | go_keep) ((first
  | (go_at_call 14; refine (pall_rd _ us _ (HX4.out.lift (b0 w4).drew (Nat.le_refl _)) HUO.out.ok H0.out (HFT.out _ (b0 w4).drew).1 (HFT.out _ (b0 w4).drew).2).mono ?_; rintro e w5 ⟨rv, rfl, hrd, hb5⟩; have HRD := hid hrd; have HB5 := hid (bstep (b0 w4).drew hb5); have c5 := cell_below HB5.out hl5 q5; have d5 := cell_below HB5.out hl4 q4; clear hrd hb5)
  | (go_at_call 15; refine (allref_any _ us w5 (HW4.out.lift HB5.out HB5.out.size) HUO.out.ok H0.out).mono ?_; rintro e w6 ⟨rv2, rfl, hrd, hb6⟩; have HRD2 := hid hrd; have HB6 := hid (bstep HB5.out hb6); have HR1 := hid (HRD.out.lift hb6 hb6.size); have c6 := cell_below HB6.out hl5 q5; have d6 := cell_below HB6.out hl4 q4; clear hrd hb6)
  | (go_at_call 13; refine (sameRows_any rv rv2 _ _ w6 HR1.out HRD2.out).mono ?_; rintro e w7 ⟨rfl, hb7⟩; rw [decide_eq_true rfl]; have HB7 := hid (bstep HB6.out hb7); have c7 := cell_below HB7.out hl5 q5; have d7 := cell_below HB7.out hl4 q4; clear hb7)
  | (go_at_call 16; refine (sameWorld_any _ _ us w7 (HX4.out.lift HB7.out HB7.out.size) (HW4.out.lift HB7.out HB7.out.size) HUO.out.ok).mono ?_; rintro e w8 ⟨rfl, hb8⟩; have HB8 := hid (bstep HB7.out hb8); have c8 := cell_below HB8.out hl5 q5; have d8 := cell_below HB8.out hl4 q4; clear hb8)
  | (go_at_call 17; refine (awake_any w8 (HFT.out _ HB8.out).1 (HFT.out _ HB8.out).2).mono ?_; rintro e w9 ⟨rfl, hb9⟩; have HB9 := hid (bstep HB8.out hb9); have c9 := cell_below HB9.out hl5 q5; have d9 := cell_below HB9.out hl4 q4; clear hb9)))
 go_wp2_with fail
 go_ret
 exact ⟨rfl, bstep HB4.out HB9.out⟩
end Go.Proofs.YtilgijmokjekgaaGreatDoor
