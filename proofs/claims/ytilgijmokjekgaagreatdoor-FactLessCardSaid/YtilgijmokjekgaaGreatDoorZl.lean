/- Contract: law23.FactLess. -/
import Derived.Test.YtilgijmokjekgaaGreatDoorZv
import Derived.Test.YtilgijmokjekgaaGreatDoorzZa
import Derived.Test.YtilgijmokjekgaaGreatDoorzBase
import Derived.Deep.RegionLaw
import Derived.Deep.RegionHeld3
import Derived.Outline
namespace Go.Proofs.YtilgijmokjekgaaGreatDoor
open Go Go.RowKit

theorem place_natL (x : Int) {n : Nat} (h : 1 ≤ n) : ∃ k : Nat, placeF x n = (k : Int) ∧ k < n :=
  ⟨(placeF x n).toNat, by have := placeF_lo x n; omega, by have := placeF_lo x n; have := placeF_hi x n; omega⟩
theorem own_noneT (w : World) (B : Nat) (e : TypeId) (s : Nat) : w.ownsRow B e s (.slice none 0 0) 0 [] := ⟨by simp, .inl ⟨rfl, rfl⟩⟩
theorem own_copyT {w' : World} {B : Nat} {v' : Value} {l : List Term} (hl : ∀ t ∈ l, I64 t.unit ∧ I64 t.mask) (hown : w'.ownsRow B 55 2 v' (0 + l.length) ([] ++ termCells l)) : OwnF fTerm 55 B w' v' l :=
  own_copyF hl (by rw [fTerm_all]; exact hown)
/-- Fewer values at a unit: no terms, or a row that is right. -/
theorem less_cases {us : List UnitW} {x : RowN} (ho : UnitsOk us) (h0 : (nsOf us).head? = some 1) (hx : x ∈ allN us) (hk : x.kind ≠ 1) {un : Nat} (_hun : un < us.length) (mask : Int) :
    makeN (nsOf us) (canon (nsOf us) x.M ++ [⟨(un : Int), mask⟩]) = none ∨ ∃ T, makeN (nsOf us) (canon (nsOf us) x.M ++ [⟨(un : Int), mask⟩]) = some T ∧ rightR us ⟨x.kind, x.u, 0, 0, T⟩ = true := by
  cases h : makeN (nsOf us) (canon (nsOf us) x.M ++ [⟨(un : Int), mask⟩]) with
  | none => exact .inl rfl
  | some T =>
    refine .inr ⟨T, rfl, ?_⟩
    obtain ⟨h1, h2⟩ := make_some h
    have hok := (units_ok ho h0 us.length (Nat.le_refl _)).1 x hx
    have hw := withinN_iff.1 (more_within ho.ns hok.inc ⟨(un : Int), mask⟩)
    have hl : (nsOf us).length = us.length := by simp [nsOf]
    rw [h2]
    refine right_row ho h1 (by have := hok.kind; omega) (by have := hok.u; omega) (says_sub ho (by have := hok.u; omega) (fun v hv => hw v (by omega)) (all_says ho h0 hx hk))
set_option maxRecDepth 100000 in
set_option maxHeartbeats 8000000 in
theorem factLess_any (wv : Value) (ws : List Int) (at_ unit mask : Int) (w : World) (hw : SliceRd tInt w (Lt w.heap.size) wv ws) (ha : I64 at_) (hu : I64 unit) (hm : I64 mask) (hF : FirstIs w) (hT : TabIs w) :
    Calls Tryz.prog 7 #[wv, .int .i64 at_, .int .i64 unit, .int .i64 mask] w fun e w' => e = .returned (.bool true) ∧ Below w.heap.size w w' := by
  obtain ⟨it, hit⟩ := info_parts term_info
  have HIT := hid hit
  have HW := hid hw
  have HF := hid hF
  have HT := hid hT
  obtain ⟨Aw, wcap, rfl, -⟩ := hw.ints
  clear hw hF hT hit
  go_enter Tryz.func7, Tryz.ntmps7
  go_wp2_with (go_at_call 11; go_must (refine (world23_any _ ws 4 _ HW.out (by decide) (by decide)).mono ?_; rintro e w1 ⟨g, c, us, rfl, hwr, huo, h0, hb1⟩; have HWR := hid hwr; have HUO := hid huo; have H0 := hid h0; have HB1 := hid hb1; clear hwr huo h0 hb1))
  obtain ⟨w2, hw2⟩ : ∃ w2 : World, w2 = w1.alloc (.cells #[.slice (some ⟨g, 0, none⟩) us.length c] 25) := ⟨_, rfl⟩
  have hb2 : Below w1.heap.size w1 w2 := hw2 ▸ balloc (b0 w1) _
  have hl2 : w1.heap.size < w2.heap.size := by rw [hw2]; simp
  have q2 : w2.cell? ⟨w1.heap.size, 0, none⟩ = some (.slice (some ⟨g, 0, none⟩) us.length c) := by rw [hw2, alloc_cell]; rfl
  have HW2 := hid (HWR.out.lift hb2 hb2.size)
  have HNS := hid HUO.out.ns
  have HB2 := hid (bstep HB1.out hb2)
  rw [← hw2]
  clear hw2 hb2
  obtain ⟨rn, hrn⟩ : ∃ rn, (allN us).length = rn := ⟨_, rfl⟩
  have HRN := hid hrn
  have hrn600 : rn ≤ 600 := by
    rw [← hrn]
    have h1 := (units_ok HUO.out.ok H0.out us.length (Nat.le_refl _)).2
    have h2 : us.length ≤ 11 := by have := HUO.out.ns.hi; simpa [nsOf] using this
    show (unitsN us us.length).length ≤ 600
    omega
  have hrn1 : 1 ≤ rn := by
    obtain ⟨l, e, -⟩ := all_root HUO.out.ok H0.out
    rw [← hrn, e]
    simp
  obtain ⟨k, hne, hkr⟩ := place_natL at_ hrn1
  have HNE := hid hne
  have hu64 : I64 (rn : Int) := ⟨by omega, by omega⟩
  have z1 : ¬ ((rn : Int) < 1) := by omega
  have j0 : (0 : Int) ≤ ↑k := by omega
  have j1 : (↑k : Int) < ↑rn := by omega
  clear hrn hne
  have hkl : k < (allN us).length := by rw [HRN.out]; exact hkr
  obtain ⟨x, hx⟩ : ∃ x, (allN us)[k]'hkl = x := ⟨_, rfl⟩
  have HX := hid (show x ∈ allN us from hx ▸ List.getElem_mem hkl)
  have HXE := hid hx
  have HOKX := hid ((units_ok HUO.out.ok H0.out us.length (Nat.le_refl _)).1 x HX.out)
  obtain ⟨kk, hkk⟩ : ∃ kk, x.kind = kk := ⟨_, rfl⟩
  obtain ⟨xu, hxu⟩ : ∃ xu, x.u = xu := ⟨_, rfl⟩
  obtain ⟨tn, htn⟩ : ∃ tn, (canon (nsOf us) x.M).length = tn := ⟨_, rfl⟩
  have HKK := hid hkk
  have HXU := hid hxu
  have HTN := hid htn
  have hxu11 : xu < us.length := by rw [← hxu]; have := HOKX.out.u; simpa [nsOf] using this
  have h11 : us.length ≤ 11 := by have := HUO.out.ns.hi; simpa [nsOf] using this
  have htn11 : tn ≤ 11 := by rw [← htn]; exact Nat.le_trans (canon_len _) (by simpa [nsOf] using h11)
  have hlen64 : I64 (us.length : Int) := ⟨by omega, by omega⟩
  obtain ⟨un, hun, hunl⟩ := place_natL unit (show 1 ≤ us.length by omega)
  have HUN := hid hun
  clear hx hkk hxu htn hun
  have hopen : ∀ {w3 : World} {rv : Value}, SliceRd tRow w3 (Lt w3.heap.size) rv ((allN us).map (rowOf (nsOf us))) → ∃ (gr ro cr : Nat) (At : Option Addr) (ct : Nat), rv = .slice (some ⟨gr, ro, none⟩) rn cr ∧ rn ≤ cr ∧ cr ≤ maxLen ∧ gr < w3.heap.size ∧ w3.cell? ⟨gr, ro + k * 5, none⟩ = some (.int .i64 kk) ∧ w3.cell? ⟨gr, ro + k * 5 + 1, none⟩ = some (.int .i64 xu) ∧ w3.cell? ⟨gr, ro + k * 5 + 2, none⟩ = some (.int .i64 0) ∧ w3.cell? ⟨gr, ro + k * 5 + 3, none⟩ = some (.int .i64 0) ∧ w3.cell? ⟨gr, ro + k * 5 + 4, none⟩ = some (.slice At tn ct) ∧ SliceRd tTerm w3 (Lt w3.heap.size) (.slice At tn ct) (canon (nsOf us) x.M) := by
    intro w3 rv h
    obtain ⟨Ar, cr, hrv, hrc, hrm, hrows⟩ := h.rows
    rw [List.length_map, HRN.out] at hrv hrc
    obtain ⟨gr, ro, tv, hA, hF3, a0, a1, a2, a3, a4, -, htr⟩ := hrows k (by rw [List.length_map]; exact hkl)
    subst hA
    rw [List.getElem_map, HXE.out] at a0 a1 htr
    rw [List.getElem_map] at a2 a3
    have htr' : SliceRd tTerm w3 (Lt w3.heap.size) tv (canon (nsOf us) x.M) := htr
    obtain ⟨At, ct, hte, -⟩ := htr'.terms
    rw [HTN.out] at hte
    subst hte
    refine ⟨gr, ro, cr, At, ct, hrv, hrc, hrm, hF3, ?_, ?_, a2, a3, a4, htr'⟩
    · rw [← HKK.out]; exact a0
    · rw [← HXU.out]; exact a1
  have HOPEN := hid (fun (w3 : World) (rv : Value) => @hopen w3 rv)
  clear hopen
  by_cases hk1 : kk = 1
  · have hroot : xu = 0 ∧ tn = 1 := by
      have h1 : x.kind = 1 := by rw [HKK.out, hk1]
      obtain ⟨l, e, hl⟩ := all_root HUO.out.ok H0.out
      have h2 := HX.out
      rw [e] at h2
      rcases List.mem_cons.1 h2 with h3 | h3
      · exact ⟨by rw [← HXU.out, h3]; rfl, by rw [← HTN.out, h3, (root_ok HUO.out.ns H0.out).2]; rfl⟩
      · exact absurd h1 (hl x h3)
    obtain ⟨e1, e2⟩ := hroot
    subst hk1 e1 e2
    clear HOKX HX HXE HKK HXU
    go_wp2_with (first
      | (go_at_call 14; go_must (refine (pall_rd _ us w2 HW2.out HUO.out.ok H0.out (HF.out.below HB2.out) (HT.out.later HB2.out)).mono ?_; rintro e w3 ⟨rv, rfl, hrd, hb3⟩; obtain ⟨gr, ro, cr, At, ct, hrv, hrc, hrm, hgr, a0, a1, a2, a3, a4, htr⟩ := HOPEN.out _ _ hrd; subst hrv; have HTR := hid htr; have HB3 := hid hb3; have q3 := cell_below hb3 hl2 q2; have hl3 : w1.heap.size < w3.heap.size := Nat.lt_of_lt_of_le hl2 hb3.size; clear hrd hb3 htr))
      | (go_at_call 27; go_must (refine (place_any at_ rn _ ha hu64).mono ?_; rintro e wp ⟨rfl, rfl⟩; rw [HNE.out]))
      | (go_at_call 17; refine (awake_any _ (HF.out.below ((bstep HB2.out HB3.out).trans ((balloc (b0 w3) _).mono (bstep HB2.out HB3.out).size))) (HT.out.later ((bstep HB2.out HB3.out).trans ((balloc (b0 w3) _).mono (bstep HB2.out HB3.out).size)))).mono ?_; rintro e wz ⟨rfl, hbz⟩; have HBZ := hid (bstep ((bstep HB2.out HB3.out).trans ((balloc (b0 w3) _).mono (bstep HB2.out HB3.out).size)) hbz); clear hbz))
    go_ret
    exact ⟨rfl, HBZ.out⟩
  · have z2 : (kk == 1) = false := beq_false_of_ne hk1
    have hk23 : kk = 2 ∨ kk = 3 := by
      have h := HOKX.out.kind
      rw [HKK.out] at h
      omega
    have HK23 := hid hk23
    clear hk23
    go_wp2_with (first
      | (go_at_call 14; go_must (refine (pall_rd _ us w2 HW2.out HUO.out.ok H0.out (HF.out.below HB2.out) (HT.out.later HB2.out)).mono ?_; rintro e w3 ⟨rv, rfl, hrd, hb3⟩; obtain ⟨gr, ro, cr, At, ct, hrv, hrc, hrm, hgr, a0, a1, a2, a3, a4, htr⟩ := HOPEN.out _ _ hrd; subst hrv; have HTR := hid htr; have HB3 := hid hb3; have q3 := cell_below hb3 hl2 q2; have hl3 : w1.heap.size < w3.heap.size := Nat.lt_of_lt_of_le hl2 hb3.size; clear hrd hb3 htr))
      | (go_at_call 27; go_must (refine (place_any at_ rn _ ha hu64).mono ?_; rintro e wp ⟨rfl, rfl⟩; rw [HNE.out])))
    obtain ⟨w4, hw4⟩ : ∃ w4 : World, w4 = w3.alloc (.cells #[.int .i64 kk, .int .i64 xu, .int .i64 0, .int .i64 0, .slice At tn ct] 36) := ⟨_, rfl⟩
    have hb4 : Below w3.heap.size w3 w4 := hw4 ▸ balloc (b0 w3) _
    have hs4 : w4.heap.size = w3.heap.size + 1 := by rw [hw4]; simp
    have b0' : w4.cell? ⟨w3.heap.size, 0, none⟩ = some (.int .i64 kk) := by rw [hw4, alloc_cell]; rfl
    have b1' : w4.cell? ⟨w3.heap.size, 1, none⟩ = some (.int .i64 xu) := by rw [hw4, alloc_cell]; rfl
    have b4' : w4.cell? ⟨w3.heap.size, 4, none⟩ = some (.slice At tn ct) := by rw [hw4, alloc_cell]; rfl
    have q4 := cell_below hb4 hl3 q3
    have hl4 : w1.heap.size < w4.heap.size := Nat.lt_of_lt_of_le hl3 hb4.size
    have hm4 : w3.heap.size < w4.heap.size := by omega
    have HBW := hid (bstep (bstep HB2.out HB3.out) hb4)
    have hd4 : Below w4.heap.size w4 w4.drew := (b0 w4).drew
    have HTR4 := hid (HTR.out.lift hb4 hb4.size)
    have hw24 := bstep HB3.out hb4
    have HW4 := hid (HW2.out.lift hw24 hw24.size)
    obtain ⟨-, hsa, hoka⟩ := (HTR4.out.below hd4).src
    rw [HTN.out] at hsa
    have HSA := hid hsa
    have HOKA := hid hoka
    have hun64 : I64 (un : Int) := ⟨by omega, by omega⟩
    have HI := hid (And.intro hun64 hm)
    have HRES := hid (less_cases HUO.out.ok H0.out HX.out (by rw [HKK.out]; exact hk1) (show un < us.length from hunl) mask)
    rw [HKK.out, HXU.out] at HRES
    obtain ⟨TL, hTL⟩ : ∃ TL, canon (nsOf us) x.M = TL := ⟨_, rfl⟩
    rw [hTL] at HSA HOKA HTN HTR4 HRES
    rw [← hw4]
    clear hw4 hb4 hs4 hsa hoka hTL hw24 a0 a1 a2 a3 a4 q2 q3 HTR HOPEN HOKX HXE
    go_region_held3 (fun w' => w'.cell? ⟨w1.heap.size, 0, none⟩ = some (.slice (some ⟨g, 0, none⟩) us.length c) ∧ w'.cell? ⟨w3.heap.size, 4, none⟩ = some (.slice At tn ct)) (first | exact ⟨by assumption, by assumption⟩ | go_keep) (first
      | (refine step_guard (.const (.slice none 0 0)) (.tmp 46) 34 rfl ?_; refine step_append_src _ rfl (.const (.slice none 0 0)) (.tmp 46) 34 rfl w4.heap.size 55 it _ 2 16 Tryz.underlying34 HIT.out.1 HIT.out.2.1 HIT.out.2.2.1 HIT.out.2.2.2 rfl (by omega) (.slice none 0 0) 0 [] (by rfl) (own_noneT _ _ _ _) At tn ct (termCells TL) (by rfl) (by exact HSA.out) termCells_one (by unfold maxLen; omega) (by omega) (Nat.le_refl _) ?_; intro x8 w8 hown8 hg8 hat8; have HX8 := hid (own_copyT (l := TL) HOKA.out (by rw [HTN.out]; exact hown8)); obtain ⟨A8, c8, he8⟩ := HX8.out.form; rw [HTN.out] at he8; subst he8; have HB8 := hid (own_app (v2 := .slice A8 tn c8) hd4 (OwnF.nil fTerm 55 w4.heap.size w4.drew) (Nat.le_refl _) hg8 rfl); have d8 := cell_below HB8.out hl4 q4; have d9 := cell_below HB8.out hm4 b4'; clear hown8 hg8 hat8)
      | (go_at_call 27; refine (place_any unit us.length _ hu hlen64).mono ?_; rintro e wp ⟨rfl, rfl⟩; rw [HUN.out])
      | (refine step_guard (.tmp 47) (.tmp 55) 34 rfl ?_; refine step_append_src _ rfl (.tmp 47) (.tmp 55) 34 rfl w4.heap.size 55 it _ 2 16 Tryz.underlying34 HIT.out.1 HIT.out.2.1 HIT.out.2.2.1 HIT.out.2.2.2 rfl (by omega) (.slice A8 tn c8) tn (fTerm.all TL) (by rfl) (by have h := HX8.out.1.alloc; rw [HTN.out] at h; exact h _) (some ⟨w8.heap.size, 0, none⟩) 1 1 (fTerm.cells ⟨(un : Int), mask⟩) (by rfl) (by exact src_new _ _ rfl 2 _ rfl rfl) (by simp [fTerm, Value.oneCell']) (by unfold maxLen; omega) (by omega) (by have := HB8.out.size; simp; omega) ?_; intro xA wA hownA hgA hatA; have HXA := hid (OwnF.rd (HX8.out.snoc (e := 55) (B := w4.heap.size) (v' := xA) (show fTerm.ok ⟨(un : Int), mask⟩ from HI.out) (by rw [HTN.out]; exact hownA))); have HBA := hid (own_app (v2 := xA) (balloc HB8.out _) (HX8.out.alloc _) (by have := HB8.out.size; simp; omega) hgA rfl); have dA := cell_below HBA.out hl4 q4; have dB := cell_below HBA.out hm4 b4'; clear hownA hgA hatA)
      | (go_at_call 28; refine (rmake22_any _ _ (nsOf us) (TL ++ [(⟨(un : Int), mask⟩ : Term)]) _ (uni_later HW4.out.uni HBA.out) HNS.out HXA.out).mono ?_; rintro e wM ⟨sv, rfl, hrM, hbM⟩; have HRM := hid hrM; have HBM := hid (bstep HBA.out hbM); have dM := cell_below HBM.out hl4 q4; have dN := cell_below HBM.out hm4 b4'; clear hrM hbM))
    have e0 := cell_below HBM.out hm4 b0'
    have e1 := cell_below HBM.out hm4 b1'
    have HBWM := hid (bstep HBW.out HBM.out)
    have HWM := hid (HW4.out.lift HBM.out HBM.out.size)
    rcases HRES.out with hn | ⟨T, hT, hR⟩
    · rw [hn] at HRM ⊢
      simp only [Option.isSome_none, Option.getD_none] at HRM ⊢
      clear hn HRES
      go_wp2_with (go_at_call 17; refine (awake_any _ (HF.out.below HBWM.out) (HT.out.later HBWM.out)).mono ?_; rintro e wz ⟨rfl, hbz⟩; have HBZ := hid (bstep HBWM.out hbz); clear hbz)
      go_ret
      exact ⟨rfl, HBZ.out⟩
    · rw [hT] at HRM ⊢
      simp only [Option.isSome_some, Option.getD_some] at HRM ⊢
      obtain ⟨As, cs, hsv, -⟩ := HRM.out.terms
      subst hsv
      have HRT := hid hR
      obtain ⟨tl, htl⟩ : ∃ tl, T.length = tl := ⟨_, rfl⟩
      rw [htl] at HRM ⊢
      clear hT hR HRES htl
      go_wp2_with (first
        | (go_at_call 19; refine (pright_any (.agg #[.slice (some ⟨g, 0, none⟩) us.length c]) (.slice As tl cs) us ⟨kk, xu, 0, 0, T⟩ wM HWM.out HUO.out.ok (HF.out.below HBWM.out) HRM.out).mono ?_; rintro e wR ⟨rfl, hbR⟩; rw [HRT.out]; have HBR := hid (bstep HBWM.out hbR); clear hbR)
        | (go_at_call 17; refine (awake_any _ (HF.out.below HBR.out) (HT.out.later HBR.out)).mono ?_; rintro e wz ⟨rfl, hbz⟩; have HBZ := hid (bstep HBR.out hbz); clear hbz))
      go_ret
      exact ⟨rfl, HBZ.out⟩
end Go.Proofs.YtilgijmokjekgaaGreatDoor
