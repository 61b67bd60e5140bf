/- Contract: law23.FactSays. -/
import Derived.Test.YtilgijmokjekgaaGreatDoorZv
import Derived.Test.YtilgijmokjekgaaGreatDoorZq
import Derived.Test.YtilgijmokjekgaaGreatDoorzZ6
import Derived.Test.YtilgijmokjekgaaGreatDoorA12
import Derived.Test.YtilgijmokjekgaaGreatDoorN15
import Derived.Test.YtilgijmokjekgaaGreatDoorzBase
import Derived.Deep.RegionHeld3
import Derived.BigRegion
import Derived.Outline
namespace Go.Proofs.YtilgijmokjekgaaGreatDoor
open Go Go.RowKit

theorem place_natS (x : Int) {n : Nat} (h : 1 ≤ n) : ∃ k : Nat, placeF x n = (k : Int) ∧ k < n :=
  ⟨(placeF x n).toNat, by have := placeF_lo x n; omega, by have := placeF_lo x n; have := placeF_hi x n; omega⟩
theorem sizeGo_leS : ∀ (ns : List Nat) (n : Nat), (∀ k ∈ ns, k ≤ 4) → n ≤ 5000000 → sizeGo n ns ≤ 5000000
  | [], n, _, h => h
  | k :: r, n, hk, h => by
    unfold sizeGo
    split
    · rename_i h1
      refine sizeGo_leS r _ (fun x hx => hk x (List.mem_cons_of_mem _ hx)) ?_
      have := hk k (List.mem_cons_self ..)
      have := Nat.mul_le_mul (Nat.le_of_lt h1) (show k + 1 ≤ 5 by omega)
      omega
    · exact h
set_option maxRecDepth 100000 in
set_option maxHeartbeats 8000000 in
theorem factSays_any (wv : Value) (ws : List Int) (n : Int) (w : World) (hw : SliceRd tInt w (Lt w.heap.size) wv ws) (hn : I64 n) (hF : FirstIs w) (hT : TabIs w) :
    Calls Tryz.prog 10 #[wv, .int .i64 n] w fun e w' => e = .returned (.bool true) ∧ Below w.heap.size w w' := by
  have HW := hid hw
  have HF := hid hF
  have HT := hid hT
  obtain ⟨Aw, wcap, rfl, -⟩ := hw.ints
  clear hw hF hT
  go_enter Tryz.func10, Tryz.ntmps10
  go_wp2_with (go_at_call 11; go_must (refine (world23_any _ ws 4 _ HW.out (by decide) (by decide)).mono ?_; rintro e w1 ⟨g, c, us, rfl, hwr, huo, h0, hb1⟩; have HWR := hid hwr; have HUO := hid huo; have H0 := hid h0; have HB1 := hid hb1; clear hwr huo h0 hb1))
  obtain ⟨w2, hw2⟩ : ∃ w2 : World, w2 = w1.alloc (.cells #[.slice (some ⟨g, 0, none⟩) us.length c] 25) := ⟨_, rfl⟩
  have hb2 : Below w1.heap.size w1 w2 := hw2 ▸ balloc (b0 w1) _
  have hl2 : w1.heap.size < w2.heap.size := by rw [hw2]; simp
  have q2 : w2.cell? ⟨w1.heap.size, 0, none⟩ = some (.slice (some ⟨g, 0, none⟩) us.length c) := by rw [hw2, alloc_cell]; rfl
  have HW2 := hid (HWR.out.lift hb2 hb2.size)
  have HNS := hid HUO.out.ns
  have HB2 := hid (bstep HB1.out hb2)
  have h11 : us.length ≤ 11 := by have := HUO.out.ns.hi; simpa [nsOf] using this
  obtain ⟨rn, hrn⟩ : ∃ rn, (allN us).length = rn := ⟨_, rfl⟩
  have HRN := hid hrn
  have hrn600 : rn ≤ 600 := by
    rw [← hrn]
    have h1 := (units_ok HUO.out.ok H0.out us.length (Nat.le_refl _)).2
    show (unitsN us us.length).length ≤ 600
    omega
  have hsz : sizeN (nsOf us) ≤ 5000000 := sizeGo_leS (nsOf us) 1 (fun k hk => by obtain ⟨i, hi, rfl⟩ := List.getElem_of_mem hk; exact HNS.out.le i hi) (by decide)
  obtain ⟨m, hme, hml⟩ := place_natS n (sizeN_pos (nsOf us))
  have HME := hid (fun W => hme ▸ place_any n (sizeN (nsOf us) : Nat) W hn ⟨by omega, by omega⟩)
  have HM := hid (show m ≤ 100000000 by omega)
  obtain ⟨sz, hszz⟩ : ∃ sz, sizeN (nsOf us) = sz := ⟨_, rfl⟩
  have HSZ := hid (fun (v : Value) (W : World) (h : UniRd W (Lt W.heap.size) v (nsOf us)) => hszz ▸ size_any v (nsOf us) W h HNS.out)
  rw [hszz] at HME
  have HCL := hid (show (choiceF (nsOf us) m).length = us.length by rw [choiceF_len]; simp [nsOf])
  have HCO := hid (choice_ok (nsOf us) m)
  rw [← hw2]
  clear hw2 hb2 hrn hme hml hszz hsz
  go_wp2_with (go_at_call 14; go_must (refine (pall_rd _ us w2 HW2.out HUO.out.ok H0.out (HF.out.below HB2.out) (HT.out.later HB2.out)).mono ?_; rintro e w3 ⟨rv, rfl, hrd, hb3⟩; obtain ⟨Ar, cr, hrv, -⟩ := hrd.rows; rw [List.length_map, HRN.out] at hrv; subst hrv; have HRD := hid hrd; have HB3 := hid hb3; have q3 := cell_below hb3 hl2 q2; have hl3 : w1.heap.size < w3.heap.size := Nat.lt_of_lt_of_le hl2 hb3.size; have HW3 := hid (HW2.out.lift hb3 hb3.size); clear hrd hb3))
  go_region_held3 (fun w' => w'.cell? ⟨w1.heap.size, 0, none⟩ = some (.slice (some ⟨g, 0, none⟩) us.length c)) (first | assumption | go_keep) (first
    | (go_at_call 22; refine (HSZ.out _ _ (uni_later HW3.out.uni (b0 w3).drew)).mono ?_; rintro e w4 ⟨rfl, hb4⟩; have HB4 := hid ((b0 w3).drew.trans (hb4.mono (Nat.le_refl _))); have q4 := cell_below HB4.out hl3 q3; clear hb4)
    | (go_at_call 27; refine (HME.out _).mono ?_; rintro e wq ⟨rfl, rfl⟩)
    | (go_at_call 23; refine (choice_any _ (nsOf us) m w4 (uni_later HW3.out.uni HB4.out) HNS.out HM.out).mono ?_; rintro e w5 ⟨cv, rfl, hcv, hb5⟩; obtain ⟨Ac, cc, hce⟩ := hcv.form; rw [HCL.out] at hce; subst hce; have HCV := hid hcv; have HB5 := hid (bstep HB4.out hb5); have q5 := cell_below HB5.out hl3 q3; clear hcv hb5))
  have hl5 : w1.heap.size < w5.heap.size := Nat.lt_of_lt_of_le hl3 HB5.out.size
  have HBW5 := hid (bstep (bstep HB2.out HB3.out) HB5.out)
  have HW5 := hid (HW3.out.lift HB5.out HB5.out.size)
  have HRD5 := hid (HRD.out.lift HB5.out HB5.out.size)
  obtain ⟨C, hC⟩ : ∃ C, choiceF (nsOf us) m = C := ⟨_, rfl⟩
  rw [hC] at HCL HCO HCV
  have HCR := hid HCV.out.rd
  obtain ⟨g9, cap9, hv9, hg9, hun⟩ := HW5.out.opened
  injection hv9 with hv9
  have hv8 := congrArg Array.toList hv9
  simp only [List.cons.injEq, and_true] at hv8
  injection hv8 with e1 e2 e3
  injection e1 with e1
  injection e1 with e1
  subst e1 e3
  have HUN := hid hun
  have hgl : g < w5.heap.size := hg9
  obtain ⟨A9, c9, hce9, -, -, hcat⟩ := HCR.out.ints
  rw [HCL.out] at hce9
  injection hce9 with e4 e5 e6
  subst e4 e6
  have HCAT := hid hcat
  have HIW := hid (fun (r : Row) (hr : r ∈ (allN us).map (rowOf (nsOf us))) (t : Term) (ht : t ∈ r.terms) => show 0 ≤ t.unit ∧ t.unit < (nsOf us).length by
    obtain ⟨y, -, rfl⟩ := List.mem_map.1 hr
    obtain ⟨v, hv, -, e⟩ := canon_mem.1 (show t ∈ canon (nsOf us) y.M from ht)
    rw [e]
    exact ⟨by show (0 : Int) ≤ (v : Int); omega, by show (v : Int) < _; omega⟩)
  clear hC hv9 hun hcat hg9 q2 q3 q4 e2 e5 HCV HRD HW3 HM HME HSZ
  go_wp2_with fail
  go_loopw [8, 9, 10, 11] (fun uv _ _ _ wr => ∃ u : Nat, u ≤ us.length ∧ uv = .int .i64 u ∧ Hid (Below w5.heap.size w5 wr)) (fun uv _ _ _ _ => us.length - (intOf uv).toNat)
  case atStart => exact ⟨0, Nat.zero_le _, rfl, hid (b0 w5)⟩
  case round =>
    obtain ⟨u, hu, rfl, hb⟩ := hrel
    have d0 := cell_below hb.out hl5 q5
    by_cases hlt : u < us.length
    · have i0 : (0 : Int) ≤ ↑u := by omega
      have i1 : (↑u : Int) < ↑us.length := by omega
      have huC : u < C.length := by rw [HCL.out]; exact hlt
      have huN : u < (nsOf us).length := by simpa [nsOf] using hlt
      obtain ⟨gc1, oc1, hA1, hF1, hcc1, -⟩ := HCAT.out u huC
      subst hA1
      have hval := HCO.out.val u huN
      rw [List.getD_eq_getElem?_getD, List.getElem?_eq_getElem huC] at hval
      have hval2 : -1 ≤ C[u] ∧ C[u] < (nsOf us)[u] := hval
      have hgd : C.getD u 0 = C[u] := by rw [List.getD_eq_getElem?_getD, List.getElem?_eq_getElem huC]; rfl
      have HGD := hid hgd
      have hns : (nsOf us)[u] = us[u].cands.length := by simp [nsOf]
      rw [hns] at hval2
      obtain ⟨cu, hcu⟩ : ∃ cu, C[u] = cu := ⟨_, rfl⟩
      rw [hcu] at hcc1 hval2 HGD
      have d1 := cell_below hb.out hF1 hcc1
      clear hcu hval hgd hcc1 hns
      by_cases hneg : cu < 0
      · clear hval2
        go_wp2_with fail
        exact ⟨⟨u + 1, by omega, by go_num, hb⟩, by simp [intOf]; omega⟩
      · obtain ⟨p, hp⟩ : ∃ p : Nat, cu = (p : Int) := ⟨cu.toNat, by omega⟩
        subst hp
        have hpc : p < us[u].cands.length := by omega
        obtain ⟨Acc, ccc, hcu2, hcd⟩ := HUN.out u hlt
        obtain ⟨gc, oc, nv, bv, hAc, hFc, hat, hvB, hnd, hbr⟩ := hcd p hpc
        subst hAc
        have HWI := hid (ok_wants HUO.out.ok hlt hpc)
        have HXQ := hid (show us[u]? = some us[u] from List.getElem?_eq_getElem hlt)
        have HCQ := hid (show us[u].cands[p]? = some us[u].cands[p] from List.getElem?_eq_getElem hpc)
        obtain ⟨cd, hcdd⟩ : ∃ cd, us[u].cands[p] = cd := ⟨_, rfl⟩
        rw [hcdd] at hat hnd hbr HWI HCQ
        have HND := hid hnd
        have HBR := hid hbr
        obtain ⟨An, cn, rfl, hcn, hcnm, hnl⟩ := hnd.lists
        obtain ⟨Ab, cb, rfl, hcb, hcbm, hbl⟩ := hbr.wants
        have HNL := hid hnl
        obtain ⟨nc, hnc⟩ : ∃ nc, us[u].cands.length = nc := ⟨_, rfl⟩
        rw [hnc] at hcu2 hpc
        have i2 : (0 : Int) ≤ ↑p := by omega
        have i3 : (↑p : Int) < ↑nc := by omega
        have i4 : ¬ ((↑p : Int) < 0) := by omega
        obtain ⟨y0, y1, y2, y3, y4, y5, y6, y7⟩ := hat.below hb.out hFc
        have z0 := cell_below hb.out hgl hcu2
        have n4 : g < wr.heap.size := Nat.lt_of_lt_of_le hgl hb.out.size
        have n5 : gc < wr.heap.size := Nat.lt_of_lt_of_le hFc hb.out.size
        have n6 : gc1 < wr.heap.size := Nat.lt_of_lt_of_le hF1 hb.out.size
        have n7 : w1.heap.size < wr.heap.size := Nat.lt_of_lt_of_le hl5 hb.out.size
        obtain ⟨nn, hnn⟩ : ∃ nn, cd.needs.length = nn := ⟨_, rfl⟩
        obtain ⟨nb, hnb⟩ : ∃ nb, cd.bars.length = nb := ⟨_, rfl⟩
        have HNN := hid hnn
        have HNB := hid hnb
        have hnn8 : nn ≤ 8 := by rw [← hnn]; exact HWI.out.1.1
        have hnb1000 : nb ≤ 1000 := by rw [← hnb]; exact HWI.out.2.1
        rw [hnn] at y6 hcn HND
        rw [hnb] at y7 hcb HBR
        unfold maxLen at hcnm hcbm
        clear hcd hvB hnd hbr hnl hbl hcdd hnc hnn hnb hcu2 hval2 hat
        go_wp2_with fail
        go_region
        obtain ⟨w6, hw6⟩ : ∃ w6 : World, w6 = (wr.alloc (.cells #[.int .i64 cd.v.major, .int .i64 cd.v.minor, .int .i64 cd.v.patch, .string cd.v.pre, .string cd.v.build, .int .i64 cd.sh, .slice An nn cn, .slice Ab nb cb] 69)).drew := ⟨_, rfl⟩
        have hb6 : Below wr.heap.size wr w6 := hw6 ▸ bdrew (balloc (b0 wr) _)
        have hs6 : wr.heap.size < w6.heap.size := by rw [hw6]; show _ < (wr.alloc _).heap.size; simp
        have k6 : w6.cell? ⟨wr.heap.size, 6, none⟩ = some (.slice An nn cn) := by rw [hw6]; exact (alloc_cell wr _ _ 6).trans rfl
        have k7 : w6.cell? ⟨wr.heap.size, 7, none⟩ = some (.slice Ab nb cb) := by rw [hw6]; exact (alloc_cell wr _ _ 7).trans rfl
        have d6 := cell_below hb6 n7 d0
        have HB6 := hid (bstep hb.out hb6)
        rw [← hw6]
        clear hw6 hb6 z0 y0 y1 y2 y3 y4 y5 y6 y7 d0 d1
        obtain ⟨wo, rfl⟩ : ∃ wo, wo = wr := ⟨_, rfl⟩
        go_wp2_with fail
        go_loopw [10] (fun kv wr => ∃ k : Nat, k ≤ nn ∧ kv = .int .i64 k ∧ Hid (Below w6.heap.size w6 wr)) (fun kv _ => nn - (intOf kv).toNat)
        case atStart => exact ⟨0, Nat.zero_le _, rfl, hid (b0 w6)⟩
        case round =>
          obtain ⟨k, hk, rfl, hbk⟩ := hrel
          have hb56 := bstep HB6.out hbk.out
          by_cases hltk : k < nn
          · have hkL : k < cd.needs.length := by rw [HNN.out]; exact hltk
            obtain ⟨gn, on, lv, hAn, hFn, cN, hlr⟩ := HNL.out k hkL
            subst hAn
            have HMETC := hid (fun e : Later wr => met23_any (.agg #[.slice (some ⟨g, 0, none⟩) us.length c]) (.slice (some ⟨gc1, oc1, none⟩) us.length cc) lv us C cd.needs[k] e.w (HW5.out.lift (bstep hb56 e.below) (bstep hb56 e.below).size) HUO.out.ok (HCR.out.lift (bstep hb56 e.below) (bstep hb56 e.below).size) HCO.out (hlr.lift (bstep hb56 e.below) (bstep hb56 e.below).size) (HWI.out.1.2 _ (List.getElem_mem hkL)))
            have HSAID := hid (fun e : Later wr => said23_any (.agg #[.slice (some ⟨g, 0, none⟩) us.length c]) (.slice Ar rn cr) (.slice (some ⟨gc1, oc1, none⟩) us.length cc) (nsOf us) ((allN us).map (rowOf (nsOf us))) 2 u C e.w (HW5.out.lift (bstep hb56 e.below) (bstep hb56 e.below).size).uni HNS.out (HRD5.out.lift (bstep hb56 e.below) (bstep hb56 e.below).size) (HCR.out.lift (bstep hb56 e.below) (bstep hb56 e.below).size) HCO.out HIW.out (by rw [List.length_map, HRN.out]; omega))
            have HNEED := hid (fun (h : cd.needs[k].any (metC us C) = false) => says_need (l := cd.needs[k]) HUO.out.ok H0.out HCO.out HXQ.out HCQ.out HGD.out (List.getElem_mem hkL) h)
            obtain ⟨Al, cl, hlv, -⟩ := hlr.wants
            obtain ⟨ll, hll⟩ : ∃ ll, cd.needs[k].length = ll := ⟨_, rfl⟩
            rw [hll] at hlv
            subst hlv
            have j0 : (0 : Int) ≤ ↑k := by omega
            have j1 : (↑k : Int) < ↑nn := by omega
            have hFw : gn < wr.heap.size := Nat.lt_of_lt_of_le hFn hb56.size
            have l0 := later_cell (Nat.lt_of_lt_of_le (Nat.lt_of_lt_of_le n7 (Nat.le_of_lt hs6)) hbk.out.size) (cell_below hbk.out (Nat.lt_of_lt_of_le n7 (Nat.le_of_lt hs6)) d6)
            have l1 := later_cell (Nat.lt_of_lt_of_le hs6 hbk.out.size) (cell_below hbk.out hs6 k6)
            have x1 := cell_below hbk.out hs6 k6
            have l2 := later_cell hFw (cell_below hb56 hFn cN)
            obtain ⟨bm, hbm⟩ : ∃ bm, cd.needs[k].any (metC us C) = bm := ⟨_, rfl⟩
            rw [hbm] at HMETC HNEED
            clear hll hbm cN hlr hb56
            cases bm with
            | true =>
              obtain ⟨bs, hbs⟩ : ∃ bs, ((allN us).map (rowOf (nsOf us))).any (saidC 2 u C) = bs := ⟨_, rfl⟩
              rw [hbs] at HSAID
              clear hbs HNEED
              go_wp2_with fail
              (refine wp_region_later (by kernel_rfl) (by kernel_rfl) ?_; (repeat (go_big_quiet_step ((first | (go_at_call 32; exact Calls.later (HMETC.out _) rfl) | (go_at_call 33; exact Calls.later (HSAID.out _) rfl))))); refine wpQuiet_nil ?_; rintro _ ⟨⟨w1x, hb1x⟩, rfl⟩)
              go_wp2
              exact ⟨⟨k + 1, by omega, by go_num, hid (bstep hbk.out hb1x)⟩, by simp [intOf]; omega⟩
            | false =>
              rw [HNEED.out rfl] at HSAID
              clear HNEED
              go_wp2_with fail
              (refine wp_region_later (by kernel_rfl) (by kernel_rfl) ?_; (repeat (go_big_quiet_step ((first | (go_at_call 32; exact Calls.later (HMETC.out _) rfl) | (go_at_call 33; exact Calls.later (HSAID.out _) rfl))))); refine wpQuiet_nil ?_; rintro _ ⟨⟨w1x, hb1x⟩, rfl⟩)
              go_wp2
              exact ⟨⟨k + 1, by omega, by go_num, hid (bstep hbk.out hb1x)⟩, by simp [intOf]; omega⟩
          · have hkn : k = nn := by omega
            subst hkn
            clear hltk
            have x1 := cell_below hbk.out hs6 k6
            obtain ⟨wn, rfl⟩ : ∃ wn, wn = wr := ⟨_, rfl⟩
            have HBN := hid hbk.out
            have k7n := cell_below hbk.out hs6 k7
            have d7 := cell_below hbk.out (Nat.lt_of_lt_of_le n7 (Nat.le_of_lt hs6)) d6
            have hs7 : wo.heap.size < wn.heap.size := Nat.lt_of_lt_of_le hs6 hbk.out.size
            have n8 : w1.heap.size < wn.heap.size := Nat.lt_of_lt_of_le (Nat.lt_of_lt_of_le n7 (Nat.le_of_lt hs6)) hbk.out.size
            have HB7 := hid (bstep HB6.out hbk.out)
            clear hbk
            go_wp2_with fail
            go_loopw [11] (fun kv wr => ∃ k : Nat, k ≤ nb ∧ kv = .int .i64 k ∧ Hid (Below wn.heap.size wn wr)) (fun kv _ => nb - (intOf kv).toNat)
            case atStart => exact ⟨0, Nat.zero_le _, rfl, hid (b0 wn)⟩
            case round =>
              obtain ⟨k, hk, rfl, hbk⟩ := hrel
              have hb57 := bstep HB7.out hbk.out
              have x1 := cell_below hbk.out hs7 k7n
              by_cases hltk : k < nb
              · have hkL : k < cd.bars.length := by rw [HNB.out]; exact hltk
                have HBR5 := HBR.out.lift hb57 hb57.size
                have j0 : (0 : Int) ≤ ↑k := by omega
                have j1 : (↑k : Int) < ↑nb := by omega
                have j4 : IntKind.i64.wrap (↑k + 1) = (↑k : Int) + 1 := IntWalk.i64_in _ (by omega)
                have j5 : (0 : Int) ≤ ↑k + 1 := by omega
                have j6 : ((↑k : Int) + 1).toNat = k + 1 := by omega
                have j7 : (↑k : Int) + 1 ≤ ↑cb := by omega
                have j8 : k + 1 - k = 1 := by omega
                have j9 : (↑k : Int) ≤ ↑k + 1 := by omega
                obtain ⟨gn, on, hAn, hFn, hs1⟩ := HBR5.oneAt hkL
                subst hAn
                rw [if_neg (show ¬ cb = k by omega)] at hs1
                have hs2 : SliceRd tWant wr (Lt wr.heap.size) (.slice (some ⟨gn, on + k * 3, none⟩) 1 (cb - k)) [cd.bars[k]] := hs1
                have hwi : WantsIn us.length [cd.bars[k]] := ⟨by simp, fun y hy => by rw [List.mem_singleton.1 hy]; exact HWI.out.2.2 _ (List.getElem_mem hkL)⟩
                have HMETC := hid (fun e : Later wr => met23_any (.agg #[.slice (some ⟨g, 0, none⟩) us.length c]) (.slice (some ⟨gc1, oc1, none⟩) us.length cc) (.slice (some ⟨gn, on + k * 3, none⟩) 1 (cb - k)) us C [cd.bars[k]] e.w (HW5.out.lift (bstep hb57 e.below) (bstep hb57 e.below).size) HUO.out.ok (HCR.out.lift (bstep hb57 e.below) (bstep hb57 e.below).size) HCO.out (hs2.lift e.below e.below.size) hwi)
                have HSAID := hid (fun e : Later wr => said23_any (.agg #[.slice (some ⟨g, 0, none⟩) us.length c]) (.slice Ar rn cr) (.slice (some ⟨gc1, oc1, none⟩) us.length cc) (nsOf us) ((allN us).map (rowOf (nsOf us))) 3 u C e.w (HW5.out.lift (bstep hb57 e.below) (bstep hb57 e.below).size).uni HNS.out (HRD5.out.lift (bstep hb57 e.below) (bstep hb57 e.below).size) (HCR.out.lift (bstep hb57 e.below) (bstep hb57 e.below).size) HCO.out HIW.out (by rw [List.length_map, HRN.out]; omega))
                have HNEED := hid (fun (h : metC us C cd.bars[k] = true) => says_bar (y := cd.bars[k]) HUO.out.ok H0.out HCO.out HXQ.out HCQ.out HGD.out (List.getElem_mem hkL) h)
                have hone : [cd.bars[k]].any (metC us C) = metC us C cd.bars[k] := by simp
                rw [hone] at HMETC
                have l0 := later_cell (Nat.lt_of_lt_of_le n8 hbk.out.size) (cell_below hbk.out n8 d7)
                have l1 := later_cell (Nat.lt_of_lt_of_le hs7 hbk.out.size) x1
                obtain ⟨bm, hbm⟩ : ∃ bm, metC us C cd.bars[k] = bm := ⟨_, rfl⟩
                rw [hbm] at HMETC HNEED
                clear hbm hs1 hs2 hwi hone HBR5 hb57
                cases bm with
                | false =>
                  obtain ⟨bs, hbs⟩ : ∃ bs, ((allN us).map (rowOf (nsOf us))).any (saidC 3 u C) = bs := ⟨_, rfl⟩
                  rw [hbs] at HSAID
                  clear hbs HNEED
                  go_wp2_with fail
                  (refine wp_region_later (by kernel_rfl) (by kernel_rfl) ?_; (repeat (go_big_quiet_step ((first | (go_at_call 32; exact Calls.later (HMETC.out _) rfl) | (go_at_call 33; exact Calls.later (HSAID.out _) rfl))))); refine wpQuiet_nil ?_; rintro _ ⟨⟨w1x, hb1x⟩, rfl⟩)
                  go_wp2
                  exact ⟨⟨k + 1, by omega, by go_num, hid (bstep hbk.out hb1x)⟩, by simp [intOf]; omega⟩
                | true =>
                  rw [HNEED.out rfl] at HSAID
                  clear HNEED
                  go_wp2_with fail
                  (refine wp_region_later (by kernel_rfl) (by kernel_rfl) ?_; (repeat (go_big_quiet_step ((first | (go_at_call 32; exact Calls.later (HMETC.out _) rfl) | (go_at_call 33; exact Calls.later (HSAID.out _) rfl))))); refine wpQuiet_nil ?_; rintro _ ⟨⟨w1x, hb1x⟩, rfl⟩)
                  go_wp2
                  exact ⟨⟨k + 1, by omega, by go_num, hid (bstep hbk.out hb1x)⟩, by simp [intOf]; omega⟩
              · have hkn : k = nb := by omega
                subst hkn
                clear hltk
                go_wp2_with fail
                exact ⟨⟨u + 1, by omega, by go_num, hid (bstep HB7.out hbk.out)⟩, by simp [intOf]; omega⟩
    · have hue : u = us.length := by omega
      subst hue
      clear hlt
      go_wp2_with (go_at_call 17; refine (awake_any _ (HF.out.below (bstep HBW5.out hb.out)) (HT.out.later (bstep HBW5.out hb.out))).mono ?_; rintro e wz ⟨rfl, hbz⟩; have HBZ := hid (bstep (bstep HBW5.out hb.out) hbz); clear hbz)
      go_ret
      exact ⟨rfl, HBZ.out⟩
end Go.Proofs.YtilgijmokjekgaaGreatDoor
