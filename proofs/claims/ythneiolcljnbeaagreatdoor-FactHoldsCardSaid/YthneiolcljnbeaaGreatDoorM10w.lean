/- Contract: law23.FactHolds. -/
import Derived.Test.YthneiolcljnbeaaGreatDoorzM6
import Derived.Test.YthneiolcljnbeaaGreatDoorzZa
import Derived.Test.YthneiolcljnbeaaGreatDoorZv
import Derived.Test.YthneiolcljnbeaaGreatDoorZ8
import Derived.Test.YthneiolcljnbeaaGreatDoorN15
import Derived.Test.YthneiolcljnbeaaGreatDoorzN4
import Derived.Test.YthneiolcljnbeaaGreatDoorzH1
import Derived.Test.YthneiolcljnbeaaGreatDoorH6
import Derived.Outline
namespace Go.Proofs.YthneiolcljnbeaaGreatDoor
open Go Go.RowKit

theorem sizeGo_leM : ∀ (ns : List Nat) (n : Nat), (∀ k ∈ ns, k ≤ 4) → n ≤ 5000000 → sizeGo n ns ≤ 5000000
  | [], n, _, h => h
  | k :: r, n, hk, h => by
    unfold sizeGo
    split
    · rename_i h1
      refine sizeGo_leM r _ (fun x hx => hk x (List.mem_cons_of_mem _ hx)) ?_
      have := hk k (List.mem_cons_self ..)
      have := Nat.mul_le_mul (Nat.le_of_lt h1) (show k + 1 ≤ 5 by omega)
      omega
    · exact h
theorem right_unitsM {us : List UnitW} {r : Row} (h : rightR us r = true) : ∀ t ∈ r.terms, 0 ≤ t.unit ∧ t.unit < (nsOf us).length := by
  unfold rightR at h
  rw [Bool.and_eq_true, Bool.and_eq_true, Bool.and_eq_true] at h
  obtain ⟨-, -, hm, -⟩ := h
  intro t ht
  obtain ⟨k, hk, rfl⟩ := List.getElem_of_mem ht
  unfold mayL at hm
  have h1 := List.all_eq_true.1 hm k (List.mem_range.2 hk)
  rw [okAt_lt hk, Bool.and_eq_true] at h1
  exact mayT_unit h1.1
theorem keptM (R : List Row) (C : List Int) : ∃ K : Nat → Bool, K 0 = true ∧ K R.length = !(R.any fun r => holdL C r.terms) ∧ ∀ i (h : i < R.length), K (i + 1) = (K i && !holdL C R[i].terms) := by
  refine ⟨fun i => !((R.take i).any fun r => holdL C r.terms), by simp, by simp, fun i h => ?_⟩
  show (!((R.take (i + 1)).any fun r => holdL C r.terms)) = _
  rw [List.take_succ_eq_append_getElem h, List.any_append]
  simp

set_option maxRecDepth 100000 in
set_option maxHeartbeats 8000000 in
theorem factHolds_any (wv : Value) (ws : List Int) (w : World) (hw : SliceRd tInt w (Lt w.heap.size) wv ws) (hF : FirstIs w) (hT : TabIs w) :
    Calls Tryz.prog 3 #[wv] w fun e w' => e = .returned (.bool true) ∧ Below w.heap.size w w' := by
  have HW := hid hw
  have HF := hid hF
  have HT := hid hT
  obtain ⟨Aw, wcap, rfl, -⟩ := hw.ints
  clear hw hF hT
  go_enter Tryz.func3, Tryz.ntmps3
  go_upto_region 2 with (go_at_call 4; go_must (refine (world23_any _ ws 3 _ HW.out (by decide) (by decide)).mono ?_; rintro e w1 ⟨g, c, us, rfl, hwr, huo, h0, hb1⟩; have HWR := hid hwr; have HUO := hid huo; have H0 := hid h0; have HB1 := hid hb1; clear hwr huo h0 hb1))
  obtain ⟨w2, hw2⟩ : ∃ w2 : World, w2 = w1.alloc (.cells #[.slice (some ⟨g, 0, none⟩) us.length c] 25) := ⟨_, rfl⟩
  have hb2 : Below w1.heap.size w1 w2 := hw2 ▸ balloc (b0 w1) _
  have hl2 : w1.heap.size < w2.heap.size := by rw [hw2]; simp
  have q2 : w2.cell? ⟨w1.heap.size, 0, none⟩ = some (.slice (some ⟨g, 0, none⟩) us.length c) := by rw [hw2, alloc_cell]; rfl
  have HW2 := hid (HWR.out.lift hb2 hb2.size)
  have HB2 := hid (bstep HB1.out hb2)
  have hlo := HUO.out.ns.lo
  rw [← hw2]
  clear hw2 hb2 HWR HB1
  go_upto_region 3 with (go_at_call 5; go_must (refine (pall_rd _ us w2 HW2.out HUO.out.ok H0.out (FirstIs.below HF.out HB2.out) (TabIs.later HT.out HB2.out)).mono ?_; rintro e w3 ⟨rv, rfl, hrd, hb3⟩; have HRD := hid hrd; have HB3 := hid hb3; clear hrd hb3))
  obtain ⟨R, hR⟩ : ∃ R, (allN us).map (rowOf (nsOf us)) = R := ⟨_, rfl⟩
  have HRIGHT := hid (show ∀ r ∈ R, rightR us r = true from hR ▸ fun r hr => rows_rightH HUO.out.ok H0.out hr)
  have HKEPT := hid (show ∀ ch : List Int, ChoiceOk (nsOf us) ch → R.any (fun r => holdL ch r.terms) = !fineC us ch from hR ▸ fun ch hch => kept_fine HUO.out.ok H0.out hch)
  rw [hR] at HRD
  clear hR
  obtain ⟨Ar, cr, rfl, hcr, hcrm, hcc⟩ := HRD.out.rows
  have HCC := hid hcc
  obtain ⟨rn, hrn⟩ : ∃ rn, R.length = rn := ⟨_, rfl⟩
  have HRN := hid hrn
  rw [hrn] at hcr ⊢
  unfold maxLen at hcrm
  have HB23 := hid (bstep HB2.out HB3.out)
  have q3 := cell_below HB3.out hl2 q2
  have hl3 : w1.heap.size < w3.heap.size := Nat.lt_of_lt_of_le hl2 HB3.out.size
  have HW3 := hid (HW2.out.lift HB3.out HB3.out.size)
  clear hcc hrn q2 hl2
  go_wp2_with fail
  go_loopw [5] (fun iv wr => ∃ k : Nat, k ≤ rn ∧ iv = .int .i64 k ∧ Hid (Below w3.heap.size w3 wr)) (fun iv _ => rn - (intOf iv).toNat)
  case atStart => exact ⟨0, Nat.zero_le _, rfl, hid (b0 w3)⟩
  case round =>
    obtain ⟨k, hk, rfl, hb⟩ := hrel
    have HBR := hid (bstep HB23.out hb.out)
    have z3 := cell_below hb.out hl3 q3
    have hzr : w1.heap.size < wr.heap.size := Nat.lt_of_lt_of_le hl3 hb.out.size
    by_cases hlt : k < rn
    · have hkR : k < R.length := by rw [HRN.out]; exact hlt
      obtain ⟨gr, or, tv, hA, hFr, d0, d1, d2, d3, d4, -, gt⟩ := HCC.out k hkR
      subst hA
      have hgr : gr < wr.heap.size := Nat.lt_of_lt_of_le hFr hb.out.size
      have l0 := later_cell hgr (cell_below hb.out hFr d0)
      have l1 := later_cell hgr (cell_below hb.out hFr d1)
      have l2 := later_cell hgr (cell_below hb.out hFr d2)
      have l3 := later_cell hgr (cell_below hb.out hFr d3)
      have l4 := later_cell hgr (cell_below hb.out hFr d4)
      have l5 := later_cell hzr z3
      have HRT := hid (HRIGHT.out R[k] (List.getElem_mem hkR))
      have HS := hid (fun e : Later wr => pright_any (.agg #[.slice (some ⟨g, 0, none⟩) us.length c]) tv us R[k] e.w (HW3.out.lift (bstep hb.out e.below) (bstep hb.out e.below).size) HUO.out.ok (FirstIs.below HF.out (bstep HBR.out e.below)) (gt.lift (bstep hb.out e.below) (bstep hb.out e.below).size))
      rw [HRT.out] at HS
      generalize R[k] = r at *
      have i0 : (0 : Int) ≤ ↑k := by omega
      have i1 : (↑k : Int) < ↑rn := by omega
      clear d0 d1 d2 d3 d4 gt
      go_wp2_with fail
      (refine wp_region_later (by kernel_rfl) (by kernel_rfl) ?_; (repeat (go_big_quiet_step ((first | (go_at_call 6; exact Calls.later (HS.out _) rfl))))); refine wpQuiet_nil ?_; rintro _ ⟨⟨w4, hb4⟩, rfl⟩)
      go_wp2_with fail
      exact ⟨⟨k + 1, by omega, by go_num, hid (bstep hb.out hb4)⟩, by simp [intOf]; omega⟩
    · have hkn : k = rn := by omega
      subst hkn
      have HW3 := hid (HW3.out.lift hb.out hb.out.size)
      have i2 : ¬ ((k : Int) < (k : Int)) := by omega
      have HNS := hid HUO.out.ok.ns
      have hn11 : (nsOf us).length ≤ 11 := HUO.out.ns.hi
      have hsz : sizeN (nsOf us) ≤ 5000000 := sizeGo_leM (nsOf us) 1 (fun k hk => by obtain ⟨i, hi, rfl⟩ := List.getElem_of_mem hk; exact HNS.out.le i hi) (by decide)
      obtain ⟨sz, hszz⟩ : ∃ sz, sizeN (nsOf us) = sz := ⟨_, rfl⟩
      have HSZ := hid (fun (v : Value) (W : World) (h : UniRd W (Lt W.heap.size) v (nsOf us)) => hszz ▸ size_any v (nsOf us) W h HNS.out)
      rw [hszz] at hsz
      clear hszz
      go_wp2_with (go_at_call 7; go_must (refine (masked_any _ us wr HW3.out HUO.out.ok).mono ?_; rintro e w6 ⟨Af, nf, cf, nv, bv, rfl, hmr, hb6⟩; have HMR := hid hmr; obtain ⟨fv', nv', bv', hve, hsn, hsb⟩ := hmr; obtain ⟨An, cn, hnv, -⟩ := hsn.shape; obtain ⟨Ab, cb, hbv, -⟩ := hsb.shape; injection hve with hve; have hvl := congrArg Array.toList hve; simp only [List.cons.injEq, and_true] at hvl; obtain ⟨-, e1, e2⟩ := hvl; subst e1 e2 hnv hbv; obtain ⟨nn, hnn⟩ : ∃ nn, (needsM us).length = nn := ⟨_, rfl⟩; obtain ⟨nb, hnb⟩ : ∃ nb, (barsM us).length = nb := ⟨_, rfl⟩; rw [hnn, hnb] at HMR ⊢; have HB6 := hid hb6; clear hb6 hnn hnb hve hsn hsb))
      obtain ⟨w7, hw7⟩ : ∃ w7 : World, w7 = w6.alloc (.cells #[.slice Af nf cf, .slice An nn cn, .slice Ab nb cb] 36) := ⟨_, rfl⟩
      have hb7 : Below w6.heap.size w6 w7 := hw7 ▸ balloc (b0 w6) _
      have hl7 : w6.heap.size < w7.heap.size := by rw [hw7]; simp
      have m0 : w7.cell? ⟨w6.heap.size, 0, none⟩ = some (.slice Af nf cf) := by rw [hw7, alloc_cell]; rfl
      have m1 : w7.cell? ⟨w6.heap.size, 1, none⟩ = some (.slice An nn cn) := by rw [hw7, alloc_cell]; rfl
      have m2 : w7.cell? ⟨w6.heap.size, 2, none⟩ = some (.slice Ab nb cb) := by rw [hw7, alloc_cell]; rfl
      have HB67 := hid (bstep HB6.out hb7)
      have HB37 := hid (bstep hb.out HB67.out)
      have HB07 := hid (bstep HBR.out HB67.out)
      have HM7 := hid (HMR.out.lift hb7 hb7.size)
      have HW7 := hid (HW3.out.lift HB67.out HB67.out.size)
      have q7 := cell_below HB67.out hzr z3
      have hl17 : w1.heap.size < w7.heap.size := Nat.lt_of_lt_of_le hzr HB67.out.size
      rw [← hw7]
      clear hw7 hb7 HMR HW3 z3 hzr HB67 hb HBR q3 hl3 HB6
      go_wp2_with fail
      go_loopw [7, 8, 9, 10] (fun nv _ _ _ wr => ∃ n : Nat, n ≤ 2000 ∧ nv = .int .i64 n ∧ Hid (Below w7.heap.size w7 wr)) (fun nv _ _ _ _ => 2000 - (RowKit.intOf nv).toNat)
      case atStart => exact ⟨0, Nat.zero_le _, rfl, hid (b0 w7)⟩
      case round =>
        obtain ⟨n, hn, rfl, hbq⟩ := hrel
        have d0 := cell_below hbq.out hl17 q7
        have HSZ1 := hid (HSZ.out _ _ (uni_later HW7.out.uni hbq.out))
        by_cases hlt : n < sz ∧ n < 2000
        · have j1 : (n : Int) < (sz : Nat) := by omega
          have j2 : (n : Int) < 2000 := by omega
          have HNL := hid hlt
          clear hlt
          have HCO := hid (choice_ok (nsOf us) n)
          have HCL := hid (show (choiceF (nsOf us) n).length = us.length by rw [choiceF_len]; simp [nsOf])
          go_wp2_with (first
            | (go_at_call 8; go_must (refine HSZ1.out.mono ?_; rintro e w9 ⟨rfl, hb9⟩; have HB9 := hid (bstep hbq.out hb9); have d1 := cell_below HB9.out hl17 q7; have hl19 : w1.heap.size < w9.heap.size := Nat.lt_of_lt_of_le hl17 HB9.out.size; have HU9 := hid (uni_later HW7.out.uni HB9.out); clear hb9))
            | (go_at_call 9; go_must (refine (choice_any _ (nsOf us) n _ HU9.out HNS.out (by have := HNL.out; omega)).mono ?_; rintro e w11 ⟨cv, rfl, hcv, hb11⟩; obtain ⟨Ac, cc, hce⟩ := hcv.form; rw [HCL.out] at hce; subst hce; have HCV := hid hcv.rd; have HB11 := hid (bstep HB9.out hb11); clear hcv hb11)))
          have HB7_11 := hid (show Below w7.heap.size w7 w11 from HB11.out)
          have HFC := hid (HKEPT.out _ HCO.out)
          obtain ⟨C, hC⟩ : ∃ C, choiceF (nsOf us) n = C := ⟨_, rfl⟩
          rw [hC] at HCO HCV HFC
          clear hC
          obtain ⟨K, hK0, hKn, hKs⟩ := keptM R C
          obtain ⟨ff, hff⟩ : ∃ ff, fineC us C = ff := ⟨_, rfl⟩
          have HK0 := hid hK0
          have HKN := hid (show K k = ff from by rw [← HRN.out, hKn, HFC.out, hff]; simp)
          have HKS := hid hKs
          have HFI := hid (fun (W : World) (hb : Below w11.heap.size w11 W) => hff ▸ fine_any (.agg #[.slice Af nf cf, .slice An nn cn, .slice Ab nb cb]) (.slice Ac us.length cc) us C W HUO.out.ok (HM7.out.lift (bstep HB7_11.out hb) (bstep HB7_11.out hb).size) (HCV.out.lift hb hb.size) HCO.out)
          have HHO := hid (fun (W : World) (hb : Below w11.heap.size w11 W) => hff ▸ holds19_any (.agg #[.slice (some ⟨g, 0, none⟩) us.length c]) (.slice Ac us.length cc) us C W (HW7.out.lift (bstep HB7_11.out hb) (bstep HB7_11.out hb).size) HUO.out H0.out (HCV.out.lift hb hb.size) HCO.out)
          clear hK0 hKn hKs hff HFC d0 d1 hl19 HU9
          go_wp2_with fail
          go_loopw [9, 10] (fun kv iv wr => ∃ i : Nat, i ≤ k ∧ iv = .int .i64 i ∧ kv = .bool (K i) ∧ Hid (Below w11.heap.size w11 wr)) (fun _ iv _ => k - (RowKit.intOf iv).toNat)
          case atStart => exact ⟨0, Nat.zero_le _, rfl, by rw [HK0.out], hid (b0 w11)⟩
          case round =>
            obtain ⟨i, hi, rfl, rfl, hbr⟩ := hrel
            have HB7r := hid (bstep HB7_11.out hbr.out)
            by_cases hlt : i < k
            · have hkR : i < R.length := by rw [HRN.out]; exact hlt
              obtain ⟨gr, or, tv, hA, hFr, d0, d1, d2, d3, d4, -, gt⟩ := HCC.out i hkR
              subst hA
              have HB3r := hid (bstep HB37.out HB7r.out)
              have hgr := Nat.lt_of_lt_of_le hFr HB3r.out.size
              have l4 := later_cell hgr (cell_below HB3r.out hFr d4)
              have l5 := later_cell (Nat.lt_of_lt_of_le hl17 HB7r.out.size) (cell_below HB7r.out hl17 q7)
              have HRT := hid (HRIGHT.out R[i] (List.getElem_mem hkR))
              obtain ⟨At, ct, hte, -⟩ := gt.terms
              subst hte
              have HS := hid (fun e : Later _ => rhold_any (.agg #[.slice (some ⟨g, 0, none⟩) us.length c]) _ (.slice Ac us.length cc) (nsOf us) R[i].terms C e.w (uni_later HW7.out.uni (bstep HB7r.out e.below)) HNS.out (gt.lift (bstep HB3r.out e.below) (bstep HB3r.out e.below).size) (HCV.out.lift (bstep hbr.out e.below) (bstep hbr.out e.below).size) HCO.out (right_unitsM HRT.out))
              have HKI := hid (HKS.out i hkR)
              generalize R[i] = r at *
              obtain ⟨tl, htl⟩ : ∃ tl, r.terms.length = tl := ⟨_, rfl⟩
              obtain ⟨hh, hhh⟩ : ∃ hh, holdL C r.terms = hh := ⟨_, rfl⟩
              obtain ⟨kb, hkb⟩ : ∃ kb, K i = kb := ⟨_, rfl⟩
              rw [htl] at HS
              rw [hhh] at HS HKI
              rw [hkb] at HKI ⊢
              rw [htl] at l4
              have i0 : (0 : Int) ≤ ↑i := by omega
              have i1 : (↑i : Int) < ↑k := by omega
              clear d0 d1 d2 d3 d4 gt hhh htl hkb HRT
              go_wp2_with fail
              cases kb with
              | true =>
                (refine wp_region_later (by kernel_rfl) (by kernel_rfl) ?_; (repeat (go_big_quiet_step ((first | (go_at_call 10; exact Calls.later (HS.out _) rfl))))); refine wpQuiet_nil ?_; rintro _ ⟨⟨w4, hb4⟩, rfl⟩)
                go_wp2_with fail
                exact ⟨⟨i + 1, by omega, by go_num, by rw [HKI.out]; rfl, hid (bstep hbr.out hb4)⟩, by simp [RowKit.intOf]; omega⟩
              | false =>
                (refine wp_region_later (by kernel_rfl) (by kernel_rfl) ?_; (repeat (go_big_quiet_step ((first | fail)))); refine wpQuiet_nil ?_; rintro _ ⟨⟨w4, hb4⟩, rfl⟩)
                go_wp2_with fail
                exact ⟨⟨i + 1, by omega, by go_num, by rw [HKI.out]; rfl, hid (bstep hbr.out hb4)⟩, by simp [RowKit.intOf]; omega⟩
            · have hik : i = k := by omega
              subst hik
              have d0 := cell_below HB7r.out hl17 q7
              have d1 := cell_below HB7r.out hl7 m0
              have d2 := cell_below HB7r.out hl7 m1
              have d3 := cell_below HB7r.out hl7 m2
              rw [HKN.out]
              by_cases h9 : n < 9
              · have j3 : (n : Int) < 9 := by omega
                clear h9
                go_wp2_with (first
                  | (go_at_call 11; go_must (refine (HFI.out _ hbr.out).mono ?_; rintro e w12 ⟨rfl, hb12⟩; have HB12 := hid (bstep hbr.out hb12); have f0 := cell_below (bstep HB7r.out hb12) hl17 q7; clear hb12))
                  | (go_at_call 12; go_must (refine (HHO.out _ HB12.out).mono ?_; rintro e w13 ⟨rfl, hb13⟩; have HB13 := hid (bstep HB12.out hb13); clear hb13)))
                exact ⟨⟨n + 1, by have := HNL.out; omega, by go_num, hid (bstep HB7_11.out HB13.out)⟩, by have := HNL.out; simp [RowKit.intOf]; omega⟩
              · have j3 : ¬ ((n : Int) < 9) := by omega
                clear h9
                go_wp2_with (go_at_call 11; go_must (refine (HFI.out _ hbr.out).mono ?_; rintro e w12 ⟨rfl, hb12⟩; have HB12 := hid (bstep hbr.out hb12); clear hb12))
                exact ⟨⟨n + 1, by have := HNL.out; omega, by go_num, hid (bstep HB7_11.out HB12.out)⟩, by have := HNL.out; simp [RowKit.intOf]; omega⟩
        · have HAW := hid (fun (W : World) (hb : Below w7.heap.size w7 W) => awake_any W (FirstIs.below HF.out (bstep HB07.out hb)) (TabIs.later HT.out (bstep HB07.out hb)))
          by_cases hs : n < sz
          · have j1 : (n : Int) < (sz : Nat) := by omega
            have j2 : ¬ ((n : Int) < 2000) := by omega
            clear hlt hs
            go_wp2_with (first
              | (go_at_call 8; go_must (refine HSZ1.out.mono ?_; rintro e w9 ⟨rfl, hb9⟩; have HB9 := hid (bstep hbq.out hb9); clear hb9))
              | (go_at_call 13; refine (HAW.out _ HB9.out).mono ?_; rintro e wz ⟨rfl, hbz⟩))
            go_ret
            exact ⟨rfl, bstep HB07.out (bstep HB9.out hbz)⟩
          · have j1 : ¬ ((n : Int) < (sz : Nat)) := by omega
            clear hlt hs
            go_wp2_with (first
              | (go_at_call 8; go_must (refine HSZ1.out.mono ?_; rintro e w9 ⟨rfl, hb9⟩; have HB9 := hid (bstep hbq.out hb9); clear hb9))
              | (go_at_call 13; refine (HAW.out _ HB9.out).mono ?_; rintro e wz ⟨rfl, hbz⟩))
            go_ret
            exact ⟨rfl, bstep HB07.out (bstep HB9.out hbz)⟩
end Go.Proofs.YthneiolcljnbeaaGreatDoor
