/- Contract: linchpinlaw22.IncompWithin. -/
import Derived.Test.YtilkhofgcgfnlaaGreatL1all
import Derived.Test.YtilkhofgcgfnlaaGreatN15
import Derived.Test.YtilkhofgcgfnlaaGreatP4
import Derived.Outline
namespace Go.Proofs.YtilkhofgcgfnlaaGreat
open Go Go.RowKit

/-- Whether whatever makes b hold among the first choices makes a hold. -/
def allN (ns : List Nat) (Ma Mb : Nat → Nat) (n : Nat) : Bool := (List.range n).all fun i => !holdN ns Mb (choiceF ns i) || holdN ns Ma (choiceF ns i)
theorem allN_succ (ns : List Nat) (Ma Mb : Nat → Nat) (n : Nat) : allN ns Ma Mb (n + 1) = (allN ns Ma Mb n && (!holdN ns Mb (choiceF ns n) || holdN ns Ma (choiceF ns n))) := by
  unfold allN
  rw [List.range_succ, List.all_append]
  simp
theorem allN_within {ns : List Nat} {Ma Mb : Nat → Nat} (hb : IncOk ns Mb) (h : sizeN ns ≤ 3000) : allN ns Ma Mb (sizeN ns) = withinN ns Ma Mb := by
  have hs := sizeN_eq (ns := ns) (by omega)
  apply Bool.eq_iff_iff.2
  unfold allN
  rw [List.all_eq_true]
  constructor
  · intro h1
    refine within_all hb fun n hn hbn => ?_
    have := h1 n (List.mem_range.2 (by omega))
    rw [hbn] at this
    simpa using this
  · intro h1 n _
    cases hbn : holdN ns Mb (choiceF ns n) with
    | false => rfl
    | true => rw [within_hold h1 hbn]; rfl
set_option maxRecDepth 100000 in
set_option maxHeartbeats 8000000 in
theorem withinLaw_any (wv kv lv : Value) (ws ks ls : List Int) (w : World) (hw : SliceRd tInt w (Lt w.heap.size) wv ws) (hk : SliceRd tInt w (Lt w.heap.size) kv ks) (hl : SliceRd tInt w (Lt w.heap.size) lv ls) :
    Calls Tryz.prog 8 #[wv, kv, lv] w fun e w' => e = .returned (.bool true) ∧ Below w.heap.size w w' := by
  have HW := hid hw
  have HK := hid hk
  have HL := hid hl
  obtain ⟨Aw, wcap, rfl, -⟩ := hw.ints
  obtain ⟨Ak, kcap, rfl, hkc, hkm, -⟩ := hk.ints
  obtain ⟨Al, lcap, rfl, hlc, hlm, -⟩ := hl.ints
  unfold maxLen at hkm hlm
  clear hw hk hl
  by_cases hlen : ks.length ≤ 40 ∧ ls.length ≤ 40
  · have k1 : ¬ (40 < (ks.length : Int)) := by omega
    have k2 : ¬ (40 < (ls.length : Int)) := by omega
    clear hlen
    go_enter Tryz.func8, Tryz.ntmps8
    go_wp2_with (first
      | (go_at_call 11; go_must (refine (worldRd_any _ ws 3 _ HW.out (by decide) (by decide)).mono ?_; rintro e w1 ⟨g, c, ns, rfl, hun, hns, hb1⟩; have HU1 := hid hun; have HNS := hid hns; have HB1 := hid hb1; have h11 := hns.hi; have h2 := hns.lo; clear hun hns hb1)))
    obtain ⟨w2, hw2⟩ : ∃ w2 : World, w2 = w1.alloc (.cells #[.slice (some ⟨g, 0, none⟩) ns.length c] 27) := ⟨_, rfl⟩
    have hb2 : Below w1.heap.size w1 w2 := hw2 ▸ balloc (b0 w1) _
    have hl2 : w1.heap.size < w2.heap.size := by rw [hw2]; simp
    have q2 : w2.cell? ⟨w1.heap.size, 0, none⟩ = some (.slice (some ⟨g, 0, none⟩) ns.length c) := by rw [hw2, alloc_cell]; rfl
    have HU2 := hid (uni_later HU1.out hb2)
    have HB2 := hid (bstep HB1.out hb2)
    rw [← hw2]
    clear hw2 hb2
    have hdr : Below w2.heap.size w2 w2.drew := (b0 w2).drew
    have hbd := bstep HB2.out hdr
    have HIA := hid (inc_any _ _ ns ks w2.drew (uni_later HU2.out hdr) HNS.out (HK.out.lift hbd hbd.size))
    have HIB := hid (fun w3 (hb3 : Below w2.drew.heap.size w2.drew w3) => inc_any _ _ ns ls w3 (uni_later (uni_later HU2.out hdr) hb3) HNS.out ((HL.out.lift hbd hbd.size).lift hb3 hb3.size))
    clear hbd
    go_wp2_with fail
    go_region_law ((first
      | (go_simp; go_at_call_of 21 kcap; refine HIA.out.mono ?_; rintro e w3 ⟨av, Ma, rfl, hMa, hra, hb3⟩; have HMA := hid hMa; have HRA := hid hra; have HB3 := hid hb3; have q3 := cell_below (bstep hdr hb3) hl2 q2; clear hMa hra hb3)
      | (go_simp; go_at_call_of 21 lcap; refine (HIB.out _ HB3.out).mono ?_; rintro e w4 ⟨bv, Mb, rfl, hMb, hrb, hb4⟩; have HMB := hid hMb; have HRB := hid hrb; have HRA4 := hid (HRA.out.lift hb4 hb4.size); have HB4 := hid (bstep hdr (bstep HB3.out hb4)); have q4 := cell_below (bstep hdr (bstep HB3.out hb4)) hl2 q2; clear hMb hrb hb4)))
    all_goals
      have hl4 : w1.heap.size < w4.heap.size := Nat.lt_of_lt_of_le hl2 HB4.out.size
      have HU4 := hid (uni_later HU2.out HB4.out)
      have HBW := hid (bstep HB2.out HB4.out)
      have HRAc := hid (canon_range (ns := ns) Ma)
      have HRBc := hid (canon_range (ns := ns) Mb)
      have HSZ4 := hid (size_any _ ns w4 HU4.out HNS.out)
      have hq4 := q4
      clear q2 q3
      by_cases hsz : sizeN ns ≤ 3000
      · have j1 : ¬ (3000 < ((sizeN ns : Nat) : Int)) := by omega
        have HSZL := hid hsz
        have HALL := hid (allN_within (Ma := Ma) HMB.out hsz)
        obtain ⟨sz, hsze⟩ : ∃ sz, sizeN ns = sz := ⟨_, rfl⟩
        have HSE := hid hsze
        rw [hsze] at j1 HSZ4 HSZL HALL
        clear hsz hsze
        go_wp2_with (go_at_call 17; go_must (refine HSZ4.out.mono ?_; rintro e w5 ⟨rfl, hb5⟩; have HB5 := hid hb5; have q5 := cell_below hb5 hl4 q4; clear hb5))
        have HU5 := hid (uni_later HU4.out HB5.out)
        have HRA5 := hid (HRA4.out.lift HB5.out HB5.out.size)
        have HRB5 := hid (HRB.out.lift HB5.out HB5.out.size)
        have hl5 : w1.heap.size < w5.heap.size := Nat.lt_of_lt_of_le hl4 HB5.out.size
        have HBW5 := hid (bstep HBW.out HB5.out)
        have hsz3 := HSZL.out
        go_loopw [10, 11, 12] (fun av2 iv _ wr => ∃ n : Nat, n ≤ sz ∧ iv = .int .i64 n ∧ av2 = .bool (allN ns Ma Mb n) ∧ Hid (Below w5.heap.size w5 wr)) (fun _ iv _ _ => sz - (intOf iv).toNat)
        case atStart => exact ⟨0, Nat.zero_le _, rfl, rfl, hid (b0 w5)⟩
        case round =>
          obtain ⟨n, hn, rfl, rfl, hb⟩ := hrel
          have d0 := cell_below hb.out hl5 q5
          have HSZ := hid (HSE.out ▸ size_any _ ns wr (uni_later HU5.out hb.out) HNS.out)
          by_cases hlt : n < sz
          · have j2 : (n : Int) < (sz : Int) := by omega
            have HN := hid hlt
            have hn3 : n ≤ 3000 := by omega
            clear hlt
            have HCO := hid (choice_ok ns n)
            have HSUC := hid (allN_succ ns Ma Mb n)
            obtain ⟨cc, hcc⟩ : ∃ cc, choiceF ns n = cc := ⟨_, rfl⟩
            have HCC := hid hcc
            rw [hcc] at HCO HSUC
            clear hcc
            have HE1 := hid (holdL_canon HNS.out HCO.out HMA.out)
            have HE2 := hid (holdL_canon HNS.out HCO.out HMB.out)
            obtain ⟨o1, ho1⟩ : ∃ o1, holdN ns Ma cc = o1 := ⟨_, rfl⟩
            obtain ⟨o2, ho2⟩ : ∃ o2, holdN ns Mb cc = o2 := ⟨_, rfl⟩
            have HO1 := hid (HE1.out.trans ho1)
            have HO2 := hid (HE2.out.trans ho2)
            rw [ho1, ho2] at HSUC
            obtain ⟨al, hal⟩ : ∃ al, allN ns Ma Mb n = al := ⟨_, rfl⟩
            rw [hal] at HSUC ⊢
            clear hal
            clear ho1 ho2
            have tok := hid True.intro
            cases al <;> cases o1 <;> cases o2
            all_goals go_wp2_with (first
              | (go_at_call 17; go_must (refine HSZ.out.mono ?_; rintro e ws2 ⟨rfl, hbs⟩; have HBS := hid (bstep hb.out hbs); have d1 := cell_below HBS.out hl5 q5; clear hbs))
              | (go_at_call 16; go_must (refine (choice_any _ ns n _ (uni_later HU5.out HBS.out) HNS.out (by omega)).mono ?_; rintro e wc ⟨cv, rfl, hcv, hbc⟩; rw [HCC.out] at hcv; obtain ⟨Ac, cc2, rfl⟩ := hcv.form; have HCV := hid hcv.rd; have HBC := hid (bstep HBS.out hbc); have HUC := hid (uni_later HU5.out HBC.out); have HRAC := hid (HRA5.out.lift HBC.out HBC.out.size); have HRBC := hid (HRB5.out.lift HBC.out HBC.out.size); have d2 := cell_below HBC.out hl5 q5; have hlc : w1.heap.size < wc.heap.size := Nat.lt_of_lt_of_le hl5 HBC.out.size; clear hcv hbc))
              | (go_at_call 19; clear tok; go_must (refine (incHolds_any _ _ _ ns (canon ns Mb) cc wc HUC.out HNS.out HRBC.out HCV.out (fun _ => HCO.out) HRBc.out).mono ?_; rintro e w7 ⟨rfl, hb7⟩; rw [HO2.out]; have HBD := hid (bstep HBC.out hb7); have HRAD := hid (HRAC.out.lift hb7 hb7.size); have HCVD := hid (HCV.out.lift hb7 hb7.size); have d3 := cell_below hb7 hlc d2; clear hb7))
              | (go_at_call 19; go_must (refine (incHolds_any _ _ _ ns (canon ns Ma) cc w7 (uni_later HU5.out HBD.out) HNS.out HRAD.out HCVD.out (fun _ => HCO.out) HRAc.out).mono ?_; rintro e w8 ⟨rfl, hb8⟩; rw [HO1.out]; have HBE := hid (bstep HBD.out hb8); clear hb8)))
            all_goals first
              | exact ⟨⟨n + 1, by have := HN.out; omega, by go_num, by rw [HSUC.out]; rfl, HBE⟩, by have := HN.out; simp [intOf]; omega⟩
              | exact ⟨⟨n + 1, by have := HN.out; omega, by go_num, by rw [HSUC.out]; rfl, HBD⟩, by have := HN.out; simp [intOf]; omega⟩
              | exact ⟨⟨n + 1, by have := HN.out; omega, by go_num, by rw [HSUC.out]; rfl, HBC⟩, by have := HN.out; simp [intOf]; omega⟩
          · have hns : n = sz := by omega
            subst hns
            have j2 : ¬ ((n : Int) < (n : Int)) := by omega
            have HWI := hid (within_canon HNS.out HMA.out HMB.out)
            have HWI2 := hid (within_canon HNS.out HMB.out HMA.out)
            have HWS := hid ((within_canon HNS.out HMA.out HMA.out).trans (within_self Ma))
            have HANTI := hid (fun (h1 : withinN ns Ma Mb = true) (h2 : withinN ns Mb Ma = true) => within_anti h1 h2)
            rw [HALL.out]
            obtain ⟨x1, hx1⟩ : ∃ x1, withinN ns Ma Mb = x1 := ⟨_, rfl⟩
            obtain ⟨x2, hx2⟩ : ∃ x2, withinN ns Mb Ma = x2 := ⟨_, rfl⟩
            rw [hx1] at HWI HANTI ⊢
            rw [hx2] at HWI2 HANTI
            clear hx1 hx2 HALL
            have hla := canon_len (ns := ns) Ma
            have t1 := hid True.intro
            have t2 := hid True.intro
            have t3 := hid True.intro
            cases x1 <;> cases x2
            all_goals go_wp2_with (first
              | (go_at_call 17; go_must (refine HSZ.out.mono ?_; rintro e ws2 ⟨rfl, hbs⟩; have HBS := hid (bstep hb.out hbs); have d1 := cell_below HBS.out hl5 q5; clear hbs))
              | (go_at_call 24; clear t1; go_must (refine (incWithin_any _ _ _ ns (canon ns Ma) Mb ws2 (uni_later HU5.out HBS.out) HNS.out (HRA5.out.lift HBS.out HBS.out.size) (HRB5.out.lift HBS.out HBS.out.size) HMB.out).mono ?_; rintro e w7 ⟨rfl, hb7⟩; rw [HWI.out]; have HB7 := hid (bstep HBS.out hb7); have d7 := cell_below HB7.out hl5 q5; clear hb7))
              | (go_at_call 24; clear t2; go_must (refine (incWithin_any _ _ _ ns (canon ns Ma) Ma w7 (uni_later HU5.out HB7.out) HNS.out (HRA5.out.lift HB7.out HB7.out.size) (HRA5.out.lift HB7.out HB7.out.size) HMA.out).mono ?_; rintro e w8 ⟨rfl, hb8⟩; rw [HWS.out]; have HB8 := hid (bstep HB7.out hb8); have d8 := cell_below HB8.out hl5 q5; clear hb8))
              | (go_at_call 24; clear t3; go_must (refine (incWithin_any _ _ _ ns (canon ns Ma) Mb w8 (uni_later HU5.out HB8.out) HNS.out (HRA5.out.lift HB8.out HB8.out.size) (HRB5.out.lift HB8.out HB8.out.size) HMB.out).mono ?_; rintro e w9 ⟨rfl, hb9⟩; rw [HWI.out]; have HB9 := hid (bstep HB8.out hb9); have HBL := HB9; have d9 := cell_below HB9.out hl5 q5; clear hb9))
              | (go_at_call 24; go_must (refine (incWithin_any _ _ _ ns (canon ns Mb) Ma w9 (uni_later HU5.out HB9.out) HNS.out (HRB5.out.lift HB9.out HB9.out.size) (HRA5.out.lift HB9.out HB9.out.size) HMA.out).mono ?_; rintro e wA ⟨rfl, hbA⟩; rw [HWI2.out]; have HBA := hid (bstep HB9.out hbA); clear HBL; have HBL := HBA; clear hbA))
              | (go_at_call 27; go_must (refine (isame_any _ _ (canon ns Ma) (canon ns Mb) wA (HRA5.out.lift HBA.out HBA.out.size) (HRB5.out.lift HBA.out HBA.out.size)).mono ?_; rintro e wB ⟨rfl, hbB⟩; rw [decide_eq_true (show canon ns Ma = canon ns Mb by first | exact HANTI.out rfl rfl | exact HANTI.out trivial trivial)]; clear HBL; have HBL := hid (bstep HBA.out hbB); clear hbB))
              | (go_at_call 10; refine (awake_any _).mono ?_; rintro e wz ⟨rfl, hbz⟩))
            all_goals go_ret
            all_goals exact ⟨rfl, bstep HBW5.out (bstep HBL.out hbz)⟩
      · have j1 : 3000 < ((sizeN ns : Nat) : Int) := by omega
        generalize sizeN ns = sz at *
        clear hsz
        go_wp2_with (first
          | (go_at_call 17; go_must (refine HSZ4.out.mono ?_; rintro e w5 ⟨rfl, hb5⟩; have HB5 := hid hb5; clear hb5))
          | (go_at_call 10; refine (awake_any _).mono ?_; rintro e wz ⟨rfl, hbz⟩))
        go_ret
        exact ⟨rfl, bstep HBW.out (bstep HB5.out hbz)⟩
  · by_cases h1 : ks.length ≤ 40
    · have k1 : ¬ (40 < (ks.length : Int)) := by omega
      have k2 : 40 < (ls.length : Int) := by omega
      clear hlen h1
      go_enter Tryz.func8, Tryz.ntmps8
      go_wp2_with (go_at_call 10; refine (awake_any _).mono ?_; rintro e wz ⟨rfl, hbz⟩)
      go_ret
      exact ⟨rfl, hbz⟩
    · have k1 : 40 < (ks.length : Int) := by omega
      clear hlen h1
      go_enter Tryz.func8, Tryz.ntmps8
      go_wp2_with (go_at_call 10; refine (awake_any _).mono ?_; rintro e wz ⟨rfl, hbz⟩)
      go_ret
      exact ⟨rfl, hbz⟩
end Go.Proofs.YtilkhofgcgfnlaaGreat
