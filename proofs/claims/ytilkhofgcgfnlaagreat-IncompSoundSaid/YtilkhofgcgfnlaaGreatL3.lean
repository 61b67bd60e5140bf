/- Contract: linchpinlaw22.IncompSound. -/
import Derived.Test.YtilkhofgcgfnlaaGreatL1all
import Derived.Test.YtilkhofgcgfnlaaGreatN15
import Derived.Test.YtilkhofgcgfnlaaGreatP4
import Derived.Outline
namespace Go.Proofs.YtilkhofgcgfnlaaGreat
open Go Go.RowKit

theorem sound_none {ns : List Nat} {Ma Mb : Nat → Nat} {un : Nat} (h : okN ns (joinN Ma Mb un) = false) (c : List Int) : (holdN ns Ma c && holdN ns Mb c) = false := by
  cases h1 : holdN ns Ma c with
  | false => rfl
  | true =>
    cases h2 : holdN ns Mb c with
    | false => rfl
    | true => rw [holdN_ok (join_both h1 h2)] at h; cases h
theorem choice_len (ns : List Nat) (n : Nat) : (choiceF ns n).length = ns.length := (choice_ok ns n).len
set_option maxRecDepth 100000 in
set_option maxHeartbeats 8000000 in
theorem sound_any (wv kv lv : Value) (ws ks ls : List Int) (unit : Int) (w : World) (hw : SliceRd tInt w (Lt w.heap.size) wv ws) (hk : SliceRd tInt w (Lt w.heap.size) kv ks) (hl : SliceRd tInt w (Lt w.heap.size) lv ls) (hu : I64 unit) :
    Calls Tryz.prog 5 #[wv, kv, lv, .int .i64 unit] w fun e w' => e = .returned (.bool true) ∧ Below w.heap.size w w' := by
  have HW := hid hw
  have HK := hid hk
  have HL := hid hl
  obtain ⟨Aw, wcap, rfl, -⟩ := hw.ints
  obtain ⟨Ak, kcap, rfl, hkc, hkm, -⟩ := hk.ints
  obtain ⟨Al, lcap, rfl, hlc, hlm, -⟩ := hl.ints
  unfold maxLen at hkm hlm
  clear hw hk hl
  by_cases hlen : ks.length ≤ 40 ∧ ls.length ≤ 40
  · have k1 : ¬ (40 < (ks.length : Int)) := by omega
    have k2 : ¬ (40 < (ls.length : Int)) := by omega
    clear hlen
    go_enter Tryz.func5, Tryz.ntmps5
    go_wp2_with (first
      | (go_at_call 11; go_must (refine (worldRd_any _ ws 3 _ HW.out (by decide) (by decide)).mono ?_; rintro e w1 ⟨g, c, ns, rfl, hun, hns, hb1⟩; have HU1 := hid hun; have HNS := hid hns; have HB1 := hid hb1; have h11 := hns.hi; have h2 := hns.lo; obtain ⟨un, hune, hunl⟩ := place_nat unit (show 1 ≤ ns.length by omega); have HUN := hid hune; have HUNL := hid hunl; clear hun hns hb1 hune hunl))
      | (go_at_call 12; go_must (refine (place_any unit ns.length _ hu ⟨by omega, by omega⟩).mono ?_; rintro e w2 ⟨rfl, rfl⟩; rw [HUN.out])))
    obtain ⟨w2, hw2⟩ : ∃ w2 : World, w2 = w1.alloc (.cells #[.slice (some ⟨g, 0, none⟩) ns.length c] 27) := ⟨_, rfl⟩
    have hb2 : Below w1.heap.size w1 w2 := hw2 ▸ balloc (b0 w1) _
    have hl2 : w1.heap.size < w2.heap.size := by rw [hw2]; simp
    have q2 : w2.cell? ⟨w1.heap.size, 0, none⟩ = some (.slice (some ⟨g, 0, none⟩) ns.length c) := by rw [hw2, alloc_cell]; rfl
    have HU2 := hid (uni_later HU1.out hb2)
    have HB2 := hid (bstep HB1.out hb2)
    rw [← hw2]
    clear hw2 hb2
    have hdr : Below w2.heap.size w2 w2.drew := (b0 w2).drew
    have hbd := bstep HB2.out hdr
    have HIA := hid (inc_any _ _ ns ks w2.drew (uni_later HU2.out hdr) HNS.out (HK.out.lift hbd hbd.size))
    have HIB := hid (fun w3 (hb3 : Below w2.drew.heap.size w2.drew w3) => inc_any _ _ ns ls w3 (uni_later (uni_later HU2.out hdr) hb3) HNS.out ((HL.out.lift hbd hbd.size).lift hb3 hb3.size))
    clear hbd
    go_wp2_with fail
    go_region_law ((first
      | (go_simp; go_at_call_of 21 kcap; refine HIA.out.mono ?_; rintro e w3 ⟨av, Ma, rfl, hMa, hra, hb3⟩; have HMA := hid hMa; have HRA := hid hra; have HB3 := hid hb3; have q3 := cell_below (bstep hdr hb3) hl2 q2; clear hMa hra hb3)
      | (go_simp; go_at_call_of 21 lcap; refine (HIB.out _ HB3.out).mono ?_; rintro e w4 ⟨bv, Mb, rfl, hMb, hrb, hb4⟩; have HMB := hid hMb; have HRB := hid hrb; have HRA4 := hid (HRA.out.lift hb4 hb4.size); have HB4 := hid (bstep hdr (bstep HB3.out hb4)); have q4 := cell_below (bstep hdr (bstep HB3.out hb4)) hl2 q2; clear hMb hrb hb4)))
    all_goals
      have hl4 : w1.heap.size < w4.heap.size := Nat.lt_of_lt_of_le hl2 HB4.out.size
      have HU4 := hid (uni_later HU2.out HB4.out)
      have HBW := hid (bstep HB2.out HB4.out)
      have HRAc := hid (canon_range (ns := ns) Ma)
      have HRBc := hid (canon_range (ns := ns) Mb)
      obtain ⟨J, hJ⟩ : ∃ J, joinR ns Ma Mb un = J := ⟨_, rfl⟩
      have HJ := hid hJ
      clear hJ q2 q3
      go_wp2_with (go_at_call 22; go_must (refine (join_any _ _ _ ns Ma Mb un _ HU4.out HNS.out HRA4.out HRB.out HMA.out HMB.out).mono ?_; rintro e w5 ⟨s1, rfl, r1, hb5⟩; have HR1 := hid r1; clear r1))
      rw [HJ.out] at HR1 ⊢
      cases hok : okN ns (joinN Ma Mb un) with
      | false =>
        have hjn : J = none := by rw [← HJ.out, joinR_in HUNL.out]; unfold madeN; rw [hok]; rfl
        rw [hjn] at HR1 ⊢
        simp only [Option.isSome_none, Option.getD_none] at HR1 ⊢
        have HNO := hid (sound_none hok)
        clear hok hjn HJ
        have HB5 := hid hb5
        have HU5 := hid (uni_later HU4.out hb5)
        have HRA5 := hid (HRA4.out.lift hb5 hb5.size)
        have HRB5 := hid (HRB.out.lift hb5 hb5.size)
        have q5 := cell_below hb5 hl4 q4
        have hl5 : w1.heap.size < w5.heap.size := Nat.lt_of_lt_of_le hl4 hb5.size
        have HBW5 := hid (bstep HBW.out hb5)
        clear hb5 q4
        go_wp2_with fail
        go_loopw [14, 15, 16, 17] (fun iv _ _ _ wr => ∃ n : Nat, n ≤ 3000 ∧ iv = .int .i64 n ∧ Hid (Below w5.heap.size w5 wr)) (fun iv _ _ _ _ => 3000 - (intOf iv).toNat)
        case atStart => exact ⟨0, by omega, rfl, hid (b0 w5)⟩
        case round =>
          obtain ⟨n, hn, rfl, hb⟩ := hrel
          have d0 := cell_below hb.out hl5 q5
          have HSZ := hid (size_any _ ns wr (uni_later HU5.out hb.out) HNS.out)
          have tok := hid True.intro
          by_cases hlt : n < sizeN ns ∧ n < 3000
          · have j1 : (n : Int) < (sizeN ns : Nat) := by omega
            have j2 : (n : Int) < 3000 := by omega
            have HN := hid hlt
            generalize sizeN ns = sz at *
            clear hlt
            go_wp2_with (first
              | (go_at_call 17; go_must (refine HSZ.out.mono ?_; rintro e ws2 ⟨rfl, hbs⟩; have HBS := hid (bstep hb.out hbs); have d1 := cell_below HBS.out hl5 q5; clear hbs))
              | (go_at_call 16; go_must (refine (choice_any _ ns n _ (uni_later HU5.out HBS.out) HNS.out (by have := HN.out; omega)).mono ?_; rintro e wc ⟨cv, rfl, hcv, hbc⟩; obtain ⟨cc, hcc⟩ : ∃ cc, choiceF ns n = cc := ⟨_, rfl⟩; have HCO : Hid (ChoiceOk ns cc) := hid (hcc ▸ choice_ok ns n); rw [hcc] at hcv; obtain ⟨Ac, cc2, rfl⟩ := hcv.form; have HCV := hid hcv.rd; have HBC := hid (bstep HBS.out hbc); have HUC := hid (uni_later HU5.out HBC.out); have HRAC := hid (HRA5.out.lift HBC.out HBC.out.size); have HRBC := hid (HRB5.out.lift HBC.out HBC.out.size); have d2 := cell_below HBC.out hl5 q5; have lc := later_cell (Nat.lt_of_lt_of_le hl5 HBC.out.size) d2; have HE1 := hid (holdL_canon HNS.out HCO.out HMA.out); have HE2 := hid (holdL_canon HNS.out HCO.out HMB.out); clear hcv hbc hcc)))
            obtain ⟨o1, ho1⟩ : ∃ o1, holdN ns Ma cc = o1 := ⟨_, rfl⟩
            obtain ⟨o2, ho2⟩ : ∃ o2, holdN ns Mb cc = o2 := ⟨_, rfl⟩
            have HO1 := hid (HE1.out.trans ho1)
            have HO2 := hid (HE2.out.trans ho2)
            have HBAD : Hid ((o1 && o2) = false) := hid (by rw [← ho1, ← ho2]; exact HNO.out cc)
            clear ho1 ho2
            (refine wp_region_later (by kernel_rfl) (by kernel_rfl) ?_; (repeat (go_big_quiet_step (((first | (go_at_call_of 19 av; exact Calls.later (incHolds_any _ _ _ ns (canon ns Ma) cc _ (uni_lat HUC.out _) HNS.out (HRAC.out.lift (Later.below _) (Later.below _).size) (HCV.out.lift (Later.below _) (Later.below _).size) (fun _ => HCO.out) HRAc.out) (congrArg Value.bool HO1.out)) | (go_at_call_of 19 bv; exact Calls.later (incHolds_any _ _ _ ns (canon ns Mb) cc _ (uni_lat HUC.out _) HNS.out (HRBC.out.lift (Later.below _) (Later.below _).size) (HCV.out.lift (Later.below _) (Later.below _).size) (fun _ => HCO.out) HRBc.out) (congrArg Value.bool HO2.out))))))); refine wpQuiet_nil ?_; rintro _ ⟨e7, rfl⟩; obtain ⟨w7, hw7⟩ : ∃ w7 : World, w7 = e7.w := ⟨_, rfl⟩; have hb7 := e7.below; rw [← hw7] at hb7 ⊢; clear hw7)
            have HB7 := hid (bstep HBC.out hb7)
            clear lc
            cases o1 <;> cases o2 <;> first | (exact absurd HBAD.out (by decide)) | skip
            all_goals go_wp2_with fail
            all_goals exact ⟨⟨n + 1, by have := HN.out; omega, by go_num, HB7⟩, by have := HN.out; simp [intOf]; omega⟩
          · by_cases hs : n < sizeN ns
            · have j1 : (n : Int) < (sizeN ns : Nat) := by omega
              have j2 : ¬ ((n : Int) < 3000) := by omega
              generalize sizeN ns = sz at *
              clear hlt hs
              go_wp2_with (first
                | (go_at_call 17; go_must (refine HSZ.out.mono ?_; rintro e ws2 ⟨rfl, hbs⟩; have HBS := hid (bstep hb.out hbs); clear hbs))
                | (go_at_call 10; refine (awake_any _).mono ?_; rintro e wz ⟨rfl, hbz⟩))
              go_ret
              exact ⟨rfl, bstep HBW5.out (bstep HBS.out hbz)⟩
            · have j1 : ¬ ((n : Int) < (sizeN ns : Nat)) := by omega
              generalize sizeN ns = sz at *
              clear hlt hs
              go_wp2_with (first
                | (go_at_call 17; go_must (refine HSZ.out.mono ?_; rintro e ws2 ⟨rfl, hbs⟩; have HBS := hid (bstep hb.out hbs); clear hbs))
                | (go_at_call 10; refine (awake_any _).mono ?_; rintro e wz ⟨rfl, hbz⟩))
              go_ret
              exact ⟨rfl, bstep HBW5.out (bstep HBS.out hbz)⟩
      | true =>
        have hjn : J = some (canon ns (joinN Ma Mb un)) := by rw [← HJ.out, joinR_in HUNL.out]; unfold madeN; rw [hok]; rfl
        rw [hjn] at HR1 ⊢
        simp only [Option.isSome_some, Option.getD_some] at HR1 ⊢
        have HJOK := hid (join_ok HMA.out HMB.out hok)
        have HRJc := hid (canon_range (ns := ns) (joinN Ma Mb un))
        clear hok hjn HJ
        have HB5 := hid hb5
        have HU5 := hid (uni_later HU4.out hb5)
        have HRA5 := hid (HRA4.out.lift hb5 hb5.size)
        have HRB5 := hid (HRB.out.lift hb5 hb5.size)
        have q5 := cell_below hb5 hl4 q4
        have hl5 : w1.heap.size < w5.heap.size := Nat.lt_of_lt_of_le hl4 hb5.size
        have HBW5 := hid (bstep HBW.out hb5)
        clear hb5 q4
        go_wp2_with fail
        go_loopw [14, 15, 16, 17] (fun iv _ _ _ wr => ∃ n : Nat, n ≤ 3000 ∧ iv = .int .i64 n ∧ Hid (Below w5.heap.size w5 wr)) (fun iv _ _ _ _ => 3000 - (intOf iv).toNat)
        case atStart => exact ⟨0, by omega, rfl, hid (b0 w5)⟩
        case round =>
          obtain ⟨n, hn, rfl, hb⟩ := hrel
          have d0 := cell_below hb.out hl5 q5
          have HSZ := hid (size_any _ ns wr (uni_later HU5.out hb.out) HNS.out)
          have tok := hid True.intro
          by_cases hlt : n < sizeN ns ∧ n < 3000
          · have j1 : (n : Int) < (sizeN ns : Nat) := by omega
            have j2 : (n : Int) < 3000 := by omega
            have HN := hid hlt
            generalize sizeN ns = sz at *
            clear hlt
            go_wp2_with (first
              | (go_at_call 17; go_must (refine HSZ.out.mono ?_; rintro e ws2 ⟨rfl, hbs⟩; have HBS := hid (bstep hb.out hbs); have d1 := cell_below HBS.out hl5 q5; clear hbs))
              | (go_at_call 16; go_must (refine (choice_any _ ns n _ (uni_later HU5.out HBS.out) HNS.out (by have := HN.out; omega)).mono ?_; rintro e wc ⟨cv, rfl, hcv, hbc⟩; obtain ⟨cc, hcc⟩ : ∃ cc, choiceF ns n = cc := ⟨_, rfl⟩; have HCO : Hid (ChoiceOk ns cc) := hid (hcc ▸ choice_ok ns n); rw [hcc] at hcv; obtain ⟨Ac, cc2, rfl⟩ := hcv.form; have HCV := hid hcv.rd; have HBC := hid (bstep HBS.out hbc); have HUC := hid (uni_later HU5.out HBC.out); have HRAC := hid (HRA5.out.lift HBC.out HBC.out.size); have HRBC := hid (HRB5.out.lift HBC.out HBC.out.size); have d2 := cell_below HBC.out hl5 q5; have lc := later_cell (Nat.lt_of_lt_of_le hl5 HBC.out.size) d2; have HE1 := hid (holdL_canon HNS.out HCO.out HMA.out); have HE2 := hid (holdL_canon HNS.out HCO.out HMB.out); clear hcv hbc hcc)))
            obtain ⟨o1, ho1⟩ : ∃ o1, holdN ns Ma cc = o1 := ⟨_, rfl⟩
            obtain ⟨o2, ho2⟩ : ∃ o2, holdN ns Mb cc = o2 := ⟨_, rfl⟩
            have HO1 := hid (HE1.out.trans ho1)
            have HO2 := hid (HE2.out.trans ho2)
            obtain ⟨jh, hjh⟩ : ∃ jh, holdN ns (joinN Ma Mb un) cc = jh := ⟨_, rfl⟩
            have HOJ := hid ((holdL_canon HNS.out HCO.out HJOK.out).trans hjh)
            have HBAD1 : Hid (jh = true → o1 = true ∨ o2 = true) := hid (fun h => by rw [← ho1, ← ho2]; exact join_sound (hjh.trans h))
            have HBAD2 : Hid (o1 = true → o2 = true → jh = true) := hid (fun h h' => by rw [← hjh]; exact join_both (ho1.trans h) (ho2.trans h'))
            clear ho1 ho2 hjh
            (refine wp_region_later (by kernel_rfl) (by kernel_rfl) ?_; (repeat (go_big_quiet_step (((first | (go_at_call_of 19 av; exact Calls.later (incHolds_any _ _ _ ns (canon ns Ma) cc _ (uni_lat HUC.out _) HNS.out (HRAC.out.lift (Later.below _) (Later.below _).size) (HCV.out.lift (Later.below _) (Later.below _).size) (fun _ => HCO.out) HRAc.out) (congrArg Value.bool HO1.out)) | (go_at_call_of 19 bv; exact Calls.later (incHolds_any _ _ _ ns (canon ns Mb) cc _ (uni_lat HUC.out _) HNS.out (HRBC.out.lift (Later.below _) (Later.below _).size) (HCV.out.lift (Later.below _) (Later.below _).size) (fun _ => HCO.out) HRBc.out) (congrArg Value.bool HO2.out))))))); refine wpQuiet_nil ?_; rintro _ ⟨e7, rfl⟩; obtain ⟨w7, hw7⟩ : ∃ w7 : World, w7 = e7.w := ⟨_, rfl⟩; have hb7 := e7.below; rw [← hw7] at hb7 ⊢; clear hw7)
            have HB7 := hid (bstep HBC.out hb7)
            have HH7 := hid (incHolds_any _ _ _ ns (canon ns (joinN Ma Mb un)) cc w7 (uni_later HUC.out hb7) HNS.out (HR1.out.lift HB7.out HB7.out.size) (HCV.out.lift hb7 hb7.size) (fun _ => HCO.out) HRJc.out)
            rw [HOJ.out] at HH7
            have hl7 : w1.heap.size < w7.heap.size := Nat.lt_of_lt_of_le hl5 HB7.out.size
            have d7 := cell_below HB7.out hl5 q5
            have HCV7 := hid (HCV.out.lift hb7 hb7.size)
            have tk := hid True.intro
            clear lc hb7
            cases o1 <;> cases o2 <;> cases jh <;> first | (exact absurd (HBAD1.out rfl) (by decide)) | (exact absurd (HBAD2.out rfl rfl) (by decide)) | skip
            all_goals go_wp2_with (first
              | (go_at_call 19; clear tk; go_must (refine HH7.out.mono ?_; rintro e w8 ⟨rfl, hb8⟩; have HB8 := hid (bstep HB7.out hb8); have HCV8 := hid (HCV7.out.lift hb8 hb8.size); have d8 := cell_below hb8 hl7 d7; clear hb8))
              | (go_at_call 19; go_must (refine (incHolds_any _ _ _ ns (canon ns (joinN Ma Mb un)) cc w8 (uni_later HU5.out HB8.out) HNS.out (HR1.out.lift HB8.out HB8.out.size) HCV8.out (fun _ => HCO.out) HRJc.out).mono ?_; rintro e w9 ⟨rfl, hb9⟩; rw [HOJ.out]; have HB9 := hid (bstep HB8.out hb9); clear hb9)))
            all_goals first
              | exact ⟨⟨n + 1, by have := HN.out; omega, by go_num, HB9⟩, by have := HN.out; simp [intOf]; omega⟩
              | exact ⟨⟨n + 1, by have := HN.out; omega, by go_num, HB8⟩, by have := HN.out; simp [intOf]; omega⟩
              | exact ⟨⟨n + 1, by have := HN.out; omega, by go_num, HB7⟩, by have := HN.out; simp [intOf]; omega⟩
          · by_cases hs : n < sizeN ns
            · have j1 : (n : Int) < (sizeN ns : Nat) := by omega
              have j2 : ¬ ((n : Int) < 3000) := by omega
              generalize sizeN ns = sz at *
              clear hlt hs
              go_wp2_with (first
                | (go_at_call 17; go_must (refine HSZ.out.mono ?_; rintro e ws2 ⟨rfl, hbs⟩; have HBS := hid (bstep hb.out hbs); clear hbs))
                | (go_at_call 10; refine (awake_any _).mono ?_; rintro e wz ⟨rfl, hbz⟩))
              go_ret
              exact ⟨rfl, bstep HBW5.out (bstep HBS.out hbz)⟩
            · have j1 : ¬ ((n : Int) < (sizeN ns : Nat)) := by omega
              generalize sizeN ns = sz at *
              clear hlt hs
              go_wp2_with (first
                | (go_at_call 17; go_must (refine HSZ.out.mono ?_; rintro e ws2 ⟨rfl, hbs⟩; have HBS := hid (bstep hb.out hbs); clear hbs))
                | (go_at_call 10; refine (awake_any _).mono ?_; rintro e wz ⟨rfl, hbz⟩))
              go_ret
              exact ⟨rfl, bstep HBW5.out (bstep HBS.out hbz)⟩
  · by_cases h1 : ks.length ≤ 40
    · have k1 : ¬ (40 < (ks.length : Int)) := by omega
      have k2 : 40 < (ls.length : Int) := by omega
      clear hlen h1
      go_enter Tryz.func5, Tryz.ntmps5
      go_wp2_with (go_at_call 10; refine (awake_any _).mono ?_; rintro e wz ⟨rfl, hbz⟩)
      go_ret
      exact ⟨rfl, hbz⟩
    · have k1 : 40 < (ks.length : Int) := by omega
      clear hlen h1
      go_enter Tryz.func5, Tryz.ntmps5
      go_wp2_with (go_at_call 10; refine (awake_any _).mono ?_; rintro e wz ⟨rfl, hbz⟩)
      go_ret
      exact ⟨rfl, hbz⟩
end Go.Proofs.YtilkhofgcgfnlaaGreat
