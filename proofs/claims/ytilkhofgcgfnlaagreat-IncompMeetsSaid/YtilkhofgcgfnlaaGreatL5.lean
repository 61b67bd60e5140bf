/- Contract: linchpinlaw22.IncompMeets. -/
import Derived.Test.YtilkhofgcgfnlaaGreatL2
import Derived.Test.YtilkhofgcgfnlaaGreatN15
import Derived.Outline
namespace Go.Proofs.YtilkhofgcgfnlaaGreat
open Go Go.RowKit

theorem canon_range {ns : List Nat} (M : Nat → Nat) : ∀ t ∈ canon ns M, 0 ≤ t.unit ∧ t.unit < ns.length := fun t ht => by
  obtain ⟨u, hu, _, rfl⟩ := canon_mem.1 ht
  exact ⟨by dsimp only; omega, by dsimp only; omega⟩
end Go.Proofs.YtilkhofgcgfnlaaGreat
namespace Go.Proofs.YtilkhofgcgfnlaaGreat
open Go Go.RowKit

theorem meets_none {ns : List Nat} (ho : NsOk ns) {Ma Mb : Nat → Nat} (ha : IncOk ns Ma) (hb : IncOk ns Mb) (h : okN ns (meetN ns (canon ns Ma ++ canon ns Mb)) = false) (c : List Int) : (holdN ns Ma c && holdN ns Mb c) = false := by
  rw [meets_law ho ha hb]
  cases h1 : holdN ns (meetN ns (canon ns Ma ++ canon ns Mb)) c with
  | false => rfl
  | true => rw [holdN_ok h1] at h; cases h
set_option maxRecDepth 100000 in
set_option maxHeartbeats 8000000 in
theorem meets_any (wv kv lv : Value) (ws ks ls : List Int) (w : World) (hw : SliceRd tInt w (Lt w.heap.size) wv ws) (hk : SliceRd tInt w (Lt w.heap.size) kv ks) (hl : SliceRd tInt w (Lt w.heap.size) lv ls) :
    Calls Tryz.prog 7 #[wv, kv, lv] w fun e w' => e = .returned (.bool true) ∧ Below w.heap.size w w' := by
  have HW := hid hw
  have HK := hid hk
  have HL := hid hl
  obtain ⟨Aw, wcap, rfl, -⟩ := hw.ints
  obtain ⟨Ak, kcap, rfl, hkc, hkm, -⟩ := hk.ints
  obtain ⟨Al, lcap, rfl, hlc, hlm, -⟩ := hl.ints
  unfold maxLen at hkm hlm
  obtain ⟨it, hit⟩ := info_parts term_info
  have HIT := hid hit
  clear hw hk hl hit
  by_cases hlen : ks.length ≤ 40 ∧ ls.length ≤ 40
  · have k1 : ¬ (40 < (ks.length : Int)) := by omega
    have k2 : ¬ (40 < (ls.length : Int)) := by omega
    clear hlen
    go_enter Tryz.func7, Tryz.ntmps7
    go_wp2_with (first
      | (go_at_call 11; go_must (refine (worldRd_any _ ws 3 _ HW.out (by decide) (by decide)).mono ?_; rintro e w1 ⟨g, c, ns, rfl, hun, hns, hb1⟩; have HU1 := hid hun; have HNS := hid hns; have HB1 := hid hb1; have h11 := hns.hi; have h2 := hns.lo; clear hun hns hb1)))
    obtain ⟨w2, hw2⟩ : ∃ w2 : World, w2 = w1.alloc (.cells #[.slice (some ⟨g, 0, none⟩) ns.length c] 27) := ⟨_, rfl⟩
    have hb2 : Below w1.heap.size w1 w2 := hw2 ▸ balloc (b0 w1) _
    have hl2 : w1.heap.size < w2.heap.size := by rw [hw2]; simp
    have q2 : w2.cell? ⟨w1.heap.size, 0, none⟩ = some (.slice (some ⟨g, 0, none⟩) ns.length c) := by rw [hw2, alloc_cell]; rfl
    have HU2 := hid (uni_later HU1.out hb2)
    have HB2 := hid (bstep HB1.out hb2)
    rw [← hw2]
    clear hw2 hb2
    have hdr : Below w2.heap.size w2 w2.drew := (b0 w2).drew
    have hbd := bstep HB2.out hdr
    have HIA := hid (inc_any _ _ ns ks w2.drew (uni_later HU2.out hdr) HNS.out (HK.out.lift hbd hbd.size))
    have HIB := hid (fun w3 (hb3 : Below w2.drew.heap.size w2.drew w3) => inc_any _ _ ns ls w3 (uni_later (uni_later HU2.out hdr) hb3) HNS.out ((HL.out.lift hbd hbd.size).lift hb3 hb3.size))
    clear hbd
    go_wp2_with fail
    go_region_law ((first
      | (go_simp; go_at_call_of 21 kcap; refine HIA.out.mono ?_; rintro e w3 ⟨av, Ma, rfl, hMa, hra, hb3⟩; obtain ⟨Aa, ca, rfl, -⟩ := hra.terms; have HMA := hid hMa; have HRA := hid hra; have HB3 := hid hb3; have q3 := cell_below (bstep hdr hb3) hl2 q2; clear hMa hra hb3)
      | (go_simp; go_at_call_of 21 lcap; refine (HIB.out _ HB3.out).mono ?_; rintro e w4 ⟨bv, Mb, rfl, hMb, hrb, hb4⟩; obtain ⟨Ab, cb, rfl, -⟩ := hrb.terms; have HMB := hid hMb; have HRB := hid hrb; have HRA4 := hid (HRA.out.lift hb4 hb4.size); have HB4 := hid (bstep hdr (bstep HB3.out hb4)); have q4 := cell_below (bstep hdr (bstep HB3.out hb4)) hl2 q2; clear hMb hrb hb4)))
    all_goals
      have hl4 : w1.heap.size < w4.heap.size := Nat.lt_of_lt_of_le hl2 HB4.out.size
      have HU4 := hid (uni_later HU2.out HB4.out)
      have HBW := hid (bstep HB2.out HB4.out)
      have HRAc := hid (canon_range (ns := ns) Ma)
      have HRBc := hid (canon_range (ns := ns) Mb)
      have hla := canon_len (ns := ns) Ma
      have hlb := canon_len (ns := ns) Mb
      have HLLA := hid (show (canon ns Ma).length ≤ 11 by omega)
      have HLLB := hid (show (canon ns Mb).length ≤ 11 by omega)
      obtain ⟨-, hsa, hoka⟩ := HRA4.out.src
      have HSA := hid hsa
      have HOKA := hid hoka
      have HMT := hid (make_two HNS.out HMA.out HMB.out)
      have HLEN2 : Hid ((canon ns Ma ++ canon ns Mb).length ≤ 1000) := hid (by rw [List.length_append]; omega)
      have hl4d : w1.heap.size < w4.heap.size := hl4
      have hd4 : Below w4.heap.size w4 w4.drew := (b0 w4).drew
      clear q2 q3 hsa hoka
      go_wp2_with fail
      go_region_law ((first
        | (refine step_guard (.const (.slice none 0 0)) (.tmp 34) 23 rfl ?_; refine step_append_src _ rfl (.const (.slice none 0 0)) (.tmp 34) 23 rfl w4.heap.size 31 it _ 2 16 Tryz.underlying23 HIT.out.1 HIT.out.2.1 HIT.out.2.2.1 HIT.out.2.2.2 rfl (by omega) (.slice none 0 0) 0 [] (by rfl) (own_none _ _ _ _) Aa _ ca (termCells (canon ns Ma)) (by rfl) (by exact HSA.out) termCells_one (by have := HLLA.out; unfold maxLen; omega) (by have := HLLA.out; omega) (Nat.le_refl _) ?_; intro x5 w5 hown5 hg5 hat5; have HX5 := hid (own_copy HOKA.out hown5); obtain ⟨A5, c5, rfl⟩ := HX5.out.form; have HB5x := hid (own_app (v2 := .slice A5 (canon ns Ma).length c5) hd4 (OwnF.nil fTerm 31 w4.heap.size w4.drew) (Nat.le_refl _) hg5 rfl); have HSB5 := hid (HRB.out.below HB5x.out).src; have d5 := cell_below HB5x.out hl4d q4; clear hown5 hg5 hat5)
        | (refine step_guard (.tmp 35) (.tmp 36) 23 rfl ?_; refine step_append_src _ rfl (.tmp 35) (.tmp 36) 23 rfl w4.heap.size 31 it _ 2 16 Tryz.underlying23 HIT.out.1 HIT.out.2.1 HIT.out.2.2.1 HIT.out.2.2.2 rfl (by omega) (.slice A5 (canon ns Ma).length c5) (canon ns Ma).length (fTerm.all (canon ns Ma)) (by rfl) (by exact HX5.out.1) Ab _ cb (termCells (canon ns Mb)) (by rfl) (by exact HSB5.out.2.1) termCells_one (by have := HLLA.out; have := HLLB.out; unfold maxLen; omega) (by have := HLLA.out; have := HLLB.out; omega) (by have := HB5x.out.size; exact this) ?_; intro x6 w6 hown6 hg6 hat6; have HX6 := hid (OwnF.app HX5.out.2 HSB5.out.2.2 hown6).rd; have HB6x := hid (own_app (v2 := x6) HB5x.out HX5.out HB5x.out.size hg6 rfl); have d6 := cell_below HB6x.out hl4d q4; clear hown6 hg6 hat6)
        | (go_simp; go_at_call 13; refine (make_any _ _ ns (canon ns Ma ++ canon ns Mb) _ (uni_later HU4.out HB6x.out) HNS.out HX6.out HLEN2.out).mono ?_; rintro e w5m ⟨s1, rfl, r1, hb6⟩; rw [HMT.out] at r1 ⊢; have HR1 := hid r1; have hb5 := bstep HB6x.out hb6; clear r1 hb6)))
      all_goals
       obtain ⟨w5, hw5⟩ : ∃ w5 : World, w5 = w5m := ⟨_, rfl⟩
       rw [← hw5] at HR1 hb5 ⊢
       clear hw5
       cases hok : okN ns (meetN ns (canon ns Ma ++ canon ns Mb)) with
       | false =>
        have hjn : madeN ns (meetN ns (canon ns Ma ++ canon ns Mb)) = none := by unfold madeN; rw [hok]; rfl
        rw [hjn] at HR1 ⊢
        simp only [Option.isSome_none, Option.getD_none] at HR1 ⊢
        have HNO := hid (meets_none HNS.out HMA.out HMB.out hok)
        clear hok hjn
        have HB5 := hid hb5
        have HU5 := hid (uni_later HU4.out hb5)
        have HRA5 := hid (HRA4.out.lift hb5 hb5.size)
        have HRB5 := hid (HRB.out.lift hb5 hb5.size)
        have q5 := cell_below hb5 hl4 q4
        have hl5 : w1.heap.size < w5.heap.size := Nat.lt_of_lt_of_le hl4 hb5.size
        have HBW5 := hid (bstep HBW.out hb5)
        clear hb5 q4
        go_wp2_with fail
        go_loopw [12, 13, 14] (fun iv _ _ wr => ∃ n : Nat, n ≤ 3000 ∧ iv = .int .i64 n ∧ Hid (Below w5.heap.size w5 wr)) (fun iv _ _ _ => 3000 - (intOf iv).toNat)
        case atStart => exact ⟨0, by omega, rfl, hid (b0 w5)⟩
        case round =>
          obtain ⟨n, hn, rfl, hb⟩ := hrel
          have d0 := cell_below hb.out hl5 q5
          have HSZ := hid (size_any _ ns wr (uni_later HU5.out hb.out) HNS.out)
          by_cases hlt : n < sizeN ns ∧ n < 3000
          · have j1 : (n : Int) < (sizeN ns : Nat) := by omega
            have j2 : (n : Int) < 3000 := by omega
            have HN := hid hlt
            generalize sizeN ns = sz at *
            clear hlt
            have HCO0 := hid (choice_ok ns n)
            have hcn := choiceF_len ns n
            obtain ⟨cc, hcc⟩ : ∃ cc, choiceF ns n = cc := ⟨_, rfl⟩
            have HCC := hid hcc
            rw [hcc] at HCO0 hcn
            clear hcc
            have HCO := HCO0
            have HE1 := hid (holdL_canon HNS.out HCO.out HMA.out)
            have HE2 := hid (holdL_canon HNS.out HCO.out HMB.out)
            obtain ⟨o1, ho1⟩ : ∃ o1, holdN ns Ma cc = o1 := ⟨_, rfl⟩
            obtain ⟨o2, ho2⟩ : ∃ o2, holdN ns Mb cc = o2 := ⟨_, rfl⟩
            have HO1 := hid (HE1.out.trans ho1)
            have HO2 := hid (HE2.out.trans ho2)
            have HBAD : Hid ((o1 && o2) = false) := hid (by rw [← ho1, ← ho2]; exact HNO.out cc)
            clear ho1 ho2
            have tok := hid True.intro
            have tok2 := hid True.intro
            go_wp2_with (first
              | (go_at_call 17; go_must (refine HSZ.out.mono ?_; rintro e ws2 ⟨rfl, hbs⟩; have HBS := hid (bstep hb.out hbs); have d1 := cell_below HBS.out hl5 q5; clear hbs))
              | (go_at_call 16; go_must (refine (choice_any _ ns n _ (uni_later HU5.out HBS.out) HNS.out (by have := HN.out; omega)).mono ?_; rintro e wc ⟨cv, rfl, hcv, hbc⟩; rw [HCC.out] at hcv; obtain ⟨Ac, cc2, rfl⟩ := hcv.form; have HCV := hid hcv.rd; have HBC := hid (bstep HBS.out hbc); have HUC := hid (uni_later HU5.out HBC.out); have HRAC := hid (HRA5.out.lift HBC.out HBC.out.size); have HRBC := hid (HRB5.out.lift HBC.out HBC.out.size); have d2 := cell_below HBC.out hl5 q5; have hlc : w1.heap.size < wc.heap.size := Nat.lt_of_lt_of_le hl5 HBC.out.size; clear hcv hbc)))
            rw [hcn] at HCV
            refine (incHolds_any _ _ _ ns (canon ns Ma) cc wc HUC.out HNS.out HRAC.out HCV.out (fun _ => HCO.out) HRAc.out).mono ?_
            rintro e w7 ⟨rfl, hb7⟩
            rw [HO1.out]
            have HBD := hid (bstep HBC.out hb7)
            have HRBD := hid (HRBC.out.lift hb7 hb7.size)
            have HCVD := hid (HCV.out.lift hb7 hb7.size)
            have d3 := cell_below hb7 hlc d2
            clear hb7
            cases o1
            · go_wp2_with fail
              exact ⟨⟨n + 1, by have := HN.out; omega, by go_num, HBD⟩, by have := HN.out; simp [intOf]; omega⟩
            · cases o2 <;> first | (exact absurd HBAD.out (by decide)) | skip
              go_wp2_with (go_at_call 19; go_must (refine (incHolds_any _ _ _ ns (canon ns Mb) cc w7 (uni_later HU5.out HBD.out) HNS.out HRBD.out HCVD.out (fun _ => HCO.out) HRBc.out).mono ?_; rintro e w8 ⟨rfl, hb8⟩; rw [HO2.out]; have HBE := hid (bstep HBD.out hb8); have HCVE := hid (HCVD.out.lift hb8 hb8.size); have d4 := cell_below HBE.out hl5 q5; clear hb8))
              exact ⟨⟨n + 1, by have := HN.out; omega, by go_num, HBE⟩, by have := HN.out; simp [intOf]; omega⟩
          · by_cases hs : n < sizeN ns
            · have j1 : (n : Int) < (sizeN ns : Nat) := by omega
              have j2 : ¬ ((n : Int) < 3000) := by omega
              generalize sizeN ns = sz at *
              clear hlt hs
              go_wp2_with (first
                | (go_at_call 17; go_must (refine HSZ.out.mono ?_; rintro e ws2 ⟨rfl, hbs⟩; have HBS := hid (bstep hb.out hbs); clear hbs))
                | (go_at_call 10; refine (awake_any _).mono ?_; rintro e wz ⟨rfl, hbz⟩))
              go_ret
              exact ⟨rfl, bstep HBW5.out (bstep HBS.out hbz)⟩
            · have j1 : ¬ ((n : Int) < (sizeN ns : Nat)) := by omega
              generalize sizeN ns = sz at *
              clear hlt hs
              go_wp2_with (first
                | (go_at_call 17; go_must (refine HSZ.out.mono ?_; rintro e ws2 ⟨rfl, hbs⟩; have HBS := hid (bstep hb.out hbs); clear hbs))
                | (go_at_call 10; refine (awake_any _).mono ?_; rintro e wz ⟨rfl, hbz⟩))
              go_ret
              exact ⟨rfl, bstep HBW5.out (bstep HBS.out hbz)⟩
       | true =>
        have hjn : madeN ns (meetN ns (canon ns Ma ++ canon ns Mb)) = some (canon ns (meetN ns (canon ns Ma ++ canon ns Mb))) := by unfold madeN; rw [hok]; rfl
        rw [hjn] at HR1 ⊢
        simp only [Option.isSome_some, Option.getD_some] at HR1 ⊢
        have HJOK := hid (meet_ok hok)
        have HLAW := hid (meets_law HNS.out HMA.out HMB.out)
        have HRJc := hid (canon_range (ns := ns) (meetN ns (canon ns Ma ++ canon ns Mb)))
        generalize meetN ns (canon ns Ma ++ canon ns Mb) = MM at *
        clear hok hjn
        have HB5 := hid hb5
        have HU5 := hid (uni_later HU4.out hb5)
        have HRA5 := hid (HRA4.out.lift hb5 hb5.size)
        have HRB5 := hid (HRB.out.lift hb5 hb5.size)
        have q5 := cell_below hb5 hl4 q4
        have hl5 : w1.heap.size < w5.heap.size := Nat.lt_of_lt_of_le hl4 hb5.size
        have HBW5 := hid (bstep HBW.out hb5)
        clear hb5 q4
        go_wp2_with fail
        go_loopw [12, 13, 14] (fun iv _ _ wr => ∃ n : Nat, n ≤ 3000 ∧ iv = .int .i64 n ∧ Hid (Below w5.heap.size w5 wr)) (fun iv _ _ _ => 3000 - (intOf iv).toNat)
        case atStart => exact ⟨0, by omega, rfl, hid (b0 w5)⟩
        case round =>
          obtain ⟨n, hn, rfl, hb⟩ := hrel
          have d0 := cell_below hb.out hl5 q5
          have HSZ := hid (size_any _ ns wr (uni_later HU5.out hb.out) HNS.out)
          by_cases hlt : n < sizeN ns ∧ n < 3000
          · have j1 : (n : Int) < (sizeN ns : Nat) := by omega
            have j2 : (n : Int) < 3000 := by omega
            have HN := hid hlt
            generalize sizeN ns = sz at *
            clear hlt
            have HCO0 := hid (choice_ok ns n)
            have hcn := choiceF_len ns n
            obtain ⟨cc, hcc⟩ : ∃ cc, choiceF ns n = cc := ⟨_, rfl⟩
            have HCC := hid hcc
            rw [hcc] at HCO0 hcn
            clear hcc
            have HCO := HCO0
            have HE1 := hid (holdL_canon HNS.out HCO.out HMA.out)
            have HE2 := hid (holdL_canon HNS.out HCO.out HMB.out)
            obtain ⟨o1, ho1⟩ : ∃ o1, holdN ns Ma cc = o1 := ⟨_, rfl⟩
            obtain ⟨o2, ho2⟩ : ∃ o2, holdN ns Mb cc = o2 := ⟨_, rfl⟩
            have HO1 := hid (HE1.out.trans ho1)
            have HO2 := hid (HE2.out.trans ho2)
            obtain ⟨jh, hjh⟩ : ∃ jh, holdN ns MM cc = jh := ⟨_, rfl⟩
            have HOJ := hid ((holdL_canon HNS.out HCO.out HJOK.out).trans hjh)
            have HBAD : Hid ((o1 && o2) = jh) := hid (by rw [← ho1, ← ho2, ← hjh]; exact HLAW.out cc)
            clear ho1 ho2 hjh
            have tok := hid True.intro
            have tok2 := hid True.intro
            go_wp2_with (first
              | (go_at_call 17; go_must (refine HSZ.out.mono ?_; rintro e ws2 ⟨rfl, hbs⟩; have HBS := hid (bstep hb.out hbs); have d1 := cell_below HBS.out hl5 q5; clear hbs))
              | (go_at_call 16; go_must (refine (choice_any _ ns n _ (uni_later HU5.out HBS.out) HNS.out (by have := HN.out; omega)).mono ?_; rintro e wc ⟨cv, rfl, hcv, hbc⟩; rw [HCC.out] at hcv; obtain ⟨Ac, cc2, rfl⟩ := hcv.form; have HCV := hid hcv.rd; have HBC := hid (bstep HBS.out hbc); have HUC := hid (uni_later HU5.out HBC.out); have HRAC := hid (HRA5.out.lift HBC.out HBC.out.size); have HRBC := hid (HRB5.out.lift HBC.out HBC.out.size); have d2 := cell_below HBC.out hl5 q5; have hlc : w1.heap.size < wc.heap.size := Nat.lt_of_lt_of_le hl5 HBC.out.size; clear hcv hbc)))
            rw [hcn] at HCV
            refine (incHolds_any _ _ _ ns (canon ns Ma) cc wc HUC.out HNS.out HRAC.out HCV.out (fun _ => HCO.out) HRAc.out).mono ?_
            rintro e w7 ⟨rfl, hb7⟩
            rw [HO1.out]
            have HBD := hid (bstep HBC.out hb7)
            have HRBD := hid (HRBC.out.lift hb7 hb7.size)
            have HCVD := hid (HCV.out.lift hb7 hb7.size)
            have d3 := cell_below hb7 hlc d2
            clear hb7
            cases o1
            · cases jh
              · go_wp2_with (go_at_call 19; go_must (refine (incHolds_any _ _ _ ns (canon ns MM) cc w7 (uni_later HU5.out HBD.out) HNS.out (HR1.out.lift HBD.out HBD.out.size) HCVD.out (fun _ => HCO.out) HRJc.out).mono ?_; rintro e w9 ⟨rfl, hb9⟩; rw [HOJ.out]; have HBF := hid (bstep HBD.out hb9); clear hb9))
                exact ⟨⟨n + 1, by have := HN.out; omega, by go_num, HBF⟩, by have := HN.out; simp [intOf]; omega⟩
              · exact absurd HBAD.out (by simp)
            · cases o2 <;> cases jh <;> first | (exact absurd HBAD.out (by decide)) | skip
              all_goals go_wp2_with (first
                | (go_at_call 19; clear tok2; go_must (refine (incHolds_any _ _ _ ns (canon ns Mb) cc w7 (uni_later HU5.out HBD.out) HNS.out HRBD.out HCVD.out (fun _ => HCO.out) HRBc.out).mono ?_; rintro e w8 ⟨rfl, hb8⟩; rw [HO2.out]; have HBE := hid (bstep HBD.out hb8); have HCVE := hid (HCVD.out.lift hb8 hb8.size); have d4 := cell_below HBE.out hl5 q5; clear hb8))
                | (go_at_call 19; go_must (refine (incHolds_any _ _ _ ns (canon ns MM) cc w8 (uni_later HU5.out HBE.out) HNS.out (HR1.out.lift HBE.out HBE.out.size) HCVE.out (fun _ => HCO.out) HRJc.out).mono ?_; rintro e w9 ⟨rfl, hb9⟩; rw [HOJ.out]; have HBF := hid (bstep HBE.out hb9); clear hb9)))
              all_goals exact ⟨⟨n + 1, by have := HN.out; omega, by go_num, HBF⟩, by have := HN.out; simp [intOf]; omega⟩
          · by_cases hs : n < sizeN ns
            · have j1 : (n : Int) < (sizeN ns : Nat) := by omega
              have j2 : ¬ ((n : Int) < 3000) := by omega
              generalize sizeN ns = sz at *
              clear hlt hs
              go_wp2_with (first
                | (go_at_call 17; go_must (refine HSZ.out.mono ?_; rintro e ws2 ⟨rfl, hbs⟩; have HBS := hid (bstep hb.out hbs); clear hbs))
                | (go_at_call 10; refine (awake_any _).mono ?_; rintro e wz ⟨rfl, hbz⟩))
              go_ret
              exact ⟨rfl, bstep HBW5.out (bstep HBS.out hbz)⟩
            · have j1 : ¬ ((n : Int) < (sizeN ns : Nat)) := by omega
              generalize sizeN ns = sz at *
              clear hlt hs
              go_wp2_with (first
                | (go_at_call 17; go_must (refine HSZ.out.mono ?_; rintro e ws2 ⟨rfl, hbs⟩; have HBS := hid (bstep hb.out hbs); clear hbs))
                | (go_at_call 10; refine (awake_any _).mono ?_; rintro e wz ⟨rfl, hbz⟩))
              go_ret
              exact ⟨rfl, bstep HBW5.out (bstep HBS.out hbz)⟩
  · by_cases h1 : ks.length ≤ 40
    · have k1 : ¬ (40 < (ks.length : Int)) := by omega
      have k2 : 40 < (ls.length : Int) := by omega
      clear hlen h1
      go_enter Tryz.func7, Tryz.ntmps7
      go_wp2_with (go_at_call 10; refine (awake_any _).mono ?_; rintro e wz ⟨rfl, hbz⟩)
      go_ret
      exact ⟨rfl, hbz⟩
    · have k1 : 40 < (ks.length : Int) := by omega
      clear hlen h1
      go_enter Tryz.func7, Tryz.ntmps7
      go_wp2_with (go_at_call 10; refine (awake_any _).mono ?_; rintro e wz ⟨rfl, hbz⟩)
      go_ret
      exact ⟨rfl, hbz⟩
end Go.Proofs.YtilkhofgcgfnlaaGreat
