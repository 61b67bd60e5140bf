/- Contract: linchpinlaw26.LearnTells. -/
import Derived.Test.YtmbjeppnamhgiaaGreatzB1
import Derived.Test.YtmbjeppnamhgiaaGreatB7
import Derived.Deep.RegionHeld3
import Derived.Outline
namespace Go.Proofs.YtmbjeppnamhgiaaGreat
open Go Go.RowKit

set_option maxRecDepth 100000 in
set_option maxHeartbeats 8000000 in
theorem learnTells_any (wv av lv : Value) (ws xas ls : List Int) (w : World) (hw : SliceRd tInt w (Lt w.heap.size) wv ws) (ha : SliceRd tInt w (Lt w.heap.size) av xas) (hl : SliceRd tInt w (Lt w.heap.size) lv ls) :
    Calls Tryz.prog 3 #[wv, av, lv] w fun e w' => e = .returned (.bool true) ∧ Below w.heap.size w w' := by
  have HW := hid hw
  have HA := hid ha
  have HL := hid hl
  obtain ⟨Aw, wcap, rfl, -⟩ := hw.ints
  obtain ⟨Aa, acap, rfl, hac, ham, -⟩ := ha.ints
  obtain ⟨Al, lcap, rfl, hlc, hlm, -⟩ := hl.ints
  unfold maxLen at ham hlm
  clear hw ha hl
  by_cases hlen : xas.length ≤ 10 ∧ ls.length ≤ 20
  · have k1 : ¬ (10 < (xas.length : Int)) := by omega
    have k2 : ¬ (20 < (ls.length : Int)) := by omega
    clear hlen
    go_enter Tryz.func3, Tryz.ntmps3
    go_wp2_with (go_at_call 10; go_must (refine (world26_any _ ws 5 _ HW.out (by decide) (by decide)).mono ?_; rintro e w1 ⟨g, c, us, rfl, hwr, huo, h0, hb1⟩; have HWR := hid hwr; have HUO := hid huo; have H0 := hid h0; have HB1 := hid hb1; clear hwr huo h0 hb1))
    obtain ⟨w2, hw2⟩ : ∃ w2 : World, w2 = w1.alloc (.cells #[.slice (some ⟨g, 0, none⟩) us.length c] 26) := ⟨_, rfl⟩
    have hb2 : Below w1.heap.size w1 w2 := hw2 ▸ balloc (b0 w1) _
    have hl2 : w1.heap.size < w2.heap.size := by rw [hw2]; simp
    have q2 : w2.cell? ⟨w1.heap.size, 0, none⟩ = some (.slice (some ⟨g, 0, none⟩) us.length c) := by rw [hw2, alloc_cell]; rfl
    have HW2 := hid (HWR.out.lift hb2 hb2.size)
    have HU2 := hid HW2.out.uni
    have HNS := hid HUO.out.ns
    have HB2 := hid (bstep HB1.out hb2)
    have HA2 := hid (HA.out.lift HB2.out HB2.out.size)
    have HL2 := hid (HL.out.lift HB2.out HB2.out.size)
    have HALW := hid (fun (W : World) (hb : Below w2.heap.size w2 W) => allow_any _ _ (nsOf us) xas W (uni_later HU2.out hb) HNS.out (HA2.out.lift hb hb.size))
    have HDB := hid (fun (xv : Value) (al : List Nat) (W : World) (hb : Below w2.heap.size w2 W) (hx : SliceRd tInt W (Lt W.heap.size) xv (natsI al)) (h31 : ∀ a ∈ al, a ≤ 31) => db_some _ xv us al W (HW2.out.lift hb hb.size) HUO.out H0.out hx h31)
    rw [← hw2]
    clear hw2 hb2
    go_wp2_with fail
    go_region_held3 (fun w' => w'.cell? ⟨w1.heap.size, 0, none⟩ = some (.slice (some ⟨g, 0, none⟩) us.length c)) (first | assumption | go_keep) (first
      | (go_at_call 12; refine (HALW.out _ (b0 w2).drew).mono ?_; rintro e w3 ⟨xv, al, rfl, hx, -, h31, hb3⟩; obtain ⟨Ax, cx, hxe, -⟩ := hx.ints; subst hxe; have HX := hid hx; have H31 := hid h31; have HB3 := hid ((b0 w2).drew.trans (hb3.mono (Nat.le_refl _))); have q3 := cell_below HB3.out hl2 q2; clear hx h31 hb3)
      | (go_at_call 11; refine (HDB.out _ _ _ HB3.out HX.out H31.out).mono ?_; rintro e w4 ⟨dv, db, D, rfl, hd, hok, hD, hb4⟩; obtain ⟨Ad, capd, hde, hDc, hDm, -⟩ := hd.dbs; subst hde; have HD := hid hd; have HOK := hid hok; have HB4 := hid (bstep HB3.out hb4); have q4 := cell_below HB4.out hl2 q2; clear hd hok hb4))
    have hl4 : w1.heap.size < w4.heap.size := Nat.lt_of_lt_of_le hl2 HB4.out.size
    have HU4 := hid (uni_later HU2.out HB4.out)
    have HBW4 := hid (bstep HB2.out HB4.out)
    unfold maxLen at hDm
    have HL4 := hid (HL2.out.lift HB4.out HB4.out.size)
    clear q3
    go_wp2_with fail
    refine (conflict_any _ _ _ (nsOf us) db D ls w4 HU4.out HNS.out HD.out HOK.out (by omega) HL4.out).mono ?_
    rintro e w5 ⟨tv, l, r, rfl, htr, hll, htv, hr, hb5⟩
    obtain ⟨At, capt, hte, hltc, hltm, -⟩ := htv.steps
    subst hte
    unfold maxLen at hltm
    have HTR := hid htr
    have HTV := hid htv
    have HB5 := hid hb5
    have q5 := cell_below hb5 hl4 q4
    have hl5 : w1.heap.size < w5.heap.size := Nat.lt_of_lt_of_le hl4 hb5.size
    have HU5 := hid (uni_later HU4.out hb5)
    have HD5 := hid (HD.out.lift hb5 hb5.size)
    have HBW5 := hid (bstep HBW4.out hb5)
    clear htr htv hb5 q4
    rcases hr with rfl | ⟨k, rfl, hkD, hsure⟩
    · rw [show decide ((0 : Int) ≤ -1) = false from rfl]
      go_wp2_with (go_at_call 9; refine (awake_any _).mono ?_; rintro e wz ⟨rfl, hbz⟩; have HBZ := hid hbz; clear hbz)
      go_ret
      exact ⟨rfl, bstep HBW5.out HBZ.out⟩
    · rw [show decide ((0 : Int) ≤ (k : Int)) = true from decide_eq_true (by omega)]
      have HCF := hid (Conf.mk HNS.out HTR.out HOK.out (HOK.out k hkD) hsure)
      have hk0 : (0 : Int) ≤ ↑k := by omega
      have hk1 : (↑k : Int) < ↑D := by omega
      clear hsure
      obtain ⟨it, hit⟩ := info_parts step_info
      have HIT := hid hit
      have hsrc := HTV.out.srcF
      have HSRC := hid hsrc.2.1
      have HOKL := hid hsrc.2.2
      clear hit hsrc
      go_wp2_with (at_builtin; go_must (refine wpList_append_src _ rfl (.const (.slice none 0 0)) (.tmp 46) _ rfl w5.heap.size 98 it _ 4 32 Tryz.underlying31 HIT.out.1 HIT.out.2.1 HIT.out.2.2.1 HIT.out.2.2.2 rfl (by omega) (.slice none 0 0) 0 [] (by rfl) (own_noneF _ _ _ _) At _ capt (fStep.all l) (by rfl) (by exact HSRC.out) (fStep.all_one _) (by unfold maxLen; omega) (by omega) (Nat.le_refl _) ?_; intro m6 w6 hown6 hg6 hat6; simp only [Nat.zero_add, List.nil_append] at hown6; obtain ⟨Am, cm, hme⟩ := own_form hown6; subst hme; have hof : OwnF fStep 98 w5.heap.size w6 (.slice Am l.length cm) l := ⟨hown6, HOKL.out⟩; have HM6 := hid hof.rd; have hb6 := own_app (v2 := .slice Am l.length cm) (b0 w5) (OwnF.nil fStep 98 w5.heap.size w5) (Nat.le_refl _) hg6 rfl; have HB6 := hid hb6; have q6 := cell_below hb6 hl5 q5; have hl6 : w1.heap.size < w6.heap.size := Nat.lt_of_lt_of_le hl5 hb6.size; clear hown6 hg6 hat6 hof hb6 q5))
      have HU6 := hid (uni_later HU5.out HB6.out)
      have HD6 := hid (HD5.out.lift HB6.out HB6.out.size)
      have HTV6 := hid (HTV.out.lift HB6.out HB6.out.size)
      have HBW6 := hid (bstep HBW5.out HB6.out)
      have HLN := hid (plearn_any _ _ _ (nsOf us) db D l k w6 HU6.out HCF.out hkD HM6.out (by omega) HD6.out (by omega))
      go_wp2_with fail
      refine HLN.out.mono ?_
      clear HLN
      rintro e w7 ⟨j, iv, lk, rfl, ⟨hs1, hs2⟩, hiv, hlk, hb7⟩
      obtain ⟨X, hX⟩ : ∃ X, stL (nsOf us) db l (db k) j = X := ⟨_, rfl⟩
      have HINV := hid (HCF.out.inv hs2)
      have HXE := hid hX
      rw [hX] at hs1 hiv hlk HINV ⊢
      have HST := hid hs1
      have HNO := hid hs2
      obtain ⟨T, hT⟩ : ∃ T, canon (nsOf us) X.M = T := ⟨_, rfl⟩
      obtain ⟨LK, hLK⟩ : ∃ LK, X.links = LK := ⟨_, rfl⟩
      obtain ⟨lv, hlv⟩ : ∃ lv, lvlOf (nsOf us) l X.M = lv := ⟨_, rfl⟩
      rw [hT] at hiv
      rw [hLK] at hlk
      rw [hlv]
      have HT := hid hT
      have HLK := hid hLK
      have HLV := hid hlv
      obtain ⟨Ai, ci, hie, hTc, hTm, -⟩ := hiv.terms
      obtain ⟨Ak, ck, hke, hLc, hLm, -⟩ := links_open hlk
      subst hie hke
      unfold maxLen at hTm hLm
      have HIV := hid hiv
      have HLKR := hid hlk
      have HB7 := hid hb7
      have q7 := cell_below hb7 hl6 q6
      have hl7 : w1.heap.size < w7.heap.size := Nat.lt_of_lt_of_le hl6 hb7.size
      have HU7 := hid (uni_later HU6.out hb7)
      have HD7 := hid (HD6.out.lift hb7 hb7.size)
      have HTV7 := hid (HM6.out.lift hb7 hb7.size)
      have HBW7 := hid (bstep HBW6.out hb7)
      clear hX hT hLK hlv hiv hlk hb7 hs1 hs2 q6
      have HTT := hid (HTV6.out.lift HB7.out HB7.out.size)
      have HLN := hid (rlearn_any _ _ _ (nsOf us) db D l k w7 HU7.out HCF.out hkD HTT.out (by omega) HD7.out (by omega))
      go_wp2_with fail
      refine HLN.out.mono ?_
      clear HLN
      rintro e w8 ⟨j2, iv2, lk2, rfl, ⟨hs3, hs4⟩, hiv2, hlk2, hb8⟩
      obtain rfl : j2 = j := stop_one hs3 hs4 (by rw [HXE.out]; exact HST.out) HNO.out
      rw [HXE.out] at hiv2 hlk2 ⊢
      rw [HT.out] at hiv2
      rw [HLK.out] at hlk2
      rw [HLV.out]
      obtain ⟨Ai2, ci2, hie2, hTc2, -, -⟩ := hiv2.terms
      obtain ⟨Ak2, ck2, hke2, hLc2, -, -⟩ := links_open hlk2
      subst hie2 hke2
      have HIV8 := hid (HIV.out.lift hb8 hb8.size)
      have HIV28 := hid hiv2
      have HLKR8 := hid (HLKR.out.lift hb8 hb8.size)
      have HLKR28 := hid hlk2
      have HM8 := hid (HTV7.out.lift hb8 hb8.size)
      have HT8 := hid (HTT.out.lift hb8 hb8.size)
      have HBW8 := hid (bstep HBW7.out hb8)
      clear hs3 hs4 hiv2 hlk2 hb8 q7
      go_wp2_with (first
        | (go_at_call 16; go_must (refine (sameTerms_any _ _ T T w8 HIV8.out HIV28.out).mono ?_; rintro e w9 ⟨rfl, hb9⟩; have HB9 := hid hb9; clear hb9))
        | (go_at_call 17; go_must (refine (sameLinks_any _ _ LK w9 (HLKR8.out.lift HB9.out HB9.out.size) (HLKR28.out.lift HB9.out HB9.out.size)).mono ?_; rintro e w10 ⟨rfl, hb10⟩; have HB10 := hid (bstep HB9.out hb10); clear hb10))
        | (go_at_call 18; go_must (refine (sameSteps_any _ _ l w10 (HM8.out.lift HB10.out HB10.out.size) (HT8.out.lift HB10.out HB10.out.size)).mono ?_; rintro e w11 ⟨rfl, hb11⟩; have HB11 := hid (bstep HB10.out hb11); clear hb11))
        | (go_at_call 9; refine (awake_any _).mono ?_; rintro e wz ⟨rfl, hbz⟩; have HBZ := hid hbz; clear hbz))
      go_ret
      exact ⟨rfl, bstep HBW8.out (bstep HB11.out HBZ.out)⟩
  · by_cases h1 : xas.length ≤ 10
    · have k1 : ¬ (10 < (xas.length : Int)) := by omega
      have k2 : 20 < (ls.length : Int) := by omega
      clear hlen h1
      go_enter Tryz.func3, Tryz.ntmps3
      go_wp2_with (go_at_call 9; refine (awake_any _).mono ?_; rintro e wz ⟨rfl, hbz⟩; have HBZ := hid hbz; clear hbz)
      go_ret
      exact ⟨rfl, HBZ.out⟩
    · have k1 : 10 < (xas.length : Int) := by omega
      clear hlen h1
      go_enter Tryz.func3, Tryz.ntmps3
      go_wp2_with (go_at_call 9; refine (awake_any _).mono ?_; rintro e wz ⟨rfl, hbz⟩; have HBZ := hid hbz; clear hbz)
      go_ret
      exact ⟨rfl, HBZ.out⟩
end Go.Proofs.YtmbjeppnamhgiaaGreat
