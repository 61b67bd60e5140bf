/- Contract: linchpinlaw26.LearnSound. -/
import Derived.Test.YtmbjeppnamhgiaaGreatzB1
import Derived.Test.YtmbjeppnamhgiaaGreatB7
import Derived.Test.YtmbjeppnamhgiaaGreatzN
import Derived.Test.YtmbjeppnamhgiaaGreatzN15
import Derived.Deep.RegionHeld3
import Derived.Outline
namespace Go.Proofs.YtmbjeppnamhgiaaGreat
open Go Go.RowKit

/-- Does one of the first ones hold? -/
def anyB (ns : List Nat) (db : Nat → Nat → Nat) (c : List Int) (n : Nat) : Bool := (List.range n).any fun i => holdN ns (db i) c
theorem any_zero (ns : List Nat) (db : Nat → Nat → Nat) (c : List Int) : anyB ns db c 0 = false := rfl
theorem any_succ (ns : List Nat) (db : Nat → Nat → Nat) (c : List Int) (n : Nat) : anyB ns db c (n + 1) = (anyB ns db c n || holdN ns (db n) c) := by
  unfold anyB
  rw [List.range_succ, List.any_append]
  simp
theorem any_of {ns : List Nat} {db : Nat → Nat → Nat} {c : List Int} {n i : Nat} (hi : i < n) (h : holdN ns (db i) c = true) : anyB ns db c n = true := by
  unfold anyB
  rw [List.any_eq_true]
  exact ⟨i, List.mem_range.2 hi, h⟩
theorem choice_len (ns : List Nat) (n : Nat) : (choiceF ns n).length = ns.length := (choice_ok ns n).len
set_option maxRecDepth 100000 in
set_option maxHeartbeats 8000000 in
theorem learnSound_any (wv av lv : Value) (ws xas ls : List Int) (w : World) (hw : SliceRd tInt w (Lt w.heap.size) wv ws) (ha : SliceRd tInt w (Lt w.heap.size) av xas) (hl : SliceRd tInt w (Lt w.heap.size) lv ls) :
    Calls Tryz.prog 4 #[wv, av, lv] w fun e w' => e = .returned (.bool true) ∧ Below w.heap.size w w' := by
  have HW := hid hw
  have HA := hid ha
  have HL := hid hl
  obtain ⟨Aw, wcap, rfl, -⟩ := hw.ints
  obtain ⟨Aa, acap, rfl, hac, ham, -⟩ := ha.ints
  obtain ⟨Al, lcap, rfl, hlc, hlm, -⟩ := hl.ints
  unfold maxLen at ham hlm
  clear hw ha hl
  by_cases hlen : xas.length ≤ 10 ∧ ls.length ≤ 20
  · have k1 : ¬ (10 < (xas.length : Int)) := by omega
    have k2 : ¬ (20 < (ls.length : Int)) := by omega
    clear hlen
    go_enter Tryz.func4, Tryz.ntmps4
    go_wp2_with (go_at_call 10; go_must (refine (world26_any _ ws 3 _ HW.out (by decide) (by decide)).mono ?_; rintro e w1 ⟨g, c, us, rfl, hwr, huo, h0, hb1⟩; have HWR := hid hwr; have HUO := hid huo; have H0 := hid h0; have HB1 := hid hb1; clear hwr huo h0 hb1))
    obtain ⟨w2, hw2⟩ : ∃ w2 : World, w2 = w1.alloc (.cells #[.slice (some ⟨g, 0, none⟩) us.length c] 26) := ⟨_, rfl⟩
    have hb2 : Below w1.heap.size w1 w2 := hw2 ▸ balloc (b0 w1) _
    have hl2 : w1.heap.size < w2.heap.size := by rw [hw2]; simp
    have q2 : w2.cell? ⟨w1.heap.size, 0, none⟩ = some (.slice (some ⟨g, 0, none⟩) us.length c) := by rw [hw2, alloc_cell]; rfl
    have HW2 := hid (HWR.out.lift hb2 hb2.size)
    have HU2 := hid HW2.out.uni
    have HNS := hid HUO.out.ns
    have HB2 := hid (bstep HB1.out hb2)
    have HA2 := hid (HA.out.lift HB2.out HB2.out.size)
    have HL2 := hid (HL.out.lift HB2.out HB2.out.size)
    have HALW := hid (fun (W : World) (hb : Below w2.heap.size w2 W) => allow_any _ _ (nsOf us) xas W (uni_later HU2.out hb) HNS.out (HA2.out.lift hb hb.size))
    have HDB := hid (fun (xv : Value) (al : List Nat) (W : World) (hb : Below w2.heap.size w2 W) (hx : SliceRd tInt W (Lt W.heap.size) xv (natsI al)) (h31 : ∀ a ∈ al, a ≤ 31) => db_some _ xv us al W (HW2.out.lift hb hb.size) HUO.out H0.out hx h31)
    rw [← hw2]
    clear hw2 hb2
    go_wp2_with fail
    go_region_held3 (fun w' => w'.cell? ⟨w1.heap.size, 0, none⟩ = some (.slice (some ⟨g, 0, none⟩) us.length c)) (first | assumption | go_keep) (first
      | (go_at_call 12; refine (HALW.out _ (b0 w2).drew).mono ?_; rintro e w3 ⟨xv, al, rfl, hx, -, h31, hb3⟩; obtain ⟨Ax, cx, hxe, -⟩ := hx.ints; subst hxe; have HX := hid hx; have H31 := hid h31; have HB3 := hid ((b0 w2).drew.trans (hb3.mono (Nat.le_refl _))); have q3 := cell_below HB3.out hl2 q2; clear hx h31 hb3)
      | (go_at_call 11; refine (HDB.out _ _ _ HB3.out HX.out H31.out).mono ?_; rintro e w4 ⟨dv, db, D, rfl, hd, hok, hD, hb4⟩; obtain ⟨Ad, capd, hde, hDc, hDm, -⟩ := hd.dbs; subst hde; have HD := hid hd; have HOK := hid hok; have HB4 := hid (bstep HB3.out hb4); have q4 := cell_below HB4.out hl2 q2; clear hd hok hb4))
    have hl4 : w1.heap.size < w4.heap.size := Nat.lt_of_lt_of_le hl2 HB4.out.size
    have HU4 := hid (uni_later HU2.out HB4.out)
    have HBW4 := hid (bstep HB2.out HB4.out)
    unfold maxLen at hDm
    have HL4 := hid (HL2.out.lift HB4.out HB4.out.size)
    clear q3
    go_wp2_with fail
    refine (conflict_any _ _ _ (nsOf us) db D ls w4 HU4.out HNS.out HD.out HOK.out (by omega) HL4.out).mono ?_
    rintro e w5 ⟨tv, l, r, rfl, htr, hll, htv, hr, hb5⟩
    obtain ⟨At, capt, hte, hltc, hltm, -⟩ := htv.steps
    subst hte
    unfold maxLen at hltm
    have HTR := hid htr
    have HTV := hid htv
    have HB5 := hid hb5
    have q5 := cell_below hb5 hl4 q4
    have hl5 : w1.heap.size < w5.heap.size := Nat.lt_of_lt_of_le hl4 hb5.size
    have HU5 := hid (uni_later HU4.out hb5)
    have HD5 := hid (HD.out.lift hb5 hb5.size)
    have HBW5 := hid (bstep HBW4.out hb5)
    clear htr htv hb5 q4
    rcases hr with rfl | ⟨k, rfl, hkD, hsure⟩
    · rw [show decide ((0 : Int) ≤ -1) = false from rfl]
      go_wp2_with (go_at_call 9; refine (awake_any _).mono ?_; rintro e wz ⟨rfl, hbz⟩; have HBZ := hid hbz; clear hbz)
      go_ret
      exact ⟨rfl, bstep HBW5.out HBZ.out⟩
    · rw [show decide ((0 : Int) ≤ (k : Int)) = true from decide_eq_true (by omega)]
      have HCF := hid (Conf.mk HNS.out HTR.out HOK.out (HOK.out k hkD) hsure)
      have hk0 : (0 : Int) ≤ ↑k := by omega
      have hk1 : (↑k : Int) < ↑D := by omega
      clear hsure
      have HLN := hid (plearn_any _ _ _ (nsOf us) db D l k w5 HU5.out HCF.out hkD HTV.out (by omega) HD5.out (by omega))
      go_wp2_with fail
      refine HLN.out.mono ?_
      clear HLN
      rintro e w6 ⟨j, iv, lk, rfl, ⟨hs1, hs2⟩, hiv, hlk, hb6⟩
      obtain ⟨X, hX⟩ : ∃ X, stL (nsOf us) db l (db k) j = X := ⟨_, rfl⟩
      have HINV := hid (HCF.out.inv hs2)
      have HXE := hid hX
      rw [hX] at hs1 hiv hlk HINV ⊢
      have HST := hid hs1
      have HNO := hid hs2
      obtain ⟨T, hT⟩ : ∃ T, canon (nsOf us) X.M = T := ⟨_, rfl⟩
      obtain ⟨LK, hLK⟩ : ∃ LK, X.links = LK := ⟨_, rfl⟩
      obtain ⟨lv, hlv⟩ : ∃ lv, lvlOf (nsOf us) l X.M = lv := ⟨_, rfl⟩
      rw [hT] at hiv
      rw [hLK] at hlk
      rw [hlv]
      have HT := hid hT
      have HLK := hid hLK
      have HLV := hid hlv
      obtain ⟨Ai, ci, hie, hTc, hTm, -⟩ := hiv.terms
      obtain ⟨Ak, ck, hke, hLc, hLm, -⟩ := links_open hlk
      subst hie hke
      unfold maxLen at hTm hLm
      have HIV := hid hiv
      have HLKR := hid hlk
      have HB6 := hid hb6
      have q6 := cell_below hb6 hl5 q5
      have hl6 : w1.heap.size < w6.heap.size := Nat.lt_of_lt_of_le hl5 hb6.size
      have HU6 := hid (uni_later HU5.out hb6)
      have HD6 := hid (HD5.out.lift hb6 hb6.size)
      have HTV6 := hid (HTV.out.lift hb6 hb6.size)
      have HBW6 := hid (bstep HBW5.out hb6)
      clear hX hT hLK hlv hiv hlk hb6 hs1 hs2 q5
      have HM := hid HINV.out.ok
      have HSND := hid (fun (cc : List Int) (h : holdN (nsOf us) X.M cc = true) => show anyB (nsOf us) db cc D = true from by
        rcases HCF.out.sound HNO.out (by rw [HXE.out]; exact h) with h1 | ⟨i, hi, h1⟩
        · exact any_of hkD h1
        · exact any_of hi h1)
      have HRT := hid (show ∀ t ∈ T, 0 ≤ t.unit ∧ t.unit < (nsOf us).length by rw [← HT.out]; exact canon_range X.M)
      obtain ⟨Ad', cd', hde2, -, -, hdc⟩ := HD6.out.lists
      injection hde2 with e1 e2 e3
      subst e1
      have HDC := hid hdc
      obtain ⟨tl, htl⟩ : ∃ tl, T.length = tl := ⟨_, rfl⟩
      rw [htl] at hTc HIV ⊢
      clear hdc htl e2 e3
      go_wp2_with fail
      go_loopw [15, 16, 17, 18] (fun iv _ _ _ wr => ∃ n : Nat, n ≤ 2000 ∧ iv = .int .i64 n ∧ Hid (Below w6.heap.size w6 wr)) (fun iv _ _ _ _ => 2000 - (intOf iv).toNat)
      case atStart => exact ⟨0, by omega, rfl, hid (b0 w6)⟩
      case round =>
        obtain ⟨n, hn, rfl, hb⟩ := hrel
        have d0 := cell_below hb.out hl6 q6
        have HSZ := hid (size_any _ (nsOf us) wr (uni_later HU6.out hb.out) HNS.out)
        by_cases hlt : n < sizeN (nsOf us) ∧ n < 2000
        · have j1 : (n : Int) < (sizeN (nsOf us) : Nat) := by omega
          have j2 : (n : Int) < 2000 := by omega
          have HN := hid hlt
          generalize sizeN (nsOf us) = sz at *
          clear hlt
          go_wp2_with (first
            | (go_at_call 19; go_must (refine HSZ.out.mono ?_; rintro e ws2 ⟨rfl, hbs⟩; have HBS := hid (bstep hb.out hbs); have d1 := cell_below HBS.out hl6 q6; clear hbs))
            | (go_at_call 20; go_must (refine (choice_any _ (nsOf us) n _ (uni_later HU6.out HBS.out) HNS.out (by have := HN.out; omega)).mono ?_; rintro e wc ⟨cv, rfl, hcv, hbc⟩; obtain ⟨cc, hcc⟩ : ∃ cc, choiceF (nsOf us) n = cc := ⟨_, rfl⟩; have HCO : Hid (ChoiceOk (nsOf us) cc) := hid (hcc ▸ choice_ok (nsOf us) n); rw [hcc] at hcv; obtain ⟨Ac, cc2, hce⟩ := hcv.form; subst hce; have HCV := hid hcv.rd; have HBC := hid (bstep HBS.out hbc); have HUC := hid (uni_later HU6.out HBC.out); have d2 := cell_below HBC.out hl6 q6; have hlc := Nat.lt_of_lt_of_le hl6 HBC.out.size; clear hcv hbc hcc)))
          have HHO := hid (rhold_any _ _ _ (nsOf us) T cc wc HUC.out HNS.out (HIV.out.lift HBC.out HBC.out.size) HCV.out HCO.out HRT.out)
          have hhe := holdL_canon HNS.out HCO.out HM.out
          rw [HT.out] at hhe
          rw [hhe] at HHO
          have HSN := hid (HSND.out cc)
          obtain ⟨hv, hhv⟩ : ∃ hv, holdN (nsOf us) X.M cc = hv := ⟨_, rfl⟩
          rw [hhv] at HHO HSN
          clear hhe hhv
          refine HHO.out.mono ?_
          rintro e w7 ⟨rfl, hb7⟩
          have HB7 := hid (bstep HBC.out hb7)
          have HCV7 := hid (HCV.out.lift hb7 hb7.size)
          have d7 := cell_below hb7 hlc d2
          have hl7 := Nat.lt_of_lt_of_le hlc hb7.size
          clear hb7 d0 d1 d2
          cases hv with
          | false =>
            go_wp2_with fail
            exact ⟨⟨n + 1, by have := HN.out; omega, by go_num, HB7⟩, by have := HN.out; simp [intOf]; omega⟩
          | true =>
            go_wp2_with fail
            go_loopw [17, 18] (fun bv iv w8 => ∃ i : Nat, i ≤ D ∧ iv = .int .i64 i ∧ bv = .bool (anyB (nsOf us) db cc i) ∧ Hid (Below w7.heap.size w7 w8)) (fun _ iv _ => D - (intOf iv).toNat)
            case atStart => exact ⟨0, Nat.zero_le _, rfl, rfl, hid (b0 w7)⟩
            case round =>
              obtain ⟨i, hi, rfl, rfl, hb8⟩ := hrel
              have d8 := cell_below hb8.out hl7 d7
              have hl8 : w1.heap.size < wr.heap.size := Nat.lt_of_lt_of_le hl7 hb8.out.size
              have HB8 := hid (bstep HB7.out hb8.out)
              by_cases hli : i < D
              · have i0 : (0 : Int) ≤ ↑i := by omega
                have i1 : (↑i : Int) < ↑D := by omega
                obtain ⟨gd, od, uv, hAd, hFd, hdcell, hdrd⟩ := HDC.out i (by rw [dbL_len]; exact hli)
                rw [dbL_at] at hdrd
                subst hAd
                obtain ⟨Au, cu, hue, -⟩ := hdrd.terms
                subst hue
                have hFd8 : gd < wr.heap.size := Nat.lt_of_lt_of_le hFd HB8.out.size
                have l0 := later_cell hl8 d8
                have l1 := later_cell hFd8 (cell_below HB8.out hFd hdcell)
                have HU8 := hid (uni_later HU6.out HB8.out)
                have HV8 := hid (HCV7.out.lift hb8.out hb8.out.size)
                have HR8 := hid (hdrd.lift HB8.out HB8.out.size)
                have HHE := hid (holdL_canon HNS.out HCO.out (HOK.out i hli))
                have HAS := hid (any_succ (nsOf us) db cc i)
                obtain ⟨hd1, hhd⟩ : ∃ hd1, holdN (nsOf us) (db i) cc = hd1 := ⟨_, rfl⟩
                have HHX := hid (HHE.out.trans hhd)
                rw [hhd] at HAS
                obtain ⟨ab, hab⟩ : ∃ ab, anyB (nsOf us) db cc i = ab := ⟨_, rfl⟩
                rw [hab] at HAS ⊢
                clear hhd hab hdrd hdcell HHE
                cases ab
                all_goals go_wp2_with fail
                all_goals (refine wp_region_later (by kernel_rfl) (by kernel_rfl) ?_; (repeat (go_big_quiet_step ((go_at_call 21; exact Calls.later (rhold_any _ _ _ (nsOf us) (canon (nsOf us) (db i)) cc _ (uni_lat HU8.out _) HNS.out (HR8.out.lift (Later.below _) (Later.below _).size) (HV8.out.lift (Later.below _) (Later.below _).size) HCO.out (canon_range (db i))) (congrArg Value.bool HHX.out))))); refine wpQuiet_nil ?_; rintro _ ⟨e9, rfl⟩; obtain ⟨w9, hw9⟩ : ∃ w9 : World, w9 = e9.w := ⟨_, rfl⟩; have hb9 := e9.below; rw [← hw9] at hb9 ⊢; clear hw9)
                all_goals go_wp2_with fail
                all_goals exact ⟨⟨i + 1, by omega, by go_num, by first | exact congrArg Value.bool HAS.out.symm | (rw [HAS.out]; rfl), hid (bstep hb8.out hb9)⟩, by simp [intOf]; omega⟩
              · have hiD : i = D := by omega
                subst hiD
                have hT : anyB (nsOf us) db cc i = true := by first | exact HSN.out rfl | exact HSN.out trivial
                rw [hT]
                go_wp2_with fail
                exact ⟨⟨n + 1, by have := HN.out; omega, by go_num, HB8⟩, by have := HN.out; simp [intOf]; omega⟩
        · by_cases hs : n < sizeN (nsOf us)
          · have j1 : (n : Int) < (sizeN (nsOf us) : Nat) := by omega
            have j2 : ¬ ((n : Int) < 2000) := by omega
            generalize sizeN (nsOf us) = sz at *
            clear hlt hs
            go_wp2_with (first
              | (go_at_call 19; go_must (refine HSZ.out.mono ?_; rintro e ws2 ⟨rfl, hbs⟩; have HBS := hid (bstep hb.out hbs); clear hbs))
              | (go_at_call 9; refine (awake_any _).mono ?_; rintro e wz ⟨rfl, hbz⟩; have HBZ := hid hbz; clear hbz))
            go_ret
            exact ⟨rfl, bstep HBW6.out (bstep HBS.out HBZ.out)⟩
          · have j1 : ¬ ((n : Int) < (sizeN (nsOf us) : Nat)) := by omega
            generalize sizeN (nsOf us) = sz at *
            clear hlt hs
            go_wp2_with (first
              | (go_at_call 19; go_must (refine HSZ.out.mono ?_; rintro e ws2 ⟨rfl, hbs⟩; have HBS := hid (bstep hb.out hbs); clear hbs))
              | (go_at_call 9; refine (awake_any _).mono ?_; rintro e wz ⟨rfl, hbz⟩; have HBZ := hid hbz; clear hbz))
            go_ret
            exact ⟨rfl, bstep HBW6.out (bstep HBS.out HBZ.out)⟩
  · by_cases h1 : xas.length ≤ 10
    · have k1 : ¬ (10 < (xas.length : Int)) := by omega
      have k2 : 20 < (ls.length : Int) := by omega
      clear hlen h1
      go_enter Tryz.func4, Tryz.ntmps4
      go_wp2_with (go_at_call 9; refine (awake_any _).mono ?_; rintro e wz ⟨rfl, hbz⟩; have HBZ := hid hbz; clear hbz)
      go_ret
      exact ⟨rfl, HBZ.out⟩
    · have k1 : 10 < (xas.length : Int) := by omega
      clear hlen h1
      go_enter Tryz.func4, Tryz.ntmps4
      go_wp2_with (go_at_call 9; refine (awake_any _).mono ?_; rintro e wz ⟨rfl, hbz⟩; have HBZ := hid hbz; clear hbz)
      go_ret
      exact ⟨rfl, HBZ.out⟩
end Go.Proofs.YtmbjeppnamhgiaaGreat
