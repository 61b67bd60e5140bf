/- Contract: linchpinlaw26.LearnOpens. -/
import Derived.Test.YtmbjeppnamhgiaaGreatzB1
import Derived.Test.YtmbjeppnamhgiaaGreatB5
import Derived.Test.YtmbjeppnamhgiaaGreatB7
import Derived.Test.YtmbjeppnamhgiaaGreatM3
import Derived.Deep.RegionHeld3
import Derived.Outline
namespace Go.Proofs.YtmbjeppnamhgiaaGreat
open Go Go.RowKit

/-- What Scan tells of one that is open. -/
theorem scan_one {ns : List Nat} {M : Nat → Nat} {l : List StepN} {i v : Int} {u : Nat} (h : ScanIs ns (fun _ => M) 1 l i v) (ho : OpenAt ns l M u) : i = 0 ∧ v = (u : Int) := by
  rcases h with ⟨_, _, h⟩ | ⟨k, _, _, _, h⟩ | ⟨k, v', rfl, hk, rfl, h⟩
  · exact absurd ho ((h 0 (by omega)).2 u)
  · exact absurd (h u ho.1) ho.2.2.1
  · obtain rfl : k = 0 := by omega
    rw [open_one h ho]
    exact ⟨rfl, rfl⟩
set_option maxRecDepth 100000 in
set_option maxHeartbeats 8000000 in
theorem learnOpens_any (wv av lv : Value) (ws xas ls : List Int) (w : World) (hw : SliceRd tInt w (Lt w.heap.size) wv ws) (ha : SliceRd tInt w (Lt w.heap.size) av xas) (hl : SliceRd tInt w (Lt w.heap.size) lv ls) :
    Calls Tryz.prog 5 #[wv, av, lv] w fun e w' => e = .returned (.bool true) ∧ Below w.heap.size w w' := by
  have HW := hid hw
  have HA := hid ha
  have HL := hid hl
  obtain ⟨Aw, wcap, rfl, -⟩ := hw.ints
  obtain ⟨Aa, acap, rfl, hac, ham, -⟩ := ha.ints
  obtain ⟨Al, lcap, rfl, hlc, hlm, -⟩ := hl.ints
  unfold maxLen at ham hlm
  clear hw ha hl
  by_cases hlen : xas.length ≤ 10 ∧ ls.length ≤ 20
  · have k1 : ¬ (10 < (xas.length : Int)) := by omega
    have k2 : ¬ (20 < (ls.length : Int)) := by omega
    clear hlen
    go_enter Tryz.func5, Tryz.ntmps5
    go_wp2_with (go_at_call 10; go_must (refine (world26_any _ ws 5 _ HW.out (by decide) (by decide)).mono ?_; rintro e w1 ⟨g, c, us, rfl, hwr, huo, h0, hb1⟩; have HWR := hid hwr; have HUO := hid huo; have H0 := hid h0; have HB1 := hid hb1; clear hwr huo h0 hb1))
    obtain ⟨w2, hw2⟩ : ∃ w2 : World, w2 = w1.alloc (.cells #[.slice (some ⟨g, 0, none⟩) us.length c] 26) := ⟨_, rfl⟩
    have hb2 : Below w1.heap.size w1 w2 := hw2 ▸ balloc (b0 w1) _
    have hl2 : w1.heap.size < w2.heap.size := by rw [hw2]; simp
    have q2 : w2.cell? ⟨w1.heap.size, 0, none⟩ = some (.slice (some ⟨g, 0, none⟩) us.length c) := by rw [hw2, alloc_cell]; rfl
    have HW2 := hid (HWR.out.lift hb2 hb2.size)
    have HU2 := hid HW2.out.uni
    have HNS := hid HUO.out.ns
    have HB2 := hid (bstep HB1.out hb2)
    have HA2 := hid (HA.out.lift HB2.out HB2.out.size)
    have HL2 := hid (HL.out.lift HB2.out HB2.out.size)
    have HALW := hid (fun (W : World) (hb : Below w2.heap.size w2 W) => allow_any _ _ (nsOf us) xas W (uni_later HU2.out hb) HNS.out (HA2.out.lift hb hb.size))
    have HDB := hid (fun (xv : Value) (al : List Nat) (W : World) (hb : Below w2.heap.size w2 W) (hx : SliceRd tInt W (Lt W.heap.size) xv (natsI al)) (h31 : ∀ a ∈ al, a ≤ 31) => db_some _ xv us al W (HW2.out.lift hb hb.size) HUO.out H0.out hx h31)
    rw [← hw2]
    clear hw2 hb2
    go_wp2_with fail
    go_region_held3 (fun w' => w'.cell? ⟨w1.heap.size, 0, none⟩ = some (.slice (some ⟨g, 0, none⟩) us.length c)) (first | assumption | go_keep) (first
      | (go_at_call 12; refine (HALW.out _ (b0 w2).drew).mono ?_; rintro e w3 ⟨xv, al, rfl, hx, -, h31, hb3⟩; obtain ⟨Ax, cx, hxe, -⟩ := hx.ints; subst hxe; have HX := hid hx; have H31 := hid h31; have HB3 := hid ((b0 w2).drew.trans (hb3.mono (Nat.le_refl _))); have q3 := cell_below HB3.out hl2 q2; clear hx h31 hb3)
      | (go_at_call 11; refine (HDB.out _ _ _ HB3.out HX.out H31.out).mono ?_; rintro e w4 ⟨dv, db, D, rfl, hd, hok, hD, hb4⟩; obtain ⟨Ad, capd, hde, hDc, hDm, -⟩ := hd.dbs; subst hde; have HD := hid hd; have HOK := hid hok; have HB4 := hid (bstep HB3.out hb4); have q4 := cell_below HB4.out hl2 q2; clear hd hok hb4))
    have hl4 : w1.heap.size < w4.heap.size := Nat.lt_of_lt_of_le hl2 HB4.out.size
    have HU4 := hid (uni_later HU2.out HB4.out)
    have HBW4 := hid (bstep HB2.out HB4.out)
    unfold maxLen at hDm
    have HL4 := hid (HL2.out.lift HB4.out HB4.out.size)
    clear q3
    go_wp2_with fail
    refine (conflict_any _ _ _ (nsOf us) db D ls w4 HU4.out HNS.out HD.out HOK.out (by omega) HL4.out).mono ?_
    rintro e w5 ⟨tv, l, r, rfl, htr, hll, htv, hr, hb5⟩
    obtain ⟨At, capt, hte, hltc, hltm, -⟩ := htv.steps
    subst hte
    unfold maxLen at hltm
    have HTR := hid htr
    have HTV := hid htv
    have HB5 := hid hb5
    have q5 := cell_below hb5 hl4 q4
    have hl5 : w1.heap.size < w5.heap.size := Nat.lt_of_lt_of_le hl4 hb5.size
    have HU5 := hid (uni_later HU4.out hb5)
    have HD5 := hid (HD.out.lift hb5 hb5.size)
    have HBW5 := hid (bstep HBW4.out hb5)
    clear htr htv hb5 q4
    rcases hr with rfl | ⟨k, rfl, hkD, hsure⟩
    · rw [show decide ((0 : Int) ≤ -1) = false from rfl]
      go_wp2_with (go_at_call 9; refine (awake_any _).mono ?_; rintro e wz ⟨rfl, hbz⟩; have HBZ := hid hbz; clear hbz)
      go_ret
      exact ⟨rfl, bstep HBW5.out HBZ.out⟩
    · rw [show decide ((0 : Int) ≤ (k : Int)) = true from decide_eq_true (by omega)]
      have HCF := hid (Conf.mk HNS.out HTR.out HOK.out (HOK.out k hkD) hsure)
      have hk0 : (0 : Int) ≤ ↑k := by omega
      have hk1 : (↑k : Int) < ↑D := by omega
      clear hsure
      have HLN := hid (plearn_any _ _ _ (nsOf us) db D l k w5 HU5.out HCF.out hkD HTV.out (by omega) HD5.out (by omega))
      go_wp2_with fail
      refine HLN.out.mono ?_
      clear HLN
      rintro e w6 ⟨j, iv, lk, rfl, ⟨hs1, hs2⟩, hiv, hlk, hb6⟩
      obtain ⟨X, hX⟩ : ∃ X, stL (nsOf us) db l (db k) j = X := ⟨_, rfl⟩
      have HINV := hid (HCF.out.inv hs2)
      have HXE := hid hX
      rw [hX] at hs1 hiv hlk HINV ⊢
      have HST := hid hs1
      have HNO := hid hs2
      obtain ⟨T, hT⟩ : ∃ T, canon (nsOf us) X.M = T := ⟨_, rfl⟩
      obtain ⟨LK, hLK⟩ : ∃ LK, X.links = LK := ⟨_, rfl⟩
      obtain ⟨lv, hlv⟩ : ∃ lv, lvlOf (nsOf us) l X.M = lv := ⟨_, rfl⟩
      rw [hT] at hiv
      rw [hLK] at hlk
      rw [hlv]
      have HT := hid hT
      have HLK := hid hLK
      have HLV := hid hlv
      obtain ⟨Ai, ci, hie, hTc, hTm, -⟩ := hiv.terms
      obtain ⟨Ak, ck, hke, hLc, hLm, -⟩ := links_open hlk
      subst hie hke
      unfold maxLen at hTm hLm
      have HIV := hid hiv
      have HLKR := hid hlk
      have HB6 := hid hb6
      have q6 := cell_below hb6 hl5 q5
      have hl6 : w1.heap.size < w6.heap.size := Nat.lt_of_lt_of_le hl5 hb6.size
      have HU6 := hid (uni_later HU5.out hb6)
      have HD6 := hid (HD5.out.lift hb6 hb6.size)
      have HTV6 := hid (HTV.out.lift hb6 hb6.size)
      have HBW6 := hid (bstep HBW5.out hb6)
      clear hX hT hLK hlv hiv hlk hb6 hs1 hs2 q5
      cases hbl : blank (nsOf us) X.M with
      | true =>
        have hT0 := blank_len hbl
        rw [HT.out] at hT0
        have hlv1 : lvlOf (nsOf us) l X.M = -1 := by unfold lvlOf; rw [if_pos hbl]
        rw [HLV.out] at hlv1
        subst hT0 hlv1
        clear hbl
        go_wp2_with (go_at_call 9; refine (awake_any _).mono ?_; rintro e wz ⟨rfl, hbz⟩; have HBZ := hid hbz; clear hbz)
        go_ret
        exact ⟨rfl, bstep HBW6.out HBZ.out⟩
      | false =>
        have hTp : 0 < T.length := by have := blank_pos hbl; rw [HT.out] at this; exact this
        have hlv1 : lvlOf (nsOf us) l X.M = (levN (nsOf us) l X.M : Nat) := by unfold lvlOf; rw [if_neg (by rw [hbl]; decide)]
        have hlt := lvl_lt HNS.out HTR.out HINV.out HST.out hbl
        obtain ⟨p, hp, hbk, hop, -, -⟩ := HINV.out.opens HNS.out HTR.out hbl HST.out
        have hlevb := HTR.out.level_le
        rw [HLV.out] at hlv1
        obtain ⟨ln, hln⟩ : ∃ ln, levN (nsOf us) l X.M = ln := ⟨_, rfl⟩
        rw [hln] at hlv1 hlt hbk
        obtain ⟨u, hu⟩ : ∃ u, (lastS (nsOf us) l X.M).u = u := ⟨_, rfl⟩
        rw [hu] at hop
        have hus : u < (nsOf us).length := hop.1
        have hus2 : u < 11 := by have := HNS.out.hi; omega
        subst hlv1
        have HOP := hid hop
        have HTRP := hid (HTR.out.take p)
        have HM := hid HINV.out.ok
        have hM31 : X.M u ≤ 31 := by
          have h1 := HM.out.sub u hus
          rw [← h1]
          exact and_le31 (fullN_le HNS.out u)
        have HRLEV := hid (rlevel_any _ l w6 HTV6.out)
        have HIV2 := hid (show SliceRd tTerm w6 (Lt w6.heap.size) (.slice Ai T.length ci) (canon (nsOf us) X.M) by rw [HT.out]; exact HIV.out)
        have HALL := hid (rall_any _ _ (nsOf us) X.M w6 HU6.out HNS.out HM.out HIV2.out)
        obtain ⟨nv, hnv⟩ : ∃ nv, levelN l = nv := ⟨_, rfl⟩
        rw [hnv] at hlt hlevb HRLEV
        have c1 : ¬ ((ln : Int) < 0) := by omega
        have c2 : ¬ ((nv : Int) ≤ (ln : Int)) := by omega
        have c3 : decide ((ln : Int) < 0) = false := decide_eq_false c1
        have c4 : decide ((nv : Int) ≤ (ln : Int)) = false := decide_eq_false c2
        obtain ⟨tl, htl⟩ : ∃ tl, T.length = tl := ⟨_, rfl⟩
        rw [htl] at hTp hTc HIV2 HALL ⊢
        have c5 : ¬ ((tl : Int) = 0) := by omega
        have c6 : ((tl : Int) == 0) = false := by simp; omega
        have hpl : (l.take p).length = p := by rw [List.length_take]; omega
        clear hbl hln hu hnv htl hop
        go_wp2_with (first
          | (go_at_call 22; go_must (refine HRLEV.out.mono ?_; rintro e w7 ⟨rfl, hw7⟩; rw [hw7]; clear hw7))
          | (go_at_call 23; go_must (refine HALL.out.mono ?_; rintro e w7 ⟨rfl, hb7⟩; have HB7 := hid hb7; have q7 := cell_below hb7 hl6 q6; have hl7 : w1.heap.size < w7.heap.size := Nat.lt_of_lt_of_le hl6 hb7.size; have HU7 := hid (uni_later HU6.out hb7); have HTV7 := hid (HTV6.out.lift hb7 hb7.size); have HIV7 := hid (HIV2.out.lift hb7 hb7.size); have HBW7 := hid (bstep HBW6.out hb7); clear hb7 q6))
          | (go_at_call 24; go_must (refine (rback_any _ l ln w7 HTV7.out (by omega)).mono ?_; rintro e w8 ⟨bv, rfl, hbv, hb8⟩; rw [hbk] at hbv; have HBV := hid hbv.rd; obtain ⟨Ab, cb, hbe⟩ := hbv.form; rw [hpl] at hbe; subst hbe; have q8 := cell_below hb8 hl7 q7; have hl8 : w1.heap.size < w8.heap.size := Nat.lt_of_lt_of_le hl7 hb8.size; have HU8 := hid (uni_later HU7.out hb8); have HIV8 := hid (HIV7.out.lift hb8 hb8.size); have HBW8 := hid (bstep HBW7.out hb8); clear hb8 q7 hbv)))
        obtain ⟨w9, hw9⟩ : ∃ w9 : World, w9 = w8.alloc (.cells #[.slice Ai tl ci] 34) := ⟨_, rfl⟩
        have hb9 : Below w8.heap.size w8 w9 := hw9 ▸ balloc (b0 w8) _
        have q9 := cell_below hb9 hl8 q8
        have hl9 : w1.heap.size < w9.heap.size := Nat.lt_of_lt_of_le hl8 hb9.size
        have HU9 := hid (uni_later HU8.out hb9)
        have HIV9 := hid (HIV8.out.lift hb9 hb9.size)
        have HBV9 := hid (HBV.out.lift hb9 hb9.size)
        have HBW9 := hid (bstep HBW8.out hb9)
        have hs9 : w8.heap.size < w9.heap.size := by rw [hw9]; simp
        have hd9 : w9.heap[w8.heap.size]? = some (.cells #[.slice Ai tl ci] 34 (0, 0)) := by rw [hw9]; exact heap_alloc_new w8 _
        have HD9 := hid (show SliceRd (tSlice tTerm) w9 (Lt w9.heap.size) (.slice (some ⟨w8.heap.size, 0, none⟩) 1 1) (dbL (nsOf us) (fun _ => X.M) 1) from rd_one hd9 hs9 ⟨_, rfl, HIV9.out⟩)
        have HSC := hid (rscan_any _ _ _ (nsOf us) (fun _ => X.M) 1 db D (l.take p) w9 HU9.out HNS.out HBV9.out HTRP.out HD9.out (fun c _ => HM.out) (by omega))
        rw [← hw9]
        clear hw9 hb9 hd9 q8
        refine HSC.out.mono ?_
        rintro e w10 ⟨i, v, rfl, hsc, hb10⟩
        obtain ⟨rfl, rfl⟩ := scan_one hsc HOP.out
        have q10 := cell_below hb10 hl9 q9
        have hl10 : w1.heap.size < w10.heap.size := Nat.lt_of_lt_of_le hl9 hb10.size
        have HU10 := hid (uni_later HU9.out hb10)
        have HIV10 := hid (HIV9.out.lift hb10 hb10.size)
        have HBV10 := hid (HBV9.out.lift hb10 hb10.size)
        have HBW10 := hid (bstep HBW9.out hb10)
        clear hsc hb10 q9 HSC
        have HMS := hid (rmask_any _ _ (nsOf us) (canon (nsOf us) X.M) (u : Int) w10.drew (uni_later HU10.out (b0 w10).drew) HNS.out (HIV10.out.lift (b0 w10).drew (b0 w10).drew.size) ⟨by omega, by omega⟩)
        rw [mask_of hus] at HMS
        have HDV := hid (fun (W : World) (hb : Below w10.heap.size w10 W) => rderive_any _ _ (nsOf us) db D (l.take p) u (X.M u) 0 W (uni_later HU10.out hb) HNS.out (HBV10.out.lift hb hb.size) (by omega) HTRP.out hus hM31 (by omega) HOP.out.2.2.1 HOP.out.2.2.2)
        obtain ⟨mu, hmu⟩ : ∃ mu, X.M u = mu := ⟨_, rfl⟩
        rw [hmu] at HMS HDV hM31
        clear hmu
        go_wp2_with fail
        go_region_held3 (fun w' => w'.cell? ⟨w1.heap.size, 0, none⟩ = some (.slice (some ⟨g, 0, none⟩) us.length c)) (first | assumption | go_keep) (first
          | (go_at_call 27; refine HMS.out.mono ?_; rintro e w11 ⟨rfl, hb11⟩; have HB11 := hid ((b0 w10).drew.trans (hb11.mono (Nat.le_refl _))); have q11 := cell_below HB11.out hl10 q10; clear hb11)
          | (go_at_call 26; refine (HDV.out _ HB11.out).mono ?_; rintro e w12 ⟨xv, rfl, hxv, hb12⟩; obtain ⟨Ax2, cx2, hxe2⟩ := hxv.form; have hxl : (l.take p ++ [(⟨u, lessN (leftN (nsOf us) (l.take p) u) mu, levelN (l.take p), (0 : Nat)⟩ : StepN)]).length = p + 1 := (by rw [List.length_append, hpl, List.length_singleton]); rw [hxl] at hxe2; subst hxe2; have HB12 := hid (bstep HB11.out hb12); have q12 := cell_below HB12.out hl10 q10; clear hxv hb12 hxl))
        have hw64 : IntKind.i64.wrap ((p : Int) + 1) = (p : Int) + 1 := IntWalk.i64_in _ (by omega)
        have hz1 : (0 : Int) ≤ ↑u := by omega
        have hz2 : decide ((0 : Int) ≤ ↑u) = true := decide_eq_true hz1
        go_wp2_with (go_at_call 9; refine (awake_any _).mono ?_; rintro e wz ⟨rfl, hbz⟩; have HBZ := hid hbz; clear hbz)
        go_ret
        exact ⟨rfl, bstep HBW10.out (bstep HB12.out HBZ.out)⟩
  · by_cases h1 : xas.length ≤ 10
    · have k1 : ¬ (10 < (xas.length : Int)) := by omega
      have k2 : 20 < (ls.length : Int) := by omega
      clear hlen h1
      go_enter Tryz.func5, Tryz.ntmps5
      go_wp2_with (go_at_call 9; refine (awake_any _).mono ?_; rintro e wz ⟨rfl, hbz⟩; have HBZ := hid hbz; clear hbz)
      go_ret
      exact ⟨rfl, HBZ.out⟩
    · have k1 : 10 < (xas.length : Int) := by omega
      clear hlen h1
      go_enter Tryz.func5, Tryz.ntmps5
      go_wp2_with (go_at_call 9; refine (awake_any _).mono ?_; rintro e wz ⟨rfl, hbz⟩; have HBZ := hid hbz; clear hbz)
      go_ret
      exact ⟨rfl, HBZ.out⟩
end Go.Proofs.YtmbjeppnamhgiaaGreat
