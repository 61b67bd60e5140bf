/- Contract: linchpinlaw26.LearnGround. -/
import Derived.Test.YtmbjeppnamhgiaaGreatzB1
import Derived.Test.YtmbjeppnamhgiaaGreatB7
import Derived.Deep.RegionHeld3
import Derived.Outline
namespace Go.Proofs.YtmbjeppnamhgiaaGreat
open Go Go.RowKit

theorem run_conf {ns : List Nat} {db : Nat → Nat → Nat} {D : Nat} {m : List StepN} {r : Int} (h : RunIs ns db D [] m r) : TrOk ns db D m ∧ m.length ≤ ns.length * 5 ∧ NoDec m ∧ (r = -1 ∨ ∃ k : Nat, r = (k : Int) ∧ k < D ∧ Sure ns m (db k)) := by
  obtain ⟨h1, h2, h3, h4⟩ := h
  refine ⟨h1, h2, fun i hi => h3 _ (List.getElem_mem hi), ?_⟩
  rcases h4 with ⟨h4, _⟩ | h4
  · exact .inl h4
  · exact .inr h4
theorem stL_none {ns : List Nat} {db : Nat → Nat → Nat} {l : List StepN} {M : Nat → Nat} {j : Nat} (h : (stL ns db l M j).links.length = 0) : (stL ns db l M j).M = M := by
  rw [stL_links] at h
  subst h
  rfl
set_option maxRecDepth 100000 in
set_option maxHeartbeats 8000000 in
theorem learnGround_any (wv av : Value) (ws xas : List Int) (w : World) (hw : SliceRd tInt w (Lt w.heap.size) wv ws) (ha : SliceRd tInt w (Lt w.heap.size) av xas) :
    Calls Tryz.prog 7 #[wv, av] w fun e w' => e = .returned (.bool true) ∧ Below w.heap.size w w' := by
  have HW := hid hw
  have HA := hid ha
  obtain ⟨Aw, wcap, rfl, -⟩ := hw.ints
  obtain ⟨Aa, acap, rfl, hac, ham, -⟩ := ha.ints
  unfold maxLen at ham
  clear hw ha
  by_cases hlen : xas.length ≤ 10
  · have k1 : ¬ (10 < (xas.length : Int)) := by omega
    clear hlen
    go_enter Tryz.func7, Tryz.ntmps7
    go_wp2_with (go_at_call 10; go_must (refine (world26_any _ ws 5 _ HW.out (by decide) (by decide)).mono ?_; rintro e w1 ⟨g, c, us, rfl, hwr, huo, h0, hb1⟩; have HWR := hid hwr; have HUO := hid huo; have H0 := hid h0; have HB1 := hid hb1; clear hwr huo h0 hb1))
    obtain ⟨w2, hw2⟩ : ∃ w2 : World, w2 = w1.alloc (.cells #[.slice (some ⟨g, 0, none⟩) us.length c] 26) := ⟨_, rfl⟩
    have hb2 : Below w1.heap.size w1 w2 := hw2 ▸ balloc (b0 w1) _
    have hl2 : w1.heap.size < w2.heap.size := by rw [hw2]; simp
    have q2 : w2.cell? ⟨w1.heap.size, 0, none⟩ = some (.slice (some ⟨g, 0, none⟩) us.length c) := by rw [hw2, alloc_cell]; rfl
    have HW2 := hid (HWR.out.lift hb2 hb2.size)
    have HU2 := hid HW2.out.uni
    have HNS := hid HUO.out.ns
    have HB2 := hid (bstep HB1.out hb2)
    have HA2 := hid (HA.out.lift HB2.out HB2.out.size)
    have HALW := hid (fun (W : World) (hb : Below w2.heap.size w2 W) => allow_any _ _ (nsOf us) xas W (uni_later HU2.out hb) HNS.out (HA2.out.lift hb hb.size))
    have HDB := hid (fun (xv : Value) (al : List Nat) (W : World) (hb : Below w2.heap.size w2 W) (hx : SliceRd tInt W (Lt W.heap.size) xv (natsI al)) (h31 : ∀ a ∈ al, a ≤ 31) => db_some _ xv us al W (HW2.out.lift hb hb.size) HUO.out H0.out hx h31)
    rw [← hw2]
    clear hw2 hb2
    go_wp2_with fail
    go_region_held3 (fun w' => w'.cell? ⟨w1.heap.size, 0, none⟩ = some (.slice (some ⟨g, 0, none⟩) us.length c)) (first | assumption | go_keep) (first
      | (go_at_call 12; refine (HALW.out _ (b0 w2).drew).mono ?_; rintro e w3 ⟨xv, al, rfl, hx, -, h31, hb3⟩; obtain ⟨Ax, cx, hxe, -⟩ := hx.ints; subst hxe; have HX := hid hx; have H31 := hid h31; have HB3 := hid ((b0 w2).drew.trans (hb3.mono (Nat.le_refl _))); have q3 := cell_below HB3.out hl2 q2; clear hx h31 hb3)
      | (go_at_call 11; refine (HDB.out _ _ _ HB3.out HX.out H31.out).mono ?_; rintro e w4 ⟨dv, db, D, rfl, hd, hok, hD, hb4⟩; obtain ⟨Ad, capd, hde, hDc, hDm, -⟩ := hd.dbs; subst hde; have HD := hid hd; have HOK := hid hok; have HB4 := hid (bstep HB3.out hb4); have q4 := cell_below HB4.out hl2 q2; clear hd hok hb4))
    have hl4 : w1.heap.size < w4.heap.size := Nat.lt_of_lt_of_le hl2 HB4.out.size
    have HU4 := hid (uni_later HU2.out HB4.out)
    have HBW4 := hid (bstep HB2.out HB4.out)
    unfold maxLen at hDm
    clear q3
    go_wp2_with fail
    refine (rrun_any _ (.slice none 0 0) _ (nsOf us) db D [] w4 HU4.out HNS.out (SliceRd.nil _ _ _) (by simp) .nil HD.out HOK.out (by omega)).mono ?_
    rintro e w5 ⟨tv, r, l, rfl, hri, hot, hb5⟩
    rw [List.nil_append] at hot
    obtain ⟨htr, hl5x, hnd, hr⟩ := run_conf hri
    have hll : l.length ≤ 55 := by have := HNS.out.hi; omega
    have htv := hot.rd
    obtain ⟨At, capt, hte, hltc, hltm, -⟩ := htv.steps
    subst hte
    unfold maxLen at hltm
    have HTR := hid htr
    have HND := hid hnd
    have HTV := hid htv
    have HB5 := hid hb5
    have q5 := cell_below hb5 hl4 q4
    have hl5 : w1.heap.size < w5.heap.size := Nat.lt_of_lt_of_le hl4 hb5.size
    have HU5 := hid (uni_later HU4.out hb5)
    have HD5 := hid (HD.out.lift hb5 hb5.size)
    have HBW5 := hid (bstep HBW4.out hb5)
    clear htr htv hb5 q4 hri hot hnd hl5x
    rcases hr with rfl | ⟨k, rfl, hkD, hsure⟩
    · go_wp2_with (go_at_call 9; refine (awake_any _).mono ?_; rintro e wz ⟨rfl, hbz⟩; have HBZ := hid hbz; clear hbz)
      go_ret
      exact ⟨rfl, bstep HBW5.out HBZ.out⟩
    · have HCF := hid (Conf.mk HNS.out HTR.out HOK.out (HOK.out k hkD) hsure)
      have hk0 : (0 : Int) ≤ ↑k := by omega
      have hk1 : (↑k : Int) < ↑D := by omega
      have hkz : ¬ ((k : Int) < 0) := by omega
      clear hsure
      have HLN := hid (plearn_any _ _ _ (nsOf us) db D l k w5 HU5.out HCF.out hkD HTV.out (by omega) HD5.out (by omega))
      go_wp2_with fail
      refine HLN.out.mono ?_
      clear HLN
      rintro e w6 ⟨j, iv, lk, rfl, ⟨hs1, hs2⟩, hiv, hlk, hb6⟩
      obtain ⟨X, hX⟩ : ∃ X, stL (nsOf us) db l (db k) j = X := ⟨_, rfl⟩
      have HINV := hid (HCF.out.inv hs2)
      have HXE := hid hX
      rw [hX] at hs1 hiv hlk HINV ⊢
      have HST := hid hs1
      have HNO := hid hs2
      obtain ⟨T, hT⟩ : ∃ T, canon (nsOf us) X.M = T := ⟨_, rfl⟩
      obtain ⟨LK, hLK⟩ : ∃ LK, X.links = LK := ⟨_, rfl⟩
      obtain ⟨lv, hlv⟩ : ∃ lv, lvlOf (nsOf us) l X.M = lv := ⟨_, rfl⟩
      rw [hT] at hiv
      rw [hLK] at hlk
      rw [hlv]
      have HT := hid hT
      have HLK := hid hLK
      have HLV := hid hlv
      obtain ⟨Ai, ci, hie, hTc, hTm, -⟩ := hiv.terms
      obtain ⟨Ak, ck, hke, hLc, hLm, -⟩ := links_open hlk
      subst hie hke
      unfold maxLen at hTm hLm
      have HIV := hid hiv
      have HLKR := hid hlk
      have HB6 := hid hb6
      have q6 := cell_below hb6 hl5 q5
      have hl6 : w1.heap.size < w6.heap.size := Nat.lt_of_lt_of_le hl5 hb6.size
      have HU6 := hid (uni_later HU5.out hb6)
      have HD6 := hid (HD5.out.lift hb6 hb6.size)
      have HTV6 := hid (HTV.out.lift hb6 hb6.size)
      have HBW6 := hid (bstep HBW5.out hb6)
      clear hX hT hLK hlv hiv hlk hb6 hs1 hs2 q5
      have hbl := HCF.out.ground HND.out HNO.out (by rw [HXE.out]; exact HST.out)
      rw [HXE.out] at hbl
      have hT0 := blank_len hbl
      rw [HT.out] at hT0
      subst hT0
      have hlv1 : lvlOf (nsOf us) l X.M = -1 := by unfold lvlOf; rw [if_pos hbl]
      rw [HLV.out] at hlv1
      subst hlv1
      have HDK := hid (fun (h : LK.length = 0) => show canon (nsOf us) (db k) = [] from by
        have h1 := stL_none (ns := nsOf us) (db := db) (l := l) (M := db k) (j := j) (by rw [HXE.out, HLK.out]; exact h)
        rw [HXE.out] at h1
        rw [← h1]
        exact HT.out)
      obtain ⟨Ad', cd', hde2, -, -, hdc⟩ := HD6.out.lists
      obtain ⟨gd, od, uv, hAd, hFd, hdcell, hdrd⟩ := hdc k (by rw [dbL_len]; exact hkD)
      rw [dbL_at] at hdrd
      injection hde2 with e1 e2 e3
      subst e1
      subst hAd
      obtain ⟨Au, cu, hue, -⟩ := hdrd.terms
      subst hue
      clear hdc hdrd hbl HT HLV HIV hTc
      obtain ⟨lkn, hlkn⟩ : ∃ lkn, LK.length = lkn := ⟨_, rfl⟩
      rw [hlkn] at hLc HDK ⊢
      clear hlkn HLK HLKR HXE HINV HST HNO e2 e3
      by_cases hlk0 : lkn = 0
      · have h1 := HDK.out hlk0
        rw [h1] at hdcell
        subst hlk0
        go_wp2_with (go_at_call 9; refine (awake_any _).mono ?_; rintro e wz ⟨rfl, hbz⟩; have HBZ := hid hbz; clear hbz)
        go_ret
        exact ⟨rfl, bstep HBW6.out HBZ.out⟩
      · have hz : (0 : Int) < (lkn : Int) := by omega
        have hz2 : decide ((0 : Int) < (lkn : Int)) = true := decide_eq_true hz
        clear hlk0
        go_wp2_with (go_at_call 9; refine (awake_any _).mono ?_; rintro e wz ⟨rfl, hbz⟩; have HBZ := hid hbz; clear hbz)
        go_ret
        exact ⟨rfl, bstep HBW6.out HBZ.out⟩
  · have k1 : 10 < (xas.length : Int) := by omega
    clear hlen
    go_enter Tryz.func7, Tryz.ntmps7
    go_wp2_with (go_at_call 9; refine (awake_any _).mono ?_; rintro e wz ⟨rfl, hbz⟩; have HBZ := hid hbz; clear hbz)
    go_ret
    exact ⟨rfl, HBZ.out⟩
end Go.Proofs.YtmbjeppnamhgiaaGreat
