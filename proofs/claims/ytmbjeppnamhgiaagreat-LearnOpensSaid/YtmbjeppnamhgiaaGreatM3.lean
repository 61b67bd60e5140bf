/- Contract: linchpinlaw26.LearnNew. -/
import Derived.Test.YtmbjeppnamhgiaaGreatzB1
import Derived.Test.YtmbjeppnamhgiaaGreatB7
import Derived.Test.YtmbjeppnamhgiaaGreatzN
import Derived.Deep.RegionHeld3
import Derived.Outline
namespace Go.Proofs.YtmbjeppnamhgiaaGreat
open Go Go.RowKit

/-- The level told is less than the last one's. -/
theorem lvl_lt {ns : List Nat} {db : Nat → Nat → Nat} {D : Nat} {l : List StepN} {x : LSt} (ho : NsOk ns) (ht : TrOk ns db D l) (h : LInv ns l x) (hs : stopB ns l x.M = true) : blank ns x.M = false → levN ns l x.M < levelN l := by
  intro hb
  obtain ⟨p, hp, _, _, hlt, _⟩ := h.opens ho ht hb hs
  rw [getElem!_pos l p hp, ht.lv hp] at hlt
  have h1 := ht.level_mono (n := p + 1) (k := l.length) hp
  rw [List.take_of_length_le (Nat.le_refl _)] at h1
  omega
theorem lvl_ok {ns : List Nat} {db : Nat → Nat → Nat} {D : Nat} {l : List StepN} {x : LSt} (ho : NsOk ns) (ht : TrOk ns db D l) (h : LInv ns l x) (hs : stopB ns l x.M = true) : -1 ≤ lvlOf ns l x.M ∧ lvlOf ns l x.M < (levelN l : Int) + 1 := by
  unfold lvlOf
  cases hb : blank ns x.M with
  | true => rw [if_pos rfl]; omega
  | false =>
    have := lvl_lt ho ht h hs hb
    rw [if_neg (by decide)]
    omega
theorem within_no {ns : List Nat} {db : Nat → Nat → Nat} {D : Nat} {l : List StepN} {x : LSt} (ho : NsOk ns) (ht : TrOk ns db D l) (h : LInv ns l x) (hb : blank ns x.M = false) (hs : stopB ns l x.M = true) {i : Nat} (hi : i < D) : withinN ns (db i) x.M = false := by
  cases hw : withinN ns (db i) x.M
  · rfl
  · exact (h.new ho ht hb hs hi (withinN_iff.1 hw)).elim
theorem blank_T {ns : List Nat} {M : Nat → Nat} {T : List Term} (hT : canon ns M = T) (h : T.length ≠ 0) : blank ns M = false := by
  unfold blank
  rw [hT]
  cases T with
  | nil => exact absurd rfl h
  | cons x r => rfl
set_option maxRecDepth 100000 in
set_option maxHeartbeats 8000000 in
theorem learnNew_any (wv av lv : Value) (ws xas ls : List Int) (w : World) (hw : SliceRd tInt w (Lt w.heap.size) wv ws) (ha : SliceRd tInt w (Lt w.heap.size) av xas) (hl : SliceRd tInt w (Lt w.heap.size) lv ls) :
    Calls Tryz.prog 8 #[wv, av, lv] w fun e w' => e = .returned (.bool true) ∧ Below w.heap.size w w' := by
  have HW := hid hw
  have HA := hid ha
  have HL := hid hl
  obtain ⟨Aw, wcap, rfl, -⟩ := hw.ints
  obtain ⟨Aa, acap, rfl, hac, ham, -⟩ := ha.ints
  obtain ⟨Al, lcap, rfl, hlc, hlm, -⟩ := hl.ints
  unfold maxLen at ham hlm
  clear hw ha hl
  by_cases hlen : xas.length ≤ 10 ∧ ls.length ≤ 20
  · have k1 : ¬ (10 < (xas.length : Int)) := by omega
    have k2 : ¬ (20 < (ls.length : Int)) := by omega
    clear hlen
    go_enter Tryz.func8, Tryz.ntmps8
    go_wp2_with (go_at_call 10; go_must (refine (world26_any _ ws 5 _ HW.out (by decide) (by decide)).mono ?_; rintro e w1 ⟨g, c, us, rfl, hwr, huo, h0, hb1⟩; have HWR := hid hwr; have HUO := hid huo; have H0 := hid h0; have HB1 := hid hb1; clear hwr huo h0 hb1))
    obtain ⟨w2, hw2⟩ : ∃ w2 : World, w2 = w1.alloc (.cells #[.slice (some ⟨g, 0, none⟩) us.length c] 26) := ⟨_, rfl⟩
    have hb2 : Below w1.heap.size w1 w2 := hw2 ▸ balloc (b0 w1) _
    have hl2 : w1.heap.size < w2.heap.size := by rw [hw2]; simp
    have q2 : w2.cell? ⟨w1.heap.size, 0, none⟩ = some (.slice (some ⟨g, 0, none⟩) us.length c) := by rw [hw2, alloc_cell]; rfl
    have HW2 := hid (HWR.out.lift hb2 hb2.size)
    have HU2 := hid HW2.out.uni
    have HNS := hid HUO.out.ns
    have HB2 := hid (bstep HB1.out hb2)
    have HA2 := hid (HA.out.lift HB2.out HB2.out.size)
    have HL2 := hid (HL.out.lift HB2.out HB2.out.size)
    have HALW := hid (fun (W : World) (hb : Below w2.heap.size w2 W) => allow_any _ _ (nsOf us) xas W (uni_later HU2.out hb) HNS.out (HA2.out.lift hb hb.size))
    have HDB := hid (fun (xv : Value) (al : List Nat) (W : World) (hb : Below w2.heap.size w2 W) (hx : SliceRd tInt W (Lt W.heap.size) xv (natsI al)) (h31 : ∀ a ∈ al, a ≤ 31) => db_some _ xv us al W (HW2.out.lift hb hb.size) HUO.out H0.out hx h31)
    rw [← hw2]
    clear hw2 hb2
    go_wp2_with fail
    go_region_held3 (fun w' => w'.cell? ⟨w1.heap.size, 0, none⟩ = some (.slice (some ⟨g, 0, none⟩) us.length c)) (first | assumption | go_keep) (first
      | (go_at_call 12; refine (HALW.out _ (b0 w2).drew).mono ?_; rintro e w3 ⟨xv, al, rfl, hx, -, h31, hb3⟩; obtain ⟨Ax, cx, hxe, -⟩ := hx.ints; subst hxe; have HX := hid hx; have H31 := hid h31; have HB3 := hid ((b0 w2).drew.trans (hb3.mono (Nat.le_refl _))); have q3 := cell_below HB3.out hl2 q2; clear hx h31 hb3)
      | (go_at_call 11; refine (HDB.out _ _ _ HB3.out HX.out H31.out).mono ?_; rintro e w4 ⟨dv, db, D, rfl, hd, hok, hD, hb4⟩; obtain ⟨Ad, capd, hde, hDc, hDm, -⟩ := hd.dbs; subst hde; have HD := hid hd; have HOK := hid hok; have HB4 := hid (bstep HB3.out hb4); have q4 := cell_below HB4.out hl2 q2; clear hd hok hb4))
    have hl4 : w1.heap.size < w4.heap.size := Nat.lt_of_lt_of_le hl2 HB4.out.size
    have HU4 := hid (uni_later HU2.out HB4.out)
    have HBW4 := hid (bstep HB2.out HB4.out)
    unfold maxLen at hDm
    have HL4 := hid (HL2.out.lift HB4.out HB4.out.size)
    clear q3
    go_wp2_with fail
    refine (conflict_any _ _ _ (nsOf us) db D ls w4 HU4.out HNS.out HD.out HOK.out (by omega) HL4.out).mono ?_
    rintro e w5 ⟨tv, l, r, rfl, htr, hll, htv, hr, hb5⟩
    obtain ⟨At, capt, hte, hltc, hltm, -⟩ := htv.steps
    subst hte
    unfold maxLen at hltm
    have HTR := hid htr
    have HTV := hid htv
    have HB5 := hid hb5
    have q5 := cell_below hb5 hl4 q4
    have hl5 : w1.heap.size < w5.heap.size := Nat.lt_of_lt_of_le hl4 hb5.size
    have HU5 := hid (uni_later HU4.out hb5)
    have HD5 := hid (HD.out.lift hb5 hb5.size)
    have HBW5 := hid (bstep HBW4.out hb5)
    clear htr htv hb5 q4
    rcases hr with rfl | ⟨k, rfl, hkD, hsure⟩
    · rw [show decide ((0 : Int) ≤ -1) = false from rfl]
      go_wp2_with (go_at_call 9; refine (awake_any _).mono ?_; rintro e wz ⟨rfl, hbz⟩; have HBZ := hid hbz; clear hbz)
      go_ret
      exact ⟨rfl, bstep HBW5.out HBZ.out⟩
    · rw [show decide ((0 : Int) ≤ (k : Int)) = true from decide_eq_true (by omega)]
      have HCF := hid (Conf.mk HNS.out HTR.out HOK.out (HOK.out k hkD) hsure)
      have hk0 : (0 : Int) ≤ ↑k := by omega
      have hk1 : (↑k : Int) < ↑D := by omega
      clear hsure
      have HLN := hid (plearn_any _ _ _ (nsOf us) db D l k w5 HU5.out HCF.out hkD HTV.out (by omega) HD5.out (by omega))
      go_wp2_with fail
      refine HLN.out.mono ?_
      clear HLN
      rintro e w6 ⟨j, iv, lk, rfl, ⟨hs1, hs2⟩, hiv, hlk, hb6⟩
      obtain ⟨X, hX⟩ : ∃ X, stL (nsOf us) db l (db k) j = X := ⟨_, rfl⟩
      have HINV := hid (HCF.out.inv hs2)
      have HXE := hid hX
      rw [hX] at hs1 hiv hlk HINV ⊢
      have HST := hid hs1
      have HNO := hid hs2
      obtain ⟨T, hT⟩ : ∃ T, canon (nsOf us) X.M = T := ⟨_, rfl⟩
      obtain ⟨LK, hLK⟩ : ∃ LK, X.links = LK := ⟨_, rfl⟩
      obtain ⟨lv, hlv⟩ : ∃ lv, lvlOf (nsOf us) l X.M = lv := ⟨_, rfl⟩
      rw [hT] at hiv
      rw [hLK] at hlk
      rw [hlv]
      have HT := hid hT
      have HLK := hid hLK
      have HLV := hid hlv
      obtain ⟨Ai, ci, hie, hTc, hTm, -⟩ := hiv.terms
      obtain ⟨Ak, ck, hke, hLc, hLm, -⟩ := links_open hlk
      subst hie hke
      unfold maxLen at hTm hLm
      have HIV := hid hiv
      have HLKR := hid hlk
      have HB6 := hid hb6
      have q6 := cell_below hb6 hl5 q5
      have hl6 : w1.heap.size < w6.heap.size := Nat.lt_of_lt_of_le hl5 hb6.size
      have HU6 := hid (uni_later HU5.out hb6)
      have HD6 := hid (HD5.out.lift hb6 hb6.size)
      have HTV6 := hid (HTV.out.lift hb6 hb6.size)
      have HBW6 := hid (bstep HBW5.out hb6)
      clear hX hT hLK hlv hiv hlk hb6 hs1 hs2 q5
      have hlvl := lvl_ok HNS.out HTR.out HINV.out HST.out
      have hlevb := HTR.out.level_le
      rw [HLV.out] at hlvl
      have HWN := hid (fun (hb : T.length ≠ 0) (i : Nat) (hi : i < D) => within_no HNS.out HTR.out HINV.out (blank_T HT.out hb) HST.out hi)
      have HIV2 := hid (show SliceRd tTerm w6 (Lt w6.heap.size) (.slice Ai T.length ci) (canon (nsOf us) X.M) by rw [HT.out]; exact HIV.out)
      have HLEV := hid (fun (W : World) (hb : Below w6.heap.size w6 W) => rlevel_any _ l W (HTV6.out.lift hb hb.size))
      obtain ⟨nv, hnv⟩ : ∃ nv, levelN l = nv := ⟨_, rfl⟩
      rw [hnv] at hlvl hlevb HLEV
      clear hnv
      obtain ⟨Ad', cd', hde2, -, -, hdc⟩ := HD6.out.lists
      injection hde2 with e1 e2 e3
      subst e1
      have HDC := hid hdc
      obtain ⟨tl, htl⟩ : ∃ tl, T.length = tl := ⟨_, rfl⟩
      rw [htl] at hTc HWN HIV2 HIV ⊢
      clear hdc htl e2 e3
      go_wp2_with fail
      go_loopw [15] (fun iv wr => ∃ i : Nat, i ≤ D ∧ iv = .int .i64 i ∧ Hid (Below w6.heap.size w6 wr)) (fun iv _ => D - (intOf iv).toNat)
      case atStart => exact ⟨0, Nat.zero_le _, rfl, hid (b0 w6)⟩
      case round =>
        obtain ⟨i, hi, rfl, hb⟩ := hrel
        have q7 := cell_below hb.out hl6 q6
        have hl7 : w1.heap.size < wr.heap.size := Nat.lt_of_lt_of_le hl6 hb.out.size
        have HBWr := hid (bstep HBW6.out hb.out)
        by_cases hlt : i < D ∧ tl ≠ 0
        · have i0 : (0 : Int) ≤ ↑i := by omega
          have i1 : (↑i : Int) < ↑D := by omega
          have i2 : (0 : Int) < ↑tl := by omega
          have z1 : decide ((↑i : Int) < ↑D) = true := decide_eq_true i1
          have z2 : decide ((0 : Int) < ↑tl) = true := decide_eq_true i2
          obtain ⟨gd, od, uv, hAd, hFd, hdcell, hdrd⟩ := HDC.out i (by rw [dbL_len]; exact hlt.1)
          rw [dbL_at] at hdrd
          subst hAd
          obtain ⟨Au, cu, hue, -⟩ := hdrd.terms
          subst hue
          have hdc7 := cell_below hb.out hFd hdcell
          have hFd7 : gd < wr.heap.size := Nat.lt_of_lt_of_le hFd hb.out.size
          have HW := hid (rwithin_any _ _ _ (nsOf us) (db i) X.M wr.drew (uni_later HU6.out hb.out.drew) HNS.out (hdrd.lift hb.out.drew hb.out.drew.size) (HIV2.out.lift hb.out.drew hb.out.drew.size) (HOK.out i hlt.1) HINV.out.ok)
          have hwf := HWN.out hlt.2 i hlt.1
          rw [hwf] at HW
          have HLT := hid hlt
          clear hdrd hdcell hwf hlt
          go_wp2_with fail
          go_region_held3 (fun w' => w'.cell? ⟨w1.heap.size, 0, none⟩ = some (.slice (some ⟨g, 0, none⟩) us.length c) ∧ w'.cell? ⟨gd, od + i, none⟩ = some (.slice Au (canon (nsOf us) (db i)).length cu)) (first | exact ⟨by assumption, by assumption⟩ | go_keep) (first
            | (go_at_call 31; refine HW.out.mono ?_; rintro e w8 ⟨rfl, hb8⟩; have HB8 := hid ((b0 wr).drew.trans (hb8.mono (Nat.le_refl _))); have f0 := cell_below HB8.out hl7 q7; have f1 := cell_below HB8.out hFd7 hdc7; clear hb8))
          go_wp2_with fail
          exact ⟨⟨i + 1, by have := HLT.out; omega, by go_num, hid (bstep hb.out HB8.out)⟩, by have := HLT.out; simp [intOf]; omega⟩
        · have HLE := hid (HLEV.out wr hb.out)
          have hfin : lv < (nv : Int) + 1 := hlvl.2
          have hfd : decide (lv < (nv : Int) + 1) = true := decide_eq_true hfin
          have hw64 : IntKind.i64.wrap ((nv : Int) + 1) = (nv : Int) + 1 := IntWalk.i64_in _ (by omega)
          by_cases hid1 : i < D
          · have i1 : (↑i : Int) < ↑D := by omega
            have i2 : ¬ ((0 : Int) < ↑tl) := by omega
            have z1 : decide ((↑i : Int) < ↑D) = true := decide_eq_true i1
            have z2 : decide ((0 : Int) < ↑tl) = false := decide_eq_false i2
            clear hlt hid1
            go_wp2_with (first
              | (go_at_call 22; go_must (refine HLE.out.mono ?_; rintro e w9 ⟨rfl, hw9⟩; rw [hw9]; clear hw9))
              | (go_at_call 9; refine (awake_any _).mono ?_; rintro e wz ⟨rfl, hbz⟩; have HBZ := hid hbz; clear hbz))
            go_ret
            exact ⟨rfl, bstep HBWr.out HBZ.out⟩
          · have i1 : ¬ ((↑i : Int) < ↑D) := by omega
            have z1 : decide ((↑i : Int) < ↑D) = false := decide_eq_false i1
            clear hlt hid1
            go_wp2_with (first
              | (go_at_call 22; go_must (refine HLE.out.mono ?_; rintro e w9 ⟨rfl, hw9⟩; rw [hw9]; clear hw9))
              | (go_at_call 9; refine (awake_any _).mono ?_; rintro e wz ⟨rfl, hbz⟩; have HBZ := hid hbz; clear hbz))
            go_ret
            exact ⟨rfl, bstep HBWr.out HBZ.out⟩
  · by_cases h1 : xas.length ≤ 10
    · have k1 : ¬ (10 < (xas.length : Int)) := by omega
      have k2 : 20 < (ls.length : Int) := by omega
      clear hlen h1
      go_enter Tryz.func8, Tryz.ntmps8
      go_wp2_with (go_at_call 9; refine (awake_any _).mono ?_; rintro e wz ⟨rfl, hbz⟩; have HBZ := hid hbz; clear hbz)
      go_ret
      exact ⟨rfl, HBZ.out⟩
    · have k1 : 10 < (xas.length : Int) := by omega
      clear hlen h1
      go_enter Tryz.func8, Tryz.ntmps8
      go_wp2_with (go_at_call 9; refine (awake_any _).mono ?_; rintro e wz ⟨rfl, hbz⟩; have HBZ := hid hbz; clear hbz)
      go_ret
      exact ⟨rfl, HBZ.out⟩
end Go.Proofs.YtmbjeppnamhgiaaGreat
