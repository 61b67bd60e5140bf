/- Contract: linchpinlaw22.IncompJoins. -/
import Derived.Test.YtilkhofgcgfnlaaGreatL1all
import Derived.Test.YtilkhofgcgfnlaaGreatN12
import Derived.Outline
namespace Go.Proofs.YtilkhofgcgfnlaaGreat
open Go Go.RowKit

theorem joinR_cases {ns : List Nat} {Ma Mb : Nat → Nat} (ha : IncOk ns Ma) (hb : IncOk ns Mb) (u : Int) : joinR ns Ma Mb u = none ∨ ∃ Mj, IncOk ns Mj ∧ joinR ns Ma Mb u = some (canon ns Mj) := by
  unfold joinR
  split
  · exact .inl rfl
  · unfold madeN
    cases h : okN ns (joinN Ma Mb u.toNat) with
    | false => exact .inl rfl
    | true => exact .inr ⟨_, join_ok ha hb h, rfl⟩
/-- A copy of terms, appended to nothing. -/
theorem own_copy {w' : World} {B : Nat} {v' : Value} {l : List Term} (hl : ∀ t ∈ l, I64 t.unit ∧ I64 t.mask) (hown : w'.ownsRow B 31 2 v' (0 + l.length) ([] ++ termCells l)) : OwnF fTerm 31 B w' v' l :=
  OwnF.app (L := []) (fun t ht => by cases ht) hl hown
theorem own_none (w : World) (B : Nat) (e : TypeId) (s : Nat) : w.ownsRow B e s (.slice none 0 0) 0 [] := ⟨by simp, .inl ⟨rfl, rfl⟩⟩
set_option maxRecDepth 100000 in
set_option maxHeartbeats 8000000 in
theorem joins_any (wv kv lv : Value) (ws ks ls : List Int) (unit : Int) (near : Bool) (w : World) (hw : SliceRd tInt w (Lt w.heap.size) wv ws) (hk : SliceRd tInt w (Lt w.heap.size) kv ks) (hl : SliceRd tInt w (Lt w.heap.size) lv ls) (hu : I64 unit) :
    Calls Tryz.prog 4 #[wv, kv, lv, .int .i64 unit, .bool near] w fun e w' => e = .returned (.bool true) ∧ Below w.heap.size w w' := by
  have HW := hid hw
  have HK := hid hk
  have HL := hid hl
  obtain ⟨Aw, wcap, rfl, -⟩ := hw.ints
  obtain ⟨Ak, kcap, rfl, hkc, hkm, -⟩ := hk.ints
  obtain ⟨Al, lcap, rfl, hlc, hlm, -⟩ := hl.ints
  unfold maxLen at hkm hlm
  obtain ⟨it, hit⟩ := info_parts term_info
  have HIT := hid hit
  clear hw hk hl hit
  by_cases hlen : ks.length ≤ 40 ∧ ls.length ≤ 40
  · have k1 : ¬ (40 < (ks.length : Int)) := by omega
    have k2 : ¬ (40 < (ls.length : Int)) := by omega
    clear hlen
    cases near with
    | false =>
      obtain ⟨u, hue⟩ : ∃ u, u = unit := ⟨_, rfl⟩
      rw [← hue] at hu ⊢
      clear hue
      have HU64 := hid hu
      go_enter Tryz.func4, Tryz.ntmps4
      go_wp2_with (go_at_call 11; go_must (refine (worldRd_any _ ws 4 _ HW.out (by decide) (by decide)).mono ?_; rintro e w1 ⟨g, c, ns, rfl, hun, hns, hb1⟩; have HU1 := hid hun; have HNS := hid hns; have HB1 := hid hb1; have h11 := hns.hi; have h2 := hns.lo; clear hun hns hb1))
      obtain ⟨w2, hw2⟩ : ∃ w2 : World, w2 = w1.alloc (.cells #[.slice (some ⟨g, 0, none⟩) ns.length c] 27) := ⟨_, rfl⟩
      have hb2 : Below w1.heap.size w1 w2 := hw2 ▸ balloc (b0 w1) _
      have hl2 : w1.heap.size < w2.heap.size := by rw [hw2]; simp
      have q2 : w2.cell? ⟨w1.heap.size, 0, none⟩ = some (.slice (some ⟨g, 0, none⟩) ns.length c) := by rw [hw2, alloc_cell]; rfl
      have HU2 := hid (uni_later HU1.out hb2)
      have HB2 := hid (bstep HB1.out hb2)
      have hdr : Below w2.heap.size w2 w2.drew := (b0 w2).drew
      have hbd := bstep HB2.out hdr
      have HIA := hid (inc_any _ _ ns ks w2.drew (uni_later HU2.out hdr) HNS.out (HK.out.lift hbd hbd.size))
      have HIB := hid (fun w3 (hb3 : Below w2.drew.heap.size w2.drew w3) => inc_any _ _ ns ls w3 (uni_later (uni_later HU2.out hdr) hb3) HNS.out ((HL.out.lift hbd hbd.size).lift hb3 hb3.size))
      clear hbd
      rw [← hw2]
      clear hw2 hb2 hu
      go_wp2_with fail
      go_region_law ((first
        | (go_simp; go_at_call_of 21 kcap; refine HIA.out.mono ?_; rintro e w3 ⟨av, Ma, rfl, hMa, hra, hb3⟩; obtain ⟨Aa, ca, rfl, -⟩ := hra.terms; have HMA := hid hMa; have HRA := hid hra; have HB3 := hid hb3; have q3 := cell_below (bstep hdr hb3) hl2 q2; clear hMa hra hb3)
        | (go_simp; go_at_call_of 21 lcap; refine (HIB.out _ HB3.out).mono ?_; rintro e w4 ⟨bv, Mb, rfl, hMb, hrb, hb4⟩; obtain ⟨Ab, cb, rfl, -⟩ := hrb.terms; have HMB := hid hMb; have HRB := hid hrb; have HRA4 := hid (HRA.out.lift hb4 hb4.size); have HB4 := hid (bstep hdr (bstep HB3.out hb4)); have q4 := cell_below (bstep hdr (bstep HB3.out hb4)) hl2 q2; clear hMb hrb hb4)))
      all_goals
        have hl4 : w1.heap.size < w4.heap.size := Nat.lt_of_lt_of_le hl2 HB4.out.size
        have HU4 := hid (uni_later HU2.out HB4.out)
        have HBW := hid (bstep HB2.out HB4.out)
        have hla := canon_len (ns := ns) Ma
        have hlb := canon_len (ns := ns) Mb
        obtain ⟨-, hsa, hoka⟩ := HRA4.out.src
        obtain ⟨-, hsb, hokb⟩ := HRB.out.src
        have HSA := hid hsa
        have HOKA := hid hoka
        have HOKB := hid hokb
        have HJC := hid (joinR_cases HMA.out HMB.out u)
        have HWI := hid (within_canon HNS.out HMA.out HMB.out)
        clear q2 q3 hsa hsb hoka hokb
        have t1 := hid True.intro
        go_wp2_with (first
          | (at_builtin; clear t1; go_must (refine wpList_append_src _ rfl (.const (.slice none 0 0)) (.tmp 44) _ rfl w4.heap.size 31 it _ 2 16 Tryz.underlying23 HIT.out.1 HIT.out.2.1 HIT.out.2.2.1 HIT.out.2.2.2 rfl (by omega) (.slice none 0 0) 0 [] (by rfl) (own_none _ _ _ _) Aa _ ca (termCells (canon ns Ma)) (by rfl) (by exact HSA.out) termCells_one (by unfold maxLen; omega) (by omega) (Nat.le_refl _) ?_; intro x5 w5 hown5 hg5 hat5; have HX5 := hid (own_copy HOKA.out hown5); have HB5 := hid (own_app (v2 := x5) (b0 w4) (OwnF.nil fTerm 31 w4.heap.size w4) (Nat.le_refl _) hg5 rfl); have HSB5 := hid (HRB.out.below HB5.out).src.2.1; clear hown5 hg5 hat5))
          | (at_builtin; go_must (refine wpList_append_src _ rfl (.const (.slice none 0 0)) (.tmp 46) _ rfl w5.heap.size 31 it _ 2 16 Tryz.underlying23 HIT.out.1 HIT.out.2.1 HIT.out.2.2.1 HIT.out.2.2.2 rfl (by omega) (.slice none 0 0) 0 [] (by rfl) (own_none _ _ _ _) Ab _ cb (termCells (canon ns Mb)) (by rfl) (by exact HSB5.out) termCells_one (by unfold maxLen; omega) (by omega) (Nat.le_refl _) ?_; intro y6 w6 hown6 hg6 hat6; have HY6 := hid (own_copy HOKB.out hown6).rd; have hb6 := own_app (v2 := y6) (b0 w5) (OwnF.nil fTerm 31 w5.heap.size w5) (Nat.le_refl _) hg6 rfl; have HB6 := hid (bstep HB5.out hb6); have HX6 := hid (HX5.out.below hb6 (Nat.le_refl _)).rd; have q6 := cell_below HB6.out hl4 q4; clear hown6 hg6 hat6 hb6))
          | (go_at_call 22; go_must (refine (join_any _ _ _ ns Ma Mb u _ (uni_later HU4.out HB6.out) HNS.out HX6.out HY6.out HMA.out HMB.out).mono ?_; rintro e w7 ⟨s1, rfl, r1, hb7⟩; have HR1 := hid r1; have HB7 := hid (bstep HB6.out hb7); have HX7 := hid (HX6.out.lift hb7 hb7.size); have HY7 := hid (HY6.out.lift hb7 hb7.size); have HRA7 := hid (HRA4.out.lift HB7.out HB7.out.size); have HRB7 := hid (HRB.out.lift HB7.out HB7.out.size); have q7 := cell_below HB7.out hl4 q4; clear r1 hb7))
          | (go_at_call 23; go_must (refine (rjoin_any _ _ _ ns Ma Mb u _ (uni_later HU4.out HB7.out) HNS.out HRA7.out HRB7.out HMA.out HMB.out).mono ?_; rintro e w8 ⟨s2, rfl, r2, hb8⟩; have HR2 := hid r2; have HB8 := hid (bstep HB7.out hb8); have HR18 := hid (HR1.out.lift hb8 hb8.size); have HX8 := hid (HX7.out.lift hb8 hb8.size); have HY8 := hid (HY7.out.lift hb8 hb8.size); have HRA8 := hid (HRA7.out.lift hb8 hb8.size); have HRB8 := hid (HRB7.out.lift hb8 hb8.size); have q8 := cell_below HB8.out hl4 q4; clear r2 hb8)))
        have l0 := later_cell (Nat.lt_of_lt_of_le hl4 HB8.out.size) q8
        have HU8 := hid (uni_later HU4.out HB8.out)
        have HB8W := hid (bstep HBW.out HB8.out)
        obtain ⟨wn, hwn⟩ : ∃ wn, withinN ns Ma Mb = wn := ⟨_, rfl⟩
        have HWN := hid (HWI.out.trans hwn)
        have HWN2 := hid hwn
        have z9 : (wn == wn) = true := by simp
        clear q4 q6 q7 q8 hwn
        rcases HJC.out with hj | ⟨Mj, hMj, hj⟩
        · rw [hj] at HR18 HR2 ⊢
          simp only [Option.isSome_none, Option.getD_none] at HR18 HR2 ⊢
          clear hj HJC
          (refine wp_region_later (by kernel_rfl) (by kernel_rfl) ?_; (repeat (go_big_quiet_step (((first | (go_at_call_of 15 s1; exact Calls.later (sameTerms_any _ _ [] [] _ (HR18.out.lift (Later.below _) (Later.below _).size) (HR2.out.lift (Later.below _) (Later.below _).size)) (congrArg Value.bool (decide_eq_true rfl))) | (go_at_call_of 15 x5; exact Calls.later (sameTerms_any _ _ (canon ns Ma) (canon ns Ma) _ (HX8.out.lift (Later.below _) (Later.below _).size) (HRA8.out.lift (Later.below _) (Later.below _).size)) (congrArg Value.bool (decide_eq_true rfl))) | (go_at_call_of 15 y6; exact Calls.later (sameTerms_any _ _ (canon ns Mb) (canon ns Mb) _ (HY8.out.lift (Later.below _) (Later.below _).size) (HRB8.out.lift (Later.below _) (Later.below _).size)) (congrArg Value.bool (decide_eq_true rfl))) | (go_at_call 24; exact Calls.later (incWithin_any _ _ _ ns (canon ns Ma) Mb _ (uni_lat HU8.out _) HNS.out (HRA8.out.lift (Later.below _) (Later.below _).size) (HRB8.out.lift (Later.below _) (Later.below _).size) HMB.out) (congrArg Value.bool HWN.out)) | (go_at_call 25; exact Calls.later (rwithin_any _ _ _ ns Ma Mb _ (uni_lat HU8.out _) HNS.out (HRA8.out.lift (Later.below _) (Later.below _).size) (HRB8.out.lift (Later.below _) (Later.below _).size) HMA.out HMB.out) (congrArg Value.bool HWN2.out)) | (go_at_call 10; exact Calls.later (awake_any _) rfl)))))); refine wpQuiet_nil ?_; rintro _ ⟨⟨w9, hb9⟩, rfl⟩)
          go_wp2
          go_ret
          exact ⟨rfl, bstep HB8W.out hb9⟩
        · rw [hj] at HR18 HR2 ⊢
          simp only [Option.isSome_some, Option.getD_some] at HR18 HR2 ⊢
          have HMJ := hid hMj
          clear hj HJC hMj
          (refine wp_region_later (by kernel_rfl) (by kernel_rfl) ?_; (repeat (go_big_quiet_step (((first | (go_at_call_of 15 s1; exact Calls.later (sameTerms_any _ _ (canon ns Mj) (canon ns Mj) _ (HR18.out.lift (Later.below _) (Later.below _).size) (HR2.out.lift (Later.below _) (Later.below _).size)) (congrArg Value.bool (decide_eq_true rfl))) | (go_at_call_of 15 x5; exact Calls.later (sameTerms_any _ _ (canon ns Ma) (canon ns Ma) _ (HX8.out.lift (Later.below _) (Later.below _).size) (HRA8.out.lift (Later.below _) (Later.below _).size)) (congrArg Value.bool (decide_eq_true rfl))) | (go_at_call_of 15 y6; exact Calls.later (sameTerms_any _ _ (canon ns Mb) (canon ns Mb) _ (HY8.out.lift (Later.below _) (Later.below _).size) (HRB8.out.lift (Later.below _) (Later.below _).size)) (congrArg Value.bool (decide_eq_true rfl))) | (go_at_call 24; exact Calls.later (incWithin_any _ _ _ ns (canon ns Ma) Mb _ (uni_lat HU8.out _) HNS.out (HRA8.out.lift (Later.below _) (Later.below _).size) (HRB8.out.lift (Later.below _) (Later.below _).size) HMB.out) (congrArg Value.bool HWN.out)) | (go_at_call 25; exact Calls.later (rwithin_any _ _ _ ns Ma Mb _ (uni_lat HU8.out _) HNS.out (HRA8.out.lift (Later.below _) (Later.below _).size) (HRB8.out.lift (Later.below _) (Later.below _).size) HMA.out HMB.out) (congrArg Value.bool HWN2.out)) | (go_at_call 18; exact Calls.later (incMay_any _ _ ns Mj _ (uni_lat HU8.out _) HNS.out HMJ.out (HR18.out.lift (Later.below _) (Later.below _).size)) rfl) | (go_at_call 10; exact Calls.later (awake_any _) rfl)))))); refine wpQuiet_nil ?_; rintro _ ⟨⟨w9, hb9⟩, rfl⟩)
          go_wp2
          go_ret
          exact ⟨rfl, bstep HB8W.out hb9⟩
    | true =>
      go_enter Tryz.func4, Tryz.ntmps4
      go_wp2_with (first
        | (go_at_call 11; go_must (refine (worldRd_any _ ws 4 _ HW.out (by decide) (by decide)).mono ?_; rintro e w1 ⟨g, c, ns, rfl, hun, hns, hb1⟩; have HU1 := hid hun; have HNS := hid hns; have HB1 := hid hb1; have h11 := hns.hi; have h2 := hns.lo; clear hun hns hb1))
        | (go_at_call 12; go_must (refine (place_any unit ((ns.length : Int) + 1) _ hu ⟨by omega, by omega⟩).mono ?_; rintro e wp ⟨rfl, rfl⟩; obtain ⟨u, hue⟩ : ∃ u, placeF unit ((ns.length : Int) + 1) = u := ⟨_, rfl⟩; have HU64 : Hid (I64 u) := hid (by have h1 := placeF_lo unit ((ns.length : Int) + 1); have h3 := placeF_hi unit ((ns.length : Int) + 1) (by omega); rw [hue] at h1 h3; exact ⟨by omega, by omega⟩); rw [hue]; clear hue)))
      obtain ⟨w2, hw2⟩ : ∃ w2 : World, w2 = w1.alloc (.cells #[.slice (some ⟨g, 0, none⟩) ns.length c] 27) := ⟨_, rfl⟩
      have hb2 : Below w1.heap.size w1 w2 := hw2 ▸ balloc (b0 w1) _
      have hl2 : w1.heap.size < w2.heap.size := by rw [hw2]; simp
      have q2 : w2.cell? ⟨w1.heap.size, 0, none⟩ = some (.slice (some ⟨g, 0, none⟩) ns.length c) := by rw [hw2, alloc_cell]; rfl
      have HU2 := hid (uni_later HU1.out hb2)
      have HB2 := hid (bstep HB1.out hb2)
      have hdr : Below w2.heap.size w2 w2.drew := (b0 w2).drew
      have hbd := bstep HB2.out hdr
      have HIA := hid (inc_any _ _ ns ks w2.drew (uni_later HU2.out hdr) HNS.out (HK.out.lift hbd hbd.size))
      have HIB := hid (fun w3 (hb3 : Below w2.drew.heap.size w2.drew w3) => inc_any _ _ ns ls w3 (uni_later (uni_later HU2.out hdr) hb3) HNS.out ((HL.out.lift hbd hbd.size).lift hb3 hb3.size))
      clear hbd
      rw [← hw2]
      clear hw2 hb2 hu
      go_wp2_with fail
      go_region_law ((first
        | (go_simp; go_at_call_of 21 kcap; refine HIA.out.mono ?_; rintro e w3 ⟨av, Ma, rfl, hMa, hra, hb3⟩; obtain ⟨Aa, ca, rfl, -⟩ := hra.terms; have HMA := hid hMa; have HRA := hid hra; have HB3 := hid hb3; have q3 := cell_below (bstep hdr hb3) hl2 q2; clear hMa hra hb3)
        | (go_simp; go_at_call_of 21 lcap; refine (HIB.out _ HB3.out).mono ?_; rintro e w4 ⟨bv, Mb, rfl, hMb, hrb, hb4⟩; obtain ⟨Ab, cb, rfl, -⟩ := hrb.terms; have HMB := hid hMb; have HRB := hid hrb; have HRA4 := hid (HRA.out.lift hb4 hb4.size); have HB4 := hid (bstep hdr (bstep HB3.out hb4)); have q4 := cell_below (bstep hdr (bstep HB3.out hb4)) hl2 q2; clear hMb hrb hb4)))
      all_goals
        have hl4 : w1.heap.size < w4.heap.size := Nat.lt_of_lt_of_le hl2 HB4.out.size
        have HU4 := hid (uni_later HU2.out HB4.out)
        have HBW := hid (bstep HB2.out HB4.out)
        have hla := canon_len (ns := ns) Ma
        have hlb := canon_len (ns := ns) Mb
        obtain ⟨-, hsa, hoka⟩ := HRA4.out.src
        obtain ⟨-, hsb, hokb⟩ := HRB.out.src
        have HSA := hid hsa
        have HOKA := hid hoka
        have HOKB := hid hokb
        have HJC := hid (joinR_cases HMA.out HMB.out u)
        have HWI := hid (within_canon HNS.out HMA.out HMB.out)
        clear q2 q3 hsa hsb hoka hokb
        have t1 := hid True.intro
        go_wp2_with (first
          | (at_builtin; clear t1; go_must (refine wpList_append_src _ rfl (.const (.slice none 0 0)) (.tmp 44) _ rfl w4.heap.size 31 it _ 2 16 Tryz.underlying23 HIT.out.1 HIT.out.2.1 HIT.out.2.2.1 HIT.out.2.2.2 rfl (by omega) (.slice none 0 0) 0 [] (by rfl) (own_none _ _ _ _) Aa _ ca (termCells (canon ns Ma)) (by rfl) (by exact HSA.out) termCells_one (by unfold maxLen; omega) (by omega) (Nat.le_refl _) ?_; intro x5 w5 hown5 hg5 hat5; have HX5 := hid (own_copy HOKA.out hown5); have HB5 := hid (own_app (v2 := x5) (b0 w4) (OwnF.nil fTerm 31 w4.heap.size w4) (Nat.le_refl _) hg5 rfl); have HSB5 := hid (HRB.out.below HB5.out).src.2.1; clear hown5 hg5 hat5))
          | (at_builtin; go_must (refine wpList_append_src _ rfl (.const (.slice none 0 0)) (.tmp 46) _ rfl w5.heap.size 31 it _ 2 16 Tryz.underlying23 HIT.out.1 HIT.out.2.1 HIT.out.2.2.1 HIT.out.2.2.2 rfl (by omega) (.slice none 0 0) 0 [] (by rfl) (own_none _ _ _ _) Ab _ cb (termCells (canon ns Mb)) (by rfl) (by exact HSB5.out) termCells_one (by unfold maxLen; omega) (by omega) (Nat.le_refl _) ?_; intro y6 w6 hown6 hg6 hat6; have HY6 := hid (own_copy HOKB.out hown6).rd; have hb6 := own_app (v2 := y6) (b0 w5) (OwnF.nil fTerm 31 w5.heap.size w5) (Nat.le_refl _) hg6 rfl; have HB6 := hid (bstep HB5.out hb6); have HX6 := hid (HX5.out.below hb6 (Nat.le_refl _)).rd; have q6 := cell_below HB6.out hl4 q4; clear hown6 hg6 hat6 hb6))
          | (go_at_call 22; go_must (refine (join_any _ _ _ ns Ma Mb u _ (uni_later HU4.out HB6.out) HNS.out HX6.out HY6.out HMA.out HMB.out).mono ?_; rintro e w7 ⟨s1, rfl, r1, hb7⟩; have HR1 := hid r1; have HB7 := hid (bstep HB6.out hb7); have HX7 := hid (HX6.out.lift hb7 hb7.size); have HY7 := hid (HY6.out.lift hb7 hb7.size); have HRA7 := hid (HRA4.out.lift HB7.out HB7.out.size); have HRB7 := hid (HRB.out.lift HB7.out HB7.out.size); have q7 := cell_below HB7.out hl4 q4; clear r1 hb7))
          | (go_at_call 23; go_must (refine (rjoin_any _ _ _ ns Ma Mb u _ (uni_later HU4.out HB7.out) HNS.out HRA7.out HRB7.out HMA.out HMB.out).mono ?_; rintro e w8 ⟨s2, rfl, r2, hb8⟩; have HR2 := hid r2; have HB8 := hid (bstep HB7.out hb8); have HR18 := hid (HR1.out.lift hb8 hb8.size); have HX8 := hid (HX7.out.lift hb8 hb8.size); have HY8 := hid (HY7.out.lift hb8 hb8.size); have HRA8 := hid (HRA7.out.lift hb8 hb8.size); have HRB8 := hid (HRB7.out.lift hb8 hb8.size); have q8 := cell_below HB8.out hl4 q4; clear r2 hb8)))
        have l0 := later_cell (Nat.lt_of_lt_of_le hl4 HB8.out.size) q8
        have HU8 := hid (uni_later HU4.out HB8.out)
        have HB8W := hid (bstep HBW.out HB8.out)
        obtain ⟨wn, hwn⟩ : ∃ wn, withinN ns Ma Mb = wn := ⟨_, rfl⟩
        have HWN := hid (HWI.out.trans hwn)
        have HWN2 := hid hwn
        have z9 : (wn == wn) = true := by simp
        clear q4 q6 q7 q8 hwn
        rcases HJC.out with hj | ⟨Mj, hMj, hj⟩
        · rw [hj] at HR18 HR2 ⊢
          simp only [Option.isSome_none, Option.getD_none] at HR18 HR2 ⊢
          clear hj HJC
          (refine wp_region_later (by kernel_rfl) (by kernel_rfl) ?_; (repeat (go_big_quiet_step (((first | (go_at_call_of 15 s1; exact Calls.later (sameTerms_any _ _ [] [] _ (HR18.out.lift (Later.below _) (Later.below _).size) (HR2.out.lift (Later.below _) (Later.below _).size)) (congrArg Value.bool (decide_eq_true rfl))) | (go_at_call_of 15 x5; exact Calls.later (sameTerms_any _ _ (canon ns Ma) (canon ns Ma) _ (HX8.out.lift (Later.below _) (Later.below _).size) (HRA8.out.lift (Later.below _) (Later.below _).size)) (congrArg Value.bool (decide_eq_true rfl))) | (go_at_call_of 15 y6; exact Calls.later (sameTerms_any _ _ (canon ns Mb) (canon ns Mb) _ (HY8.out.lift (Later.below _) (Later.below _).size) (HRB8.out.lift (Later.below _) (Later.below _).size)) (congrArg Value.bool (decide_eq_true rfl))) | (go_at_call 24; exact Calls.later (incWithin_any _ _ _ ns (canon ns Ma) Mb _ (uni_lat HU8.out _) HNS.out (HRA8.out.lift (Later.below _) (Later.below _).size) (HRB8.out.lift (Later.below _) (Later.below _).size) HMB.out) (congrArg Value.bool HWN.out)) | (go_at_call 25; exact Calls.later (rwithin_any _ _ _ ns Ma Mb _ (uni_lat HU8.out _) HNS.out (HRA8.out.lift (Later.below _) (Later.below _).size) (HRB8.out.lift (Later.below _) (Later.below _).size) HMA.out HMB.out) (congrArg Value.bool HWN2.out)) | (go_at_call 10; exact Calls.later (awake_any _) rfl)))))); refine wpQuiet_nil ?_; rintro _ ⟨⟨w9, hb9⟩, rfl⟩)
          go_wp2
          go_ret
          exact ⟨rfl, bstep HB8W.out hb9⟩
        · rw [hj] at HR18 HR2 ⊢
          simp only [Option.isSome_some, Option.getD_some] at HR18 HR2 ⊢
          have HMJ := hid hMj
          clear hj HJC hMj
          (refine wp_region_later (by kernel_rfl) (by kernel_rfl) ?_; (repeat (go_big_quiet_step (((first | (go_at_call_of 15 s1; exact Calls.later (sameTerms_any _ _ (canon ns Mj) (canon ns Mj) _ (HR18.out.lift (Later.below _) (Later.below _).size) (HR2.out.lift (Later.below _) (Later.below _).size)) (congrArg Value.bool (decide_eq_true rfl))) | (go_at_call_of 15 x5; exact Calls.later (sameTerms_any _ _ (canon ns Ma) (canon ns Ma) _ (HX8.out.lift (Later.below _) (Later.below _).size) (HRA8.out.lift (Later.below _) (Later.below _).size)) (congrArg Value.bool (decide_eq_true rfl))) | (go_at_call_of 15 y6; exact Calls.later (sameTerms_any _ _ (canon ns Mb) (canon ns Mb) _ (HY8.out.lift (Later.below _) (Later.below _).size) (HRB8.out.lift (Later.below _) (Later.below _).size)) (congrArg Value.bool (decide_eq_true rfl))) | (go_at_call 24; exact Calls.later (incWithin_any _ _ _ ns (canon ns Ma) Mb _ (uni_lat HU8.out _) HNS.out (HRA8.out.lift (Later.below _) (Later.below _).size) (HRB8.out.lift (Later.below _) (Later.below _).size) HMB.out) (congrArg Value.bool HWN.out)) | (go_at_call 25; exact Calls.later (rwithin_any _ _ _ ns Ma Mb _ (uni_lat HU8.out _) HNS.out (HRA8.out.lift (Later.below _) (Later.below _).size) (HRB8.out.lift (Later.below _) (Later.below _).size) HMA.out HMB.out) (congrArg Value.bool HWN2.out)) | (go_at_call 18; exact Calls.later (incMay_any _ _ ns Mj _ (uni_lat HU8.out _) HNS.out HMJ.out (HR18.out.lift (Later.below _) (Later.below _).size)) rfl) | (go_at_call 10; exact Calls.later (awake_any _) rfl)))))); refine wpQuiet_nil ?_; rintro _ ⟨⟨w9, hb9⟩, rfl⟩)
          go_wp2
          go_ret
          exact ⟨rfl, bstep HB8W.out hb9⟩
  · by_cases h1 : ks.length ≤ 40
    · have k1 : ¬ (40 < (ks.length : Int)) := by omega
      have k2 : 40 < (ls.length : Int) := by omega
      clear hlen h1
      go_enter Tryz.func4, Tryz.ntmps4
      go_wp2_with (go_at_call 10; refine (awake_any _).mono ?_; rintro e wz ⟨rfl, hbz⟩)
      go_ret
      exact ⟨rfl, hbz⟩
    · have k1 : 40 < (ks.length : Int) := by omega
      clear hlen h1
      go_enter Tryz.func4, Tryz.ntmps4
      go_wp2_with (go_at_call 10; refine (awake_any _).mono ?_; rintro e wz ⟨rfl, hbz⟩)
      go_ret
      exact ⟨rfl, hbz⟩
end Go.Proofs.YtilkhofgcgfnlaaGreat
