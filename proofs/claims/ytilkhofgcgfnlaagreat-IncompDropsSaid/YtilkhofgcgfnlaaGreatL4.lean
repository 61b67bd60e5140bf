/- Contract: linchpinlaw22.IncompDrops. -/
import Derived.Test.YtilkhofgcgfnlaaGreatL2
import Derived.OpenShut
import Derived.Outline
namespace Go.Proofs.YtilkhofgcgfnlaaGreat
open Go Go.RowKit

/-- What stands behind the first so many. -/
theorem SliceRd.dropSrc {w : World} {F : Nat → Prop} {g o n cap : Nat} {l : List Term} (h : SliceRd tTerm w F (.slice (some ⟨g, o, none⟩) n cap) l) (k : Nat) (hk : k ≤ l.length) (A : Option Addr) (hA : k < l.length → A = some ⟨g, o + k * 2, none⟩) : Src w A (l.length - k) 2 (termCells (l.drop k)) := by
  obtain ⟨-, ⟨hlen, hsrc⟩, -⟩ := h.src
  refine ⟨by rw [termCells_length, List.length_drop], fun hp => ⟨_, hA (by omega), fun j u hu => ?_⟩⟩
  obtain ⟨ad, had, hc⟩ := hsrc (by omega)
  injection had with had
  subst had
  have hsplit : termCells l = termCells (l.take k) ++ termCells (l.drop k) := by rw [← termCells_append, List.take_append_drop]
  have htl : (termCells (l.take k)).length = k * 2 := by rw [termCells_length, List.length_take, Nat.min_eq_left hk]
  have := hc (k * 2 + j) u (by rw [hsplit, List.getElem?_append_right (by omega), htl, show k * 2 + j - k * 2 = j by omega]; exact hu)
  rw [add_mk] at this ⊢
  rw [Nat.add_assoc]
  exact this
/-- A source lies where it lay. -/
theorem src_below {B : Nat} {w w' : World} {A : Option Addr} {m : Nat} {news : List Value} (h : Src w A m 2 news) (hb : Below B w w') (hA : ∀ ad, A = some ad → ad.block < B) : Src w' A m 2 news := by
  refine ⟨h.1, fun hp => ?_⟩
  obtain ⟨ad, had, hc⟩ := h.2 hp
  refine ⟨ad, had, fun j u hu => ?_⟩
  rw [hb.cell (p := ad.add j) (by have := hA ad had; unfold Addr.add; split <;> exact this)]
  exact hc j u hu
theorem more_cases {ns : List Nat} (ho : NsOk ns) {M : Nat → Nat} (h : IncOk ns M) (t : Term) : makeN ns (canon ns M ++ [t]) = none ∨ ∃ Mm, IncOk ns Mm ∧ makeN ns (canon ns M ++ [t]) = some (canon ns Mm) ∧ withinL ns (canon ns M) Mm = true := by
  cases hm : makeN ns (canon ns M ++ [t]) with
  | none => exact .inl rfl
  | some r =>
    obtain ⟨h1, h2⟩ := make_some hm
    exact .inr ⟨_, h1, by rw [h2], by rw [within_canon ho h h1]; exact more_within ho h t⟩
set_option maxRecDepth 100000 in
set_option maxHeartbeats 8000000 in
theorem drops_any (wv kv : Value) (ws ks : List Int) (at_ unit mask : Int) (w : World) (hw : SliceRd tInt w (Lt w.heap.size) wv ws) (hk : SliceRd tInt w (Lt w.heap.size) kv ks) (ha : I64 at_) (hu : I64 unit) (_hm : I64 mask) :
    Calls Tryz.prog 6 #[wv, kv, .int .i64 at_, .int .i64 unit, .int .i64 mask] w fun e w' => e = .returned (.bool true) ∧ Below w.heap.size w w' := by
  have HW := hid hw
  have HK := hid hk
  obtain ⟨Aw, wcap, rfl, -⟩ := hw.ints
  obtain ⟨Ak, kcap, rfl, hkc, hkm, -⟩ := hk.ints
  unfold maxLen at hkm
  obtain ⟨it, hit⟩ := info_parts term_info
  have HIT := hid hit
  clear hw hk hit
  by_cases hlen : ks.length ≤ 40
  · have k1 : ¬ (40 < (ks.length : Int)) := by omega
    clear hlen
    go_enter Tryz.func6, Tryz.ntmps6
    go_wp2_with (go_at_call 11; go_must (refine (worldRd_any _ ws 4 _ HW.out (by decide) (by decide)).mono ?_; rintro e w1 ⟨g, c, ns, rfl, hun, hns, hb1⟩; have HU1 := hid hun; have HNS := hid hns; have HB1 := hid hb1; have h11 := hns.hi; have h2 := hns.lo; obtain ⟨un, hune, hunl⟩ := place_nat unit (show 1 ≤ ns.length by omega); have HUN := hid hune; have HUNL := hid hunl; clear hun hns hb1 hune hunl))
    obtain ⟨w2, hw2⟩ : ∃ w2 : World, w2 = w1.alloc (.cells #[.slice (some ⟨g, 0, none⟩) ns.length c] 27) := ⟨_, rfl⟩
    have hb2 : Below w1.heap.size w1 w2 := hw2 ▸ balloc (b0 w1) _
    have hl2 : w1.heap.size < w2.heap.size := by rw [hw2]; simp
    have q2 : w2.cell? ⟨w1.heap.size, 0, none⟩ = some (.slice (some ⟨g, 0, none⟩) ns.length c) := by rw [hw2, alloc_cell]; rfl
    have HU2 := hid (uni_later HU1.out hb2)
    have hb2w := bstep HB1.out hb2
    have HB2 := hid hb2w
    have HK2 := hid (HK.out.lift hb2w hb2w.size)
    rw [← hw2]
    clear hw2 hb2 hb2w
    refine (inc_any _ _ ns ks w2 HU2.out HNS.out HK2.out).mono ?_
    rintro e w4 ⟨av, Ma, rfl, hMa, hra, hb4⟩
    have HMA := hid hMa
    have HRA := hid hra
    have HB4 := hid hb4
    have q4 := cell_below hb4 hl2 q2
    have hl4 : w1.heap.size < w4.heap.size := Nat.lt_of_lt_of_le hl2 hb4.size
    have HU4 := hid (uni_later HU2.out hb4)
    have HBW := hid (bstep HB2.out hb4)
    have hla : (canon ns Ma).length ≤ 11 := Nat.le_trans (canon_len Ma) h11
    obtain ⟨Aa, ca, rfl, hac, ham, hat⟩ := hra.terms
    unfold maxLen at ham
    clear hMa hra hb4 q2
    by_cases h0 : (canon ns Ma).length = 0
    · have z0 : (((canon ns Ma).length : Int) == 0) = true := by rw [beq_iff_eq]; omega
      generalize canon ns Ma = L at *
      clear h0
      go_wp2_with (go_at_call 10; refine (awake_any _).mono ?_; rintro e wz ⟨rfl, hbz⟩)
      go_ret
      exact ⟨rfl, bstep HBW.out hbz⟩
    · have z0 : (((canon ns Ma).length : Int) == 0) = false := by rw [beq_eq_false_iff_ne]; omega
      obtain ⟨n, hne, hnl⟩ := place_nat at_ (show 1 ≤ (canon ns Ma).length by omega)
      obtain ⟨v, hvl, hvf, hdrop⟩ := drop_canon (List.getElem?_eq_getElem hnl)
      have HDOK := hid (drop_ok HMA.out v)
      have HDROP := hid hdrop
      have hdw := drop_within HMA.out hvl hvf
      have HW1 := hid ((within_canon HNS.out HDOK.out HMA.out).trans hdw.1)
      have HW2 := hid ((within_canon HNS.out HMA.out HDOK.out).trans hdw.2)
      obtain ⟨ga, oa, rfl, hFa, -⟩ := hat 0 (by omega)
      have HT1 := hid (HRA.out.take1 n (by omega)).src
      have HT2 := hid (fun A h => HRA.out.dropSrc (n + 1) (by omega) A h)
      have hok2 : ∀ t ∈ (canon ns Ma).drop (n + 1), I64 t.unit ∧ I64 t.mask := fun t ht => HRA.out.src.2.2 t (List.mem_of_mem_drop ht)
      have HOK2 := hid hok2
      have HFA : Hid (∀ ad, (if ca = n + 1 then some (⟨ga, oa, none⟩ : Addr) else some ⟨ga, oa + (n + 1) * 2, none⟩) = some ad → ad.block < w4.heap.size) := hid (fun ad h => by split at h <;> (cases h; exact hFa))
      have HTL := hid (show ((canon ns Ma).take n).length = n by rw [List.length_take]; omega)
      clear hvl hvf hdrop hdw hat hok2
      have HNE := hid hne
      have HLL := hid (show (canon ns Ma).length ≤ 11 from hla)
      obtain ⟨ln, hln⟩ : ∃ ln, (canon ns Ma).length = ln := ⟨_, rfl⟩
      rw [hln] at HNE h0 z0 hnl hac hla HT2
      have HLN := hid hln
      rw [hln]
      clear hln hne
      have i1 : (0 : Int) ≤ ↑n := by omega
      have i2 : (↑n : Int) ≤ ↑ca := by omega
      have i3 : (0 : Int) ≤ ↑n + 1 := by omega
      have i4 : (↑n : Int) + 1 ≤ ↑ln := by omega
      have i5 : (↑ln : Int) ≤ ↑ca := by omega
      have i6 : IntKind.i64.wrap (↑n + 1) = (↑n : Int) + 1 := IntWalk.i64_in _ (by omega)
      have i7 : ((↑n : Int) + 1).toNat = n + 1 := by omega
      have i8 : (↑n : Int) + 1 ≤ ↑ca := by omega
      have hu64 : I64 (ln : Int) := ⟨by omega, by omega⟩
      go_wp2_with (go_at_call 12; go_must (refine (place_any at_ ln _ ha hu64).mono ?_; rintro e wp ⟨rfl, rfl⟩; rw [HNE.out]))
      have hd4 : Below w4.heap.size w4 w4.drew := (b0 w4).drew
      go_region_law ((first
        | (refine step_guard (.const (.slice none 0 0)) (.tmp 37) 23 rfl ?_; refine step_append_src _ rfl (.const (.slice none 0 0)) (.tmp 37) 23 rfl w4.heap.size 31 it _ 2 16 Tryz.underlying23 HIT.out.1 HIT.out.2.1 HIT.out.2.2.1 HIT.out.2.2.2 rfl (by omega) (.slice none 0 0) 0 [] (by rfl) (own_none _ _ _ _) _ _ _ (termCells ((canon ns Ma).take n)) (by rfl) (by have h := HT1.out.2.1; rw [HTL.out] at h; exact h) termCells_one (by unfold maxLen; omega) (by omega) (Nat.le_refl _) ?_; intro x5 w5 hown5 hg5 hat5; have HX5 := hid (own_copy (l := (canon ns Ma).take n) HT1.out.2.2 (by rw [HTL.out]; exact hown5)); obtain ⟨A5, c5, he5⟩ := HX5.out.form; rw [HTL.out] at he5; subst he5; have HB5 := hid (own_app (v2 := .slice A5 n c5) hd4 (OwnF.nil fTerm 31 w4.heap.size w4.drew) (Nat.le_refl _) hg5 rfl); clear hown5 hg5 hat5)
        | (refine step_guard (.tmp 38) (.tmp 42) 23 rfl ?_; refine step_append_src _ rfl (.tmp 38) (.tmp 42) 23 rfl w4.heap.size 31 it _ 2 16 Tryz.underlying23 HIT.out.1 HIT.out.2.1 HIT.out.2.2.1 HIT.out.2.2.2 rfl (by omega) (.slice A5 n c5) n (fTerm.all ((canon ns Ma).take n)) (by rfl) (by have h := HX5.out.1; rw [HTL.out] at h; exact h) (if ca = n + 1 then some ⟨ga, oa, none⟩ else some ⟨ga, oa + (n + 1) * 2, none⟩) (ln - (n + 1)) (ca - (n + 1)) (termCells ((canon ns Ma).drop (n + 1))) (by rfl) (by have h := HT2.out (if ca = n + 1 then some ⟨ga, oa, none⟩ else some ⟨ga, oa + (n + 1) * 2, none⟩) (fun h => by rw [if_neg (by omega)]); exact src_below h HB5.out HFA.out) termCells_one (by unfold maxLen; omega) (by omega) (by exact HB5.out.size) ?_; intro x6 w6 hown6 hg6 hat6; have HX6 := hid (HDROP.out ▸ (OwnF.app HX5.out.2 HOK2.out (by rw [HTL.out, List.length_drop, HLN.out]; exact hown6)).rd); have HB6 := hid (own_app (v2 := x6) HB5.out HX5.out HB5.out.size hg6 rfl); clear hown6 hg6 hat6)))
      all_goals
        clear HT2 HFA
        generalize (if ca = n + 1 then some (⟨ga, oa, none⟩ : Addr) else some ⟨ga, oa + (n + 1) * 2, none⟩) = AD
        obtain ⟨w7, hw7⟩ : ∃ w7 : World, w7 = w6 := ⟨_, rfl⟩
        rw [← hw7] at HX6 HB6 ⊢
        clear hw7
        have q7 := cell_below HB6.out hl4 q4
        have hl7 : w1.heap.size < w7.heap.size := Nat.lt_of_lt_of_le hl4 HB6.out.size
        have HU7 := hid (uni_later HU4.out HB6.out)
        have HRA7 := hid (HRA.out.lift HB6.out HB6.out.size)
        have HB7W := hid (bstep HBW.out HB6.out)
        have hlen64 : I64 (ns.length : Int) := ⟨by omega, by omega⟩
        clear q4
        go_wp2_with (go_at_call 12; go_must (refine (place_any unit ns.length _ hu hlen64).mono ?_; rintro e wp ⟨rfl, rfl⟩; rw [HUN.out]))
        have hd7 : Below w7.heap.size w7 w7.drew := (b0 w7).drew
        obtain ⟨-, hsa, hoka⟩ := (HRA7.out.below hd7).src
        rw [HLN.out] at hsa
        have HSA := hid hsa
        have HOKA := hid hoka
        have hfk := fullF_nat (ns := ns) un
        have hun64 : I64 (un : Int) := ⟨by omega, by have := HUNL.out; omega⟩
        have HFU := hid (fun (W : World) (hb : Below w7.heap.size w7 W) => hfk ▸ rfull_any _ ns un W _ (uni_later HU7.out hb) HNS.out hun64 (fun _ h => h))
        obtain ⟨mm, hmm⟩ : ∃ mm, bits .and .i64 mask (fullN ns un : Nat) = mm := ⟨_, rfl⟩
        have hmm64 : I64 mm := hmm ▸ int_wf (wf_bits .and .i64 mask (fullN ns un : Nat))
        have HI := hid (And.intro hun64 hmm64)
        have HMC := hid (more_cases HNS.out HMA.out ⟨(un : Int), mm⟩)
        have HAL := hid (show (canon ns Ma ++ [(⟨(un : Int), mm⟩ : Term)]).length ≤ 1000 by rw [List.length_append]; have := HLL.out; simp; omega)
        generalize fullN ns un = ff at *
        clear hsa hoka hfk hun64 hmm64
        go_region_law ((first
          | (refine step_guard (.const (.slice none 0 0)) (.tmp 51) 23 rfl ?_; refine step_append_src _ rfl (.const (.slice none 0 0)) (.tmp 51) 23 rfl w7.heap.size 31 it _ 2 16 Tryz.underlying23 HIT.out.1 HIT.out.2.1 HIT.out.2.2.1 HIT.out.2.2.2 rfl (by omega) (.slice none 0 0) 0 [] (by rfl) (own_none _ _ _ _) _ _ _ (termCells (canon ns Ma)) (by rfl) (by exact HSA.out) termCells_one (by unfold maxLen; omega) (by omega) (Nat.le_refl _) ?_; intro x8 w8 hown8 hg8 hat8; have HX8 := hid (own_copy (l := canon ns Ma) HOKA.out (by rw [HLN.out]; exact hown8)); obtain ⟨A8, c8, he8⟩ := HX8.out.form; rw [HLN.out] at he8; subst he8; have HB8 := hid (own_app (v2 := .slice A8 ln c8) hd7 (OwnF.nil fTerm 31 w7.heap.size w7.drew) (Nat.le_refl _) hg8 rfl); have d8 := cell_below HB8.out hl7 q7; clear hown8 hg8 hat8)
          | (go_simp; go_at_call 26; refine (HFU.out _ HB8.out).mono ?_; rintro e w9 ⟨rfl, hb9⟩; have HB9 := hid (bstep HB8.out hb9); have d9 := cell_below HB9.out hl7 q7; have hl9 : w1.heap.size < w9.heap.size := Nat.lt_of_lt_of_le hl7 HB9.out.size; have HX9 := hid (HX8.out.below hb9 (Nat.le_refl _)); clear hb9)
          | (refine step_guard (.tmp 52) (.tmp 60) 23 rfl ?_; refine step_append_src _ rfl (.tmp 52) (.tmp 60) 23 rfl w7.heap.size 31 it _ 2 16 Tryz.underlying23 HIT.out.1 HIT.out.2.1 HIT.out.2.2.1 HIT.out.2.2.2 rfl (by omega) (.slice A8 ln c8) ln (fTerm.all (canon ns Ma)) (by rfl) (by have h := HX9.out.1.alloc; rw [HLN.out] at h; exact h _) _ 1 1 (fTerm.cells ⟨(un : Int), mm⟩) (by rfl) (by exact src_new _ _ rfl 2 _ rfl rfl) (by simp [fTerm, Value.oneCell']) (by unfold maxLen; omega) (by omega) (by have := HB9.out.size; simp; omega) ?_; intro xA wA hownA hgA hatA; have HXA := hid (OwnF.rd (HX9.out.snoc (e := 31) (B := w7.heap.size) (v' := xA) (show fTerm.ok ⟨(un : Int), mm⟩ from HI.out) (by rw [HLN.out]; exact hownA))); have HBA := hid (own_app (v2 := xA) (balloc HB9.out _) (HX9.out.alloc _) (by have := HB9.out.size; simp; omega) hgA rfl); have dA := cell_below HBA.out hl7 q7; clear hownA hgA hatA)
          | (go_simp; go_at_call 13; refine (make_any _ _ ns (canon ns Ma ++ [(⟨(un : Int), mm⟩ : Term)]) _ (uni_later HU7.out HBA.out) HNS.out HXA.out HAL.out).mono ?_; rintro e wM ⟨sv, rfl, hrM, hbM⟩; have HRM := hid hrM; have HBM := hid (bstep HBA.out hbM); clear hrM hbM)))
        all_goals
          obtain ⟨w10, hw10⟩ : ∃ w10 : World, w10 = wM := ⟨_, rfl⟩
          rw [← hw10] at HRM HBM ⊢
          clear hw10
          have q10 := cell_below HBM.out hl7 q7
          have HU10 := hid (uni_later HU7.out HBM.out)
          have HLE := hid ((HX6.out.lift HBM.out HBM.out.size))
          have HRAX := hid ((HRA7.out.lift HBM.out HBM.out.size))
          have hl10 : w1.heap.size < w10.heap.size := Nat.lt_of_lt_of_le hl7 HBM.out.size
          have t1 := hid True.intro
          have t2 := hid True.intro
          rcases HMC.out with hm | ⟨Mm, hMm, hm, hwm⟩
          · rw [hm] at HRM ⊢
            simp only [Option.isSome_none, Option.getD_none] at HRM ⊢
            clear hm HMC
            go_wp2_with (first
              | (go_at_call 18; go_must (refine (incMay_any _ _ ns (dropN ns Ma v) w10 HU10.out HNS.out HDOK.out HLE.out).mono ?_; rintro e wb ⟨rfl, hbb⟩; have HBb := hid hbb; have db := cell_below hbb hl10 q10; clear hbb)) | (go_at_call 24; clear t1; go_must (refine (incWithin_any _ _ _ ns (canon ns (dropN ns Ma v)) Ma wb (uni_later HU10.out HBb.out) HNS.out (HLE.out.lift HBb.out HBb.out.size) (by have h := HRAX.out.lift HBb.out HBb.out.size; rw [HLN.out] at h; exact h) HMA.out).mono ?_; rintro e wc ⟨rfl, hbc⟩; rw [HW1.out]; have HBc := hid (bstep HBb.out hbc); have dc := cell_below HBc.out hl10 q10; clear hbc)) | (go_at_call 24; clear t2; go_must (refine (incWithin_any _ _ _ ns (canon ns Ma) (dropN ns Ma v) wc (uni_later HU10.out HBc.out) HNS.out (by have h := HRAX.out.lift HBc.out HBc.out.size; rw [HLN.out] at h; exact h) (HLE.out.lift HBc.out HBc.out.size) HDOK.out).mono ?_; rintro e wd ⟨rfl, hbd⟩; rw [HW2.out]; have HBd := hid (bstep HBc.out hbd); have dd := cell_below HBd.out hl10 q10; clear hbd)) | (go_at_call 10; refine (awake_any _).mono ?_; rintro e wz ⟨rfl, hbz⟩))
            go_ret
            exact ⟨rfl, bstep HB7W.out (bstep HBM.out (bstep HBd.out hbz))⟩
          · rw [hm] at HRM ⊢
            simp only [Option.isSome_some, Option.getD_some] at HRM ⊢
            have HMM := hid hMm
            have HWM := hid hwm
            clear hm HMC hMm hwm
            go_wp2_with (first
              | (go_at_call 18; go_must (refine (incMay_any _ _ ns (dropN ns Ma v) w10 HU10.out HNS.out HDOK.out HLE.out).mono ?_; rintro e wb ⟨rfl, hbb⟩; have HBb := hid hbb; have db := cell_below hbb hl10 q10; clear hbb)) | (go_at_call 24; clear t1; go_must (refine (incWithin_any _ _ _ ns (canon ns (dropN ns Ma v)) Ma wb (uni_later HU10.out HBb.out) HNS.out (HLE.out.lift HBb.out HBb.out.size) (by have h := HRAX.out.lift HBb.out HBb.out.size; rw [HLN.out] at h; exact h) HMA.out).mono ?_; rintro e wc ⟨rfl, hbc⟩; rw [HW1.out]; have HBc := hid (bstep HBb.out hbc); have dc := cell_below HBc.out hl10 q10; clear hbc)) | (go_at_call 24; clear t2; go_must (refine (incWithin_any _ _ _ ns (canon ns Ma) (dropN ns Ma v) wc (uni_later HU10.out HBc.out) HNS.out (by have h := HRAX.out.lift HBc.out HBc.out.size; rw [HLN.out] at h; exact h) (HLE.out.lift HBc.out HBc.out.size) HDOK.out).mono ?_; rintro e wd ⟨rfl, hbd⟩; rw [HW2.out]; have HBd := hid (bstep HBc.out hbd); have dd := cell_below HBd.out hl10 q10; clear hbd)) | (go_at_call 24; go_must (refine (incWithin_any _ _ _ ns (canon ns Ma) Mm wd (uni_later HU10.out HBd.out) HNS.out (by have h := HRAX.out.lift HBd.out HBd.out.size; rw [HLN.out] at h; exact h) (HRM.out.lift HBd.out HBd.out.size) HMM.out).mono ?_; rintro e we ⟨rfl, hbe⟩; rw [HWM.out]; have HBe := hid (bstep HBd.out hbe); clear hbe)) | (go_at_call 10; refine (awake_any _).mono ?_; rintro e wz ⟨rfl, hbz⟩))
            go_ret
            exact ⟨rfl, bstep HB7W.out (bstep HBM.out (bstep HBe.out hbz))⟩
  · have k1 : 40 < (ks.length : Int) := by omega
    clear hlen
    go_enter Tryz.func6, Tryz.ntmps6
    go_wp2_with (go_at_call 10; refine (awake_any _).mono ?_; rintro e wz ⟨rfl, hbz⟩)
    go_ret
    exact ⟨rfl, hbz⟩
end Go.Proofs.YtilkhofgcgfnlaaGreat
