/- Contract: feature.May. -/
import Derived.Test.YtdcdpkpomhjilaaS8
namespace Go.Proofs.Ytdcdpkpomhjilaa
open Go Go.RowKit

theorem itemsB_eq (l : List Feat) (of : List ByteArray) : itemsB l of = (decide (of.length ≤ 6) && (risesB of && of.all (itemOk l))) := rfl

set_option maxRecDepth 100000 in
set_option maxHeartbeats 8000000 in
theorem imay_any (v : Value) (l : List Feat) (w : World) (h : SliceRd tFeat w (Lt w.heap.size) v l) (hsz : FSmall l) :
    Calls Try.prog 13 #[v] w fun e w' => e = .returned (.bool (mayF l)) ∧ Below w.heap.size w w' := by
  obtain ⟨A, cap, rfl, hcap, hmax, hc⟩ := h.feats
  unfold maxLen at hmax
  have H := hid h
  have HC := hid hc
  have HSZ := hid hsz
  clear h hc hsz
  by_cases h6 : (8 : Int) < l.length
  · have HN : Hid (mayF l = false) := hid (by unfold mayF; rw [decide_eq_false (by omega)]; rfl)
    go_enter Try.func13, Try.ntmps13
    go_wp2
    go_ret
    exact ⟨rbool HN.out.symm, Below.refl _ _⟩
  go_enter Try.func13, Try.ntmps13
  go_wp2
  go_loopw [15] (fun iv wr => ∃ k : Nat, k ≤ l.length ∧ iv = .int .i64 k ∧ Hid (∀ i, i < k → featOk l i = true) ∧ Hid (Below w.heap.size w wr)) (fun iv _ => l.length - (intOf iv).toNat)
  case atStart => exact ⟨0, Nat.zero_le _, rfl, hid (fun i hi => by omega), hid (b0 w)⟩
  case round =>
    obtain ⟨k, hk, rfl, hall, hb⟩ := hrel
    have i1 : (0 : Int) ≤ ↑k := by omega
    by_cases hlt : k < l.length
    · obtain ⟨g, o, tA, tn, tc, hA, hF, g0, g1, htn, hns, hrd⟩ := HC.out k hlt
      have HFK := hid (featOk_at hlt)
      have HBAD := hid (fun hf => mayF_bad hlt (HFK.out.trans hf))
      have HOK := hid (fun hf => show ∀ i, i < k + 1 → featOk l i = true from fun i hi => if e : i = k then by subst e; exact HFK.out.trans hf else hall.out i (by omega))
      rw [itemsB_eq] at HBAD HOK
      have hgw : g < wr.heap.size := Nat.lt_of_lt_of_le hF hb.out.size
      have x0 := cell_below hb.out hF g0
      have x1 := cell_below hb.out hF g1
      have HRD := hid (H.out.lift hb.out hb.out.size)
      have HRO := hid (hrd.lift hb.out hb.out.size)
      have HS := hid (HSZ.out l[k] (List.getElem_mem hlt))
      have i2 : (↑k : Int) < ↑l.length := by omega
      subst htn hA
      generalize hnm : l[k].name = nm at *
      generalize hof : l[k].of = of at *
      clear g0 g1
      obtain ⟨b1, hb1⟩ : ∃ b, wordB nm.data.toList = b := ⟨_, rfl⟩
      obtain ⟨b5, hb5⟩ : ∃ b, risesB of = b := ⟨_, rfl⟩
      obtain ⟨b6, hb6⟩ : ∃ b, decide (of.length ≤ 6) = b := ⟨_, rfl⟩
      have hrs : Hid (∀ j, (hj : j < of.length) → ∃ g o, tA = some ⟨g, o, none⟩ ∧ g < w.heap.size ∧ w.cell? ⟨g, o + j, none⟩ = some (.string of[j]) ∧ of[j].size ≤ maxLen) := hid (fun j hj => by
        obtain ⟨tB, tc', hT, -, -, hc'⟩ := hrd.strs
        injection hT with hT1 _ _
        subst hT1
        exact hc' j hj)
      have hol : of.length ≤ 2 ^ 63 - 1 := by
        obtain ⟨_, _, _, h1, h2, _⟩ := hrd.strs
        unfold maxLen at h2
        omega
      clear hrd
      have HW0 := hid (fun w0 => iword_lat nm hb1 w0)
      have HR0 := hid (fun (w0 : World) (h0 : Below wr.heap.size wr w0) => rises_lat (v := .slice tA of.length tc) (l := of) hb5 (wr := w0) (HRO.out.lift h0 h0.size))
      rw [hb1, hb5, hb6] at HBAD HOK
      have z6 : decide ((6 : Int) < ↑of.length) = !b6 := by
        subst hb6
        by_cases h : of.length ≤ 6
        · rw [decide_eq_true h, decide_eq_false (by omega)]; rfl
        · rw [decide_eq_false h, decide_eq_true (by omega)]; rfl
      obtain ⟨w0, hw0⟩ : ∃ w0, w0 = wr.alloc (.cells #[.string nm, .slice tA of.length tc] 56) := ⟨_, rfl⟩
      have hb00 : Below wr.heap.size wr w0 := by rw [hw0]; exact balloc (b0 wr) _
      have hb0 : Below w.heap.size w w0 := hb.out.trans (hb00.mono hb.out.size)
      have hz0 : wr.heap.size < w0.heap.size := by rw [hw0]; show _ < (wr.heap.push _).size; rw [Array.size_push]; omega
      have y0 : w0.cell? ⟨wr.heap.size, 0, none⟩ = some (.string nm) := by rw [hw0]; exact World.cell?_alloc_new ..
      have y1 : w0.cell? ⟨wr.heap.size, 1, none⟩ = some (.slice tA of.length tc) := by rw [hw0]; exact World.cell?_alloc_new ..
      have l0 := later_cell hz0 y0
      have l1 := later_cell hz0 y1
      have HWD := hid (HW0.out w0)
      have HRS := hid (HR0.out w0 hb00)
      clear HW0 HR0 hb1 hb5 hb6 y0 y1
      by_cases hk0 : k = 0
      · have z0 : decide (0 < k) = false := decide_eq_false (by omega)
        rw [decide_eq_true hk0] at HBAD HOK
        clear hk0
        cases b1 <;> cases b6 <;> cases b5
        all_goals
          first
            | (have HB := hid (HBAD.out (by simp))
               clear HBAD HOK
               go_wp2_with fail
               rw [← hw0]
               (refine wp_region_later (by kernel_rfl) (by kernel_rfl) ?_; (repeat (go_big_quiet_step ((first | (go_at_call 26; exact HWD.out _) | (go_at_call 33; exact HRS.out _))))); refine wpQuiet_nil ?_; rintro _ ⟨e1, rfl⟩)
               go_wp2
               go_ret
               exact ⟨rbool HB.out.symm, hb0.trans (e1.below.mono hb0.size)⟩)
            | (have HBI := hid (fun (hf : of.all (itemOk l) = false) => HBAD.out (by simp only [hf]; rfl))
               have HOI := hid (fun (hf : of.all (itemOk l) = true) => HOK.out (by simp only [hf]; rfl))
               clear HBAD HOK
               go_wp2_with fail
               rw [← hw0]
               (refine wp_region_later (by kernel_rfl) (by kernel_rfl) ?_; (repeat (go_big_quiet_step ((first | (go_at_call 26; exact HWD.out _) | (go_at_call 33; exact HRS.out _))))); refine wpQuiet_nil ?_; rintro _ ⟨e1, rfl⟩)
               obtain ⟨w1, hw1⟩ : ∃ w1, w1 = e1.w := ⟨_, rfl⟩
               rw [← hw1]
               have hbw : Below w.heap.size w w1 := by rw [hw1]; exact hb0.trans (e1.below.mono hb0.size)
               have m1 : w1.cell? ⟨wr.heap.size, 1, none⟩ = some (.slice tA of.length tc) := by rw [hw1]; exact l1 e1
               have HBW := hid hbw
               have HC' := hid hrs.out
               clear l0 l1 hw1 hw0 hz0 hbw hb0 hb00
               go_wp2
               go_loopw [54] (fun iv wr' => ∃ j : Nat, j ≤ of.length ∧ iv = .int .i64 j ∧ Hid (∀ i, (hi : i < of.length) → i < j → itemOk l of[i] = true) ∧ Hid (Below w.heap.size w wr')) (fun iv _ => of.length - (intOf iv).toNat)
               case atStart => exact ⟨0, Nat.zero_le _, rfl, hid (fun i hi hk => by omega), HBW⟩
               case round =>
                 clear m1 HBW
                 obtain ⟨j, hj, rfl, hall', hb'⟩ := hrel
                 have i6 : (0 : Int) ≤ ↑j := by omega
                 by_cases hlj : j < of.length
                 · obtain ⟨g', o', hA', hF', g0', -⟩ := HC'.out j hlj
                   have HT : ∃ oT, tA = some ⟨g', oT, none⟩ ∧ o' = oT := ⟨o', hA', rfl⟩
                   subst hA'
                   have c0 := cell_below hb'.out hF' g0'
                   clear g0' HT
                   have i7 : (↑j : Int) < ↑of.length := by omega
                   have hs1 := HS.out of[j] (List.getElem_mem hlj)
                   have HRD' := hid (H.out.lift hb'.out hb'.out.size)
                   obtain ⟨kk, a, b, HI, hcs⟩ := item_cases l of[j]
                   have HBJ := hid (fun (hf : itemOk l of[j] = false) => HBI.out (all_bad (p := itemOk l) hlj hf))
                   have HOJ := hid (fun (hf : itemOk l of[j] = true) => show ∀ i, (hi : i < of.length) → i < j + 1 → itemOk l of[i] = true from fun i hi hk => by
                     by_cases e : i = j
                     · subst e; exact hf
                     · exact hall'.out i hi (by omega))
                   rcases hcs with ⟨c1, hg⟩ | ⟨c1, c2, hg⟩ | ⟨c1, c2, hg⟩
                   · have HB := hid (HBJ.out hg.out)
                     clear hg
                     go_wp2_with (first
                       | (go_at_call 10; refine (item_any of[j] _ (by omega)).mono ?_; rintro e w2 ⟨rfl, hb2⟩; rw [HI.out]))
                     go_ret
                     exact ⟨rbool HB.out.symm, hb'.out.trans (hb2.mono hb'.out.size)⟩
                   · have HB := hid (HOJ.out hg.out)
                     clear hg
                     go_wp2_with (first
                       | (go_at_call 10; refine (item_any of[j] _ (by omega)).mono ?_; rintro e w2 ⟨rfl, hb2⟩; rw [HI.out]))
                     exact ⟨⟨j + 1, by omega, by go_num, HB, hid (hb'.out.trans (hb2.mono hb'.out.size))⟩, by simp [intOf]; omega⟩
                   · rcases bc (knownB l a) with ⟨hq, HK⟩ | ⟨hq, HK⟩
                     · have HB := hid (HOJ.out (hg.out.trans hq))
                       clear hg hq
                       go_wp2_with (first
                         | (go_at_call 10; refine (item_any of[j] _ (by omega)).mono ?_; rintro e w2 ⟨rfl, hb2⟩; rw [HI.out])
                         | (go_at_call 34; refine (known_any _ l a _ (HRD'.out.lift hb2 hb2.size)).mono ?_; rintro e w3 ⟨rfl, hb3⟩; rw [HK.out]))
                       exact ⟨⟨j + 1, by omega, by go_num, HB, hid (hb'.out.trans ((bstep hb2 hb3).mono hb'.out.size))⟩, by simp [intOf]; omega⟩
                     · have HB := hid (HBJ.out (hg.out.trans hq))
                       clear hg hq
                       go_wp2_with (first
                         | (go_at_call 10; refine (item_any of[j] _ (by omega)).mono ?_; rintro e w2 ⟨rfl, hb2⟩; rw [HI.out])
                         | (go_at_call 34; refine (known_any _ l a _ (HRD'.out.lift hb2 hb2.size)).mono ?_; rintro e w3 ⟨rfl, hb3⟩; rw [HK.out]))
                       go_ret
                       exact ⟨rbool HB.out.symm, hb'.out.trans ((bstep hb2 hb3).mono hb'.out.size)⟩
                 · have i7 : ¬ (↑j : Int) < ↑of.length := by omega
                   have HB := hid (HOI.out (all_upto (p := itemOk l) fun i hi => hall'.out i hi (by omega)))
                   go_wp2
                   exact ⟨⟨k + 1, by omega, by go_num, HB, hb'⟩, by simp [intOf]; omega⟩)
      · obtain ⟨g', o', tA', tn', tc', hA', hF', g0', -⟩ := HC.out (k - 1) (by omega)
        have hkm : k - 1 < l.length := by omega
        rw [decide_eq_false hk0, getD_at hkm] at HBAD HOK
        injection hA' with hA'
        injection hA' with e1 e2
        subst e1 e2
        have l2 := later_cell (Nat.lt_trans hgw hz0) (cell_below hb0 hF' g0')
        have z0 : decide (0 < k) = true := decide_eq_true (by omega)
        have i3 : (0 : Int) ≤ ↑k - 1 := by omega
        have i4 : (↑k : Int) - 1 < ↑l.length := by omega
        have i5 : ((↑k : Int) - 1).toNat = k - 1 := by omega
        generalize hpm : (l[k - 1]'hkm).name = pm at *
        obtain ⟨b3, hb3⟩ : ∃ b, ltS pm nm = b := ⟨_, rfl⟩
        have hb3' : Op.bytesLess pm.toList nm.toList = b3 := hb3
        rw [hb3] at HBAD HOK
        clear hpm hk0 hb3 g0' hF'
        cases b1 <;> cases b3 <;> cases b6 <;> cases b5
        all_goals
          first
            | (have HB := hid (HBAD.out (by simp))
               clear HBAD HOK
               go_wp2_with fail
               rw [← hw0]
               (refine wp_region_later (by kernel_rfl) (by kernel_rfl) ?_; (repeat (go_big_quiet_step ((first | (go_at_call 26; exact HWD.out _) | (go_at_call 33; exact HRS.out _))))); refine wpQuiet_nil ?_; rintro _ ⟨e1, rfl⟩)
               go_wp2
               go_ret
               exact ⟨rbool HB.out.symm, hb0.trans (e1.below.mono hb0.size)⟩)
            | (have HBI := hid (fun (hf : of.all (itemOk l) = false) => HBAD.out (by simp only [hf]; rfl))
               have HOI := hid (fun (hf : of.all (itemOk l) = true) => HOK.out (by simp only [hf]; rfl))
               clear HBAD HOK
               go_wp2_with fail
               rw [← hw0]
               (refine wp_region_later (by kernel_rfl) (by kernel_rfl) ?_; (repeat (go_big_quiet_step ((first | (go_at_call 26; exact HWD.out _) | (go_at_call 33; exact HRS.out _))))); refine wpQuiet_nil ?_; rintro _ ⟨e1, rfl⟩)
               obtain ⟨w1, hw1⟩ : ∃ w1, w1 = e1.w := ⟨_, rfl⟩
               rw [← hw1]
               have hbw : Below w.heap.size w w1 := by rw [hw1]; exact hb0.trans (e1.below.mono hb0.size)
               have m1 : w1.cell? ⟨wr.heap.size, 1, none⟩ = some (.slice tA of.length tc) := by rw [hw1]; exact l1 e1
               have HBW := hid hbw
               have HC' := hid hrs.out
               clear l0 l1 hw1 hw0 hz0 hbw hb0 hb00
               go_wp2
               go_loopw [54] (fun iv wr' => ∃ j : Nat, j ≤ of.length ∧ iv = .int .i64 j ∧ Hid (∀ i, (hi : i < of.length) → i < j → itemOk l of[i] = true) ∧ Hid (Below w.heap.size w wr')) (fun iv _ => of.length - (intOf iv).toNat)
               case atStart => exact ⟨0, Nat.zero_le _, rfl, hid (fun i hi hk => by omega), HBW⟩
               case round =>
                 clear m1 HBW
                 obtain ⟨j, hj, rfl, hall', hb'⟩ := hrel
                 have i6 : (0 : Int) ≤ ↑j := by omega
                 by_cases hlj : j < of.length
                 · obtain ⟨g', o', hA', hF', g0', -⟩ := HC'.out j hlj
                   have HT : ∃ oT, tA = some ⟨g', oT, none⟩ ∧ o' = oT := ⟨o', hA', rfl⟩
                   subst hA'
                   have c0 := cell_below hb'.out hF' g0'
                   clear g0' HT
                   have i7 : (↑j : Int) < ↑of.length := by omega
                   have hs1 := HS.out of[j] (List.getElem_mem hlj)
                   have HRD' := hid (H.out.lift hb'.out hb'.out.size)
                   obtain ⟨kk, a, b, HI, hcs⟩ := item_cases l of[j]
                   have HBJ := hid (fun (hf : itemOk l of[j] = false) => HBI.out (all_bad (p := itemOk l) hlj hf))
                   have HOJ := hid (fun (hf : itemOk l of[j] = true) => show ∀ i, (hi : i < of.length) → i < j + 1 → itemOk l of[i] = true from fun i hi hk => by
                     by_cases e : i = j
                     · subst e; exact hf
                     · exact hall'.out i hi (by omega))
                   rcases hcs with ⟨c1, hg⟩ | ⟨c1, c2, hg⟩ | ⟨c1, c2, hg⟩
                   · have HB := hid (HBJ.out hg.out)
                     clear hg
                     go_wp2_with (first
                       | (go_at_call 10; refine (item_any of[j] _ (by omega)).mono ?_; rintro e w2 ⟨rfl, hb2⟩; rw [HI.out]))
                     go_ret
                     exact ⟨rbool HB.out.symm, hb'.out.trans (hb2.mono hb'.out.size)⟩
                   · have HB := hid (HOJ.out hg.out)
                     clear hg
                     go_wp2_with (first
                       | (go_at_call 10; refine (item_any of[j] _ (by omega)).mono ?_; rintro e w2 ⟨rfl, hb2⟩; rw [HI.out]))
                     exact ⟨⟨j + 1, by omega, by go_num, HB, hid (hb'.out.trans (hb2.mono hb'.out.size))⟩, by simp [intOf]; omega⟩
                   · rcases bc (knownB l a) with ⟨hq, HK⟩ | ⟨hq, HK⟩
                     · have HB := hid (HOJ.out (hg.out.trans hq))
                       clear hg hq
                       go_wp2_with (first
                         | (go_at_call 10; refine (item_any of[j] _ (by omega)).mono ?_; rintro e w2 ⟨rfl, hb2⟩; rw [HI.out])
                         | (go_at_call 34; refine (known_any _ l a _ (HRD'.out.lift hb2 hb2.size)).mono ?_; rintro e w3 ⟨rfl, hb3⟩; rw [HK.out]))
                       exact ⟨⟨j + 1, by omega, by go_num, HB, hid (hb'.out.trans ((bstep hb2 hb3).mono hb'.out.size))⟩, by simp [intOf]; omega⟩
                     · have HB := hid (HBJ.out (hg.out.trans hq))
                       clear hg hq
                       go_wp2_with (first
                         | (go_at_call 10; refine (item_any of[j] _ (by omega)).mono ?_; rintro e w2 ⟨rfl, hb2⟩; rw [HI.out])
                         | (go_at_call 34; refine (known_any _ l a _ (HRD'.out.lift hb2 hb2.size)).mono ?_; rintro e w3 ⟨rfl, hb3⟩; rw [HK.out]))
                       go_ret
                       exact ⟨rbool HB.out.symm, hb'.out.trans ((bstep hb2 hb3).mono hb'.out.size)⟩
                 · have i7 : ¬ (↑j : Int) < ↑of.length := by omega
                   have HB := hid (HOI.out (all_upto (p := itemOk l) fun i hi => hall'.out i hi (by omega)))
                   go_wp2
                   exact ⟨⟨k + 1, by omega, by go_num, HB, hb'⟩, by simp [intOf]; omega⟩)
    · have i2 : ¬ (↑k : Int) < ↑l.length := by omega
      have HG := hid (mayF_good (l := l) (by omega) fun i hi => hall.out i (by omega))
      go_wp2
      go_ret
      exact ⟨rbool HG.out.symm, hb.out⟩
end Go.Proofs.Ytdcdpkpomhjilaa
