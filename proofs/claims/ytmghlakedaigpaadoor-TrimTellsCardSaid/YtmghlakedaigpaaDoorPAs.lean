/- Contract: trim.Asked. -/
import Derived.Test.YtmghlakedaigpaaDoorRSo
import Derived.Test.YtmghlakedaigpaaDoorRCm
import Derived.Test.YtmghlakedaigpaaDoorUsed
import Derived.Deep.DeepMust
namespace Go.Proofs.YtmghlakedaigpaaDoor
open Go Go.RowKit
attribute [local go_sem ↓] Go.wp_at_zero Go.wp_at_succ

theorem askL_skip {l : List Row} {k : Nat} (hk : k < l.length) (h : ¬ (usedF l k = true ∧ l[k].kind = 4)) : askL l (k + 1) = askL l k := by rw [askL_succ hk, if_neg h]
theorem askL_put {l : List Row} {k : Nat} (hk : k < l.length) (h : usedF l k = true) (h4 : l[k].kind = 4) : askL l (k + 1) = askL l k ++ l[k].terms := by rw [askL_succ hk, if_pos ⟨h, h4⟩]

set_option maxRecDepth 100000 in
set_option maxHeartbeats 2000000 in
theorem pasked_any (v : Value) (l : List Row) (w : World) (h : SliceRd tRow w (Lt w.heap.size) v l) (hm : MayP l) :
    Calls Tryd.prog 15 #[v] w (AskPost (askR l l.length) w) := by
  have HH := hid h
  have HM := hid hm
  obtain ⟨A, cap, rfl, hcap, hmax, hc⟩ := h.rows
  have HC := hid hc
  have hl : l.length ≤ 20000 := hm.2.1
  unfold maxLen at hmax
  clear h hc hm
  have HUS := hid (used_any _ l w HH.out HM.out)
  unfold UsedPost at HUS
  obtain ⟨n, hn⟩ : ∃ n, n = l.length := ⟨_, rfl⟩
  rw [← hn] at hcap hl HUS
  rw [← hn]
  replace hn := hid hn
  obtain ⟨it, hit⟩ := info_parts term_info
  have HIT := hid hit
  clear hit
  go_enter Tryd.func15, Tryd.ntmps15
  go_wp2_with (first
    | (go_at_call 9; refine HUS.out.mono ?_; rintro e w1 ⟨bu, rfl, har, hgu, hb1⟩))
  have HAR := hid har
  have HB1 := hid hb1
  have hbul0 := har.lt
  clear har hb1
  go_loopw [3, 4, 5, 9] (fun ov _ _ iv wr => ∃ k : Nat, k ≤ n ∧ iv = .int .i64 k ∧ Hid (OwnF fTerm 38 w1.heap.size wr ov (askL l k)) ∧ Hid (Below w1.heap.size w1 wr)) (fun _ _ _ iv _ => n - (intOf iv).toNat)
  case atStart => exact ⟨0, Nat.zero_le _, rfl, hid (OwnF.nil _ _ _ _), hid (Below.refl _ _)⟩
  case round =>
    obtain ⟨k, hk, rfl, HO, hb⟩ := hrel
    obtain ⟨A4, c4, rfl⟩ := HO.out.form
    have HBW := hid (HB1.out.trans (hb.out.mono HB1.out.size))
    have i1 : (0 : Int) ≤ ↑k := by omega
    have hsz := hb.out.size
    have hal : (askL l k).length ≤ 20000 := Nat.le_trans (askL_ok HM.out k (by rw [← hn.out]; exact hk)).1 (by omega)
    by_cases hlt : k < n
    · have hkl : k < l.length := by rw [← hn.out]; exact hlt
      have i2 : (↑k : Int) < ↑n := by omega
      have hcu := cell_below hb.out hbul0 (HAR.out.cell (i := k) (by simp [boolCells, usedL]; exact hkl))
      simp only [boolCells, usedL, List.getElem_map, List.getElem_range] at hcu
      cases hu : usedF l k with
      | false =>
        rw [hu] at hcu
        have HS := hid (askL_skip hkl (by rw [hu]; simp))
        clear hu
        go_wp2_with fail
        exact ⟨⟨k + 1, by omega, by go_num, hid (by rw [HS.out]; exact HO.out), hb⟩, by simp [intOf]; omega⟩
      | true =>
        rw [hu] at hcu
        obtain ⟨g, o, tv, hA, hF, g0, g1, g2, g3, g4, ⟨i0, i1', i2', i3'⟩, gt⟩ := HC.out k hkl
        cases hA
        obtain ⟨c0, c1, c2, c3, c4'⟩ := cells5 HBW.out hF ⟨g0, g1, g2, g3, g4⟩
        have HT := hid (gt.lift HBW.out HBW.out.size)
        obtain ⟨TA, tcap, rfl, -, -, -⟩ := gt.terms
        have htl := (terms_le (HM.out.2.2 k hkl).1.2.2.2.2.1).1
        clear g0 g1 g2 g3 g4 gt c1 c2 c3
        by_cases h4 : l[k].kind = 4
        · have k4 : (l[k].kind == 4) = true := by simpa using h4
          have HP := hid (askL_put hkl hu h4)
          have HOK := hid (askL_ok HM.out (k + 1) hkl)
          have HSR := hid (show Src wr TA l[k].terms.length 2 (fTerm.all l[k].terms) from (SliceRd.srcF (f := fTerm) HT.out).2.1)
          clear hu h4
          go_wp2_with (first
            | (at_builtin
               go_must (refine wpList_append_src _ rfl (.tmp 23) (.tmp 28) _ rfl w1.heap.size 38 it _ 2 16 Tryd.underlying33 HIT.out.1 HIT.out.2.1 HIT.out.2.2.1 HIT.out.2.2.2 rfl (by omega) (.slice A4 (askL l k).length c4) (askL l k).length (fTerm.all (askL l k)) rfl HO.out.1 TA l[k].terms.length tcap (fTerm.all l[k].terms) rfl (by exact HSR.out) (fTerm.all_one _) (by unfold maxLen; omega) (by omega) (by omega) ?_)
               intro v6 w6 hown6 hg6 _
               have HO6 : Hid (OwnF fTerm 38 w1.heap.size w6 v6 (askL l (k + 1))) := hid ⟨by rw [HP.out, List.length_append, fTerm.all_append]; exact hown6, HOK.out.2⟩
               have HB6 := hid (hb.out.grown hg6 hsz (fun q hq => (HO.out.lt q hq).1))
               clear hown6 hg6))
          exact ⟨⟨k + 1, by omega, by go_num, HO6, HB6⟩, by simp [intOf]; omega⟩
        · have k4 : (l[k].kind == 4) = false := by simpa using h4
          have HS := hid (askL_skip hkl (fun e => h4 e.2))
          clear hu h4
          go_wp2_with fail
          exact ⟨⟨k + 1, by omega, by go_num, hid (by rw [HS.out]; exact HO.out), hb⟩, by simp [intOf]; omega⟩
    · obtain rfl : k = n := by omega
      have hlen : l.length = k := hn.out.symm
      rcases Nat.eq_zero_or_pos (askL l k).length with hz | hp
      · have HRD := HO.out.rd
        have HNIL := hid (show askR l k = askL l k by unfold askR; rw [List.eq_nil_of_length_eq_zero hz]; rfl)
        rw [hz] at HRD ⊢
        have HRD' := hid HRD
        clear HRD
        go_wp2_with (first
          | (go_at_call 26; refine (sort_none A4 c4 _).mono ?_; rintro e w2 ⟨rfl, rfl⟩)
          | (go_at_call 30; refine (compact_none A4 c4 _).mono ?_; rintro e w2 ⟨rfl, rfl⟩))
        go_ret
        exact ⟨_, rfl, by rw [HNIL.out]; exact HRD'.out, HBW.out⟩
      · obtain ⟨g, c, hv, -, -, -⟩ := HO.out.block hp
        injection hv with q1 _ q3
        subst q1
        subst q3
        go_wp2_with (first
          | (go_at_call 26
             refine (sort_own HO.out rfl hsz hal).mono ?_
             rintro e w2 ⟨rfl, s, hsp, hss, hown2, hb2⟩
             have HSP := hid hsp
             have HSS := hid hss
             have HO2 := hid hown2
             have HB2 := hid hb2
             clear hsp hss hown2 hb2)
          | (go_at_call 30
             refine (compact_own HO2.out HSP.out.length_eq.symm hal).mono ?_
             rintro e w3 ⟨v3, rfl, hrd3, hb3⟩
             rw [ask_same HSP.out HSS.out] at hrd3))
        go_ret
        exact ⟨_, rfl, hrd3, HBW.out.trans ((HB2.out.trans hb3).mono HB1.out.size)⟩
set_option maxRecDepth 100000 in
theorem pasked_bad (v : Value) (l : List Row) (w : World) (h : SliceRd tRow w (Lt w.heap.size) v l) (hm : ¬ MayP l) :
    Calls Tryd.prog 15 #[v] w fun e w' => e = .returned (.slice none 0 0) ∧ Below w.heap.size w w' := by
  have HB := hid (used_bad v l w h hm)
  obtain ⟨A, cap, rfl, hcap, hmax, hc⟩ := h.rows
  clear h hc hm
  go_enter Tryd.func15, Tryd.ntmps15
  go_wp2_with (first
    | (go_at_call 9; refine HB.out.mono ?_; rintro e w1 ⟨rfl, hb1⟩; have HB1 := hid hb1; clear hb1))
  go_loopw [3, 4, 5, 9] (fun ov _ _ iv wr => ov = .slice none 0 0 ∧ iv = .int .i64 0 ∧ wr = w1) (fun _ _ _ _ _ => 0)
  case atStart => exact ⟨rfl, rfl, rfl⟩
  case round =>
    obtain ⟨rfl, rfl, rfl⟩ := hrel
    go_wp2_with (first
      | (go_at_call 26; refine (sort_none none 0 _).mono ?_; rintro e w2 ⟨rfl, rfl⟩)
      | (go_at_call 30; refine (compact_none none 0 _).mono ?_; rintro e w2 ⟨rfl, rfl⟩))
    go_ret
    exact ⟨rfl, HB1.out⟩
end Go.Proofs.YtmghlakedaigpaaDoor
