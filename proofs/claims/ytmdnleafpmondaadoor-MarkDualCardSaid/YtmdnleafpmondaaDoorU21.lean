/- Contract: linchpinref10.Parse. -/
import Derived.Test.YtmdnleafpmondaaDoorU20
namespace Go.Proofs.YtmdnleafpmondaaDoor
open Go Go.RowKit

theorem rparse_result {wx : World} {b : Nat} {v : Value} {n : Int} {tmps : Array Value} (h : Arr 25 wx b [v]) (h2 : tmps.getD 2 undef = .pointer (some ⟨b, 0, none⟩)) (h3 : tmps.getD 3 undef = .int .i64 n) :
    (results Tryd.f12 tmps).run Tryd.prog wx = .ok (.tuple #[.agg #[v], .int .i64 n]) wx := by
  rw [results_cell_tmp rfl, h2, h3]
  have := run_loadVar_row (P := Tryd.prog) wx b 25 25 _ (0, 0) _ h Tryd.underlying25 rfl (by kernel_rfl)
  simp [asAddr, Result.andThen, this]

set_option maxRecDepth 100000 in
set_option maxHeartbeats 4000000 in
theorem rparse_any (s : ByteArray) (w : World) : Calls Tryd.prog 12 #[.string s] w (ParsePost s w) := by
  have ha0 : Arr 25 (w.alloc (.cells #[.slice none 0 0] 25)) w.heap.size [.slice none 0 0] := Arr.new 25 w [.slice none 0 0]
  have HA0 := hid ha0
  clear ha0
  by_cases h96 : (96 : Int) < s.size
  · have HF : Hid (parseF s = ([], 3)) := hid (by unfold parseF; rw [if_pos (by omega)])
    go_enter Tryd.func12, Tryd.ntmps12
    go_wp2
    refine bodyPost_ret (rparse_result HA0.out rfl rfl) rfl ⟨_, by rw [HF.out], ?_, ?_⟩
    · rw [HF.out]; exact SliceRd.nil _ _ _
    · exact balloc (b0 w) _
  rcases empty_eq s with ⟨he, pe⟩ | ⟨he, pe⟩
  · have HF : Hid (parseF s = ([], 0)) := hid (by unfold parseF; rw [if_neg (by omega), if_pos pe])
    replace pe := hid pe
    go_enter Tryd.func12, Tryd.ntmps12
    go_wp2
    refine bodyPost_ret (rparse_result HA0.out rfl rfl) rfl ⟨_, by rw [HF.out], ?_, ?_⟩
    · rw [HF.out]; exact SliceRd.nil _ _ _
    · exact balloc (b0 w) _
  · have hs96 : s.size ≤ 96 := by omega
    have HF : Hid (parseF s = match oneF 98 (wordsOf s) with
      | some (f, []) => if mayB (f.post 0) = true then (f.post 0, 0) else ([], 7)
      | _ => ([], 7)) := hid (by unfold parseF; rw [if_neg (by omega), if_neg pe]; rfl)
    replace pe := hid pe
    have HWS := hid (words_small hs96)
    have HSP := hid (rsplit_any s 32 (w.alloc (.cells #[.slice none 0 0] 25)) (by omega))
    go_enter Tryd.func12, Tryd.ntmps12
    go_wp2_with fail
    refine HSP.out.mono ?_
    rintro e w1 ⟨WB, As, cs, rfl, hown, hWB, hb1⟩
    have hWBe := words_eq hWB
    subst hWBe
    clear hWB
    obtain ⟨w00, hw00⟩ : ∃ w00, w00 = w.alloc (.cells #[.slice none 0 0] 25) := ⟨_, rfl⟩
    have hz00 : w00.heap.size = w.heap.size + 1 := by rw [hw00]; simp
    rw [← hw00] at HA0 hown hb1
    have HB00 := hid (show Below w.heap.size w w00 by rw [hw00]; exact balloc (b0 w) _)
    have HS1 : Hid (SliceRd tStr w1 (Lt w1.heap.size) (.slice As (wordsOf s).length cs) (wordsOf s)) := hid (rd_of_ownF (f := fStr) (by rw [strs_all]; exact hown) (fun x hx => by have := HWS.out.2 x hx; show x.size ≤ maxLen; unfold maxLen; omega) fun g hg => (hown.lt g hg).2)
    have HB1 := hid hb1
    clear hown hb1
    obtain ⟨n, hn⟩ : ∃ n, n = (wordsOf s).length := ⟨_, rfl⟩
    rw [← hn] at HS1
    rw [← hn]
    have hnl : n ≤ 97 := by have := HWS.out.1; omega
    replace hn := hid hn
    clear hw00 HSP
    have hs1 := HB1.out.size
    obtain ⟨pb, hpb⟩ : ∃ pb, pb = w1.heap.size := ⟨_, rfl⟩
    have HPA : Hid (RAt (w1.alloc (.cells #[.slice As n cs, .int .i64 0, .slice none 0 0, .bool false] 59)) pb (.slice As n cs) (.slice none 0 0) (wordsOf s) [] false) := hid (by
      rw [hpb]
      exact ⟨wordsOf s, 0, ⟨Arr.new 59 w1 [_, _, _, _], HS1.out.below (balloc (b0 w1) _), OwnF.nil _ _ _ _, Nat.zero_le _⟩, rfl, by have := HWS.out.1; omega⟩)
    have HARB : Hid (Arr 25 (w1.alloc (.cells #[.slice As n cs, .int .i64 0, .slice none 0 0, .bool false] 59)) w.heap.size [.slice none 0 0]) := hid ((HA0.out.below HB1.out (by omega)).alloc _)
    have HB2 := hid (show Below w.heap.size w (w1.alloc (.cells #[.slice As n cs, .int .i64 0, .slice none 0 0, .bool false] 59)) from (HB00.out.trans (HB1.out.mono (by omega))).alloc (by have := HB00.out.size; omega) _)
    have HONE := hid (either_any 98 _ pb _ _ (wordsOf s) [] HPA.out HWS.out.1 (by have := HWS.out.1; simp; omega) HWS.out.2)
    have hszp : (w1.alloc (.cells #[.slice As n cs, .int .i64 0, .slice none 0 0, .bool false] 59)).heap.size = pb + 1 := by rw [hpb]; simp
    have hpw : w.heap.size + 1 ≤ pb := by omega
    go_wp2_with fail
    rw [← hpb]
    generalize w1.alloc (.cells #[.slice As n cs, .int .i64 0, .slice none 0 0, .bool false] 59) = w2 at *
    refine HONE.out.mono ?_
    rintro e w3 ⟨i, rfl, wv', nv', ws', ns', bad', q1, q2, q3, q4, q5, q6, q7⟩
    have HAR3 : Hid (Arr 25 w3 w.heap.size [.slice none 0 0]) := hid (HARB.out.keep (q2.kept _ (by omega) (by omega) (by simp [Value.ownBlock])))
    have HB3 : Hid (Below w.heap.size w w3) := hid (HB2.out.trans (q2.below.mono (by omega)))
    have HQ1 := hid q1
    have HQ7 := hid q7
    have hlen3 := q2.size
    obtain ⟨WS, a, q1, hws, hWS⟩ := q1
    have x0 := q1.box.cell (i := 0) (by simp)
    have x1 := q1.box.cell (i := 1) (by simp)
    have x2 := q1.box.cell (i := 2) (by simp)
    have x3 := q1.box.cell (i := 3) (by simp)
    simp only [List.getElem_cons_zero, List.getElem_cons_succ] at x0 x1 x2 x3
    obtain ⟨A0, c0, rfl, -⟩ := q1.words.shape
    obtain ⟨A1, c1, rfl⟩ := q1.nodes.form
    have hle := q1.le
    have hp3 := q1.lt
    have HRD := hid q1.nodes.rd
    have HRDF : Hid (SliceRd tNode w3 (fun g => pb + 1 ≤ g ∧ g < w3.heap.size) (.slice A1 ns'.length c1) ns') := hid (rd_of_ownF q1.nodes.1 q1.nodes.2 fun g hg => q1.nodes.lt g hg)
    clear q1 q2 q3 q4 q7 HONE HPA HARB HB2 HB00 HB1 HS1 HA0 hszp hpb
    have u1 := HAR3.out.cell (i := 0) (by simp)
    have u2 := HAR3.out.free
    simp only [List.getElem_cons_zero] at u1
    have hrb : w.heap.size < w3.heap.size := by omega
    obtain ⟨w4, hw4⟩ : ∃ w4, w4 = w3.alloc (.cells #[.slice A1 ns'.length c1] 25) := ⟨_, rfl⟩
    have hb34 : Below w3.heap.size w3 w4 := by rw [hw4]; exact balloc (b0 w3) _
    have hz4 : w4.heap.size = w3.heap.size + 1 := by rw [hw4]; simp
    have HB4 := hid (HB3.out.trans (hb34.mono (by omega)))
    have HRD4 : Hid (SliceRd tNode w4 (Lt w4.heap.size) (.slice A1 ns'.length c1) ns') := hid (HRD.out.lift hb34 hb34.size)
    have HAR4 := hid (HAR3.out.below hb34 hrb)
    have l0 := later_cell (show pb < w4.heap.size by omega) (cell_below hb34 hp3 x0)
    have l1 := later_cell (show pb < w4.heap.size by omega) (cell_below hb34 hp3 x1)
    have l3 := later_cell (show pb < w4.heap.size by omega) (cell_below hb34 hp3 x3)
    have lm := later_cell (show w3.heap.size < w4.heap.size by omega) (show w4.cell? ⟨w3.heap.size, 0, none⟩ = some (.slice A1 ns'.length c1) by rw [hw4]; exact World.cell?_alloc_new ..)
    have CM := hid (fun (e : Later w4) => Calls.later (rmay_any _ ns' e.w (HRD4.out.lift e.below e.below.size)) rfl)
    have HRF : Hid (∀ w5 : World, Below w4.heap.size w4 w5 → SliceRd tNode (w5.setCell ⟨w.heap.size, 0, none⟩ (.slice A1 ns'.length c1)) (Lt (w5.setCell ⟨w.heap.size, 0, none⟩ (.slice A1 ns'.length c1)).heap.size) (.slice A1 ns'.length c1) ns') := hid (fun w5 hb5 => by
      have hk : ∀ g, g < w3.heap.size → g ≠ w.heap.size → (w5.setCell ⟨w.heap.size, 0, none⟩ (.slice A1 ns'.length c1)).heap[g]? = w3.heap[g]? := fun g hg hne => (heap_setCell_other _ _ _ _ hne).trans ((hb34.trans (hb5.mono hb34.size)).block g hg)
      exact (HRDF.out.keep fun g hg => hk g hg.2 (by have := hg.1; omega)).more fun g hg => by
        have h2 := hb5.size
        have h3 := hg.2
        show g < (w5.setCell _ _).heap.size
        simp only [World.size_setCell]
        omega)
    have HFIN := hid (fun (e1 : parseF s = ([], 7)) (wx : World) (hB : Below w.heap.size w wx) => show ParsePost s w (.returned (.tuple #[.agg #[.slice none 0 0], .int .i64 7])) wx from ⟨_, by rw [e1], by rw [e1]; exact SliceRd.nil _ _ _, hB⟩)
    replace hws := hid hws
    go_wp2_with fail
    rw [← hw4]
    clear hw4
    cases hx : oneF 98 (wordsOf s) with
    | none =>
      have h7 := HQ7.out
      rw [hx] at h7
      have h7' : bad' = true := h7
      subst h7'
      have HPF : Hid (parseF s = ([], 7)) := hid (by rw [HF.out, hx])
      clear h7 HF HQ7
      (refine wp_region_later (by kernel_rfl) (by kernel_rfl) ?_; (repeat (go_big_quiet_step ((fail)))); refine wpQuiet_nil ?_; rintro w5 ⟨e5, he5⟩)
      have hb5 : Below w4.heap.size w4 w5 := he5 ▸ e5.below
      have HAR5 := hid (HAR4.out.below hb5 (by omega))
      have HB5 := hid (HB4.out.trans (hb5.mono (by omega)))
      have v1 := HAR5.out.cell (i := 0) (by simp)
      have v2 := HAR5.out.free
      have v3 : w5.cell? ⟨w3.heap.size, 0, none⟩ = some (.slice A1 ns'.length c1) := he5 ▸ lm e5
      simp only [List.getElem_cons_zero] at v1
      clear l0 l1 l3 lm u1 u2 he5
      go_wp2
      exact bodyPost_ret (rparse_result ((HAR5.out.set 0 _).congr rfl) rfl rfl) rfl (HFIN.out HPF.out _ (HB5.out.setCell (p := ⟨w.heap.size, 0, none⟩) (Nat.le_refl _) _))
    | some x =>
      obtain ⟨f, q⟩ := x
      have h7 := HQ7.out
      rw [hx] at h7
      obtain ⟨k1, k2, k3, k4⟩ := h7
      subst k1
      have hwl := congrArg List.length (hws.out)
      rw [List.length_drop] at hwl
      cases q with
      | cons z q' =>
        have HPF : Hid (parseF s = ([], 7)) := hid (by rw [HF.out, hx])
        have g1 : a < WS.length := by rw [k2] at hwl; simp only [List.length_cons] at hwl; omega
        have g2 := decide_eq_true g1
        have g3 := decide_eq_true (show (↑a : Int) < ↑WS.length by omega)
        clear k2 k3 k4 HF HQ7 hwl
        (refine wp_region_later (by kernel_rfl) (by kernel_rfl) ?_; (repeat (go_big_quiet_step ((fail)))); refine wpQuiet_nil ?_; rintro w5 ⟨e5, he5⟩)
        have hb5 : Below w4.heap.size w4 w5 := he5 ▸ e5.below
        have HAR5 := hid (HAR4.out.below hb5 (by omega))
        have HB5 := hid (HB4.out.trans (hb5.mono (by omega)))
        have v1 := HAR5.out.cell (i := 0) (by simp)
        have v2 := HAR5.out.free
        have v3 : w5.cell? ⟨w3.heap.size, 0, none⟩ = some (.slice A1 ns'.length c1) := he5 ▸ lm e5
        simp only [List.getElem_cons_zero] at v1
        clear l0 l1 l3 lm u1 u2 he5
        go_wp2
        exact bodyPost_ret (rparse_result ((HAR5.out.set 0 _).congr rfl) rfl rfl) rfl (HFIN.out HPF.out _ (HB5.out.setCell (p := ⟨w.heap.size, 0, none⟩) (Nat.le_refl _) _))
      | nil =>
        have g1 : ¬ a < WS.length := by rw [k2] at hwl; simp only [List.length_nil] at hwl; omega
        have g2 := decide_eq_false g1
        have g3 := decide_eq_false (show ¬ (↑a : Int) < ↑WS.length by omega)
        have HK3 := hid (show ns' = f.post 0 by rw [k3]; rfl)
        clear k2 k3 k4 HQ7 hwl
        rcases Bool.eq_false_or_eq_true (mayB ns') with hmay | hmay
        · have HPF : Hid (parseF s = (ns', 0)) := hid (by rw [HF.out, hx]; simp only; rw [← HK3.out, if_pos hmay])
          rw [hmay] at CM
          clear HF
          (refine wp_region_later (by kernel_rfl) (by kernel_rfl) ?_; (repeat (go_big_quiet_step ((go_at_call 30; exact CM.out _)))); refine wpQuiet_nil ?_; rintro w5 ⟨e5, he5⟩)
          have hb5 : Below w4.heap.size w4 w5 := he5 ▸ e5.below
          have HAR5 := hid (HAR4.out.below hb5 (by omega))
          have HB5 := hid (HB4.out.trans (hb5.mono (by omega)))
          have v1 := HAR5.out.cell (i := 0) (by simp)
          have v2 := HAR5.out.free
          have v3 : w5.cell? ⟨w3.heap.size, 0, none⟩ = some (.slice A1 ns'.length c1) := he5 ▸ lm e5
          simp only [List.getElem_cons_zero] at v1
          clear l0 l1 l3 lm u1 u2 he5
          go_wp2
          refine bodyPost_ret (rparse_result ((HAR5.out.set 0 _).congr rfl) rfl rfl) rfl ⟨_, by rw [HPF.out], ?_, HB5.out.setCell (p := ⟨w.heap.size, 0, none⟩) (Nat.le_refl _) _⟩
          rw [HPF.out]
          exact HRF.out w5 hb5
        · have HPF : Hid (parseF s = ([], 7)) := hid (by rw [HF.out, hx]; simp only; rw [← HK3.out, if_neg (by rw [hmay]; simp)])
          rw [hmay] at CM
          clear HF
          (refine wp_region_later (by kernel_rfl) (by kernel_rfl) ?_; (repeat (go_big_quiet_step ((go_at_call 30; exact CM.out _)))); refine wpQuiet_nil ?_; rintro w5 ⟨e5, he5⟩)
          have hb5 : Below w4.heap.size w4 w5 := he5 ▸ e5.below
          have HAR5 := hid (HAR4.out.below hb5 (by omega))
          have HB5 := hid (HB4.out.trans (hb5.mono (by omega)))
          have v1 := HAR5.out.cell (i := 0) (by simp)
          have v2 := HAR5.out.free
          have v3 : w5.cell? ⟨w3.heap.size, 0, none⟩ = some (.slice A1 ns'.length c1) := he5 ▸ lm e5
          simp only [List.getElem_cons_zero] at v1
          clear l0 l1 l3 lm u1 u2 he5
          go_wp2
          exact bodyPost_ret (rparse_result ((HAR5.out.set 0 _).congr rfl) rfl rfl) rfl (HFIN.out HPF.out _ (HB5.out.setCell (p := ⟨w.heap.size, 0, none⟩) (Nat.le_refl _) _))
end Go.Proofs.YtmdnleafpmondaaDoor
