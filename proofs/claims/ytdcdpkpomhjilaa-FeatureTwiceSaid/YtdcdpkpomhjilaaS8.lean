/- Contracts: linchpinref11.May, feature.May. -/
import Derived.Test.YtdcdpkpomhjilaaS7
import Derived.BigQuiet
import Derived.Deep.QuietTactic
namespace Go.Proofs.Ytdcdpkpomhjilaa
open Go Go.RowKit

/-- The word's, the items' calls in later worlds. -/
theorem rword_lat (s : ByteArray) {b : Bool} (h : wordB s.data.toList = b) (wr : World) : ∀ e : Later wr, Calls Try.prog 30 #[.string s] e.w fun x w'' => x = .returned (.bool b) ∧ ∃ e2 : Later wr, w'' = e2.w :=
  fun e => Calls.later (rword_any s e.w) (by rw [h])
theorem iword_lat (s : ByteArray) {b : Bool} (h : wordB s.data.toList = b) (wr : World) : ∀ e : Later wr, Calls Try.prog 26 #[.string s] e.w fun x w'' => x = .returned (.bool b) ∧ ∃ e2 : Later wr, w'' = e2.w :=
  fun e => Calls.later (iword_any s e.w) (by rw [h])
theorem rises_lat {v : Value} {l : List ByteArray} {b : Bool} (h : risesB l = b) {wr : World} (hr : SliceRd tStr wr (Lt wr.heap.size) v l) : ∀ e : Later wr, Calls Try.prog 33 #[v] e.w fun x w'' => x = .returned (.bool b) ∧ ∃ e2 : Later wr, w'' = e2.w :=
  fun e => Calls.later (rises_any v l e.w (hr.lift e.below e.below.size)) (by rw [h])
theorem items_lat {v ov : Value} {l : List Feat} {of : List ByteArray} {b : Bool} (h : itemsB l of = b) {wr : World} (hr : SliceRd tFeat wr (Lt wr.heap.size) v l) (ho : SliceRd tStr wr (Lt wr.heap.size) ov of) (hsz : ∀ s ∈ of, s.size ≤ 100000) : ∀ e : Later wr, Calls Try.prog 35 #[v, ov] e.w fun x w'' => x = .returned (.bool b) ∧ ∃ e2 : Later wr, w'' = e2.w :=
  fun e => Calls.later (items_any v ov l of e.w (hr.lift e.below e.below.size) (ho.lift e.below e.below.size) hsz) (by rw [h])
theorem getD_at {α : Type} {l : List α} {i : Nat} (h : i < l.length) (d : α) : l.getD i d = l[i] := by rw [List.getD_eq_getElem?_getD, List.getElem?_eq_getElem h]; rfl
theorem featOk_at {l : List Feat} {k : Nat} (h : k < l.length) : featOk l k = (wordB l[k].name.data.toList && ((decide (k = 0) || ltS (l.getD (k - 1) default).name l[k].name) && itemsB l l[k].of)) := by
  unfold featOk
  rw [getD_at h]
def FSmall (l : List Feat) : Prop := ∀ f ∈ l, ∀ s ∈ f.of, s.size ≤ 100000

set_option maxRecDepth 100000 in
set_option maxHeartbeats 4000000 in
theorem rmay_any (v : Value) (l : List Feat) (w : World) (h : SliceRd tFeat w (Lt w.heap.size) v l) (hsz : FSmall l) :
    Calls Try.prog 14 #[v] w fun e w' => e = .returned (.bool (mayF l)) ∧ Below w.heap.size w w' := by
  obtain ⟨A, cap, rfl, hcap, hmax, hc⟩ := h.feats
  unfold maxLen at hmax
  have H := hid h
  have HC := hid hc
  have HSZ := hid hsz
  clear h hc hsz
  by_cases h6 : (8 : Int) < l.length
  · have HN : Hid (mayF l = false) := hid (by unfold mayF; rw [decide_eq_false (by omega)]; rfl)
    go_enter Try.func14, Try.ntmps14
    go_wp2
    go_ret
    exact ⟨rbool HN.out.symm, Below.refl _ _⟩
  go_enter Try.func14, Try.ntmps14
  go_wp2
  go_loopw [3] (fun iv wr => ∃ k : Nat, k ≤ l.length ∧ iv = .int .i64 k ∧ Hid (∀ i, i < k → featOk l i = true) ∧ Hid (Below w.heap.size w wr)) (fun iv _ => l.length - (intOf iv).toNat)
  case atStart => exact ⟨0, Nat.zero_le _, rfl, hid (fun i hi => by omega), hid (b0 w)⟩
  case round =>
    obtain ⟨k, hk, rfl, hall, hb⟩ := hrel
    have i1 : (0 : Int) ≤ ↑k := by omega
    by_cases hlt : k < l.length
    · obtain ⟨g, o, tA, tn, tc, hA, hF, g0, g1, htn, hns, hrd⟩ := HC.out k hlt
      have HFK := hid (featOk_at hlt)
      have HBAD := hid (fun hf => mayF_bad hlt (HFK.out.trans hf))
      have HOK := hid (fun hf => show ∀ i, i < k + 1 → featOk l i = true from fun i hi => if e : i = k then by subst e; exact HFK.out.trans hf else hall.out i (by omega))
      have hgw : g < wr.heap.size := Nat.lt_of_lt_of_le hF hb.out.size
      have l0 := later_cell hgw (cell_below hb.out hF g0)
      have l1 := later_cell hgw (cell_below hb.out hF g1)
      have HRD := hid (H.out.lift hb.out hb.out.size)
      have HRO := hid (hrd.lift hb.out hb.out.size)
      have HS := hid (HSZ.out l[k] (List.getElem_mem hlt))
      have i2 : (↑k : Int) < ↑l.length := by omega
      obtain ⟨b4, hb4⟩ : ∃ b, itemsB l l[k].of = b := ⟨_, rfl⟩
      have HIT := hid (items_lat hb4 HRD.out HRO.out HS.out)
      rw [hb4] at HBAD HOK
      clear hb4 htn hrd g0 g1
      generalize hnm : l[k].name = nm at *
      obtain ⟨b1, hb1⟩ : ∃ b, wordB nm.data.toList = b := ⟨_, rfl⟩
      have HWD := hid (rword_lat nm hb1 wr)
      rw [hb1] at HBAD HOK
      clear hb1
      by_cases hk0 : k = 0
      · have z0 : decide (0 < k) = false := decide_eq_false (by omega)
        rw [decide_eq_true hk0] at HBAD HOK
        subst hA
        clear hnm hk0
        cases b1 <;> cases b4
        all_goals
          first
            | (have HB := hid (HBAD.out rfl)
               go_wp2_with fail
               (refine wp_region_later (by kernel_rfl) (by kernel_rfl) ?_; (repeat (go_big_quiet_step ((first | (go_at_call 30; exact HWD.out _) | (go_at_call 35; exact HIT.out _))))); refine wpQuiet_nil ?_; rintro _ ⟨e1, rfl⟩)
               go_wp2
               go_ret
               exact ⟨rbool HB.out.symm, hb.out.trans (e1.below.mono hb.out.size)⟩)
            | (have HB := hid (HOK.out rfl)
               go_wp2_with fail
               (refine wp_region_later (by kernel_rfl) (by kernel_rfl) ?_; (repeat (go_big_quiet_step ((first | (go_at_call 30; exact HWD.out _) | (go_at_call 35; exact HIT.out _))))); refine wpQuiet_nil ?_; rintro _ ⟨e1, rfl⟩)
               go_wp2
               exact ⟨⟨k + 1, by omega, by go_num, HB, hid (hb.out.trans (e1.below.mono hb.out.size))⟩, by simp [intOf]; omega⟩)
      · obtain ⟨g', o', tA', tn', tc', hA', hF', g0', -⟩ := HC.out (k - 1) (by omega)
        have hkm : k - 1 < l.length := by omega
        rw [decide_eq_false hk0, getD_at hkm] at HBAD HOK
        rw [hA] at hA'
        injection hA' with hA'
        injection hA' with e1 e2
        subst e1 e2
        have l2 := later_cell hgw (cell_below hb.out hF' g0')
        have z0 : decide (0 < k) = true := decide_eq_true (by omega)
        have i3 : (0 : Int) ≤ ↑k - 1 := by omega
        have i4 : (↑k : Int) - 1 < ↑l.length := by omega
        have i5 : ((↑k : Int) - 1).toNat = k - 1 := by omega
        subst hA
        generalize hpm : (l[k - 1]'hkm).name = pm at *
        obtain ⟨b3, hb3⟩ : ∃ b, ltS pm nm = b := ⟨_, rfl⟩
        have hb3' : Op.bytesLess pm.toList nm.toList = b3 := hb3
        rw [hb3] at HBAD HOK
        clear hnm hpm hk0 hb3 g0'
        cases b1 <;> cases b3 <;> cases b4
        all_goals
          first
            | (have HB := hid (HBAD.out rfl)
               go_wp2_with fail
               (refine wp_region_later (by kernel_rfl) (by kernel_rfl) ?_; (repeat (go_big_quiet_step ((first | (go_at_call 30; exact HWD.out _) | (go_at_call 35; exact HIT.out _))))); refine wpQuiet_nil ?_; rintro _ ⟨e1, rfl⟩)
               go_wp2
               go_ret
               exact ⟨rbool HB.out.symm, hb.out.trans (e1.below.mono hb.out.size)⟩)
            | (have HB := hid (HOK.out rfl)
               go_wp2_with fail
               (refine wp_region_later (by kernel_rfl) (by kernel_rfl) ?_; (repeat (go_big_quiet_step ((first | (go_at_call 30; exact HWD.out _) | (go_at_call 35; exact HIT.out _))))); refine wpQuiet_nil ?_; rintro _ ⟨e1, rfl⟩)
               go_wp2
               exact ⟨⟨k + 1, by omega, by go_num, HB, hid (hb.out.trans (e1.below.mono hb.out.size))⟩, by simp [intOf]; omega⟩)
    · have i2 : ¬ (↑k : Int) < ↑l.length := by omega
      have HG := hid (mayF_good (l := l) (by omega) fun i hi => hall.out i (by omega))
      go_wp2
      go_ret
      exact ⟨rbool HG.out.symm, hb.out⟩
end Go.Proofs.Ytdcdpkpomhjilaa
