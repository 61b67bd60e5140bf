/- Contracts: ref21.Mask, incomp.Holds, ref21.Hold, term.May, incomp.May. -/
import Derived.Test.YtilkhofgcgfnlaaGreatN5
import Derived.Outline
namespace Go.Proofs.YtilkhofgcgfnlaaGreat
open Go Go.RowKit

theorem maskF_hit {ns : List Nat} {l : List Term} {u : Int} {k : Nat} (hk : k < l.length) (hu : l[k].unit = u) (hn : ∀ j, (hj : j < l.length) → j < k → l[j].unit ≠ u) : maskF ns l u = l[k].mask := by
  have : l.find? (fun t => t.unit == u) = some l[k] := List.find?_eq_some_iff_getElem.2 ⟨by simp [hu], k, hk, rfl, fun j hj => by simp [hn j (by omega) hj]⟩
  unfold maskF; rw [this]
theorem maskF_miss {ns : List Nat} {l : List Term} {u : Int} (hn : ∀ j, (hj : j < l.length) → l[j].unit ≠ u) : maskF ns l u = fullF ns u := by
  have : l.find? (fun t => t.unit == u) = none := List.find?_eq_none.2 fun t ht => by
    obtain ⟨j, hj, rfl⟩ := List.getElem_of_mem ht
    simp [hn j hj]
  unfold maskF; rw [this]
set_option maxHeartbeats 1000000 in
theorem rmask_any (v lv : Value) (ns : List Nat) (l : List Term) (u : Int) (w : World) (h : UniRd w (Lt w.heap.size) v ns) (ho : NsOk ns) (hl : SliceRd tTerm w (Lt w.heap.size) lv l) (hu : I64 u) :
    Calls Tryz.prog 46 #[v, lv, .int .i64 u] w fun e w' => e = .returned (.int .i64 (maskF ns l u)) ∧ Below w.heap.size w w' := by
  have HH := hid h
  have HO := hid ho
  obtain ⟨g, cap0, rfl, hg, -⟩ := h
  obtain ⟨A, cap, rfl, hcap, hmax, hc⟩ := hl.terms
  unfold maxLen at hmax
  have HC := hid hc
  clear hc hl ho
  go_enter Tryz.func46, Tryz.ntmps46
  go_wp2_with fail
  obtain ⟨w0, hw0⟩ : ∃ w0 : World, w0 = w.alloc (.cells #[.slice (some ⟨g, 0, none⟩) ns.length cap0] 27) := ⟨_, rfl⟩
  have hb0 : Below w.heap.size w w0 := hw0 ▸ balloc (b0 w) _
  have q0 : w0.cell? ⟨w.heap.size, 0, none⟩ = some (.slice (some ⟨g, 0, none⟩) ns.length cap0) := by rw [hw0, alloc_cell]; rfl
  have HB0 := hid hb0
  have HU0 := hid (uni_later HH.out hb0)
  rw [← hw0]
  clear hw0 hb0
  go_loopw [7] (fun iv wr => ∃ k : Nat, k ≤ l.length ∧ iv = .int .i64 k ∧ wr = w0 ∧ Hid (∀ j, (hj : j < l.length) → j < k → l[j].unit ≠ u)) (fun iv _ => l.length - (intOf iv).toNat)
  case atStart => exact ⟨0, Nat.zero_le _, rfl, rfl, hid (fun j _ hj => absurd hj (by omega))⟩
  case round =>
    obtain ⟨k, hk, rfl, rfl, hn⟩ := hrel
    by_cases hlt : k < l.length
    · obtain ⟨gg, o, hA, hF, g0, g1, -, -⟩ := HC.out k hlt
      subst hA
      have c0 := cell_below HB0.out hF g0
      have c1 := cell_below HB0.out hF g1
      have i1 : (0 : Int) ≤ ↑k := by omega
      have i2 : (↑k : Int) < ↑l.length := by omega
      clear g0 g1
      obtain ⟨a, ha⟩ : ∃ a, l[k].unit = a := ⟨_, rfl⟩
      rw [ha] at c0
      have HA := hid ha
      clear ha
      by_cases he : a = u
      · subst he
        have HM := hid (maskF_hit (ns := ns) hlt HA.out hn.out)
        go_wp2
        go_ret
        exact ⟨ret_int HM.out.symm, HB0.out⟩
      · have HE := hid he
        have hz : (a == u) = false := by simpa using he
        clear he
        go_wp2
        exact ⟨⟨k + 1, by omega, by go_num, (by first | trivial | rfl), hid (fun j hj hjk => if e : j = k then by subst e; rw [HA.out]; exact HE.out else hn.out j hj (by omega))⟩, by simp [intOf]; omega⟩
    · have HM := hid (maskF_miss (ns := ns) (u := u) (fun j hj => hn.out j hj (by omega)))
      go_wp2_with (go_at_call 26; refine (rfull_any _ ns u _ _ HU0.out HO.out hu (fun _ h => h)).mono ?_; rintro e w2 ⟨rfl, hb2⟩)
      go_ret
      exact ⟨ret_int HM.out.symm, bstep HB0.out hb2⟩

/- Holds. -/
theorem holds_clos (v cv : Value) (sv : Value) (ns : List Nat) (c : List Int) (l : List Term) (b1 b2 : Nat) (w : World) (hv : v = .agg #[sv]) (h : UniRd w (Lt w.heap.size) v ns) (ho : NsOk ns) (hcv : SliceRd tInt w (Lt w.heap.size) cv c) (hc : ChoiceOk ns c)
    (hl : ∀ t ∈ l, 0 ≤ t.unit ∧ t.unit < ns.length) (hb1 : b1 < w.heap.size) (hb2 : b2 < w.heap.size) (hc1 : w.cell? ⟨b1, 0, none⟩ = some sv) (hc2 : w.cell? ⟨b2, 0, none⟩ = some cv) :
    PredB Tryz.prog 41 #[.pointer (some ⟨b1, 0, none⟩), .pointer (some ⟨b2, 0, none⟩)] l (fun t => !holdT c t) w := fun W t ht hw => by
  subst hv
  have c0 := cell_below hw hb1 hc1
  have c1 := cell_below hw hb2 hc2
  have hb1W := Nat.lt_of_lt_of_le hb1 hw.size
  have hb2W := Nat.lt_of_lt_of_le hb2 hw.size
  have hne1 : b1 ≠ W.heap.size := by omega
  have hne2 : b2 ≠ W.heap.size := by omega
  have HU := hid (uni_later h hw)
  have HC := hid (hcv.lift hw hw.size)
  have ht' := hl t ht
  have HCO := hid hc
  have HO := hid ho
  have HW := hid hw
  obtain ⟨A, cap, rfl, -⟩ := hcv.ints
  clear h hcv hc1 hc2 ho hc hw hl
  show Calls Tryz.prog 41 #[.agg #[.int .i64 t.unit, .int .i64 t.mask], .pointer (some ⟨b1, 0, none⟩), .pointer (some ⟨b2, 0, none⟩)] W _
  have hcall := fun o : Obj => holds_any _ _ ns c t (W.alloc o) (uni_later HU.out (balloc (b0 W) o)) HO.out (HC.out.lift (balloc (b0 W) o) (balloc (b0 W) o).size) HCO.out ht'
  obtain ⟨a, ha⟩ : ∃ a, t.unit = a := ⟨_, rfl⟩
  obtain ⟨m, hm⟩ : ∃ m, t.mask = m := ⟨_, rfl⟩
  rw [ha, hm] at hcall
  rw [ha, hm]
  obtain ⟨q, hq⟩ : ∃ q, holdT c t = q := ⟨_, rfl⟩
  rw [hq] at hcall
  have HQ := hid hq
  clear ht' ht ha hm hq
  go_enter Tryz.func41, Tryz.ntmps41
  go_wp2_with (go_at_call 42; refine (hcall _).mono ?_; rintro e w2 ⟨rfl, hb2⟩)
  go_ret
  exact ⟨by show _ = Ending.returned (.bool (!holdT c t)); rw [HQ.out]; rfl, HW.out.trans (((balloc (b0 W) _).trans (hb2.mono (by simp))).mono HW.out.size)⟩
theorem two_boxes' {w w0 : World} {x : Value} {y : Value} {t t' : TypeId} (h : w0 = (w.alloc (.cells #[x] t)).alloc (.cells #[y] t')) :
    Below w.heap.size w w0 ∧ w0.heap.size = w.heap.size + 2 ∧ w0.cell? ⟨w.heap.size, 0, none⟩ = some x ∧ w0.cell? ⟨w.heap.size + 1, 0, none⟩ = some y := by
  subst h
  refine ⟨balloc (balloc (b0 w) _) _, by simp, ?_, ?_⟩
  · exact cell_below (balloc (b0 (w.alloc (.cells #[x] t))) _) (by simp) ((alloc_cell w _ _ 0).trans rfl)
  · have := alloc_cell (w.alloc (.cells #[x] t)) #[y] t' 0
    rw [World.size_alloc] at this
    exact this
theorem any_not_all (c : List Int) (l : List Term) : (!l.any fun t => !holdT c t) = holdL c l := by
  unfold holdL holdT
  rw [List.any_eq_not_all_not]
  simp
theorem predB_nil {g : Nat} {lb : Array Value} {p : Term → Bool} {w : World} : PredB Tryz.prog g lb [] p w := fun _ _ h => by cases h
set_option maxRecDepth 100000 in
set_option maxHeartbeats 1000000 in
theorem incHolds_any (v lv cv : Value) (ns : List Nat) (l : List Term) (c : List Int) (w : World) (h : UniRd w (Lt w.heap.size) v ns) (ho : NsOk ns) (hl : SliceRd tTerm w (Lt w.heap.size) lv l) (hcv : SliceRd tInt w (Lt w.heap.size) cv c) (hc : l ≠ [] → ChoiceOk ns c)
    (hu : ∀ t ∈ l, 0 ≤ t.unit ∧ t.unit < ns.length) :
    Calls Tryz.prog 19 #[v, lv, cv] w fun e w' => e = .returned (.bool (holdL c l)) ∧ Below w.heap.size w w' := by
  have HH := hid h
  have HL := hid hl
  have eg := enters_of (P := Tryz.prog) Tryz.func41 (by kernel_rfl) rfl
  obtain ⟨g, cap0, rfl, hg, -⟩ := h
  obtain ⟨A, cap, rfl, -⟩ := hl.terms
  obtain ⟨B, bcap, rfl, -⟩ := hcv.ints
  obtain ⟨w0, hw0⟩ : ∃ w0 : World, w0 = (w.alloc (.cells #[.slice (some ⟨g, 0, none⟩) ns.length cap0] 27)).alloc (.cells #[.slice B c.length bcap] 22) := ⟨_, rfl⟩
  obtain ⟨hb0, hs0, q0, q1⟩ := two_boxes' hw0
  have hp : PredB Tryz.prog 41 #[.pointer (some ⟨w.heap.size, 0, none⟩), .pointer (some ⟨w.heap.size + 1, 0, none⟩)] l (fun t => !holdT c t) w0 := by
    by_cases hn : l = []
    · rw [hn]; exact predB_nil
    · exact holds_clos _ _ _ ns c l _ _ w0 rfl (uni_later HH.out hb0) ho (hcv.lift hb0 hb0.size) (hc hn) hu (by omega) (by omega) q0 q1
  have HCALL := hid (contains_any _ l (fun t => !holdT c t) 41 #[.pointer (some ⟨w.heap.size, 0, none⟩), .pointer (some ⟨w.heap.size + 1, 0, none⟩)] eg w0 (HL.out.lift hb0 hb0.size) hp)
  have HW0 := hid hw0
  have HB0 := hid hb0
  clear hl hcv hc hu q0 q1 hp hb0 hs0 hw0 eg
  go_enter Tryz.func19, Tryz.ntmps19
  go_wp2_with (go_at_call 40; rw [← HW0.out]; refine HCALL.out.mono ?_; rintro e w1 ⟨rfl, hb'⟩)
  go_ret
  exact ⟨ret_bool (any_not_all c l), bstep HB0.out hb'⟩
/- Hold. -/
set_option maxHeartbeats 1000000 in
theorem rhold_any (v lv cv : Value) (ns : List Nat) (l : List Term) (c : List Int) (w : World) (h : UniRd w (Lt w.heap.size) v ns) (ho : NsOk ns) (hl : SliceRd tTerm w (Lt w.heap.size) lv l) (hcv : SliceRd tInt w (Lt w.heap.size) cv c) (hc : ChoiceOk ns c)
    (hu : ∀ t ∈ l, 0 ≤ t.unit ∧ t.unit < ns.length) :
    Calls Tryz.prog 20 #[v, lv, cv] w fun e w' => e = .returned (.bool (holdL c l)) ∧ Below w.heap.size w w' := by
  have HH := hid h
  have HO := hid ho
  have HCO := hid hc
  have HCV := hid hcv
  have HUU := hid hu
  obtain ⟨g, cap0, rfl, hg, -⟩ := h
  obtain ⟨A, cap, rfl, hcap, hmax, hcc⟩ := hl.terms
  obtain ⟨B, bcap, rfl, -⟩ := hcv.ints
  unfold maxLen at hmax
  have HC := hid hcc
  clear hcc hl ho hcv hc hu
  go_enter Tryz.func20, Tryz.ntmps20
  go_wp2_with fail
  obtain ⟨w0, hw0⟩ : ∃ w0 : World, w0 = w.alloc (.cells #[.slice (some ⟨g, 0, none⟩) ns.length cap0] 27) := ⟨_, rfl⟩
  have hb0 : Below w.heap.size w w0 := hw0 ▸ balloc (b0 w) _
  have hl0 : w.heap.size < w0.heap.size := by rw [hw0]; simp
  have q0 : w0.cell? ⟨w.heap.size, 0, none⟩ = some (.slice (some ⟨g, 0, none⟩) ns.length cap0) := by rw [hw0, alloc_cell]; rfl
  have HB0 := hid hb0
  have HQ := hid q0
  have HU0 := hid (uni_later HH.out hb0)
  have HCV0 := hid (HCV.out.lift hb0 hb0.size)
  rw [← hw0]
  clear hw0 hb0 q0
  go_loopw [7] (fun iv wr => ∃ k : Nat, k ≤ l.length ∧ iv = .int .i64 k ∧ Hid (Below w0.heap.size w0 wr) ∧ Hid (∀ j, (hj : j < l.length) → j < k → holdT c l[j] = true)) (fun iv _ => l.length - (intOf iv).toNat)
  case atStart => exact ⟨0, Nat.zero_le _, rfl, hid (b0 w0), hid (fun j _ hj => absurd hj (by omega))⟩
  case round =>
    obtain ⟨k, hk, rfl, hb, hn⟩ := hrel
    by_cases hlt : k < l.length
    · obtain ⟨gg, o, hA, hF, g0, g1, -, -⟩ := HC.out k hlt
      subst hA
      have hFr : gg < wr.heap.size := Nat.lt_of_lt_of_le hF (Nat.le_trans HB0.out.size hb.out.size)
      have hlr : w.heap.size < wr.heap.size := Nat.lt_of_lt_of_le hl0 hb.out.size
      have l0 := later_cell hlr (cell_below hb.out hl0 HQ.out)
      have l1 := later_cell hFr (cell_below hb.out (Nat.lt_of_lt_of_le hF HB0.out.size) (cell_below HB0.out hF g0))
      have l2 := later_cell hFr (cell_below hb.out (Nat.lt_of_lt_of_le hF HB0.out.size) (cell_below HB0.out hF g1))
      have i1 : (0 : Int) ≤ ↑k := by omega
      have i2 : (↑k : Int) < ↑l.length := by omega
      have HUR := hid (uni_later HU0.out hb.out)
      have HCR := hid (HCV0.out.lift hb.out hb.out.size)
      have HT := hid (HUU.out _ (List.getElem_mem hlt))
      have hcall := fun e : Later wr => rholds_any _ _ ns c l[k] e.w (uni_lat HUR.out e) HO.out (HCR.out.lift e.below e.below.size) HCO.out HT.out
      obtain ⟨a, ha⟩ : ∃ a, l[k].unit = a := ⟨_, rfl⟩
      obtain ⟨m, hm⟩ : ∃ m, l[k].mask = m := ⟨_, rfl⟩
      rw [ha, hm] at hcall
      rw [ha] at l1
      rw [hm] at l2
      clear g0 g1 ha hm
      cases hq : holdT c l[k] with
      | true =>
        have HN : Hid (∀ j, (hj : j < l.length) → j < k + 1 → holdT c l[j] = true) := hid (fun j hj hjk => if e : j = k then by subst e; exact hq else hn.out j hj (by omega))
        rw [hq] at hcall
        have HCALL := hid hcall
        clear hq hcall
        go_wp2_with fail
        (refine wp_region_later (by kernel_rfl) (by kernel_rfl) ?_; (repeat (go_big_quiet_step ((go_at_call 43; exact Calls.later (HCALL.out _) rfl)))); refine wpQuiet_nil ?_; rintro _ ⟨⟨w1, hb1⟩, rfl⟩)
        go_wp2
        exact ⟨⟨k + 1, by omega, by go_num, hid (bstep hb.out hb1), HN⟩, by simp [intOf]; omega⟩
      | false =>
        have HN : Hid (holdL c l = false) := hid (by unfold holdL; exact List.all_eq_false.2 ⟨_, List.getElem_mem hlt, by unfold holdT at hq; rw [hq]; decide⟩)
        rw [hq] at hcall
        have HCALL := hid hcall
        clear hq hcall
        go_wp2_with fail
        (refine wp_region_later (by kernel_rfl) (by kernel_rfl) ?_; (repeat (go_big_quiet_step ((go_at_call 43; exact Calls.later (HCALL.out _) rfl)))); refine wpQuiet_nil ?_; rintro _ ⟨⟨w1, hb1⟩, rfl⟩)
        go_wp2
        go_ret
        exact ⟨ret_bool HN.out.symm, bstep HB0.out (bstep hb.out hb1)⟩
    · have HN : Hid (holdL c l = true) := hid (by
        unfold holdL
        rw [List.all_eq_true]
        intro t ht
        obtain ⟨j, hj, rfl⟩ := List.getElem_of_mem ht
        exact hn.out j hj (by omega))
      go_wp2
      go_ret
      exact ⟨ret_bool HN.out.symm, bstep HB0.out hb.out⟩
end Go.Proofs.YtilkhofgcgfnlaaGreat
