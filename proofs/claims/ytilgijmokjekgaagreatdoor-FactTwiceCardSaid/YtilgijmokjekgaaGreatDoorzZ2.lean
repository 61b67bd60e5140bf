import Derived.Test.YtilgijmokjekgaaGreatDoorzGW
import Derived.Test.YtilgijmokjekgaaGreatDoorzN
import Derived.Deep.RegionWith
import Derived.Outline
import Derived.Test.YtilgijmokjekgaaGreatDoorzA7
section
/- Contracts: term.May, incomp.May, ref21.May, ref21.All, at any term and any list. -/
namespace Go.Proofs.YtilgijmokjekgaaGreatDoor
open Go Go.RowKit

theorem full_form {ns : List Nat} (ho : NsOk ns) (u : Int) : ∃ f : Nat, fullF ns u = (f : Int) ∧ f ≤ 31 ∧ ∀ m, m ≤ f → m &&& f = m := by
  by_cases h : 0 ≤ u
  · refine ⟨fullN ns u.toNat, fullF_eq _ h, fullN_le ho _, fun m hm => ?_⟩
    by_cases h2 : u.toNat < ns.length
    · exact full_and h2 hm
    · rw [fullN_out h2] at hm ⊢
      have : m = 0 := by omega
      subst this; rfl
  · refine ⟨0, fullF_neg u (by omega), by omega, fun m hm => ?_⟩
    have : m = 0 := by omega
    subst this; rfl
theorem nm_int (m : Int) (h : I64 m) : (0 ≤ m ∧ (nm m : Int) = m) ∨ (m < 0 ∧ 9223372036854775808 ≤ nm m) := by
  unfold nm
  rw [BitVec.toNat_ofInt]
  obtain ⟨h1, h2⟩ := h
  by_cases h0 : 0 ≤ m
  · exact .inl ⟨h0, by omega⟩
  · exact .inr ⟨by omega, by omega⟩
theorem andnot_may {m : Int} {f : Nat} (hm : I64 m) (hf : f ≤ 31) (hs : ∀ m, m ≤ f → m &&& f = m) : (bits .andNot .i64 m (f : Int) == 0) = decide (0 ≤ m ∧ m ≤ f) := by
  rw [bandn, nm_nat (by omega)]
  apply decide_eq_decide.2
  have h1 : nm m &&& f ≤ f := Nat.and_le_right
  constructor
  · intro h
    rw [h] at h1
    rcases nm_int m hm with ⟨h2, h3⟩ | ⟨h2, h3⟩
    · omega
    · omega
  · rintro ⟨h2, h3⟩
    rcases nm_int m hm with ⟨h4, h5⟩ | ⟨h4, h5⟩
    · exact hs _ (by omega)
    · omega
theorem and_may {m : Int} {f : Nat} (hm : I64 m) (hf : f ≤ 31) (hs : ∀ m, m ≤ f → m &&& f = m) : (bits .and .i64 m (f : Int) == m) = decide (0 ≤ m ∧ m ≤ f) := by
  have h1 : nm m &&& f ≤ f := Nat.and_le_right
  rw [band _ _ (by rw [nm_nat (k := f) (by omega)]; omega), nm_nat (k := f) (by omega)]
  by_cases h : 0 ≤ m ∧ m ≤ f
  · rw [decide_eq_true h]
    rcases nm_int m hm with ⟨h4, h5⟩ | ⟨h4, h5⟩
    · rw [hs _ (by omega)]
      exact beq_iff_eq.2 h5
    · omega
  · rw [decide_eq_false h]
    apply beq_false_of_ne
    intro e
    exact h (by omega)
theorem mayT_parts {ns : List Nat} {u m : Int} {f : Nat} (hf : fullF ns u = (f : Int)) : mayT ns ⟨u, m⟩ = (decide (m ≠ 0) && (decide (0 ≤ m ∧ m ≤ f) && decide (m ≠ f))) := by
  unfold mayT
  dsimp only
  rw [hf, Bool.eq_iff_iff]
  simp only [Bool.and_eq_true, decide_eq_true_eq]
  omega
set_option maxHeartbeats 2000000 in
theorem tmayB_any (v : Value) (ns : List Nat) (t : Term) (w : World) (h : UniRd w (Lt w.heap.size) v ns) (ho : NsOk ns) (hi : I64 t.mask) :
    Calls Tryz.prog 88 #[v, .agg #[.int .i64 t.unit, .int .i64 t.mask]] w fun e w' => e = .returned (.bool (mayT ns t)) ∧ Below w.heap.size w w' := by
  obtain ⟨u, m⟩ := t
  dsimp only at hi ⊢
  obtain ⟨f, hf, hf31, hfs⟩ := full_form ho u
  have HR := hid (mayT_parts (m := m) hf)
  have hz := andnot_may hi hf31 hfs
  have HH := hid h
  obtain ⟨g, cap0, rfl, hg, -⟩ := h
  obtain ⟨w0, hw0⟩ : ∃ w0 : World, w0 = (w.alloc (.cells #[.slice (some ⟨g, 0, none⟩) ns.length cap0] 25)).alloc (.cells #[.int .i64 u, .int .i64 m] 55) := ⟨_, rfl⟩
  obtain ⟨hb0, hs0, q0, q1, q2⟩ := two_boxes hw0
  have HCALL := hid (full_any _ ns u w0 _ (uni_later HH.out hb0) ho (fun _ h => h))
  have HQ1 := hid q1
  have HQ2 := hid q2
  have HS0 := hid hs0
  have HB0 := hid hb0
  have HW0 := hid hw0
  rw [hf] at HCALL
  clear hw0 hb0 q0 q1 q2 hs0 ho hf hf31 hfs
  go_enter Tryz.func88, Tryz.ntmps88
  by_cases c1 : m = 0
  · subst c1
    rw [decide_eq_false (fun h => h rfl), Bool.false_and] at HR
    go_wp2_with (go_at_call 78; rw [← HW0.out]; refine HCALL.out.mono ?_; rintro e w1 ⟨rfl, hb1⟩; have c1 := cell_below hb1 (by have := HS0.out; omega) HQ1.out; have c2 := cell_below hb1 (by have := HS0.out; omega) HQ2.out; have HB1 := hid hb1; clear hb1)
    go_ret
    exact ⟨ret_bool HR.out.symm, bstep HB0.out HB1.out⟩
  · have n1 : (m == 0) = false := beq_false_of_ne c1
    have n3 : (m != 0) = true := bne_iff_ne.2 c1
    rw [decide_eq_true c1, Bool.true_and] at HR
    cases hq : decide (0 ≤ m ∧ m ≤ f) with
    | false =>
      rw [hq] at hz HR
      rw [Bool.false_and] at HR
      clear hq
      go_wp2_with (go_at_call 78; rw [← HW0.out]; refine HCALL.out.mono ?_; rintro e w1 ⟨rfl, hb1⟩; have c1 := cell_below hb1 (by have := HS0.out; omega) HQ1.out; have c2 := cell_below hb1 (by have := HS0.out; omega) HQ2.out; have HB1 := hid hb1; clear hb1)
      go_ret
      exact ⟨ret_bool HR.out.symm, bstep HB0.out HB1.out⟩
    | true =>
      rw [hq] at hz HR
      rw [Bool.true_and] at HR
      clear hq
      obtain ⟨b, hb⟩ : ∃ b, decide (m ≠ (f : Int)) = b := ⟨_, rfl⟩
      have n5 : (m != (f : Int)) = b := by rw [← hb, bne, Bool.eq_iff_iff]; simp
      rw [hb] at HR
      clear hb
      go_wp2_with (go_at_call 78; rw [← HW0.out]; refine HCALL.out.mono ?_; rintro e w1 ⟨rfl, hb1⟩; have c1 := cell_below hb1 (by have := HS0.out; omega) HQ1.out; have c2 := cell_below hb1 (by have := HS0.out; omega) HQ2.out; have HB1 := hid hb1; clear hb1)
      go_ret
      exact ⟨ret_bool HR.out.symm, bstep HB0.out HB1.out⟩
theorem rest_false {ns : List Nat} {l : List Term} {k : Nat} (hk : k < l.length) (h : mayT ns l[k] = false) : mayL ns l = false := mayL_bad hk (by rw [okAt_lt hk, h]; rfl)
set_option maxRecDepth 100000 in
set_option maxHeartbeats 2000000 in
theorem incMayB_any (v lv : Value) (ns : List Nat) (l : List Term) (w : World) (h : UniRd w (Lt w.heap.size) v ns) (ho : NsOk ns) (hl : SliceRd tTerm w (Lt w.heap.size) lv l) :
    Calls Tryz.prog 49 #[v, lv] w fun e w' => e = .returned (.bool (mayL ns l)) ∧ Below w.heap.size w w' := by
  have HH := hid h
  have HO := hid ho
  obtain ⟨g, cap0, rfl, hg, -⟩ := h
  obtain ⟨A, cap, rfl, hcap, hmax, hcc⟩ := hl.terms
  unfold maxLen at hmax
  have HC := hid hcc
  clear hcc hl ho
  go_enter Tryz.func49, Tryz.ntmps49
  go_wp2_with fail
  obtain ⟨w0, hw0⟩ : ∃ w0 : World, w0 = w.alloc (.cells #[.slice (some ⟨g, 0, none⟩) ns.length cap0] 25) := ⟨_, rfl⟩
  have hb0 : Below w.heap.size w w0 := hw0 ▸ balloc (b0 w) _
  have hl0 : w.heap.size < w0.heap.size := by rw [hw0]; simp
  have q0 : w0.cell? ⟨w.heap.size, 0, none⟩ = some (.slice (some ⟨g, 0, none⟩) ns.length cap0) := by rw [hw0, alloc_cell]; rfl
  have HB0 := hid hb0
  have HQ := hid q0
  have HU0 := hid (uni_later HH.out hb0)
  rw [← hw0]
  clear hw0 hb0 q0
  go_loopw [5, 6, 9] (fun _ _ iv wr => ∃ k : Nat, k ≤ l.length ∧ iv = .int .i64 k ∧ Hid (Below w0.heap.size w0 wr) ∧ Hid (∀ j, j < k → okAt ns l j = true)) (fun _ _ iv _ => l.length - (intOf iv).toNat)
  case atStart => exact ⟨0, Nat.zero_le _, rfl, hid (b0 w0), hid (fun j hj => absurd hj (by omega))⟩
  case round =>
    obtain ⟨k, hk, rfl, hb, hall⟩ := hrel
    by_cases hlt : k < l.length
    · obtain ⟨gg, o, hA, hF, g0, g1, hi0, hi1⟩ := HC.out k hlt
      subst hA
      have HKA := hid (okAt_lt (ns := ns) hlt)
      have HBAD := hid (fun (e : okAt ns l k = false) => mayL_bad hlt e)
      have HGO := hid (fun (e : okAt ns l k = true) j (hj : j < k + 1) => if e2 : j = k then e2 ▸ e else hall.out j (by omega))
      obtain ⟨t, ht⟩ : ∃ t, l[k] = t := ⟨_, rfl⟩
      rw [ht] at g0 g1 hi1 HKA
      obtain ⟨u, m⟩ := t
      dsimp only at g0 g1 hi1
      have c0 := cell_below hb.out (Nat.lt_of_lt_of_le hF HB0.out.size) (cell_below HB0.out hF g0)
      have c1 := cell_below hb.out (Nat.lt_of_lt_of_le hF HB0.out.size) (cell_below HB0.out hF g1)
      have i1 : (0 : Int) ≤ ↑k := by omega
      have i2 : (↑k : Int) < ↑l.length := by omega
      clear g0 g1 ht
      go_wp2_with fail
      obtain ⟨wb, hwb⟩ : ∃ wb : World, wb = wr.alloc (.cells #[.int .i64 u, .int .i64 m] 55) := ⟨_, rfl⟩
      have hbb : Below wr.heap.size wr wb := hwb ▸ balloc (b0 wr) _
      have hlb : wr.heap.size < wb.heap.size := by rw [hwb]; simp
      have y0 : wb.cell? ⟨wr.heap.size, 0, none⟩ = some (.int .i64 u) := by rw [hwb, alloc_cell]; rfl
      have y1 : wb.cell? ⟨wr.heap.size, 1, none⟩ = some (.int .i64 m) := by rw [hwb, alloc_cell]; rfl
      have hb2 := bstep hb.out hbb
      have HB2 := hid hb2
      have hFb : gg < wb.heap.size := Nat.lt_of_lt_of_le hF (Nat.le_trans HB0.out.size hb2.size)
      have l0 := later_cell (Nat.lt_of_lt_of_le hl0 hb2.size) (cell_below hb2 hl0 HQ.out)
      have l1 := later_cell hlb y0
      have l2 := later_cell hlb y1
      have HUB := hid (uni_later HU0.out hb2)
      have HTM := hid (fun e : Later wb => tmayB_any _ ns ⟨u, m⟩ e.w (uni_lat HUB.out e) HO.out hi1)
      rw [← hwb]
      clear hwb hbb y0 y1 hb2 c0 c1
      cases hmt : mayT ns ⟨u, m⟩ with
      | false =>
        rw [hmt] at HKA HTM
        have HR := hid (HBAD.out (by rw [HKA.out]; rfl))
        clear hmt
        by_cases h0 : k = 0
        · have z1 : decide (0 < k) = false := decide_eq_false (by omega)
          have z2 : decide ((0 : Int) < ↑k) = false := decide_eq_false (by omega)
          clear h0
          (refine wp_region_later (by kernel_rfl) (by kernel_rfl) ?_; (repeat (go_big_quiet_step ((go_at_call 88; exact Calls.later (HTM.out _) rfl)))); refine wpQuiet_nil ?_; rintro _ ⟨⟨w1, hb1⟩, rfl⟩)
          go_wp2
          go_ret
          exact ⟨ret_bool HR.out.symm, bstep HB0.out (bstep HB2.out hb1)⟩
        · obtain ⟨gg2, o2, hA2, hF2, e0, -, -, -⟩ := HC.out (k - 1) (by omega)
          cases hA2
          obtain ⟨a, ha⟩ : ∃ a, (l[k-1]'(by omega)).unit = a := ⟨_, rfl⟩
          rw [ha] at e0
          have l3 := later_cell hFb (cell_below HB2.out (Nat.lt_of_lt_of_le hF2 HB0.out.size) (cell_below HB0.out hF2 e0))
          have i3 : (0 : Int) ≤ ↑k - 1 := by omega
          have i4 : (↑k : Int) - 1 < ↑l.length := by omega
          have i5 : ((↑k : Int) - 1).toNat = k - 1 := by omega
          have i6 : IntKind.i64.wrap (↑k - 1) = (↑k : Int) - 1 := IntWalk.i64_in _ (by omega)
          have z1 : decide (0 < k) = true := decide_eq_true (by omega)
          clear h0 ha e0
          (refine wp_region_later (by kernel_rfl) (by kernel_rfl) ?_; (repeat (go_big_quiet_step ((go_at_call 88; exact Calls.later (HTM.out _) rfl)))); refine wpQuiet_nil ?_; rintro _ ⟨⟨w1, hb1⟩, rfl⟩)
          go_wp2
          go_ret
          exact ⟨ret_bool HR.out.symm, bstep HB0.out (bstep HB2.out hb1)⟩
      | true =>
        rw [hmt, Bool.true_and] at HKA
        rw [hmt] at HTM
        clear hmt
        by_cases h0 : k = 0
        · have z1 : decide (0 < k) = false := decide_eq_false (by omega)
          have z2 : decide ((0 : Int) < ↑k) = false := decide_eq_false (by omega)
          have HG := hid (HGO.out (by rw [HKA.out, decide_eq_true h0]; rfl))
          clear h0
          (refine wp_region_later (by kernel_rfl) (by kernel_rfl) ?_; (repeat (go_big_quiet_step ((go_at_call 88; exact Calls.later (HTM.out _) rfl)))); refine wpQuiet_nil ?_; rintro _ ⟨⟨w1, hb1⟩, rfl⟩)
          go_wp2
          exact ⟨⟨k + 1, by omega, by go_num, hid (bstep HB2.out hb1), HG⟩, by simp [intOf]; omega⟩
        · obtain ⟨gg2, o2, hA2, hF2, e0, -, -, -⟩ := HC.out (k - 1) (by omega)
          cases hA2
          obtain ⟨a, ha⟩ : ∃ a, (l[k-1]'(by omega)).unit = a := ⟨_, rfl⟩
          rw [ha] at e0
          rw [decide_eq_false h0, Bool.false_or, ha] at HKA
          have l3 := later_cell hFb (cell_below HB2.out (Nat.lt_of_lt_of_le hF2 HB0.out.size) (cell_below HB0.out hF2 e0))
          have i3 : (0 : Int) ≤ ↑k - 1 := by omega
          have i4 : (↑k : Int) - 1 < ↑l.length := by omega
          have i5 : ((↑k : Int) - 1).toNat = k - 1 := by omega
          have i6 : IntKind.i64.wrap (↑k - 1) = (↑k : Int) - 1 := IntWalk.i64_in _ (by omega)
          have z1 : decide (0 < k) = true := decide_eq_true (by omega)
          clear h0 ha e0
          by_cases hau : a < u
          · have z2 : decide (u ≤ a) = false := decide_eq_false (by omega)
            have HG := hid (HGO.out (by rw [HKA.out]; exact decide_eq_true hau))
            clear hau
            (refine wp_region_later (by kernel_rfl) (by kernel_rfl) ?_; (repeat (go_big_quiet_step ((go_at_call 88; exact Calls.later (HTM.out _) rfl)))); refine wpQuiet_nil ?_; rintro _ ⟨⟨w1, hb1⟩, rfl⟩)
            go_wp2
            exact ⟨⟨k + 1, by omega, by go_num, hid (bstep HB2.out hb1), HG⟩, by simp [intOf]; omega⟩
          · have z2 : decide (u ≤ a) = true := decide_eq_true (by omega)
            have HR := hid (HBAD.out (by rw [HKA.out]; exact decide_eq_false hau))
            clear hau
            (refine wp_region_later (by kernel_rfl) (by kernel_rfl) ?_; (repeat (go_big_quiet_step ((go_at_call 88; exact Calls.later (HTM.out _) rfl)))); refine wpQuiet_nil ?_; rintro _ ⟨⟨w1, hb1⟩, rfl⟩)
            go_wp2
            go_ret
            exact ⟨ret_bool HR.out.symm, bstep HB0.out (bstep HB2.out hb1)⟩
    · have HR := hid (show mayL ns l = true from mayL_iff.2 fun j hj => hall.out j (by omega))
      go_wp2
      go_ret
      exact ⟨ret_bool HR.out.symm, bstep HB0.out hb.out⟩
end Go.Proofs.YtilgijmokjekgaaGreatDoor
end
section
/- Contracts: slices.Equal, incomp.Same at terms; linchpinmade.World, read. -/
namespace Go.Proofs.YtilgijmokjekgaaGreatDoor
open Go Go.RowKit
attribute [local go_sem ↓] Go.wp_at_zero Go.wp_at_succ

set_option maxRecDepth 100000 in
set_option maxHeartbeats 400000 in
theorem equal_any (v v' : Value) (l l' : List Term) (w : World) (h : SliceRd tTerm w (Lt w.heap.size) v l) (h' : SliceRd tTerm w (Lt w.heap.size) v' l') :
    Calls Tryz.prog 89 #[v, v'] w fun e w' => e = .returned (.bool (decide (l = l'))) ∧ Below w.heap.size w w' := by
  obtain ⟨A, cap, rfl, hcap, hmax, hc⟩ := h.terms
  obtain ⟨A', cap', rfl, hcap', hmax', hc'⟩ := h'.terms
  unfold maxLen at hmax hmax'
  have HC := hid hc
  have HC' := hid hc'
  clear hc hc' h h'
  by_cases hl : l.length = l'.length
  · have hb1 : ((l.length : Int) != (l'.length : Int)) = false := by simp [hl]
    have HL := hid hl
    clear hl
    go_enter Tryz.func89, Tryz.ntmps89
    go_wp2
    go_loopw [5, 13] (fun _ iv wr => ∃ k : Nat, k ≤ l.length ∧ iv = .int .i64 k ∧ Hid (l.take k = l'.take k) ∧ Below w.heap.size w wr) (fun _ iv _ => l.length - (intOf iv).toNat)
    case atStart => exact ⟨0, Nat.zero_le _, rfl, hid rfl, Below.refl _ _⟩
    case round =>
      obtain ⟨k, hk, rfl, ht, hb⟩ := hrel
      by_cases hlt : k < l.length
      · have hlt' : k < l'.length := by have := HL.out; omega
        obtain ⟨g, o, hA, hF, g0, g1, -, -⟩ := HC.out k hlt
        obtain ⟨g', o', hA', hF', g0', g1', -, -⟩ := HC'.out k hlt'
        subst hA hA'
        have c0 := cell_below hb hF g0
        have c1 := cell_below hb hF g1
        have d0 := cell_below hb hF' g0'
        have d1 := cell_below hb hF' g1'
        clear g0 g1 g0' g1'
        have i1 : (0 : Int) ≤ ↑k := by omega
        have i2 : (↑k : Int) < ↑l.length := by omega
        have i3 : (↑k : Int) < ↑l'.length := by omega
        have hn := fun W => term_neq l[k] l'[k] W
        have hgd := fun op a b W => term_guard op a b l[k] l'[k] W
        by_cases he : l[k] = l'[k]
        · have hd : decide (l[k] = l'[k]) = true := decide_eq_true he
          have HE := hid he
          clear he
          go_wp2
          go_quiet (fail)
          go_wp2
          exact ⟨⟨k + 1, by omega, by go_num, hid (by rw [List.take_succ_eq_append_getElem hlt, List.take_succ_eq_append_getElem hlt', ht.out, HE.out]), below_drewN hb _⟩, by simp [intOf]; omega⟩
        · have hd : decide (l[k] = l'[k]) = false := decide_eq_false he
          have HE := hid he
          clear he
          go_wp2
          go_quiet (fail)
          go_wp2
          go_ret
          exact ⟨by rw [decide_eq_false (p := l = l') (fun e => HE.out (by subst e; rfl))]; rfl, below_drewN hb _⟩
      · have HE : Hid (l = l') := hid (by
          have := ht.out
          rwa [List.take_of_length_le (by omega), List.take_of_length_le (by have := HL.out; omega)] at this)
        clear ht
        go_wp2
        go_ret
        exact ⟨by rw [decide_eq_true HE.out]; rfl, hb⟩
  · have hb1 : ((l.length : Int) != (l'.length : Int)) = true := by simp; omega
    have HL := hid hl
    clear hl
    go_enter Tryz.func89, Tryz.ntmps89
    go_wp2
    go_ret
    exact ⟨by rw [decide_eq_false (p := l = l') (fun e => HL.out (by rw [e]))]; rfl, Below.refl _ _⟩
theorem isame_any (v v' : Value) (l l' : List Term) (w : World) (h : SliceRd tTerm w (Lt w.heap.size) v l) (h' : SliceRd tTerm w (Lt w.heap.size) v' l') :
    Calls Tryz.prog 50 #[v, v'] w fun e w' => e = .returned (.bool (decide (l = l'))) ∧ Below w.heap.size w w' := by
  have hcall := equal_any v v' l l' w h h'
  obtain ⟨A, cap, rfl, -⟩ := h.terms
  obtain ⟨A', cap', rfl, -⟩ := h'.terms
  clear h h'
  generalize decide (l = l') = q at hcall ⊢
  go_enter Tryz.func50, Tryz.ntmps50
  go_wp2_with (go_at_call 89; refine hcall.mono ?_; rintro e w1 ⟨rfl, hb1⟩)
  go_ret
  exact ⟨rfl, hb1⟩
end Go.Proofs.YtilgijmokjekgaaGreatDoor
end
