/- Contracts: incomp.Within, ref21.Tells, ref21.Within. -/
import Derived.Test.YtilkhofgcgfnlaaGreatN7
import Derived.Deep.RegionWith
import Derived.Outline
namespace Go.Proofs.YtilkhofgcgfnlaaGreat
open Go Go.RowKit

theorem maskN_le {ns : List Nat} (ho : NsOk ns) {M : Nat → Nat} (hM : IncOk ns M) (u : Int) : maskN ns M u ≤ 31 := by
  unfold maskN
  split
  · omega
  · exact hM.le ho _ (by omega)
/-- Does b say at a term's unit no more than the term? -/
def wiT (ns : List Nat) (Mb : Nat → Nat) (t : Term) : Bool := decide (maskN ns Mb t.unit &&& nm t.mask = maskN ns Mb t.unit)
set_option maxRecDepth 100000 in
set_option maxHeartbeats 1000000 in
theorem within_clos (v bv : Value) (sv : Value) (ns : List Nat) (Mb : Nat → Nat) (l : List Term) (b1 b2 : Nat) (w : World) (hv : v = .agg #[sv]) (h : UniRd w (Lt w.heap.size) v ns) (ho : NsOk ns) (hbv : SliceRd tTerm w (Lt w.heap.size) bv (canon ns Mb)) (hM : IncOk ns Mb)
    (hb1 : b1 < w.heap.size) (hb2 : b2 < w.heap.size) (hc1 : w.cell? ⟨b1, 0, none⟩ = some sv) (hc2 : w.cell? ⟨b2, 0, none⟩ = some bv) :
    PredB Tryz.prog 47 #[.pointer (some ⟨b1, 0, none⟩), .pointer (some ⟨b2, 0, none⟩)] l (fun t => !wiT ns Mb t) w := fun W t ht hw => by
  subst hv
  have hb1W := Nat.lt_of_lt_of_le hb1 hw.size
  have hb2W := Nat.lt_of_lt_of_le hb2 hw.size
  have HW := hid hw
  obtain ⟨A, cap, rfl, -⟩ := hbv.terms
  obtain ⟨a, ha⟩ : ∃ a, t.unit = a := ⟨_, rfl⟩
  obtain ⟨m, hm⟩ : ∃ m, t.mask = m := ⟨_, rfl⟩
  have HT : Hid (wiT ns Mb t = (bits .andNot .i64 ((maskN ns Mb a : Nat) : Int) m == 0)) := hid (by
    rw [bandn, nm_nat (by have := maskN_le ho hM a; omega)]
    unfold wiT
    rw [ha, hm])
  obtain ⟨w0, hw0⟩ : ∃ w0 : World, w0 = W.alloc (.cells #[.int .i64 a, .int .i64 m] 31) := ⟨_, rfl⟩
  have hb0 : Below W.heap.size W w0 := hw0 ▸ balloc (b0 W) _
  have hl0 : W.heap.size < w0.heap.size := by rw [hw0]; simp
  have y0 : w0.cell? ⟨W.heap.size, 0, none⟩ = some (.int .i64 a) := by rw [hw0, alloc_cell]; rfl
  have y1 : w0.cell? ⟨W.heap.size, 1, none⟩ = some (.int .i64 m) := by rw [hw0, alloc_cell]; rfl
  have hbb := hw.trans (hb0.mono hw.size)
  have l0 := later_cell (Nat.lt_of_lt_of_le hb1W hb0.size) (cell_below hbb hb1 hc1)
  have l1 := later_cell (Nat.lt_of_lt_of_le hb2W hb0.size) (cell_below hbb hb2 hc2)
  have l2 := later_cell hl0 y0
  have l3 := later_cell hl0 y1
  have hu0 := uni_later h hbb
  have hv0 := hbv.lift hbb hbb.size
  have HCALL := hid (fun e : Later w0 => mask_any _ _ ns (canon ns Mb) a e.w (uni_lat hu0 e) ho (hv0.lift e.below e.below.size))
  rw [mask_canon] at HCALL
  have HB0 := hid hb0
  have HW0 := hid hw0
  show Calls Tryz.prog 47 #[.agg #[.int .i64 t.unit, .int .i64 t.mask], .pointer (some ⟨b1, 0, none⟩), .pointer (some ⟨b2, 0, none⟩)] W _
  rw [ha, hm]
  clear h hbv hc1 hc2 ho hM hw ht ha hm hb0 hw0 y0 y1 hbb hu0 hv0
  go_enter Tryz.func47, Tryz.ntmps47
  go_wp2_with fail
  rw [← HW0.out]
  (refine wp_region_later (by kernel_rfl) (by kernel_rfl) ?_; (repeat (go_big_quiet_step ((go_at_call 45; exact Calls.later (HCALL.out _) rfl)))); refine wpQuiet_nil ?_; rintro _ ⟨⟨w1, hb1⟩, rfl⟩)
  go_wp2
  go_ret
  exact ⟨by show _ = Ending.returned (.bool (!wiT ns Mb t)); rw [HT.out]; rfl, HW.out.trans ((bstep HB0.out hb1).mono HW.out.size)⟩
theorem any_not_within (ns : List Nat) (Mb : Nat → Nat) (l : List Term) : (!l.any fun t => !wiT ns Mb t) = withinL ns l Mb := by
  unfold withinL wiT
  rw [List.any_eq_not_all_not]
  simp
set_option maxRecDepth 100000 in
set_option maxHeartbeats 1000000 in
theorem incWithin_any (v lv bv : Value) (ns : List Nat) (l : List Term) (Mb : Nat → Nat) (w : World) (h : UniRd w (Lt w.heap.size) v ns) (ho : NsOk ns) (hl : SliceRd tTerm w (Lt w.heap.size) lv l) (hbv : SliceRd tTerm w (Lt w.heap.size) bv (canon ns Mb)) (hM : IncOk ns Mb) :
    Calls Tryz.prog 24 #[v, lv, bv] w fun e w' => e = .returned (.bool (withinL ns l Mb)) ∧ Below w.heap.size w w' := by
  have HH := hid h
  have HL := hid hl
  have eg := enters_of (P := Tryz.prog) Tryz.func47 (by kernel_rfl) rfl
  obtain ⟨g, cap0, rfl, hg, -⟩ := h
  obtain ⟨A, cap, rfl, -⟩ := hl.terms
  obtain ⟨B, bcap, hbe, -⟩ := hbv.terms
  generalize (canon ns Mb).length = bn at hbe
  subst hbe
  obtain ⟨w0, hw0⟩ : ∃ w0 : World, w0 = (w.alloc (.cells #[.slice (some ⟨g, 0, none⟩) ns.length cap0] 27)).alloc (.cells #[.slice B bn bcap] 23) := ⟨_, rfl⟩
  obtain ⟨hb0, hs0, q0, q1⟩ := two_boxes' hw0
  have hp := within_clos _ _ _ ns Mb l _ _ w0 rfl (uni_later HH.out hb0) ho (hbv.lift hb0 hb0.size) hM (show w.heap.size < w0.heap.size by omega) (show w.heap.size + 1 < w0.heap.size by omega) q0 q1
  have HCALL := hid (contains_any _ l (fun t => !wiT ns Mb t) 47 #[.pointer (some ⟨w.heap.size, 0, none⟩), .pointer (some ⟨w.heap.size + 1, 0, none⟩)] eg w0 (HL.out.lift hb0 hb0.size) hp)
  have HW0 := hid hw0
  have HB0 := hid hb0
  clear hl hbv q0 q1 hp hb0 hs0 hw0 eg
  go_enter Tryz.func24, Tryz.ntmps24
  go_wp2_with (go_at_call 40; rw [← HW0.out]; refine HCALL.out.mono ?_; rintro e w1 ⟨rfl, hb'⟩)
  go_ret
  exact ⟨ret_bool (any_not_within ns Mb l), bstep HB0.out hb'⟩

/- The reference's. -/
def tellsN (h m : Nat) : Int := if h &&& m = h then 2 else if h &&& m = 0 then 0 else 1
theorem tells_any (h m : Nat) (w : World) (hh : h ≤ 31) (hm : m ≤ 31) :
    Calls Tryz.prog 48 #[.int .i64 h, .int .i64 m] w fun e w' => e = .returned (.int .i64 (tellsN h m)) ∧ w' = w := by
  have hb : bits .and .i64 (h : Int) (m : Int) = ((h &&& m : Nat) : Int) := by
    have h1 : nm (h : Int) = h := nm_nat (by omega)
    have h2 : nm (m : Int) = m := nm_nat (by omega)
    rw [band _ _ (by rw [h1, h2]; have := and_le31 (a := h) hm; omega), h1, h2]
  have HT : Hid (tellsN h m = if h &&& m = h then 2 else if h &&& m = 0 then 0 else 1) := hid rfl
  generalize h &&& m = r at hb HT
  go_enter Tryz.func48, Tryz.ntmps48
  by_cases h1 : r = h
  · have z1 : ((r : Int) == h) = true := by simp [h1]
    go_wp2
    all_goals go_ret
    exact ⟨ret_int (by rw [HT.out, if_pos h1]), rfl⟩
  · have z1 : ((r : Int) == h) = false := by simp; omega
    by_cases h2 : r = 0
    · have z2 : ((r : Int) == 0) = true := by simp; omega
      have HN := hid (show tellsN h m = 0 by rw [HT.out, if_neg h1, if_pos h2])
      clear h1 h2
      go_wp2
      all_goals go_ret
      exact ⟨ret_int HN.out.symm, rfl⟩
    · have z2 : ((r : Int) == 0) = false := by simp; omega
      have HN := hid (show tellsN h m = 1 by rw [HT.out, if_neg h1, if_neg h2])
      clear h1 h2
      go_wp2
      all_goals go_ret
      exact ⟨ret_int HN.out.symm, rfl⟩
set_option maxRecDepth 100000 in
set_option maxHeartbeats 1000000 in
theorem rwithin_any (v lv bv : Value) (ns : List Nat) (Ma Mb : Nat → Nat) (w : World) (h : UniRd w (Lt w.heap.size) v ns) (ho : NsOk ns) (hl : SliceRd tTerm w (Lt w.heap.size) lv (canon ns Ma)) (hbv : SliceRd tTerm w (Lt w.heap.size) bv (canon ns Mb)) (ha : IncOk ns Ma) (hM : IncOk ns Mb) :
    Calls Tryz.prog 25 #[v, lv, bv] w fun e w' => e = .returned (.bool (withinN ns Ma Mb)) ∧ Below w.heap.size w w' := by
  have HH := hid h
  have HO := hid ho
  have HL := hid hl
  have HBV := hid hbv
  have HA := hid ha
  have HM := hid hM
  obtain ⟨g, cap0, rfl, hg, -⟩ := h
  obtain ⟨A, cap, hae, -⟩ := hl.terms
  generalize (canon ns Ma).length = an at hae
  subst hae
  obtain ⟨B, bcap, hbe, -⟩ := hbv.terms
  generalize (canon ns Mb).length = bn at hbe
  subst hbe
  have h11 := ho.hi
  clear hl hbv ha hM ho
  go_enter Tryz.func25, Tryz.ntmps25
  go_wp2_with fail
  obtain ⟨w0, hw0⟩ : ∃ w0 : World, w0 = w.alloc (.cells #[.slice (some ⟨g, 0, none⟩) ns.length cap0] 27) := ⟨_, rfl⟩
  have hb0 : Below w.heap.size w w0 := hw0 ▸ balloc (b0 w) _
  have hl0 : w.heap.size < w0.heap.size := by rw [hw0]; simp
  have q0 : w0.cell? ⟨w.heap.size, 0, none⟩ = some (.slice (some ⟨g, 0, none⟩) ns.length cap0) := by rw [hw0, alloc_cell]; rfl
  have HB0 := hid hb0
  have HQ := hid q0
  have HU0 := hid (uni_later HH.out hb0)
  have HL0 := hid (HL.out.lift hb0 hb0.size)
  have HBV0 := hid (HBV.out.lift hb0 hb0.size)
  rw [← hw0]
  clear hw0 hb0 q0
  go_loopw [7] (fun iv wr => ∃ k : Nat, k ≤ ns.length ∧ iv = .int .i64 k ∧ Hid (Below w0.heap.size w0 wr) ∧ Hid (∀ j, j < k → Mb j &&& Ma j = Mb j)) (fun iv _ => ns.length - (intOf iv).toNat)
  case atStart => exact ⟨0, Nat.zero_le _, rfl, hid (b0 w0), hid (fun j hj => absurd hj (by omega))⟩
  case round =>
    obtain ⟨k, hk, rfl, hb, hn⟩ := hrel
    have d0 := cell_below hb.out hl0 HQ.out
    by_cases hlt : k < ns.length
    · have l0 := later_cell (Nat.lt_of_lt_of_le hl0 hb.out.size) d0
      have hur := uni_later HU0.out hb.out
      have hlr := HL0.out.lift hb.out hb.out.size
      have hbr := HBV0.out.lift hb.out hb.out.size
      have hka : I64 (k : Int) := ⟨by omega, by omega⟩
      have e1 : maskF ns (canon ns Ma) k = (Ma k : Nat) := by rw [mask_canon, maskN_nat _ hlt]
      have e2 : maskF ns (canon ns Mb) k = (Mb k : Nat) := by rw [mask_canon, maskN_nat _ hlt]
      have HCA := hid (fun e : Later wr => e1 ▸ rmask_any _ _ ns (canon ns Ma) k e.w (uni_lat hur e) HO.out (hlr.lift e.below e.below.size) hka)
      have HCB := hid (fun e : Later wr => e2 ▸ rmask_any _ _ ns (canon ns Mb) k e.w (uni_lat hur e) HO.out (hbr.lift e.below e.below.size) hka)
      have HCT := hid (fun e : Later wr => tells_any (Mb k) (Ma k) e.w (HM.out.le HO.out k hlt) (HA.out.le HO.out k hlt))
      have i2 : (↑k : Int) < ↑ns.length := by omega
      clear hur hlr hbr hka e1 e2
      by_cases hq : Mb k &&& Ma k = Mb k
      · have ht : tellsN (Mb k) (Ma k) = 2 := by unfold tellsN; rw [if_pos hq]
        rw [ht] at HCT
        have HQ2 := hid hq
        clear hq ht
        go_wp2_with fail
        (refine wp_region_later (by kernel_rfl) (by kernel_rfl) ?_; (repeat (go_big_quiet_step ((first | (go_at_call 48; exact Calls.later_same (HCT.out _) rfl) | (go_at_call_of 46 bcap; exact Calls.later (HCB.out _) rfl) | (go_at_call_of 46 cap; exact Calls.later (HCA.out _) rfl))))); refine wpQuiet_nil ?_; rintro _ ⟨⟨w1, hb1⟩, rfl⟩)
        go_wp2
        exact ⟨⟨k + 1, by omega, by go_num, hid (bstep hb.out hb1), hid (fun j hj => if e : j = k then by subst e; exact HQ2.out else hn.out j (by omega))⟩, by simp [intOf]; omega⟩
      · have HN : Hid (withinN ns Ma Mb = false) := hid (by
          cases hw : withinN ns Ma Mb with
          | false => rfl
          | true => exact absurd (withinN_iff.1 hw k hlt) hq)
        have ht2 : tellsN (Mb k) (Ma k) ≠ 2 := by unfold tellsN; rw [if_neg hq]; split <;> decide
        have hz : (tellsN (Mb k) (Ma k) == 2) = false := by simpa using ht2
        have hz2 : (tellsN (Mb k) (Ma k) != 2) = true := by simpa using ht2
        obtain ⟨tt, htt⟩ : ∃ tt, tellsN (Mb k) (Ma k) = tt := ⟨_, rfl⟩
        rw [htt] at HCT hz hz2
        clear hq ht2 htt
        go_wp2_with fail
        (refine wp_region_later (by kernel_rfl) (by kernel_rfl) ?_; (repeat (go_big_quiet_step ((first | (go_at_call 48; exact Calls.later_same (HCT.out _) rfl) | (go_at_call_of 46 bcap; exact Calls.later (HCB.out _) rfl) | (go_at_call_of 46 cap; exact Calls.later (HCA.out _) rfl))))); refine wpQuiet_nil ?_; rintro _ ⟨⟨w1, hb1⟩, rfl⟩)
        go_wp2
        go_ret
        exact ⟨ret_bool HN.out.symm, bstep HB0.out (bstep hb.out hb1)⟩
    · have HN : Hid (withinN ns Ma Mb = true) := hid (withinN_iff.2 fun u hu => hn.out u (by omega))
      go_wp2
      go_ret
      exact ⟨ret_bool HN.out.symm, bstep HB0.out hb.out⟩
end Go.Proofs.YtilkhofgcgfnlaaGreat
