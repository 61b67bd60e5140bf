/- Contracts: term.May, incomp.May, incomp.Within, ref21.Tells, ref21.Within. -/
import Derived.Test.YtilkhofgcgfnlaaGreatN6
import Derived.Outline
namespace Go.Proofs.YtilkhofgcgfnlaaGreat
open Go Go.RowKit

theorem fullN_small {ns : List Nat} (ho : NsOk ns) (u : Nat) : nm ((fullN ns u : Nat) : Int) = fullN ns u := nm_nat (by have := fullN_le ho u; omega)
set_option maxHeartbeats 1000000 in
theorem tmay_any (v : Value) (ns : List Nat) (u m : Nat) (w : World) (h : UniRd w (Lt w.heap.size) v ns) (ho : NsOk ns) (hm0 : m ≠ 0) (hs : m &&& fullN ns u = m) (hf : m ≠ fullN ns u) :
    Calls Tryz.prog 39 #[v, .agg #[.int .i64 u, .int .i64 m]] w fun e w' => e = .returned (.bool true) ∧ Below w.heap.size w w' := by
  have hm31 : m ≤ 31 := by rw [← hs]; exact and_le31 (fullN_le ho u)
  have hz : (bits .andNot .i64 (m : Int) (fullN ns u : Nat) == 0) = true := by
    rw [bandn, nm_nat (by omega), fullN_small ho]
    exact decide_eq_true hs
  have HH := hid h
  obtain ⟨g, cap0, rfl, hg, -⟩ := h
  obtain ⟨w0, hw0⟩ : ∃ w0 : World, w0 = (w.alloc (.cells #[.slice (some ⟨g, 0, none⟩) ns.length cap0] 27)).alloc (.cells #[.int .i64 u, .int .i64 m] 31) := ⟨_, rfl⟩
  obtain ⟨hb0, hs0, q0, q1, q2⟩ := two_boxes hw0
  have HCALL := hid (full_any _ ns u w0 _ (uni_later HH.out hb0) ho (fun _ h => h))
  have HQ1 := hid q1
  have HQ2 := hid q2
  have HS0 := hid hs0
  have HB0 := hid hb0
  have HW0 := hid hw0
  have n1 : ((m : Int) == 0) = false := by simp; omega
  have n2 : ((m : Int) == ((fullN ns u : Nat) : Int)) = false := by simp; omega
  have n3 : ((m : Int) != 0) = true := by simp; omega
  have n4 : ((m : Int) != ((fullN ns u : Nat) : Int)) = true := by simp; omega
  have hff := fullF_nat (ns := ns) u
  rw [hff] at HCALL
  have hn5 : ¬ ((m : Int) = ((fullN ns u : Nat) : Int)) := by omega
  have hn6 : ¬ ((m : Int) = 0) := by omega
  clear hw0 hb0 q0 q1 q2 hs0 ho hs hf hff hm0
  generalize fullN ns u = f at *
  go_enter Tryz.func39, Tryz.ntmps39
  go_wp2_with (go_at_call 34; rw [← HW0.out]; refine HCALL.out.mono ?_; rintro e w1 ⟨rfl, hb1⟩; have c1 := cell_below hb1 (by have := HS0.out; omega) HQ1.out; have c2 := cell_below hb1 (by have := HS0.out; omega) HQ2.out; have HB1 := hid hb1; clear hb1)
  all_goals (first | (exfalso; omega) | skip)
  go_ret
  exact ⟨rfl, bstep HB0.out HB1.out⟩

theorem canon_sorted {ns : List Nat} (M : Nat → Nat) : (canon ns M).Pairwise fun a b => a.unit < b.unit := by
  unfold canon canonTo
  refine List.Pairwise.filterMap (tm ns M) (fun a b hab x hx y hy => ?_) List.pairwise_lt_range
  unfold tm at hx hy
  split at hx
  · cases hx
  · split at hy
    · cases hy
    · have h1 := Option.some.inj hx
      have h2 := Option.some.inj hy
      subst h1; subst h2
      dsimp only
      omega
theorem canon_lt {ns : List Nat} (M : Nat → Nat) {k : Nat} (hk : k < (canon ns M).length) (h0 : k ≠ 0) : ((canon ns M)[k - 1]'(by omega)).unit < (canon ns M)[k].unit :=
  List.pairwise_iff_getElem.1 (canon_sorted M) (k - 1) k (by omega) hk (by omega)
set_option maxRecDepth 100000 in
set_option maxHeartbeats 1000000 in
theorem incMay_l (v lv : Value) (ns : List Nat) (M : Nat → Nat) (l : List Term) (w : World) (h : UniRd w (Lt w.heap.size) v ns) (ho : NsOk ns) (hM : IncOk ns M) (hl : SliceRd tTerm w (Lt w.heap.size) lv l) (hlen : l.length ≤ ns.length)
    (hmem : ∀ k, (hk : k < l.length) → ∃ u, u < ns.length ∧ M u ≠ fullN ns u ∧ l[k] = ⟨(u : Int), (M u : Int)⟩) (hsort : ∀ k, (hk : k < l.length) → k ≠ 0 → (l[k - 1]'(Nat.lt_of_le_of_lt (Nat.sub_le _ _) hk)).unit < l[k].unit) :
    Calls Tryz.prog 18 #[v, lv] w fun e w' => e = .returned (.bool true) ∧ Below w.heap.size w w' := by
  have HH := hid h
  have HO := hid ho
  have HM := hid hM
  have HMEM := hid hmem
  have HSORT := hid hsort
  obtain ⟨g, cap0, rfl, hg, -⟩ := h
  obtain ⟨A, cap, rfl, hcap, hmax, hcc⟩ := hl.terms
  unfold maxLen at hmax
  have HC := hid hcc
  clear hcc hl ho hM hmem hsort
  have hl11 := HO.out.hi
  go_enter Tryz.func18, Tryz.ntmps18
  go_wp2_with fail
  obtain ⟨w0, hw0⟩ : ∃ w0 : World, w0 = w.alloc (.cells #[.slice (some ⟨g, 0, none⟩) ns.length cap0] 27) := ⟨_, rfl⟩
  have hb0 : Below w.heap.size w w0 := hw0 ▸ balloc (b0 w) _
  have hl0 : w.heap.size < w0.heap.size := by rw [hw0]; simp
  have q0 : w0.cell? ⟨w.heap.size, 0, none⟩ = some (.slice (some ⟨g, 0, none⟩) ns.length cap0) := by rw [hw0, alloc_cell]; rfl
  have HB0 := hid hb0
  have HQ := hid q0
  have HU0 := hid (uni_later HH.out hb0)
  rw [← hw0]
  clear hw0 hb0 q0
  go_loopw [5, 6, 9] (fun _ _ iv wr => ∃ k : Nat, k ≤ l.length ∧ iv = .int .i64 k ∧ Hid (Below w0.heap.size w0 wr)) (fun _ _ iv _ => l.length - (intOf iv).toNat)
  case atStart => exact ⟨0, Nat.zero_le _, rfl, hid (b0 w0)⟩
  case round =>
    obtain ⟨k, hk, rfl, hb⟩ := hrel
    by_cases hlt : k < l.length
    · obtain ⟨gg, o, hA, hF, g0, g1, -, -⟩ := HC.out k hlt
      subst hA
      obtain ⟨u, hu, hne, hut⟩ := HMEM.out k hlt
      have HUT := hid hut
      rw [hut] at g0 g1
      dsimp only at g0 g1
      have c0 := cell_below hb.out (Nat.lt_of_lt_of_le hF HB0.out.size) (cell_below HB0.out hF g0)
      have c1 := cell_below hb.out (Nat.lt_of_lt_of_le hF HB0.out.size) (cell_below HB0.out hF g1)
      have i1 : (0 : Int) ≤ ↑k := by omega
      have i2 : (↑k : Int) < ↑l.length := by omega
      clear g0 g1 hut
      go_wp2_with fail
      obtain ⟨wb, hwb⟩ : ∃ wb : World, wb = wr.alloc (.cells #[.int .i64 u, .int .i64 (M u : Nat)] 31) := ⟨_, rfl⟩
      have hbb : Below wr.heap.size wr wb := hwb ▸ balloc (b0 wr) _
      have hlb : wr.heap.size < wb.heap.size := by rw [hwb]; simp
      have y0 : wb.cell? ⟨wr.heap.size, 0, none⟩ = some (.int .i64 u) := by rw [hwb, alloc_cell]; rfl
      have y1 : wb.cell? ⟨wr.heap.size, 1, none⟩ = some (.int .i64 (M u : Nat)) := by rw [hwb, alloc_cell]; rfl
      have hb2 := bstep hb.out hbb
      have HB2 := hid hb2
      have hFb : gg < wb.heap.size := Nat.lt_of_lt_of_le hF (Nat.le_trans HB0.out.size hb2.size)
      have l0 := later_cell (Nat.lt_of_lt_of_le hl0 hb2.size) (cell_below hb2 hl0 HQ.out)
      have l1 := later_cell hlb y0
      have l2 := later_cell hlb y1
      have HUB := hid (uni_later HU0.out hb2)
      have HTM := hid (fun e : Later wb => tmay_any _ ns u (M u) e.w (uni_lat HUB.out e) HO.out (HM.out.pos u hu) (HM.out.sub u hu) hne)
      rw [← hwb]
      clear hwb hbb y0 y1 hb2 c0 c1
      by_cases h0 : k = 0
      · have z1 : decide (0 < k) = false := decide_eq_false (by omega)
        have z2 : decide ((0 : Int) < ↑k) = false := decide_eq_false (by omega)
        clear h0
        (refine wp_region_later (by kernel_rfl) (by kernel_rfl) ?_; (repeat (go_big_quiet_step ((go_at_call 39; exact Calls.later (HTM.out _) rfl)))); refine wpQuiet_nil ?_; rintro _ ⟨⟨w1, hb1⟩, rfl⟩)
        go_wp2
        exact ⟨⟨k + 1, by omega, by go_num, hid (bstep HB2.out hb1)⟩, by simp [intOf]; omega⟩
      · obtain ⟨gg2, o2, hA2, hF2, e0, -, -, -⟩ := HC.out (k - 1) (by omega)
        cases hA2
        have hst := HSORT.out k hlt h0
        rw [HUT.out] at hst
        obtain ⟨a, ha⟩ : ∃ a, (l[k-1]'(by omega)).unit = a := ⟨_, rfl⟩
        rw [ha] at hst e0
        dsimp only at hst
        have l3 := later_cell hFb (cell_below HB2.out (Nat.lt_of_lt_of_le hF2 HB0.out.size) (cell_below HB0.out hF2 e0))
        have i3 : (0 : Int) ≤ ↑k - 1 := by omega
        have i4 : (↑k : Int) - 1 < ↑l.length := by omega
        have i5 : ((↑k : Int) - 1).toNat = k - 1 := by omega
        have i6 : IntKind.i64.wrap (↑k - 1) = (↑k : Int) - 1 := IntWalk.i64_in _ (by omega)
        have z1 : decide (0 < k) = true := decide_eq_true (by omega)
        have z2 : decide ((u : Int) ≤ a) = false := decide_eq_false (by omega)
        clear h0 ha e0 hst
        (refine wp_region_later (by kernel_rfl) (by kernel_rfl) ?_; (repeat (go_big_quiet_step ((go_at_call 39; exact Calls.later (HTM.out _) rfl)))); refine wpQuiet_nil ?_; rintro _ ⟨⟨w1, hb1⟩, rfl⟩)
        go_wp2
        exact ⟨⟨k + 1, by omega, by go_num, hid (bstep HB2.out hb1)⟩, by simp [intOf]; omega⟩
    · go_wp2
      go_ret
      exact ⟨rfl, bstep HB0.out hb.out⟩
theorem incMay_any (v lv : Value) (ns : List Nat) (M : Nat → Nat) (w : World) (h : UniRd w (Lt w.heap.size) v ns) (ho : NsOk ns) (hM : IncOk ns M) (hl : SliceRd tTerm w (Lt w.heap.size) lv (canon ns M)) :
    Calls Tryz.prog 18 #[v, lv] w fun e w' => e = .returned (.bool true) ∧ Below w.heap.size w w' :=
  incMay_l v lv ns M _ w h ho hM hl (canon_len M) (fun _ hk => canon_mem.1 (List.getElem_mem hk)) (fun _ hk h0 => canon_lt M hk h0)
end Go.Proofs.YtilkhofgcgfnlaaGreat
