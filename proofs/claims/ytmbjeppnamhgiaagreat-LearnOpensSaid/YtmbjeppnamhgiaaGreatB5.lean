/- Contracts: ref21.May, ref21.All at incompatibilities that may be. -/
import Derived.Test.YtmbjeppnamhgiaaGreatzN
import Derived.Test.YtmbjeppnamhgiaaGreatT12
import Derived.Outline
namespace Go.Proofs.YtmbjeppnamhgiaaGreat
open Go Go.RowKit

set_option maxHeartbeats 1000000 in
theorem rtmay_any (v : Value) (ns : List Nat) (u m : Nat) (w : World) (h : UniRd w (Lt w.heap.size) v ns) (ho : NsOk ns) (hm0 : m ≠ 0) (hs : m &&& fullN ns u = m) (hf : m ≠ fullN ns u) (hul : u ≤ 100) :
    Calls Tryz.prog 50 #[v, .agg #[.int .i64 u, .int .i64 m]] w fun e w' => e = .returned (.bool true) ∧ Below w.heap.size w w' := by
  have hm31 : m ≤ 31 := by rw [← hs]; exact and_le31 (fullN_le ho u)
  have hand := and_nat hm31 (fullN_le ho u)
  rw [hs] at hand
  have HH := hid h
  obtain ⟨g, cap0, rfl, hg, -⟩ := h
  obtain ⟨w0, hw0⟩ : ∃ w0 : World, w0 = (w.alloc (.cells #[.slice (some ⟨g, 0, none⟩) ns.length cap0] 26)).alloc (.cells #[.int .i64 u, .int .i64 m] 54) := ⟨_, rfl⟩
  obtain ⟨hb0, hs0, q0, q1, q2⟩ := two_boxes hw0
  have HCALL := hid (rfull_any _ ns u w0 _ (uni_later HH.out hb0) ho ⟨by omega, by omega⟩ (fun _ h => h))
  have HQ1 := hid q1
  have HQ2 := hid q2
  have HS0 := hid hs0
  have HB0 := hid hb0
  have HW0 := hid hw0
  have n1 : ((m : Int) == 0) = false := by simp; omega
  have n2 : ((m : Int) == ((fullN ns u : Nat) : Int)) = false := by simp; omega
  have n3 : ((m : Int) != 0) = true := by simp; omega
  have n4 : ((m : Int) != ((fullN ns u : Nat) : Int)) = true := by simp; omega
  have n7 : ((m : Int) == (m : Int)) = true := beq_self_eq_true _
  have hff := fullF_nat (ns := ns) u
  rw [hff] at HCALL
  have hn5 : ¬ ((m : Int) = ((fullN ns u : Nat) : Int)) := by omega
  have hn6 : ¬ ((m : Int) = 0) := by omega
  clear hw0 hb0 q0 q1 q2 hs0 ho hs hf hff hm0
  generalize fullN ns u = f at *
  go_enter Tryz.func50, Tryz.ntmps50
  go_wp2_with (go_at_call 40; rw [← HW0.out]; refine HCALL.out.mono ?_; rintro e w1 ⟨rfl, hb1⟩; have c1 := cell_below hb1 (by have := HS0.out; omega) HQ1.out; have c2 := cell_below hb1 (by have := HS0.out; omega) HQ2.out; have HB1 := hid hb1; clear hb1)
  all_goals (first | (exfalso; omega) | skip)
  go_ret
  exact ⟨rfl, bstep HB0.out HB1.out⟩
set_option maxRecDepth 100000 in
set_option maxHeartbeats 1000000 in
theorem rall_l (v lv : Value) (ns : List Nat) (M : Nat → Nat) (l : List Term) (w : World) (h : UniRd w (Lt w.heap.size) v ns) (ho : NsOk ns) (hM : IncOk ns M) (hl : SliceRd tTerm w (Lt w.heap.size) lv l) (hlen : l.length ≤ ns.length)
    (hmem : ∀ k, (hk : k < l.length) → ∃ u, u < ns.length ∧ M u ≠ fullN ns u ∧ l[k] = ⟨(u : Int), (M u : Int)⟩) (hsort : ∀ k, (hk : k < l.length) → k ≠ 0 → (l[k - 1]'(Nat.lt_of_le_of_lt (Nat.sub_le _ _) hk)).unit < l[k].unit) :
    Calls Tryz.prog 23 #[v, lv] w fun e w' => e = .returned (.bool true) ∧ Below w.heap.size w w' := by
  have HH := hid h
  have HO := hid ho
  have HM := hid hM
  have HMEM := hid hmem
  have HSORT := hid hsort
  obtain ⟨g, cap0, rfl, hg, -⟩ := h
  obtain ⟨A, cap, rfl, hcap, hmax, hcc⟩ := hl.terms
  unfold maxLen at hmax
  have HC := hid hcc
  clear hcc hl ho hM hmem hsort
  have hl11 := HO.out.hi
  go_enter Tryz.func23, Tryz.ntmps23
  go_wp2_with fail
  obtain ⟨w0, hw0⟩ : ∃ w0 : World, w0 = w.alloc (.cells #[.slice (some ⟨g, 0, none⟩) ns.length cap0] 26) := ⟨_, rfl⟩
  have hb0 : Below w.heap.size w w0 := hw0 ▸ balloc (b0 w) _
  have hl0 : w.heap.size < w0.heap.size := by rw [hw0]; simp
  have q0 : w0.cell? ⟨w.heap.size, 0, none⟩ = some (.slice (some ⟨g, 0, none⟩) ns.length cap0) := by rw [hw0, alloc_cell]; rfl
  have HB0 := hid hb0
  have HQ := hid q0
  have HU0 := hid (uni_later HH.out hb0)
  rw [← hw0]
  clear hw0 hb0 q0
  go_loopw [5] (fun iv wr => ∃ k : Nat, k ≤ l.length ∧ iv = .int .i64 k ∧ Hid (Below w0.heap.size w0 wr)) (fun iv _ => l.length - (intOf iv).toNat)
  case atStart => exact ⟨0, Nat.zero_le _, rfl, hid (b0 w0)⟩
  case round =>
    obtain ⟨k, hk, rfl, hb⟩ := hrel
    by_cases hlt : k < l.length
    · obtain ⟨gg, o, hA, hF, g0, g1, -, -⟩ := HC.out k hlt
      subst hA
      obtain ⟨u, hu, hne, hut⟩ := HMEM.out k hlt
      have HUT := hid hut
      rw [hut] at g0 g1
      dsimp only at g0 g1
      have c0 := cell_below hb.out (Nat.lt_of_lt_of_le hF HB0.out.size) (cell_below HB0.out hF g0)
      have c1 := cell_below hb.out (Nat.lt_of_lt_of_le hF HB0.out.size) (cell_below HB0.out hF g1)
      have i1 : (0 : Int) ≤ ↑k := by omega
      have i2 : (↑k : Int) < ↑l.length := by omega
      have hFr : gg < wr.heap.size := Nat.lt_of_lt_of_le hF (Nat.le_trans HB0.out.size hb.out.size)
      have l0 := later_cell (Nat.lt_of_lt_of_le hl0 hb.out.size) (cell_below hb.out hl0 HQ.out)
      have l1 := later_cell hFr c0
      have l2 := later_cell hFr c1
      have HUR := hid (uni_later HU0.out hb.out)
      have HTM := hid (fun e : Later wr => rtmay_any _ ns u (M u) e.w (uni_lat HUR.out e) HO.out (HM.out.pos u hu) (HM.out.sub u hu) hne (by omega))
      clear g0 g1 hut
      by_cases h0 : k = 0
      · have z1 : decide (0 < k) = false := decide_eq_false (by omega)
        have z2 : decide ((0 : Int) < ↑k) = false := decide_eq_false (by omega)
        clear h0
        go_wp2_with fail
        (refine wp_region_later (by kernel_rfl) (by kernel_rfl) ?_; (repeat (go_big_quiet_step ((go_at_call 50; exact Calls.later (HTM.out _) rfl)))); refine wpQuiet_nil ?_; rintro _ ⟨⟨w1, hb1⟩, rfl⟩)
        go_wp2
        exact ⟨⟨k + 1, by omega, by go_num, hid (bstep hb.out hb1)⟩, by simp [intOf]; omega⟩
      · obtain ⟨gg2, o2, hA2, hF2, e0, -, -, -⟩ := HC.out (k - 1) (by omega)
        cases hA2
        have hst := HSORT.out k hlt h0
        rw [HUT.out] at hst
        obtain ⟨a, ha⟩ : ∃ a, (l[k-1]'(by omega)).unit = a := ⟨_, rfl⟩
        rw [ha] at hst e0
        dsimp only at hst
        have l3 := later_cell hFr (cell_below hb.out (Nat.lt_of_lt_of_le hF2 HB0.out.size) (cell_below HB0.out hF2 e0))
        have i3 : (0 : Int) ≤ ↑k - 1 := by omega
        have i4 : (↑k : Int) - 1 < ↑l.length := by omega
        have i5 : ((↑k : Int) - 1).toNat = k - 1 := by omega
        have i6 : IntKind.i64.wrap (↑k - 1) = (↑k : Int) - 1 := IntWalk.i64_in _ (by omega)
        have z1 : decide (0 < k) = true := decide_eq_true (by omega)
        have z2 : decide ((u : Int) ≤ a) = false := decide_eq_false (by omega)
        clear h0 ha e0 hst
        go_wp2_with fail
        (refine wp_region_later (by kernel_rfl) (by kernel_rfl) ?_; (repeat (go_big_quiet_step ((go_at_call 50; exact Calls.later (HTM.out _) rfl)))); refine wpQuiet_nil ?_; rintro _ ⟨⟨w1, hb1⟩, rfl⟩)
        go_wp2
        exact ⟨⟨k + 1, by omega, by go_num, hid (bstep hb.out hb1)⟩, by simp [intOf]; omega⟩
    · go_wp2
      go_ret
      exact ⟨rfl, bstep HB0.out hb.out⟩
theorem rall_any (v lv : Value) (ns : List Nat) (M : Nat → Nat) (w : World) (h : UniRd w (Lt w.heap.size) v ns) (ho : NsOk ns) (hM : IncOk ns M) (hl : SliceRd tTerm w (Lt w.heap.size) lv (canon ns M)) :
    Calls Tryz.prog 23 #[v, lv] w fun e w' => e = .returned (.bool true) ∧ Below w.heap.size w w' :=
  rall_l v lv ns M _ w h ho hM hl (canon_len M) (fun _ hk => canon_mem.1 (List.getElem_mem hk)) (fun _ hk h0 => canon_lt M hk h0)
end Go.Proofs.YtmbjeppnamhgiaaGreat
