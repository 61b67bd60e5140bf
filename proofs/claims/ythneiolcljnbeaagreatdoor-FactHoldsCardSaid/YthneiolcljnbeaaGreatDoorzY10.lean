import Derived.Test.YthneiolcljnbeaaGreatDoorzN10
import Derived.Test.YthneiolcljnbeaaGreatDoorzY7
import Derived.Test.YthneiolcljnbeaaGreatDoorzA1
import Derived.BigQuiet
import Derived.Outline
import Derived.Deep.RegionHeld3
import Derived.Test.YthneiolcljnbeaaGreatDoorzN4
import Derived.Test.YthneiolcljnbeaaGreatDoorzA0
import Derived.Deep.RegionWith
namespace Go.Proofs.YthneiolcljnbeaaGreatDoor
open Go Go.RowKit
section
attribute [local go_sem] Oper.semAt_some
section
variable {m : Nat}
def hasAt (cs : List CandW) (s : SetD) (k : Nat) : Bool := (cs[k]?.map fun c => hasB s c.v).getD false
def metP (cs : List CandW) (s : SetD) (pre : List (PlaceOf m)) : Nat := pre.foldl (fun a x => if hasAt cs s x.1 = true then a ||| 2 ^ (x.1 + 1) else a) 0
theorem metP_snoc (cs : List CandW) (s : SetD) (pre : List (PlaceOf m)) (x : PlaceOf m) : metP cs s (pre ++ [x]) = if hasAt cs s x.1 = true then metP cs s pre ||| 2 ^ (x.1 + 1) else metP cs s pre := by
 simp [metP]
theorem metP_le (cs : List CandW) (s : SetD) (hm : m ≤ 31) : ∀ pre : List (PlaceOf m), metP cs s pre ≤ 31 := by
 intro pre
 have h31 : ∀ a : Nat, a < 2 ^ 5 ↔ a ≤ 31 := fun a => by omega
 have key : ∀ (l : List (PlaceOf m)) (a : Nat), a < 2 ^ 5 → l.foldl (fun a x => if hasAt cs s x.1 = true then a ||| 2 ^ (x.1 + 1) else a) a < 2 ^ 5 := by
  intro l
  induction l with
  | nil => intro a h; exact h
  | cons x l ih =>
   intro a h
   refine ih _ ?_
   show (if _ then _ else _) < _
   split
   ·have hx : 2 ^ (x.1 + 1) ≤ m := Nat.ge_two_pow_of_testBit x.2
    exact Nat.or_lt_two_pow h (by omega)
   ·exact h
 have := key pre 0 (by decide)
 unfold metP
 omega
theorem metP_to {cs : List CandW} {s : SetD} (hb : ∀ k, m.testBit (k + 1) = decide (k < cs.length)) : ∀ k, metP cs s (placesTo m k) = metTo cs s (min k cs.length)
 | 0 => by rw [Nat.zero_min]; rfl
 | k + 1 => by
  by_cases hk : k < cs.length
  ·have h1 : m.testBit (k + 1) = true := by rw [hb]; exact decide_eq_true hk
   have ih := metP_to (s := s) hb k
   rw [Nat.min_eq_left (by omega)] at ih
   rw [Nat.min_eq_left (by omega), placesTo_yes h1, metP_snoc, metTo_succ hk, ih]
   have h2 : hasAt cs s k = hasB s cs[k].v := by unfold hasAt; rw [List.getElem?_eq_getElem hk]; rfl
   have h4 := metTo_lt cs s k
   dsimp only
   rw [h2]
   split
   ·rw [Nat.or_comm]
    have h3 := Nat.two_pow_add_eq_or_of_lt h4 1
    rw [Nat.mul_one] at h3
    omega
   ·rfl
  ·have h1 : m.testBit (k + 1) = false := by rw [hb]; exact decide_eq_false hk
   have ih := metP_to (s := s) hb k
   rw [Nat.min_eq_right (by omega)] at ih
   rw [Nat.min_eq_right (by omega), placesTo_no h1, ih]
end
theorem full_bits {n : Nat} (k : Nat) : (2 ^ (n + 1) - 2).testBit (k + 1) = decide (k < n) := by
 rw [Nat.testBit_succ, show (2 ^ (n + 1) - 2) / 2 = 2 ^ n - 1 by rw [Nat.pow_succ]; omega, Nat.testBit_two_pow_sub_one]
theorem full_bits0 {n : Nat} : (2 ^ (n + 1) - 2).testBit 0 = false := by
 rw [Nat.testBit_zero, show (2 ^ (n + 1) - 2) % 2 = 0 by rw [Nat.pow_succ]; omega]
 rfl
theorem full_cut {n : Nat} (h : n ≤ 4) : bits .andNot .i64 (pw (n + 1) - 1 : Int) 1 = ((2 ^ (n + 1) - 2 : Nat) : Int) := by
 have : n = 0 ∨ n = 1 ∨ n = 2 ∨ n = 3 ∨ n = 4 := by omega
 rcases this with rfl | rfl | rfl | rfl | rfl <;> rfl
theorem keepB_set (n M : Nat) (W : World) (v : Value) : KeepB n M W (W.setCell ⟨M, 0, none⟩ v).drew := ⟨⟨rfl, rfl, rfl⟩, by show W.heap.size ≤ (W.setCell _ _).heap.size; simp, fun k _ hne => Below.heap_setCell W ⟨M, 0, none⟩ v k hne⟩
set_option maxRecDepth 100000 in
set_option maxHeartbeats 4000000 in
theorem pmet_any (v av bv : Value) (us : List UnitW) (x : WantD) (w : World) (h : WorldRd w (Lt w.heap.size) v us) (ho : UnitsOk us) (h1 : SliceRd fSpan.ty w (Lt w.heap.size) av x.s.rel) (h2 : SliceRd fSpan.ty w (Lt w.heap.size) bv x.s.pre) (hx0 : 0 ≤ x.u) (hx1 : x.u < us.length) (hF : FirstIs w) :
  Calls Tryz.prog 46 #[v, .agg #[.int .i64 x.u, av, bv]] w fun e w' => e = .returned (.int .i64 (metN us x)) ∧ Below w.heap.size w w' := by
 have HFU := hid (fun (W : World) (hb : Below w.heap.size w W) => full_any v (nsOf us) x.u W (Lt W.heap.size) ((h.lift hb hb.size).uni) ho.ns (fun _ h => h))
 obtain ⟨g, cap0, rfl, hg, hun⟩ := h.opened
 obtain ⟨u, hu⟩ : ∃ u : Nat, x.u = (u : Int) := ⟨x.u.toNat, by omega⟩
 have hul : u < us.length := by omega
 obtain ⟨Ac, cc, hcu, hcd⟩ := hun u hul
 have HCD := hid hcd
 have h4 : us[u].cands.length ≤ 4 := by
  have := ho.ns.le u (by simpa [nsOf] using hul)
  simpa [nsOf] using this
 have h11 : us.length ≤ 11 := by have := ho.ns.hi; simpa [nsOf] using this
 have HME : Hid (metN us x = metTo us[u].cands x.s us[u].cands.length) := hid (by
  unfold metN
  rw [hu, Int.toNat_natCast, List.getElem?_eq_getElem hul])
 have HHS := hid (fun (vr : Ver) (hvr : vr.B) (W : World) (hb : Below w.heap.size w W) => phas5_any av bv x.s vr W (h1.lift hb hb.size) (h2.lift hb hb.size) hvr (hF.below hb))
 have hff : fullF (nsOf us) x.u = pw (us[u].cands.length + 1) - 1 := by
  have hl : u < (nsOf us).length := by simpa [nsOf] using hul
  unfold fullF
  rw [hu, if_neg (by omega), Int.toNat_natCast, List.getElem?_eq_getElem hl]
  simp [nsOf]
 rw [hff] at HFU
 obtain ⟨Aa, ca, hav, -⟩ := h1.shape
 obtain ⟨Ab, cb, hbv, -⟩ := h2.shape
 generalize x.s.rel.length = n1 at hav
 generalize x.s.pre.length = n2 at hbv
 subst hav hbv
 have HAT : Hid (∀ k (hk : k < us[u].cands.length), hasAt us[u].cands x.s k = hasB x.s us[u].cands[k].v) := hid (fun k hk => by unfold hasAt; rw [List.getElem?_eq_getElem hk]; rfl)
 rw [hu] at HFU ⊢
 generalize us[u].cands = cs at *
 have u1 : (0 : Int) ≤ ↑u := by omega
 have u2 : (↑u : Int) < ↑us.length := by omega
 have u3 : decide (us.length ≤ u) = false := decide_eq_false (by omega)
 clear h h1 h2 hun hx0 hx1 hu hcd ho hff
 obtain ⟨n, hn⟩ : ∃ n, cs.length = n := ⟨_, rfl⟩
 have HN := hid hn
 rw [hn] at hcu h4 HME HFU
 have hcut := full_cut h4
 have HBI := hid (fun k => full_bits (n := n) k)
 have HB0' := hid (full_bits0 (n := n))
 have hm31 : 2 ^ (n + 1) - 2 ≤ 31 := by
  have := Nat.pow_le_pow_right (n := 2) (by omega) (show n + 1 ≤ 5 by omega)
  omega
 have HM31 := hid hm31
 generalize (2 ^ (n + 1) - 2 : Nat) = m at *
 clear hn
 obtain ⟨w0, hw0⟩ : ∃ w0 : World, w0 = ((w.alloc (.cells #[.slice (some ⟨g, 0, none⟩) us.length cap0] 25)).alloc (.cells #[.int .i64 u, .slice Aa n1 ca, .slice Ab n2 cb] 65)).alloc (.cells #[.int .i64 0] 3) := ⟨_, rfl⟩
 have hb0 : Below w.heap.size w w0 := hw0 ▸ balloc (balloc (balloc (b0 w) _) _) _
 have hz0 : w.heap.size + 2 < w0.heap.size := by rw [hw0]; simp
 have c0 : w0.cell? ⟨w.heap.size, 0, none⟩ = some (.slice (some ⟨g, 0, none⟩) us.length cap0) := by rw [hw0]; exact cell_below (balloc (b0 _) _) (by simp only [World.size_alloc]; omega) (alloc2_old rfl)
 have s0 : w0.cell? ⟨w.heap.size + 1, 1, none⟩ = some (.slice Aa n1 ca) := by rw [hw0]; exact cell_below (balloc (b0 _) _) (by simp only [World.size_alloc]; omega) (alloc2_new rfl)
 have s1 : w0.cell? ⟨w.heap.size + 1, 2, none⟩ = some (.slice Ab n2 cb) := by rw [hw0]; exact cell_below (balloc (b0 _) _) (by simp only [World.size_alloc]; omega) (alloc2_new rfl)
 have s3 : w0.cell? ⟨w.heap.size + 1, 0, none⟩ = some (.int .i64 u) := by rw [hw0]; exact cell_below (balloc (b0 _) _) (by simp only [World.size_alloc]; omega) (alloc2_new rfl)
 have s2 : w0.cell? ⟨w.heap.size + 2, 0, none⟩ = some (.int .i64 0) := by
  rw [hw0, show w.heap.size + 2 = ((w.alloc (.cells #[.slice (some ⟨g, 0, none⟩) us.length cap0] 25)).alloc (.cells #[.int .i64 u, .slice Aa n1 ca, .slice Ab n2 cb] 65)).heap.size by simp, alloc_cell]
  rfl
 have cu := cell_below hb0 hg hcu
 have f2 : w0.frozen? ⟨w.heap.size + 2, 0, none⟩ = false := by rw [hw0, show w.heap.size + 2 = ((w.alloc (.cells #[.slice (some ⟨g, 0, none⟩) us.length cap0] 25)).alloc (.cells #[.int .i64 u, .slice Aa n1 ca, .slice Ab n2 cb] 65)).heap.size by simp]; exact World.frozen?_alloc_new _ _ _ _
 have HF0 := hid (HFU.out w0 hb0)
 have HB0 := hid hb0
 have HW0 := hid hw0
 clear hb0 hw0 hcu HFU
 refine (callsIn_wide (n := 5)).1 ?_
 refine callsIn_of_wp_marks Tryz.func46 rfl trivial ?_ rfl
 simp only [Tryz.ntmps46, List.size_toArray, List.length_cons, List.length_nil, Nat.reduceAdd, Nat.reduceSub, Array.replicate_succ, Array.replicate_zero, List.push_toArray, List.append_toArray, List.nil_append, List.cons_append]
 gi_wp2_with (first
  | (refine ⟨trivial, ?_⟩; gi_at_call 47; rw [← HW0.out]; refine (callsIn_wide.2 HF0.out).mono ?_; rintro e w1 ⟨rfl, hb1⟩; have HB1 := hid hb1; have hz1 := Nat.lt_of_lt_of_le hz0 hb1.size; clear hb1)
  | (refine ⟨trivial, ?_⟩; gi_at_call 26; refine (callsIn_wide.2 (each_any _ _)).mono ?_; rintro e w2 ⟨rfl, rfl⟩))
 obtain ⟨w2, hw2⟩ : ∃ w2 : World, w2 = w1.alloc (.cells #[.int .i64 m] 3) := ⟨_, rfl⟩
 have hb1 := HB1.out
 have hb2 : Below w1.heap.size w1 w2 := hw2 ▸ balloc (b0 _) _
 have hz2 : w2.heap.size = w1.heap.size + 1 := by rw [hw2]; simp
 have t0 := cell_below hb2 (by omega) (cell_below hb1 (by omega) c0)
 have t1 := cell_below hb2 (by omega) (cell_below hb1 (by omega) s0)
 have t2 := cell_below hb2 (by omega) (cell_below hb1 (by omega) s1)
 have t3 := cell_below hb2 (by omega) (cell_below hb1 (by omega) s2)
 have t4 := cell_below hb2 (by have := HB0.out.size; have := hb1.size; have hgl : g < w.heap.size := hg; omega) (cell_below hb1 (by have := HB0.out.size; have hgl : g < w.heap.size := hg; omega) cu)
 have t7 := cell_below hb2 (by omega) (cell_below hb1 (by omega) s3)
 have t5 : w2.frozen? ⟨w.heap.size + 1 + 1, 0, none⟩ = false := by
  exact ((World.frozen?_of_block (a := ⟨w.heap.size + 1 + 1, 0, none⟩) (hb2.block (w.heap.size + 1 + 1) (by omega))).trans (World.frozen?_of_block (a := ⟨w.heap.size + 1 + 1, 0, none⟩) (hb1.block (w.heap.size + 1 + 1) (by omega)))).trans f2
 have t6 : w2.cell? ⟨w1.heap.size, 0, none⟩ = some (.int .i64 m) := by rw [hw2, alloc_cell]; rfl
 rw [← hw2]
 have HK : ∀ W, KeepB w2.heap.size (w.heap.size + 1 + 1) w2 W → Below w.heap.size w W := fun W hk => (bstep HB0.out hb1).trans ((hb2.mono (by have := hb1.size; have := HB0.out.size; omega)).trans (hk.below (by have := hb1.size; have := HB0.out.size; omega) (by omega)))
 refine wpIn_rangeFunc_ownF rfl (by omega) (gf := 53) (lb := #[.pointer (some ⟨w1.heap.size, 0, none⟩)]) rfl trivial (enters_of Tryz.func53 (by kernel_rfl) rfl)
  (each_stops _ (by omega) w1.heap.size w2.heap.size (w.heap.size + 1 + 1) m HM31.out HB0'.out (by omega) (by omega) w2 (by omega) t6)
  KeepB.trans (fun W l o o' hl _ _ _ => KeepB.put (Nat.le_refl _) W l o' hl) (Below.refl _ _) (fun _ => rfl)
  (fun (pre : List (PlaceOf m)) W => W.cell? ⟨w.heap.size + 1 + 1, 0, none⟩ = some (.int .i64 (metP cs x.s pre)) ∧ W.frozen? ⟨w.heap.size + 1 + 1, 0, none⟩ = false ∧ KeepB w2.heap.size (w.heap.size + 1 + 1) w2 W)
  (fun _ _ _ => False) ?own (fun _ _ _ _ _ hs _ _ => hs) ⟨t3, t5, KeepB.refl _ _ _⟩ ?a1 ?assign ?body ?done ?stop
 case own =>
  rintro pre A B row ⟨h1, h2, h3⟩ hgr hr
  have hbl := hgr.block (w.heap.size + 1 + 1) (by have := h3.2.1; omega) (fun e => by have := (hr _ e.symm).1; omega)
  exact ⟨(World.cell?_of_block hbl).trans h1, (World.frozen?_of_block hbl).trans h2, h3.grown h3.2.1 hgr (fun r e => (hr r e).1)⟩
 case assign =>
  intro l y W K hK
  gi_wp2
  exact hK
 case body =>
  rintro l pre ⟨p, hp⟩ W ⟨hc, hf, hk⟩ _
  have hbw := HK W hk
  have hyn : p < n := by have := hp; rw [HBI.out] at this; exact of_decide_eq_true this
  have hp31 : 2 ^ (p + 1) ≤ 31 := Nat.le_trans (Nat.ge_two_pow_of_testBit hp) HM31.out
  obtain ⟨gc, o, nv, bv, hA, hF2, hat, hB, -, -⟩ := HCD.out p (by rw [HN.out]; exact hyn)
  subst hA
  have hzW : w.heap.size + 1 + 1 < W.heap.size := by have := hk.2.1; omega
  have hgr : gc < W.heap.size := Nat.lt_of_lt_of_le hF2 hbw.size
  obtain ⟨c0, c1, c2, c3, c4, -, -, -⟩ := hat.below hbw hF2
  have HSK := hid (fun e : Later W => HHS.out _ hB e.w (bstep hbw e.below))
  have HA := HAT.out p (by rw [HN.out]; exact hyn)
  generalize cs[p]'(by rw [HN.out]; exact hyn) = cd at *
  obtain ⟨⟨va, vb, vc, vp, vq⟩, sh, nd, br⟩ := cd
  dsimp only at c0 c1 c2 c3 c4 HSK HA
  have l0 := later_cell hgr c0
  have l1 := later_cell hgr c1
  have l2 := later_cell hgr c2
  have l3 := later_cell hgr c3
  have l4 := later_cell hgr c4
  have hMne : w.heap.size ≠ w.heap.size + 1 + 1 := by omega
  have hMne2 : w.heap.size + 1 ≠ w.heap.size + 1 + 1 := by omega
  have m0 := later_cell (show w.heap.size < W.heap.size by omega) (hk.cell (by omega) hMne t0)
  have m1 := later_cell (show w.heap.size + 1 < W.heap.size by omega) (hk.cell (by omega) hMne2 t1)
  have m2 := later_cell (show w.heap.size + 1 < W.heap.size by omega) (hk.cell (by omega) hMne2 t2)
  have m3 := later_cell (show g < W.heap.size from Nat.lt_of_lt_of_le hg hbw.size) (hk.cell (by have hgl : g < w.heap.size := hg; have := HB0.out.size; have := hb1.size; omega) (by have hgl : g < w.heap.size := hg; omega) t4)
  have m4 := later_cell hzW hc
  have m5 := later_cell (show w.heap.size + 1 < W.heap.size by omega) (hk.cell (by omega) hMne2 t7)
  have i0 : (0 : Int) ≤ ↑p := by omega
  have i1 : (↑p : Int) < ↑n := by omega
  have i2 : decide (n ≤ p) = false := decide_eq_false (by omega)
  have hsz := hbw.size
  have HSNOC := metP_snoc cs x.s pre ⟨p, hp⟩
  have HLE := metP_le cs x.s HM31.out pre
  dsimp only at HSNOC
  rw [HA] at HSNOC
  obtain ⟨b, hbb⟩ : ∃ b, hasB x.s ⟨va, vb, vc, vp, vq⟩ = b := ⟨_, rfl⟩
  rw [hbb] at HSK HSNOC
  have HSN := hid HSNOC
  have HKP := hid hk
  clear HSNOC hbb HA hat hB c0 c1 c2 c3 c4 t0 t1 t2 t3 t4 t5 t6 t7
  generalize metP cs x.s pre = mk at *
  gi_wp2
  refine wpIn_region_later (by kernel_rfl) (by kernel_rfl) (by kernel_rfl) ?_
  repeat (go_big_quiet_step ((first | (go_at_call 78; exact Calls.later (HSK.out _) rfl))))
  refine wpQuiet_nil ?_
  rintro _ ⟨⟨W1, hb3⟩, rfl⟩
  have g0 := (hb3.cell (p := ⟨w.heap.size + 1 + 1, 0, none⟩) hzW).trans hc
  have g1 := (World.frozen?_of_block (a := ⟨w.heap.size + 1 + 1, 0, none⟩) (hb3.block (w.heap.size + 1 + 1) hzW)).trans hf
  have hz3 := hb3.size
  have HB3 := hid hb3
  clear l0 l1 l2 l3 l4 m0 m1 m2 m3 m4 m5 hc hf hb3 hk
  cases b with
  | false =>
   gi_wp2
   exact ⟨keepsOthers_of_below HB3.out, KeepB.of_below (HB3.out.mono HKP.out.2.1), by rw [HSN.out]; exact g0, g1, HKP.out.trans (KeepB.of_below (HB3.out.mono HKP.out.2.1))⟩
  | true =>
   have hor : bits .or .i64 (mk : Int) (pw (p + 1)) = ((mk ||| 2 ^ (p + 1) : Nat) : Int) := or_fact mk _ HLE hp31
   have HBT := fun (w : World) => (bit_any (p + 1) w (by omega))
   rw [show (((p + 1 : Nat) : Int) - 1) = (p : Int) by omega] at HBT
   gi_wp2
   gi_region_with (first | (gi_at_call 54; refine (CallsIn.inRound l (callsIn_wide.2 (HBT _))).mono ?_; rintro e w4 ⟨rfl, rfl⟩) | (refine ⟨trivial, ?_⟩; gi_at_call 54; refine (CallsIn.inRound l (callsIn_wide.2 (HBT _))).mono ?_; rintro e w4 ⟨rfl, rfl⟩))
   all_goals gi_wp2
   all_goals exact ⟨(keepsOthers_of_below HB3.out).trans ((KeepsOthers.setCell _ _ _).trans (KeepsOthers.drew _)), (KeepB.of_below (HB3.out.mono HKP.out.2.1)).trans (keepB_set _ _ _ _), by rw [HSN.out]; exact World.cell?_setCell_same' _ _ _ (by first | (rw [g0]; rfl) | (show (World.cell? _ _).isSome = true; exact (congrArg Option.isSome g0))), by rw [frozen_drew_own, World.frozen?_setCell]; exact g1, HKP.out.trans ((KeepB.of_below (HB3.out.mono HKP.out.2.1)).trans (keepB_set _ _ _ _))⟩
 case done =>
  rintro D xs W hD rfl ⟨hc, _, hk⟩ hK
  gi_wp2
  refine ⟨by simp, .inl ⟨_, _, rfl, run_takeDeferred hK, ?_⟩⟩
  have HV : metP cs x.s (placesTo m 16) = metN us x := by
   rw [metP_to (fun k => by rw [HBI.out, HN.out]) 16, HME.out, HN.out, Nat.min_eq_right (by omega)]
  refine ⟨_, results_tmp rfl _ _ _, ?_, (HK W hk).trans ⟨rfl, rfl, rfl, by simp, fun k hk => World.putObj_heap_other (by have := hb1.size; have := HB0.out.size; omega)⟩⟩
  rw [← HV]
  rfl
 case stop =>
  rintro D c pre W _ _ h _
  exact h.elim
end
section
theorem rest_bits {f m : Nat} (n : Nat) (hn : n ≤ 4) (hf : f = 2 ^ (n + 1) - 1) (hm : m ≤ f) : bits .andNot .i64 (f : Int) (m : Int) = ((f - m : Nat) : Int) := by
 have key : ∀ n : Fin 5, ∀ m : Fin 32, m.1 ≤ 2 ^ (n.1 + 1) - 1 → bits .andNot .i64 ((2 ^ (n.1 + 1) - 1 : Nat) : Int) (m.1 : Int) = ((2 ^ (n.1 + 1) - 1 - m.1 : Nat) : Int) := by decide
 subst hf
 have h31 : 2 ^ (n + 1) ≤ 2 ^ 5 := Nat.pow_le_pow_right (by omega) (by omega)
 exact key ⟨n, by omega⟩ ⟨m, by omega⟩ hm
theorem results_cell {fn : Func} {t : Tmp} {ty : TypeId} {tmps : Array Value} {P : Program} {w : World} {p : Addr} {v : Value} (h : fn.results = #[.cell t ty]) (hv : tmps.getD t undef = .pointer (some p)) (hl : (loadVar ty p).run P w = .ok v w) : (results fn tmps).run P w = .ok v w := by
 have hv2 : tmps[t]?.getD undef = .pointer (some p) := by rw [← Array.getD_eq_getD_getElem?]; exact hv
 simp [results, h, hv2, asAddr, hl]
theorem keep2 {w : World} {g i j k M : Nat} {x y v : Value} (hne : g ≠ M) (h : w.cell? ⟨g, i, none⟩ = some v) : ((w.setCell ⟨M, j, none⟩ x).setCell ⟨M, k, none⟩ y).cell? ⟨g, i, none⟩ = some v := by
 rw [World.cell?_of_block (heap_setCell_other _ _ g _ hne), World.cell?_of_block (heap_setCell_other _ _ g _ hne)]
 exact h
theorem alloc3_new {w : World} {o1 o2 : Obj} {cs : Array Value} {e : TypeId} {i : Nat} {v : Value} (h : cs[i]? = some v) : (((w.alloc o1).alloc o2).alloc (.cells cs e)).cell? ⟨w.heap.size + 1 + 1, i, none⟩ = some v := by
 rw [show w.heap.size + 1 + 1 = ((w.alloc o1).alloc o2).heap.size by simp only [World.size_alloc], alloc_cell]
 exact h
theorem alloc3_frozen {w : World} {o1 o2 : Obj} {cs : Array Value} {e : TypeId} {i : Nat} : (((w.alloc o1).alloc o2).alloc (.cells cs e)).frozen? ⟨w.heap.size + 1 + 1, i, none⟩ = false := by
 rw [show w.heap.size + 1 + 1 = ((w.alloc o1).alloc o2).heap.size by simp only [World.size_alloc]]
 exact World.frozen?_alloc_new _ _ _ _
set_option maxRecDepth 100000 in
set_option maxHeartbeats 4000000 in
theorem trest_any (v : Value) (ns : List Nat) (u m : Nat) (w : World) (h : UniRd w (Lt w.heap.size) v ns) (ho : NsOk ns) (hu : u < ns.length) (hm : m ≤ fullN ns u) :
  Calls Tryz.prog 45 #[v, .agg #[.int .i64 u, .int .i64 m]] w fun e w' => e = .returned (.agg #[.int .i64 u, .int .i64 ((fullN ns u - m : Nat) : Int)]) ∧ Below w.heap.size w w' := by
 have hr := rest_bits ns[u] (ho.le u hu) (fullN_of hu) hm
 have HF := hid (fun (W : World) (hb : Below w.heap.size w W) => full_any v ns u W (Lt W.heap.size) (uni_later h hb) ho (fun _ h => h))
 rw [fullF_nat] at HF
 obtain ⟨g, cap0, rfl, hg, -⟩ := h
 obtain ⟨w0, hw0⟩ : ∃ w0 : World, w0 = ((w.alloc (.cells #[.slice (some ⟨g, 0, none⟩) ns.length cap0] 25)).alloc (.cells #[.int .i64 u, .int .i64 m] 69)).alloc (.cells #[.int .i64 0, .int .i64 0] 69) := ⟨_, rfl⟩
 have hb0 : Below w.heap.size w w0 := hw0 ▸ balloc (balloc (balloc (b0 w) _) _) _
 have hz0 : w.heap.size + 2 < w0.heap.size := by rw [hw0]; simp
 have c0 : w0.cell? ⟨w.heap.size, 0, none⟩ = some (.slice (some ⟨g, 0, none⟩) ns.length cap0) := by rw [hw0]; exact cell_below (balloc (b0 _) _) (by simp only [World.size_alloc]; omega) (alloc2_old rfl)
 have s0 : w0.cell? ⟨w.heap.size + 1, 0, none⟩ = some (.int .i64 u) := by rw [hw0]; exact cell_below (balloc (b0 _) _) (by simp only [World.size_alloc]; omega) (alloc2_new rfl)
 have s1 : w0.cell? ⟨w.heap.size + 1, 1, none⟩ = some (.int .i64 m) := by rw [hw0]; exact cell_below (balloc (b0 _) _) (by simp only [World.size_alloc]; omega) (alloc2_new rfl)
 have HB0 := hid hb0
 have HW0 := hid hw0
 clear hb0 hw0
 generalize fullN ns u = f at *
 go_enter Tryz.func45, Tryz.ntmps45
 go_wp2_with fail
 rw [← HW0.out]
 have c2 : w0.cell? ⟨w.heap.size + 1 + 1, 0, none⟩ = some (.int .i64 0) := by rw [HW0.out]; exact alloc3_new rfl
 have f2 : w0.frozen? ⟨w.heap.size + 1 + 1, 0, none⟩ = false := by rw [HW0.out]; exact alloc3_frozen
 have c3 : w0.cell? ⟨w.heap.size + 1 + 1, 1, none⟩ = some (.int .i64 0) := by rw [HW0.out]; exact alloc3_new rfl
 have f3 : w0.frozen? ⟨w.heap.size + 1 + 1, 1, none⟩ = false := by rw [HW0.out]; exact alloc3_frozen
 have t1 := hid True.intro
 go_region_held3 (fun w' => w'.cell? ⟨w.heap.size, 0, none⟩ = some (.slice (some ⟨g, 0, none⟩) ns.length cap0) ∧ w'.cell? ⟨w.heap.size + 1, 0, none⟩ = some (.int .i64 u) ∧ w'.cell? ⟨w.heap.size + 1, 1, none⟩ = some (.int .i64 m)) (first | exact ⟨by assumption, by assumption, by assumption⟩ | exact ⟨keep2 (by omega) d1, keep2 (by omega) d2, keep2 (by omega) d3⟩ | go_keep) (first
  | (clear t1; go_at_call 47; refine (HF.out _ (bdrew HB0.out)).mono ?_; rintro e w1 ⟨rfl, hb1⟩; have d1 := cell_below hb1 (show w.heap.size < w0.drew.heap.size by show _ < w0.heap.size; omega) c0; have d2 := cell_below hb1 (show w.heap.size + 1 < w0.drew.heap.size by show _ < w0.heap.size; omega) s0; have d3 := cell_below hb1 (show w.heap.size + 1 < w0.drew.heap.size by show _ < w0.heap.size; omega) s1; have d4 := cell_below hb1 (show w.heap.size + 1 + 1 < w0.drew.heap.size by show _ < w0.heap.size; omega) c2; have d5 := cell_below hb1 (show w.heap.size + 1 + 1 < w0.drew.heap.size by show _ < w0.heap.size; omega) c3; have d6 := (World.frozen?_of_block (a := ⟨w.heap.size + 1 + 1, 0, none⟩) (hb1.block (w.heap.size + 1 + 1) (show w.heap.size + 1 + 1 < w0.drew.heap.size by show _ < w0.heap.size; omega))).trans f2; have d7 := (World.frozen?_of_block (a := ⟨w.heap.size + 1 + 1, 1, none⟩) (hb1.block (w.heap.size + 1 + 1) (show w.heap.size + 1 + 1 < w0.drew.heap.size by show _ < w0.heap.size; omega))).trans f3; have HB1 := hid (bstep (bdrew HB0.out) hb1); clear hb1))
 have r0 : ((w1.setCell ⟨w.heap.size + 1 + 1, 0, none⟩ (.int .i64 u)).setCell ⟨w.heap.size + 1 + 1, 1, none⟩ (.int .i64 ((f - m : Nat) : Int))).cell? ⟨w.heap.size + 1 + 1, 0, none⟩ = some (.int .i64 u) := by
  rw [World.cell?_setCell_other _ _ _ _ (by intro e; cases e)]
  exact World.cell?_setCell_same _ _ _ d4
 have r1 : ((w1.setCell ⟨w.heap.size + 1 + 1, 0, none⟩ (.int .i64 u)).setCell ⟨w.heap.size + 1 + 1, 1, none⟩ (.int .i64 ((f - m : Nat) : Int))).cell? ⟨w.heap.size + 1 + 1, 1, none⟩ = some (.int .i64 ((f - m : Nat) : Int)) := by
  refine World.cell?_setCell_same _ _ _ (u := .int .i64 0) ?_
  rw [World.cell?_setCell_other _ _ _ _ (by intro e; cases e)]
  exact d5
 have HBF : Hid (Below w.heap.size w ((w1.setCell ⟨w.heap.size + 1 + 1, 0, none⟩ (.int .i64 u)).setCell ⟨w.heap.size + 1 + 1, 1, none⟩ (.int .i64 ((f - m : Nat) : Int)))) := hid ((HB1.out.setCell (by show w.heap.size ≤ w.heap.size + 1 + 1; omega) _).setCell (by show w.heap.size ≤ w.heap.size + 1 + 1; omega) _)
 generalize ((w1.setCell ⟨w.heap.size + 1 + 1, 0, none⟩ (.int .i64 u)).setCell ⟨w.heap.size + 1 + 1, 1, none⟩ (.int .i64 ((f - m : Nat) : Int))) = wf at *
 clear d1 d2 d3 d4 d5 d6 d7 c0 c2 c3 f2 f3 s0 s1
 go_wp2
 refine bodyPost_ret (v := .agg #[.int .i64 u, .int .i64 ((f - m : Nat) : Int)]) (results_cell rfl rfl ?_) rfl ⟨rfl, HBF.out⟩
 go_simp
end
section
theorem mask_of {ns : List Nat} {M : Nat → Nat} {u : Nat} (hu : u < ns.length) : maskF ns (canon ns M) (u : Int) = (M u : Int) := by rw [mask_canon, maskN_nat M hu]
end
section
theorem int_eq0 (r : Nat) : ((r : Int) == 0) = (r == 0) := by
 cases h : r == 0 with
 | true => rw [beq_iff_eq] at h ⊢; omega
 | false => rw [beq_eq_false_iff_ne] at h ⊢; omega
theorem int_ne0 (r : Nat) : ((r : Int) != 0) = (r != 0) := by unfold bne; rw [int_eq0]
theorem three_boxes {w w0 : World} {x : Value} {y0 y1 y2 y3 y4 z0 z1 z2 : Value} {t t' t'' : TypeId} (h : w0 = ((w.alloc (.cells #[x] t)).alloc (.cells #[y0, y1, y2, y3, y4] t')).alloc (.cells #[z0, z1, z2] t'')) :
  Below w.heap.size w w0 ∧ w0.heap.size = w.heap.size + 3 ∧ w0.cell? ⟨w.heap.size, 0, none⟩ = some x ∧
   (w0.cell? ⟨w.heap.size + 1, 0, none⟩ = some y0 ∧ w0.cell? ⟨w.heap.size + 1, 1, none⟩ = some y1 ∧ w0.cell? ⟨w.heap.size + 1, 2, none⟩ = some y2 ∧ w0.cell? ⟨w.heap.size + 1, 3, none⟩ = some y3 ∧ w0.cell? ⟨w.heap.size + 1, 4, none⟩ = some y4) ∧
   (w0.cell? ⟨w.heap.size + 1 + 1, 0, none⟩ = some z0 ∧ w0.cell? ⟨w.heap.size + 1 + 1, 1, none⟩ = some z1 ∧ w0.cell? ⟨w.heap.size + 1 + 1, 2, none⟩ = some z2) := by
 subst h
 refine ⟨balloc (balloc (balloc (b0 w) _) _) _, by simp, cell_below (balloc (b0 _) _) (by simp only [World.size_alloc]; omega) (alloc2_old rfl), ⟨?_, ?_, ?_, ?_, ?_⟩, ⟨alloc3_new rfl, alloc3_new rfl, alloc3_new rfl⟩⟩
 all_goals exact cell_below (balloc (b0 _) _) (by simp only [World.size_alloc]; omega) (alloc2_new rfl)
section
variable {us : List UnitW} {M : Nat → Nat} {u p : Nat} {x : WantD}
theorem lost_same (h : x.u = (u : Int)) : lostN us M u p x = (metN us x &&& 2 ^ (p + 1) == 0) := by unfold lostN; rw [if_pos h]
theorem lost_other (h : ¬ x.u = (u : Int)) : lostN us M u p x = (metN us x &&& M x.u.toNat == 0) := by unfold lostN; rw [if_neg h]
theorem sure_same (h : x.u = (u : Int)) : sureN us M u p x = (metN us x &&& 2 ^ (p + 1) != 0) := by unfold sureN; rw [if_pos h]
theorem sure_other (h : ¬ x.u = (u : Int)) : sureN us M u p x = (M x.u.toNat &&& metN us x == M x.u.toNat) := by unfold sureN; rw [if_neg h]
end
structure RowWant (us : List UnitW) (v tv a b : Value) (M : Nat → Nat) (u p : Nat) (x : WantD) (w : World) : Prop where
 wd : WorldRd w (Lt w.heap.size) v us
 ok : UnitsOk us
 inc : IncOk (nsOf us) M
 terms : SliceRd tTerm w (Lt w.heap.size) tv (canon (nsOf us) M)
 rel : SliceRd fSpan.ty w (Lt w.heap.size) a x.s.rel
 pre : SliceRd fSpan.ty w (Lt w.heap.size) b x.s.pre
 lo : 0 ≤ x.u
 hi : x.u < us.length
 first : FirstIs w
 p : p ≤ 3
theorem RowWant.later {us : List UnitW} {v tv a b : Value} {M : Nat → Nat} {u p : Nat} {x : WantD} {w w' : World} (h : RowWant us v tv a b M u p x w) (hb : Below w.heap.size w w') : RowWant us v tv a b M u p x w' :=
 ⟨h.wd.lift hb hb.size, h.ok, h.inc, h.terms.lift hb hb.size, h.rel.lift hb hb.size, h.pre.lift hb hb.size, h.lo, h.hi, h.first.below hb, h.p⟩
theorem and_pq {m q : Nat} (hm : m ≤ 31) (hq : q ≤ 31) : bits .and .i64 (m : Int) (q : Int) = ((m &&& q : Nat) : Int) := by
 have h1 : nm (m : Int) = m := nm_nat (by omega)
 have h2 : nm (q : Int) = q := nm_nat (by omega)
 rw [band _ _ (by rw [h1, h2]; have := and_le31 (a := m) hq; omega), h1, h2]
theorem andn_pq {m q : Nat} (hm : m ≤ 31) (hq : q ≤ 31) : (bits .andNot .i64 (m : Int) (q : Int) == 0) = (m &&& q == m) := by
 rw [bandn, nm_nat (k := m) (by omega), nm_nat (k := q) (by omega)]
 rfl
set_option maxRecDepth 100000 in
set_option maxHeartbeats 4000000 in
theorem lost_any (v tv a b : Value) (us : List UnitW) (M : Nat → Nat) (kk : Int) (u p : Nat) (x : WantD) (w : World) (h : RowWant us v tv a b M u p x w) :
  Calls Tryz.prog 61 #[v, .agg #[.int .i64 kk, .int .i64 u, .int .i64 0, .int .i64 0, tv], .int .i64 p, .agg #[.int .i64 x.u, a, b]] w fun e w' => e = .returned (.bool (lostN us M u p x)) ∧ Below w.heap.size w w' := by
 have hp3 := h.p
 have hmle := metN_le us x
 have hf31 := fullN_le h.ok.ns x.u.toNat
 have hM31 : M x.u.toNat ≤ 31 := h.inc.le h.ok.ns _ (by have := h.lo; have := h.hi; simp [nsOf]; omega)
 have HS := hid (lost_same (us := us) (M := M) (u := u) (p := p) (x := x))
 have HO := hid (lost_other (us := us) (M := M) (u := u) (p := p) (x := x))
 have HMET := hid (fun (W : World) (hb : Below w.heap.size w W) => pmet_any v a b us x W (h.later hb).wd h.ok (h.later hb).rel (h.later hb).pre h.lo h.hi (h.later hb).first)
 have HMASK := hid (fun (W : World) (hb : Below w.heap.size w W) => mask_any v tv (nsOf us) (canon (nsOf us) M) x.u W (h.later hb).wd.uni h.ok.ns (h.later hb).terms)
 have hxu : x.u = ((x.u.toNat : Nat) : Int) := by have := h.lo; omega
 have hmk : maskF (nsOf us) (canon (nsOf us) M) x.u = (M x.u.toNat : Int) := by
  rw [hxu]
  exact mask_of (by have := h.hi; simp [nsOf]; omega)
 rw [hmk] at HMASK
 obtain ⟨Aa, ca, hav, -⟩ := h.rel.shape
 obtain ⟨Ab, cb, hbv, -⟩ := h.pre.shape
 obtain ⟨At, ct, htv, -⟩ := h.terms.terms
 obtain ⟨g, cap0, hv, hg, -⟩ := h.wd
 generalize x.s.rel.length = n1 at hav
 generalize x.s.pre.length = n2 at hbv
 generalize (canon (nsOf us) M).length = n3 at htv
 subst hv hav hbv htv
 obtain ⟨w0, hw0⟩ : ∃ w0 : World, w0 = ((w.alloc (.cells #[.slice (some ⟨g, 0, none⟩) us.length cap0] 25)).alloc (.cells #[.int .i64 kk, .int .i64 u, .int .i64 0, .int .i64 0, .slice At n3 ct] 32)).alloc (.cells #[.int .i64 x.u, .slice Aa n1 ca, .slice Ab n2 cb] 65) := ⟨_, rfl⟩
 obtain ⟨hb0, hs0, q0, ⟨r0, r1, r2, r3, r4⟩, x0, x1, x2⟩ := three_boxes hw0
 have HB0 := hid hb0
 have HL := hid (fun e : Later w0 => HMET.out e.w (bstep hb0 e.below))
 have HK := hid (fun e : Later w0 => HMASK.out e.w (bstep hb0 e.below))
 obtain ⟨mt, hmt⟩ : ∃ mt, metN us x = mt := ⟨_, rfl⟩
 rw [hmt] at HS HO HL hmle
 obtain ⟨mm, hmm⟩ : ∃ mm, M x.u.toNat = mm := ⟨_, rfl⟩
 rw [hmm] at HO HK hM31
 have hpc : p = 0 ∨ p = 1 ∨ p = 2 ∨ p = 3 := by omega
 obtain ⟨pq, hpq⟩ : ∃ pq, 2 ^ (p + 1) = pq := ⟨_, rfl⟩
 have hpq31 : pq ≤ 31 := by rw [← hpq]; rcases hpc with rfl | rfl | rfl | rfl <;> decide
 have hmt31 : mt ≤ 31 := by omega
 rw [hpq] at HS
 have i4 : (0 : Int) ≤ ↑p + 1 := by omega
 have i5 : ¬ ((↑p : Int) + 1 < 0) := by omega
 have hw1 : IntKind.i64.wrap ((p : Int) + 1) = (p : Int) + 1 := IntWalk.i64_in _ (by omega)
 have hw2 : ((p : Int) + 1).toNat = p + 1 := by omega
 have hw3 : wrap64 ((2 : Int) ^ (p + 1)) = (pq : Int) := by rw [← hpq]; rcases hpc with rfl | rfl | rfl | rfl <;> simp [wrap64]
 obtain ⟨xu, hxx⟩ : ∃ xu, x.u = xu := ⟨_, rfl⟩
 rw [hxx] at HS HO x0 hw0 HL HK ⊢
 clear hpc hpq HMET HMASK hmk h hmt hmm hf31 hmle hxu hb0 hxx
 have hHW0 := hid hw0
 clear hw0
 have hz0 : w.heap.size + 2 < w0.heap.size := by omega
 have l0 := later_cell (show w.heap.size < w0.heap.size by omega) q0
 have l1 := later_cell (show w.heap.size + 1 < w0.heap.size by omega) r4
 have l2 := later_cell (show w.heap.size + 1 + 1 < w0.heap.size by omega) x0
 have l3 := later_cell (show w.heap.size + 1 + 1 < w0.heap.size by omega) x1
 have l4 := later_cell (show w.heap.size + 1 + 1 < w0.heap.size by omega) x2
 by_cases hc : xu = (u : Int)
 ·have z1 : (xu == (u : Int)) = true := beq_iff_eq.2 hc
  have HR := hid (HS.out hc)
  have hand := and_pq hmt31 hpq31
  have he := int_eq0 (mt &&& pq)
  have hn := int_ne0 (mt &&& pq)
  generalize mt &&& pq = r at *
  clear hc HS HO HK
  go_enter Tryz.func61, Tryz.ntmps61
  go_wp2_with fail
  rw [← hHW0.out]
  clear hHW0
  (refine wp_region_later (by kernel_rfl) (by kernel_rfl) ?_; (repeat (go_big_quiet_step ((go_at_call 46; exact Calls.later (HL.out _) rfl)))); refine wpQuiet_nil ?_; rintro _ ⟨⟨w1, hb1⟩, rfl⟩)
  go_wp2
  go_ret
  exact ⟨ret_bool (by first | exact HR.out.symm | (rw [hw3, hand, he]; exact HR.out.symm) | (rw [hand, he]; exact HR.out.symm)), bstep HB0.out hb1⟩
 ·have z1 : (xu == (u : Int)) = false := beq_false_of_ne hc
  have HR := hid (HO.out hc)
  have hand := and_pq hmt31 hM31
  have he := int_eq0 (mt &&& mm)
  generalize mt &&& mm = r at *
  clear hc HS HO hw1 hw2 hw3
  go_enter Tryz.func61, Tryz.ntmps61
  go_wp2_with fail
  rw [← hHW0.out]
  clear hHW0
  (refine wp_region_later (by kernel_rfl) (by kernel_rfl) ?_; (repeat (go_big_quiet_step ((first | (go_at_call 46; exact Calls.later (HL.out _) rfl) | (go_at_call 85; exact Calls.later (HK.out _) rfl))))); refine wpQuiet_nil ?_; rintro _ ⟨⟨w1, hb1⟩, rfl⟩)
  go_wp2
  go_ret
  exact ⟨ret_bool (by first | exact HR.out.symm | (rw [hw3, hand, he]; exact HR.out.symm) | (rw [hand, he]; exact HR.out.symm)), bstep HB0.out hb1⟩
set_option maxRecDepth 100000 in
set_option maxHeartbeats 4000000 in
theorem sure_any (v tv a b : Value) (us : List UnitW) (M : Nat → Nat) (kk : Int) (u p : Nat) (x : WantD) (w : World) (h : RowWant us v tv a b M u p x w) :
  Calls Tryz.prog 57 #[v, .agg #[.int .i64 kk, .int .i64 u, .int .i64 0, .int .i64 0, tv], .int .i64 p, .agg #[.int .i64 x.u, a, b]] w fun e w' => e = .returned (.bool (sureN us M u p x)) ∧ Below w.heap.size w w' := by
 have hp3 := h.p
 have hmle := metN_le us x
 have hf31 := fullN_le h.ok.ns x.u.toNat
 have hM31 : M x.u.toNat ≤ 31 := h.inc.le h.ok.ns _ (by have := h.lo; have := h.hi; simp [nsOf]; omega)
 have HS := hid (sure_same (us := us) (M := M) (u := u) (p := p) (x := x))
 have HO := hid (sure_other (us := us) (M := M) (u := u) (p := p) (x := x))
 have HMET := hid (fun (W : World) (hb : Below w.heap.size w W) => pmet_any v a b us x W (h.later hb).wd h.ok (h.later hb).rel (h.later hb).pre h.lo h.hi (h.later hb).first)
 have HMASK := hid (fun (W : World) (hb : Below w.heap.size w W) => mask_any v tv (nsOf us) (canon (nsOf us) M) x.u W (h.later hb).wd.uni h.ok.ns (h.later hb).terms)
 have hxu : x.u = ((x.u.toNat : Nat) : Int) := by have := h.lo; omega
 have hmk : maskF (nsOf us) (canon (nsOf us) M) x.u = (M x.u.toNat : Int) := by
  rw [hxu]
  exact mask_of (by have := h.hi; simp [nsOf]; omega)
 rw [hmk] at HMASK
 obtain ⟨Aa, ca, hav, -⟩ := h.rel.shape
 obtain ⟨Ab, cb, hbv, -⟩ := h.pre.shape
 obtain ⟨At, ct, htv, -⟩ := h.terms.terms
 obtain ⟨g, cap0, hv, hg, -⟩ := h.wd
 generalize x.s.rel.length = n1 at hav
 generalize x.s.pre.length = n2 at hbv
 generalize (canon (nsOf us) M).length = n3 at htv
 subst hv hav hbv htv
 obtain ⟨w0, hw0⟩ : ∃ w0 : World, w0 = ((w.alloc (.cells #[.slice (some ⟨g, 0, none⟩) us.length cap0] 25)).alloc (.cells #[.int .i64 kk, .int .i64 u, .int .i64 0, .int .i64 0, .slice At n3 ct] 32)).alloc (.cells #[.int .i64 x.u, .slice Aa n1 ca, .slice Ab n2 cb] 65) := ⟨_, rfl⟩
 obtain ⟨hb0, hs0, q0, ⟨r0, r1, r2, r3, r4⟩, x0, x1, x2⟩ := three_boxes hw0
 have HB0 := hid hb0
 have HL := hid (fun e : Later w0 => HMET.out e.w (bstep hb0 e.below))
 have HK := hid (fun e : Later w0 => HMASK.out e.w (bstep hb0 e.below))
 obtain ⟨mt, hmt⟩ : ∃ mt, metN us x = mt := ⟨_, rfl⟩
 rw [hmt] at HS HO HL hmle
 obtain ⟨mm, hmm⟩ : ∃ mm, M x.u.toNat = mm := ⟨_, rfl⟩
 rw [hmm] at HO HK hM31
 have hpc : p = 0 ∨ p = 1 ∨ p = 2 ∨ p = 3 := by omega
 obtain ⟨pq, hpq⟩ : ∃ pq, 2 ^ (p + 1) = pq := ⟨_, rfl⟩
 have hpq31 : pq ≤ 31 := by rw [← hpq]; rcases hpc with rfl | rfl | rfl | rfl <;> decide
 have hmt31 : mt ≤ 31 := by omega
 rw [hpq] at HS
 have i4 : (0 : Int) ≤ ↑p + 1 := by omega
 have i5 : ¬ ((↑p : Int) + 1 < 0) := by omega
 have hw1 : IntKind.i64.wrap ((p : Int) + 1) = (p : Int) + 1 := IntWalk.i64_in _ (by omega)
 have hw2 : ((p : Int) + 1).toNat = p + 1 := by omega
 have hw3 : wrap64 ((2 : Int) ^ (p + 1)) = (pq : Int) := by rw [← hpq]; rcases hpc with rfl | rfl | rfl | rfl <;> simp [wrap64]
 obtain ⟨xu, hxx⟩ : ∃ xu, x.u = xu := ⟨_, rfl⟩
 rw [hxx] at HS HO x0 hw0 HL HK ⊢
 clear hpc hpq HMET HMASK hmk h hmt hmm hf31 hmle hxu hb0 hxx
 have hHW0 := hid hw0
 clear hw0
 have hz0 : w.heap.size + 2 < w0.heap.size := by omega
 have l0 := later_cell (show w.heap.size < w0.heap.size by omega) q0
 have l1 := later_cell (show w.heap.size + 1 < w0.heap.size by omega) r4
 have l2 := later_cell (show w.heap.size + 1 + 1 < w0.heap.size by omega) x0
 have l3 := later_cell (show w.heap.size + 1 + 1 < w0.heap.size by omega) x1
 have l4 := later_cell (show w.heap.size + 1 + 1 < w0.heap.size by omega) x2
 by_cases hc : xu = (u : Int)
 ·have z1 : (xu == (u : Int)) = true := beq_iff_eq.2 hc
  have HR := hid (HS.out hc)
  have hand := and_pq hmt31 hpq31
  have he := int_eq0 (mt &&& pq)
  have hn := int_ne0 (mt &&& pq)
  generalize mt &&& pq = r at *
  clear hc HS HO HK
  go_enter Tryz.func57, Tryz.ntmps57
  go_wp2_with fail
  rw [← hHW0.out]
  clear hHW0
  (refine wp_region_later (by kernel_rfl) (by kernel_rfl) ?_; (repeat (go_big_quiet_step ((go_at_call 46; exact Calls.later (HL.out _) rfl)))); refine wpQuiet_nil ?_; rintro _ ⟨⟨w1, hb1⟩, rfl⟩)
  go_wp2
  go_ret
  exact ⟨ret_bool (by first | exact HR.out.symm | (rw [hw3, hand, hn]; exact HR.out.symm) | (rw [hand]; exact HR.out.symm)), bstep HB0.out hb1⟩
 ·have z1 : (xu == (u : Int)) = false := beq_false_of_ne hc
  have HR := hid (HO.out hc)
  have hand := andn_pq hM31 hmt31
  generalize hr : (mm &&& mt == mm) = r at *
  clear hr
  clear hc HS HO hw1 hw2 hw3
  go_enter Tryz.func57, Tryz.ntmps57
  go_wp2_with fail
  rw [← hHW0.out]
  clear hHW0
  (refine wp_region_later (by kernel_rfl) (by kernel_rfl) ?_; (repeat (go_big_quiet_step ((first | (go_at_call 46; exact Calls.later (HL.out _) rfl) | (go_at_call 85; exact Calls.later (HK.out _) rfl))))); refine wpQuiet_nil ?_; rintro _ ⟨⟨w1, hb1⟩, rfl⟩)
  go_wp2
  go_ret
  exact ⟨ret_bool (by first | exact HR.out.symm | (rw [hw3, hand, hn]; exact HR.out.symm) | (rw [hand]; exact HR.out.symm)), bstep HB0.out hb1⟩
end
end Go.Proofs.YthneiolcljnbeaaGreatDoor
