import Derived.Test.YthneiolcljnbeaaGreatDoorzM5
import Derived.Test.YthneiolcljnbeaaGreatDoorzH1
import Derived.Outline
import Derived.Test.YthneiolcljnbeaaGreatDoorzM1
import Derived.Deep.RegionHeld3
import Derived.Deep.DeepMust
namespace Go.Proofs.YthneiolcljnbeaaGreatDoor
open Go Go.RowKit
section
theorem metW_has {us : List UnitW} {c : List Int} {x : WantD} {u j : Nat} (hu : u < us.length) (hx : x.u.toNat = u) (hj : j < us[u].cands.length) (hc : c.getD u 0 = (j : Int)) : metW us c x = hasB x.s us[u].cands[j].v := by
 unfold metW metN
 rw [hx, hc, List.getElem?_eq_getElem hu]
 dsimp only
 have e : ((j : Int) + 1).toNat = j + 1 := by omega
 rw [e]
 have h := metTo_bit us[u].cands x.s us[u].cands.length (j + 1)
 rw [Nat.add_sub_cancel, List.getElem?_eq_getElem hj] at h
 cases hb : hasB x.s us[u].cands[j].v with
 | true => exact h.2 ⟨by omega, by omega, hb⟩
 | false =>
  cases ht : (metTo us[u].cands x.s us[u].cands.length).testBit (j + 1) with
  | false => rfl
  | true =>
   have := (h.1 ht).2.2
   rw [show ((some us[u].cands[j]).map fun c => hasB x.s c.v).getD false = hasB x.s us[u].cands[j].v from rfl, hb] at this
   cases this
set_option maxRecDepth 100000 in
set_option maxHeartbeats 4000000 in
theorem met19_any (v cv av bv : Value) (us : List UnitW) (c : List Int) (x : WantD) (w : World) (h : WorldRd w (Lt w.heap.size) v us) (hcv : SliceRd tInt w (Lt w.heap.size) cv c) (hc : ChoiceOk (nsOf us) c) (h1 : SliceRd fSpan.ty w (Lt w.heap.size) av x.s.rel) (h2 : SliceRd fSpan.ty w (Lt w.heap.size) bv x.s.pre) (hx0 : 0 ≤ x.u) (hx1 : x.u < us.length) (_h11 : us.length ≤ 48) :
  Calls Tryz.prog 90 #[v, cv, .agg #[.int .i64 x.u, av, bv]] w fun e w' => e = .returned (.bool (metW us c x)) ∧ Below w.heap.size w w' := by
 have hl : (nsOf us).length = us.length := by simp [nsOf]
 have hcl := hc.len
 obtain ⟨g, cap, rfl, hg, hun⟩ := h.opened
 obtain ⟨Ac, cc, rfl, hca, hcm, hcc⟩ := hcv.ints
 unfold maxLen at hcm
 obtain ⟨u, hu⟩ : ∃ u : Nat, x.u = (u : Int) := ⟨x.u.toNat, by omega⟩
 have hul : u < us.length := by omega
 have hun2 : x.u.toNat = u := by omega
 obtain ⟨Au, cu, hcu, hcd⟩ := hun u hul
 obtain ⟨gc, oc, rfl, hFc, hcel, -⟩ := hcc u (by omega)
 have hv : -1 ≤ c.getD u 0 ∧ c.getD u 0 < us[u].cands.length := by
  have := hc.val u (by omega)
  simpa [nsOf] using this
 have e2 : c.getD u 0 = c[u]'(by omega) := by rw [List.getD_eq_getElem?_getD, List.getElem?_eq_getElem (by omega)]; rfl
 have HNEG := hid (fun h : c.getD u 0 = -1 => metW_neg (us := us) (c := c) (x := x) (by rw [hun2]; exact h))
 have HPOS := hid (fun (j : Nat) (hj : j < us[u].cands.length) (h : c.getD u 0 = j) => metW_has (us := us) (c := c) (x := x) hul hun2 hj h)
 have HHS := hid (fun (vr : Ver) (hvr : vr.B) (W : World) (hb : Below w.heap.size w W) => has5_any av bv x.s vr W (h1.lift hb hb.size) (h2.lift hb hb.size) hvr)
 have HCD := hid hcd
 obtain ⟨Aa, ca, rfl, -⟩ := h1.shape
 obtain ⟨Ab, cb, rfl, -⟩ := h2.shape
 obtain ⟨n, hn⟩ : ∃ n, us.length = n := ⟨_, rfl⟩
 have hcn : c.length = n := by omega
 generalize x.s.rel.length = n1 at *
 generalize x.s.pre.length = n2 at *
 rw [e2] at HNEG HPOS hv
 obtain ⟨q, hq⟩ : ∃ q, c[u]'(by omega) = q := ⟨_, rfl⟩
 rw [hq] at HNEG HPOS hv hcel
 obtain ⟨b, hb⟩ : ∃ b, metW us c x = b := ⟨_, rfl⟩
 rw [hb] at HNEG HPOS ⊢
 rw [hu] at ⊢
 rw [hn] at ⊢
 rw [hcn] at hca ⊢
 have u1 : (0 : Int) ≤ ↑u := by omega
 have u2 : (↑u : Int) < ↑n := by omega
 generalize us[u].cands = cs at *
 obtain ⟨m, hm⟩ : ∃ m, cs.length = m := ⟨_, rfl⟩
 rw [hm] at hv hcu
 have HM := hid hm
 clear h hcv hc h1 h2 hun hcc hcd hq hb hm e2 hu hun2 hcl hl hx0 hx1
 obtain ⟨w0, hw0⟩ : ∃ w0 : World, w0 = (w.alloc (.cells #[.slice (some ⟨g, 0, none⟩) n cap] 25)).alloc (.cells #[.int .i64 u, .slice Aa n1 ca, .slice Ab n2 cb] 65) := ⟨_, rfl⟩
 have hb0 : Below w.heap.size w w0 := hw0 ▸ balloc (balloc (b0 w) _) _
 have hz0 : w.heap.size + 1 < w0.heap.size := by rw [hw0]; simp
 have hzz : w.heap.size < w0.heap.size := by omega
 have hg0 : g < w0.heap.size := Nat.lt_of_lt_of_le hg hb0.size
 have hgc0 : gc < w0.heap.size := Nat.lt_of_lt_of_le hFc hb0.size
 have p0 := later_cell hzz (show w0.cell? ⟨w.heap.size, 0, none⟩ = some (.slice (some ⟨g, 0, none⟩) n cap) by rw [hw0]; exact alloc2_old rfl)
 have s0 := later_cell hz0 (show w0.cell? ⟨w.heap.size + 1, 0, none⟩ = some (.int .i64 u) by rw [hw0]; exact alloc2_new rfl)
 have s1 := later_cell hz0 (show w0.cell? ⟨w.heap.size + 1, 1, none⟩ = some (.slice Aa n1 ca) by rw [hw0]; exact alloc2_new rfl)
 have s2 := later_cell hz0 (show w0.cell? ⟨w.heap.size + 1, 2, none⟩ = some (.slice Ab n2 cb) by rw [hw0]; exact alloc2_new rfl)
 have t0 := later_cell hgc0 (cell_below hb0 hFc hcel)
 have t1 := later_cell hg0 (cell_below hb0 hg hcu)
 have HB0 := hid hb0
 clear hcu hcel hb0
 by_cases hneg : q = -1
 ·have hbb := HNEG.out hneg
  subst hneg hbb
  go_enter Tryz.func90, Tryz.ntmps90
  go_upto_region 1 with fail
  rw [← hw0]
  clear hw0
  (refine wp_region_later (by kernel_rfl) (by kernel_rfl) ?_; (repeat (go_big_quiet_step ((fail)))); refine wpQuiet_nil ?_; rintro _ ⟨⟨w2, hb2⟩, rfl⟩)
  go_wp2_with fail
  go_ret
  exact ⟨rfl, bstep HB0.out hb2⟩
 ·obtain ⟨j, hj⟩ : ∃ j : Nat, q = (j : Int) := ⟨q.toNat, by omega⟩
  subst hj
  have hjm : j < m := by omega
  have hbb := HPOS.out j (by rw [HM.out]; exact hjm) rfl
  obtain ⟨gk, o, nv, bw, hA, hF, hat, hB, -, -⟩ := HCD.out j (by rw [HM.out]; exact hjm)
  subst hA
  have HSK := hid (fun e : Later w0 => HHS.out _ hB e.w (bstep HB0.out e.below))
  obtain ⟨c0, c1, c2, c3, c4, -, -, -⟩ := hat.below HB0.out hF
  rw [← hbb] at HSK
  generalize cs[j]'(by rw [HM.out]; exact hjm) = cd at *
  obtain ⟨⟨va, vb, vc, vp, vq⟩, sh, nd, br⟩ := cd
  dsimp only at c0 c1 c2 c3 c4 HSK
  have hgk : gk < w0.heap.size := Nat.lt_of_lt_of_le hF HB0.out.size
  have l0 := later_cell hgk c0
  have l1 := later_cell hgk c1
  have l2 := later_cell hgk c2
  have l3 := later_cell hgk c3
  have l4 := later_cell hgk c4
  have j1 : (0 : Int) ≤ ↑j := by omega
  have j2 : (↑j : Int) < ↑m := by omega
  have j3 : decide ((0 : Int) ≤ ↑j) = true := decide_eq_true j1
  clear hat hB hbb c0 c1 c2 c3 c4 hneg hv
  go_enter Tryz.func90, Tryz.ntmps90
  go_upto_region 1 with fail
  rw [← hw0]
  clear hw0
  (refine wp_region_later (by kernel_rfl) (by kernel_rfl) ?_; (repeat (go_big_quiet_step ((first | (go_at_call 87; exact Calls.later (HSK.out _) rfl))))); refine wpQuiet_nil ?_; rintro _ ⟨⟨w2, hb2⟩, rfl⟩)
  go_wp2_with fail
  go_ret
  exact ⟨rfl, bstep HB0.out hb2⟩
end
section
set_option maxRecDepth 100000 in
set_option maxHeartbeats 4000000 in
theorem some19_any (v cv lv : Value) (us : List UnitW) (c : List Int) (l : List WantD) (w : World) (h : WorldRd w (Lt w.heap.size) v us) (hcv : SliceRd tInt w (Lt w.heap.size) cv c) (hc : ChoiceOk (nsOf us) c) (hl : SliceRd tWant w (Lt w.heap.size) lv l) (hok : ∀ x ∈ l, 0 ≤ x.u ∧ x.u < us.length) (h11 : us.length ≤ 48) :
  Calls Tryz.prog 89 #[v, cv, lv] w fun e w' => e = .returned (.bool (l.any (metW us c))) ∧ Below w.heap.size w w' := by
 have HMET := hid (fun (k : Nat) (hk : k < l.length) (a b : Value) (W : World) (hb : Below w.heap.size w W) (h1 : SliceRd fSpan.ty W (Lt W.heap.size) a l[k].s.rel) (h2 : SliceRd fSpan.ty W (Lt W.heap.size) b l[k].s.pre) => met19_any v cv a b us c l[k] W (h.lift hb hb.size) (hcv.lift hb hb.size) hc h1 h2 (hok _ (List.getElem_mem hk)).1 (hok _ (List.getElem_mem hk)).2 h11)
 obtain ⟨g, cap, rfl, hg, -⟩ := h.opened
 obtain ⟨Ac, cc, rfl, -⟩ := hcv.ints
 obtain ⟨A, ca, rfl, hca, hcm, hcw⟩ := hl.wants
 have HCW := hid hcw
 unfold maxLen at hcm
 obtain ⟨n, hn⟩ : ∃ n, l.length = n := ⟨_, rfl⟩
 have HN := hid hn
 rw [hn] at hca ⊢
 generalize us.length = U at *
 generalize c.length = C at *
 clear h hcv hc hl hok hcw hn h11
 obtain ⟨w0, hw0⟩ : ∃ w0 : World, w0 = w.alloc (.cells #[.slice (some ⟨g, 0, none⟩) U cap] 25) := ⟨_, rfl⟩
 have hb0 : Below w.heap.size w w0 := hw0 ▸ balloc (b0 w) _
 have hz0 : w.heap.size < w0.heap.size := by rw [hw0]; simp
 have q0 : w0.cell? ⟨w.heap.size, 0, none⟩ = some (.slice (some ⟨g, 0, none⟩) U cap) := by rw [hw0, alloc_cell]; rfl
 have HB0 := hid hb0
 go_enter Tryz.func89, Tryz.ntmps89
 go_wp2_with fail
 rw [← hw0]
 clear hw0 hb0
 go_loopw [7] (fun iv wr => ∃ k : Nat, k ≤ n ∧ iv = .int .i64 k ∧ Hid (Below w0.heap.size w0 wr) ∧ Hid (∀ j, (hj : j < l.length) → j < k → metW us c l[j] = false)) (fun iv _ => n - (intOf iv).toNat)
 case atStart => exact ⟨0, Nat.zero_le _, rfl, hid (b0 w0), hid (fun j _ h => absurd h (by omega))⟩
 case round =>
  obtain ⟨k, hk, rfl, hb, hno⟩ := hrel
  have HBW := hid (bstep HB0.out hb.out)
  by_cases hlt : k < n
  ·have hkl : k < l.length := by rw [HN.out]; exact hlt
   obtain ⟨gx, ox, a, b, hA, hFx, x0, x1, x2, hra, hrb⟩ := HCW.out k hkl
   subst hA
   have hgx : gx < wr.heap.size := Nat.lt_of_lt_of_le hFx HBW.out.size
   have hzr : w.heap.size < wr.heap.size := Nat.lt_of_lt_of_le hz0 hb.out.size
   have l0 := later_cell hgx (cell_below HBW.out hFx x0)
   have l1 := later_cell hgx (cell_below HBW.out hFx x1)
   have l2 := later_cell hgx (cell_below HBW.out hFx x2)
   have l3 := later_cell hzr (cell_below hb.out hz0 q0)
   have HME := hid (fun e : Later wr => HMET.out k hkl a b e.w (bstep HBW.out e.below) (hra.lift (bstep HBW.out e.below) (bstep HBW.out e.below).size) (hrb.lift (bstep HBW.out e.below) (bstep HBW.out e.below).size))
   have i0 : (0 : Int) ≤ ↑k := by omega
   have i1 : (↑k : Int) < ↑n := by omega
   obtain ⟨xu, hxu⟩ : ∃ xu, l[k].u = xu := ⟨_, rfl⟩
   obtain ⟨bm, hbm⟩ : ∃ bm, metW us c l[k] = bm := ⟨_, rfl⟩
   have HBM := hid hbm
   rw [hxu, hbm] at HME
   rw [hxu] at l0
   clear x0 x1 x2 hra hrb hxu hbm
   cases bm with
   | true =>
    have HT := hid (anyw_at hkl HBM.out)
    go_wp2_with fail
    (refine wp_region_later (by kernel_rfl) (by kernel_rfl) ?_; (repeat (go_big_quiet_step ((first | (go_at_call 90; exact Calls.later (HME.out _) rfl))))); refine wpQuiet_nil ?_; rintro _ ⟨⟨w2, hb2⟩, rfl⟩)
    go_wp2_with fail
    go_ret
    exact ⟨by rw [HT.out]; rfl, bstep HBW.out hb2⟩
   | false =>
    go_wp2_with fail
    (refine wp_region_later (by kernel_rfl) (by kernel_rfl) ?_; (repeat (go_big_quiet_step ((first | (go_at_call 90; exact Calls.later (HME.out _) rfl))))); refine wpQuiet_nil ?_; rintro _ ⟨⟨w2, hb2⟩, rfl⟩)
    go_wp2_with fail
    exact ⟨⟨k + 1, by omega, by go_num, hid (bstep hb.out hb2), hid (fun j hj hjk => if e : j = k then by subst e; exact HBM.out else hno.out j hj (by omega))⟩, by simp [intOf]; omega⟩
  ·have hkn : k = n := by omega
   subst hkn
   have HT := hid (anyw_no (us := us) (c := c) (l := l) fun j hj => hno.out j hj (by rw [HN.out] at hj; exact hj))
   go_wp2_with fail
   go_ret
   exact ⟨by rw [HT.out]; rfl, HBW.out⟩
end
section
structure FaultD where
 k : Int
 u : Int
 a : Int
def fFault : Flat FaultD := ⟨3, fun f => [.int .i64 f.k, .int .i64 f.u, .int .i64 f.a], fun f => I64 f.k ∧ I64 f.u ∧ I64 f.a, fun _ => rfl, fun _ u h => by simp at h; rcases h with rfl | rfl | rfl <;> rfl, by decide⟩
theorem fault_info : (Tryz.prog.info? 129).map (fun i => (i.zero, i.size, i.bytes)) = some (some (.agg #[.int .i64 0, .int .i64 0, .int .i64 0]), 3, 24) := by kernel_rfl
theorem served_iff {us : List UnitW} {c : List Int} {cd : CandW} : servedC us c cd = true ↔ (∀ i, (hi : i < cd.needs.length) → cd.needs[i].any (metW us c) = true) ∧ ∀ i, (hi : i < cd.bars.length) → metW us c cd.bars[i] = false := by
 unfold servedC
 rw [Bool.and_eq_true, List.all_eq_true, Bool.not_eq_true', List.any_eq_false]
 constructor
 ·rintro ⟨h1, h2⟩
  exact ⟨fun i hi => h1 _ (List.getElem_mem hi), fun i hi => by simpa using h2 _ (List.getElem_mem hi)⟩
 ·rintro ⟨h1, h2⟩
  refine ⟨fun l hl => ?_, fun x hx => ?_⟩
  ·obtain ⟨i, hi, rfl⟩ := List.getElem_of_mem hl
   exact h1 i hi
  ·obtain ⟨i, hi, rfl⟩ := List.getElem_of_mem hx
   rw [h2 i hi]
   decide
def OnePost (us : List UnitW) (c : List Int) (cd : CandW) (w : World) (e : Ending) (w' : World) : Prop :=
 ∃ v' fs, e = .returned v' ∧ OwnF fFault 129 w.heap.size w' v' fs ∧ (fs = [] ↔ servedC us c cd = true) ∧ fs.length ≤ 64 ∧ Below w.heap.size w w'
set_option maxRecDepth 100000 in
set_option maxHeartbeats 8000000 in
theorem one19_any (v cv : Value) (us : List UnitW) (c : List Int) (u j : Nat) (w : World) (h : WorldRd w (Lt w.heap.size) v us) (ho : UnitsOk us) (hcv : SliceRd tInt w (Lt w.heap.size) cv c) (hc : ChoiceOk (nsOf us) c) (hu : u < us.length) (hj : j < us[u].cands.length) (hcu : c.getD u 0 = (j : Int)) :
  Calls Tryz.prog 67 #[v, cv, .int .i64 u] w (OnePost us c us[u].cands[j] w) := by
 obtain ⟨it, hit⟩ := info_parts fault_info
 have HIT := hid hit
 have hl : (nsOf us).length = us.length := by simp [nsOf]
 have hcl := hc.len
 have h11 := ho.ns.hi
 have HW := hid h
 have HCV := hid hcv
 have HC := hid hc
 obtain ⟨g, cap, rfl, hg, hun⟩ := h.opened
 obtain ⟨Ac, cc, rfl, hca, hcm, hcc⟩ := hcv.ints
 unfold maxLen at hcm
 obtain ⟨Au, cu, hcu2, hcd⟩ := hun u hu
 obtain ⟨gk, o, nv, bw, hA, hF, hat, hB, hnd, hbr⟩ := hcd j hj
 subst hA
 obtain ⟨gc, oc, rfl, hFc, hcel, -⟩ := hcc u (by omega)
 have e2 : c.getD u 0 = c[u]'(by omega) := by rw [List.getD_eq_getElem?_getD, List.getElem?_eq_getElem (by omega)]; rfl
 rw [← e2, hcu] at hcel
 have hin := ok_inH ho (List.getElem?_eq_getElem hu) (List.getElem?_eq_getElem hj)
 have hok : us[u].cands[j].ok us.length := ho.cands _ (List.getElem_mem hu) _ (List.getElem_mem hj)
 obtain ⟨d0, d1, d2, d3, d4, d5, d6, d7⟩ := hat
 obtain ⟨cd, hcd2⟩ : ∃ cd, us[u].cands[j] = cd := ⟨_, rfl⟩
 rw [hcd2] at d0 d1 d2 d3 d4 d5 hnd hbr hin hok ⊢
 have HND := hid hnd
 have HBRD := hid hbr
 obtain ⟨An, cn, rfl, hcn, hcnm, hcnn⟩ := hnd.shape
 obtain ⟨Ab, cb, rfl, hcb, hcbm, hcbb⟩ := hbr.wants
 have HCB := hid hcbb
 have HCN := hid (show ∀ k, (hk : k < cd.needs.length) → ∃ g o v, An = some ⟨g, o, none⟩ ∧ g < w.heap.size ∧ w.cell? ⟨g, o + k, none⟩ = some v ∧ SliceRd tWant w (Lt w.heap.size) v cd.needs[k] from fun k hk => by
  obtain ⟨g, o, cs, e1, e2, e3, e4, v, rfl, e5⟩ := hcnn k hk
  exact ⟨g, o, v, e1, e2, by have h := e4 0 (by show 0 < 1; omega); simpa [tSlice] using h, e5⟩)
 obtain ⟨nn, hnn⟩ : ∃ nn, cd.needs.length = nn := ⟨_, rfl⟩
 obtain ⟨nb, hnb⟩ : ∃ nb, cd.bars.length = nb := ⟨_, rfl⟩
 have HNN := hid hnn
 have HNB := hid hnb
 rw [hnn] at d6 hcn
 rw [hnb] at d7 hcb
 clear hnd hbr hcnn hcbb hnn hnb
 go_enter Tryz.func67, Tryz.ntmps67
 go_upto_region 2 with fail
 obtain ⟨w0, hw0⟩ : ∃ w0 : World, w0 = w.alloc (.cells #[.slice (some ⟨g, 0, none⟩) us.length cap] 25) := ⟨_, rfl⟩
 have hb0 : Below w.heap.size w w0 := hw0 ▸ balloc (b0 w) _
 have hz0 : w.heap.size < w0.heap.size := by rw [hw0]; simp
 have q0 : w0.cell? ⟨w.heap.size, 0, none⟩ = some (.slice (some ⟨g, 0, none⟩) us.length cap) := by rw [hw0, alloc_cell]; rfl
 have HB0 := hid hb0
 rw [← hw0]
 have t0 := cell_below hb0 hFc hcel
 have t1 := cell_below hb0 hg hcu2
 have y0 := cell_below hb0 hF d0
 have y1 := cell_below hb0 hF d1
 have y2 := cell_below hb0 hF d2
 have y3 := cell_below hb0 hF d3
 have y4 := cell_below hb0 hF d4
 have y5 := cell_below hb0 hF d5
 have y6 := cell_below hb0 hF d6
 have y7 := cell_below hb0 hF d7
 have u1 : (0 : Int) ≤ ↑u := by omega
 have u2 : (↑u : Int) < ↑us.length := by omega
 have u3 : (↑u : Int) < ↑c.length := by omega
 have j1 : (0 : Int) ≤ ↑j := by omega
 have j2 : (↑j : Int) < ↑us[u].cands.length := by omega
 clear hw0 hb0 hcd hun hcc d0 d1 d2 d3 d4 d5 d6 d7 hcel hcu2 h hcv hc
 go_region_held3 (fun w' => w'.cell? ⟨w.heap.size, 0, none⟩ = some (.slice (some ⟨g, 0, none⟩) us.length cap) ∧ w'.cell? ⟨gc, oc + u, none⟩ = some (.int .i64 j) ∧ w'.cell? ⟨g, u * 3 + 2, none⟩ = some (.slice (some ⟨gk, o, none⟩) us[u].cands.length cu) ∧ w'.cell? ⟨gk, o + j * 8, none⟩ = some (.int .i64 cd.v.major) ∧ w'.cell? ⟨gk, o + j * 8 + 1, none⟩ = some (.int .i64 cd.v.minor) ∧ w'.cell? ⟨gk, o + j * 8 + 2, none⟩ = some (.int .i64 cd.v.patch) ∧ w'.cell? ⟨gk, o + j * 8 + 3, none⟩ = some (.string cd.v.pre) ∧ w'.cell? ⟨gk, o + j * 8 + 4, none⟩ = some (.string cd.v.build) ∧ w'.cell? ⟨gk, o + j * 8 + 5, none⟩ = some (.int .i64 cd.sh) ∧ w'.cell? ⟨gk, o + j * 8 + 6, none⟩ = some (.slice An nn cn) ∧ w'.cell? ⟨gk, o + j * 8 + 7, none⟩ = some (.slice Ab nb cb)) (first | exact ⟨by assumption, by assumption, by assumption, by assumption, by assumption, by assumption, by assumption, by assumption, by assumption, by assumption, by assumption⟩ | go_keep) (fail)
 obtain ⟨w1, hw1⟩ : ∃ w1 : World, w1 = (w0.alloc (.cells #[.int .i64 cd.v.major, .int .i64 cd.v.minor, .int .i64 cd.v.patch, .string cd.v.pre, .string cd.v.build, .int .i64 cd.sh, .slice An nn cn, .slice Ab nb cb] 55)).drew := ⟨_, rfl⟩
 have hb1 : Below w0.heap.size w0 w1 := hw1 ▸ (balloc (b0 w0) _).drew
 have hz1 : w0.heap.size < w1.heap.size := by rw [hw1]; simp [World.drew]
 have x6 : w1.cell? ⟨w0.heap.size, 6, none⟩ = some (.slice An nn cn) := by rw [hw1]; show (w0.alloc _).cell? _ = _; rw [alloc_cell]; rfl
 have x7 : w1.cell? ⟨w0.heap.size, 7, none⟩ = some (.slice Ab nb cb) := by rw [hw1]; show (w0.alloc _).cell? _ = _; rw [alloc_cell]; rfl
 have r0 := cell_below hb1 hz0 q0
 have HBW := hid (bstep HB0.out hb1)
 have hzw : w.heap.size < w1.heap.size := Nat.lt_trans hz0 hz1
 simp only [Exit.then]
 rw [← hw1]
 clear hw1 hb1 q0 t0 t1 y0 y1 y2 y3 y4 y5 y6 y7 HB0 hz0
 generalize w0.heap.size = bc at *
 unfold maxLen at hcnm hcbm
 have hnn8 : nn ≤ 8 := by rw [← HNN.out]; exact hok.1
 have hnb4 : nb ≤ 4 := by rw [← HNB.out]; exact hok.2.2.1
 go_at_K
 go_wp2_with fail
 go_loopw [7, 9] (fun tv iv wr => ∃ (k : Nat) (fs : List FaultD), k ≤ nn ∧ iv = .int .i64 k ∧ fs.length ≤ k ∧ Hid (OwnF fFault 129 w1.heap.size wr tv fs) ∧ Hid (fs = [] ↔ ∀ i, (hi : i < cd.needs.length) → i < k → cd.needs[i].any (metW us c) = true) ∧ Hid (Below w1.heap.size w1 wr)) (fun _ iv _ => nn - (intOf iv).toNat)
 case atStart => exact ⟨0, [], Nat.zero_le _, rfl, Nat.le_refl _, hid (OwnF.nil _ _ _ _), hid ⟨fun _ i _ h => absurd h (by omega), fun _ => rfl⟩, hid (b0 _)⟩
 case round =>
  obtain ⟨k, fs, hk, rfl, hfk, how, hiff, hb⟩ := hrel
  have HBR := hid (bstep HBW.out hb.out)
  have z0 := cell_below hb.out hzw r0
  have z6 := cell_below hb.out hz1 x6
  have z7 := cell_below hb.out hz1 x7
  obtain ⟨Ao, co, hov⟩ := how.out.form
  have HLEN := hid (show fs.length = fs.length from rfl)
  obtain ⟨m, hm⟩ : ∃ m, fs.length = m := ⟨_, rfl⟩
  rw [hm] at hov hfk
  subst hov
  have HM := hid hm
  have hzr : w.heap.size < wr.heap.size := Nat.lt_of_lt_of_le hzw hb.out.size
  have hzc : bc < wr.heap.size := Nat.lt_of_lt_of_le hz1 hb.out.size
  by_cases hlt : k < nn
  ·have hkl : k < cd.needs.length := by rw [HNN.out]; exact hlt
   obtain ⟨gn, on, v, hA, hFn, n0, hrd⟩ := HCN.out k hkl
   subst hA
   have hgn : gn < wr.heap.size := Nat.lt_of_lt_of_le hFn HBR.out.size
   have l0 := later_cell hgn (cell_below HBR.out hFn n0)
   have l1 := later_cell hzr z0
   have l2 := later_cell hzc z6
   have HS := hid (fun e : Later wr => some19_any (.agg #[.slice (some ⟨g, 0, none⟩) us.length cap]) (.slice (some ⟨gc, oc, none⟩) c.length cc) v us c cd.needs[k] e.w (HW.out.lift (bstep HBR.out e.below) (bstep HBR.out e.below).size) (HCV.out.lift (bstep HBR.out e.below) (bstep HBR.out e.below).size) HC.out (hrd.lift (bstep HBR.out e.below) (bstep HBR.out e.below).size) (hin.1 _ (List.getElem_mem hkl)) (by omega))
   have hcl2 : c.length = us.length := by omega
   rw [hcl2] at HS
   obtain ⟨b, hbb⟩ : ∃ b, cd.needs[k].any (metW us c) = b := ⟨_, rfl⟩
   have HBB := hid hbb
   rw [hbb] at HS
   have i0 : (0 : Int) ≤ ↑k := by omega
   have i1 : (↑k : Int) < ↑nn := by omega
   clear hrd n0 hbb
   cases b with
   | true =>
    go_wp2_with fail
    (refine wp_region_later (by kernel_rfl) (by kernel_rfl) ?_; (repeat (go_big_quiet_step ((first | (go_at_call 89; exact Calls.later (HS.out _) rfl))))); refine wpQuiet_nil ?_; rintro _ ⟨⟨w2, hb2⟩, rfl⟩)
    go_wp2_with fail
    refine ⟨⟨k + 1, fs, by omega, by go_num, by rw [HM.out]; omega, ?_, ?_, hid (bstep hb.out hb2)⟩, by simp [intOf]; omega⟩
    ·exact hid (how.out.below hb2 (Nat.le_refl _))
    ·exact hid ⟨fun e i hi h => if e2 : i = k then by subst e2; exact HBB.out else (hiff.out.1 e) i hi (by omega), fun h => hiff.out.2 fun i hi h' => h i hi (by omega)⟩
   | false =>
    go_wp2_with fail
    (refine wp_region_later (by kernel_rfl) (by kernel_rfl) ?_; (repeat (go_big_quiet_step ((first | (go_at_call 89; exact Calls.later (HS.out _) rfl))))); refine wpQuiet_nil ?_; rintro _ ⟨⟨w2, hb2⟩, rfl⟩)
    have HB2 := hid hb2
    have HOWN := hid (show wr.ownsRow w1.heap.size 129 3 (.slice Ao m co) m (fFault.all fs) by have h := how.out.1; rw [HM.out] at h; exact h)
    have HOKT := hid (show fFault.ok ⟨2, u, k⟩ from ⟨⟨by show -9223372036854775808 ≤ (2 : Int); omega, by show (2 : Int) ≤ 9223372036854775807; omega⟩, i64_small (by omega), i64_small (by omega)⟩)
    have hsr := hb.out.size
    rename World => w2
    clear hb2
    go_wp2_with (at_builtin; go_must (refine wpList_append_src _ rfl (.tmp 39) (.tmp 43) _ rfl w1.heap.size 129 it _ 3 24 Tryz.underlying93 HIT.out.1 HIT.out.2.1 HIT.out.2.2.1 HIT.out.2.2.2 rfl (by omega) (.slice Ao m co) m (fFault.all fs) (by rfl) (by exact ownsRow_below HOWN.out (balloc HB2.out _) (fun g hg => (HOWN.out.lt g hg).2)) (some ⟨w2.heap.size, 0, none⟩) 1 1 (fFault.cells ⟨2, u, k⟩) (by rfl) (by exact src_one (f := fFault) rfl) (by simp [fFault, Value.oneCell']) (by unfold maxLen; omega) (by omega) (by have := HB2.out.size; simp; omega) ?_; intro v5 w5 hown5 hg5 hat5; have HO5 := hid (own_snocF (x := (⟨2, u, k⟩ : FaultD)) HM.out how.out.2 HOKT.out hown5); have HB5 := hid (Below.grown (hb.out.trans ((balloc HB2.out _).mono hb.out.size)) hg5 (by have := HB2.out.size; simp; omega) (fun k h => (HOWN.out.lt k h).1)); clear hown5 hg5 hat5))
    exact ⟨⟨k + 1, fs ++ [⟨2, u, k⟩], by omega, by go_num, by rw [List.length_append, HM.out]; show m + 1 ≤ k + 1; omega, HO5, hid ⟨fun e => by simp at e, fun h => by have := h k hkl (by omega); rw [HBB.out] at this; cases this⟩, HB5⟩, by simp [intOf]; omega⟩
  ·have hkn : k = nn := by omega
   subst hkn
   rename World => wo
   have HOUT := hid (show (fs = [] ↔ ∀ i, (hi : i < cd.needs.length) → cd.needs[i].any (metW us c) = true) from ⟨fun e i hi => hiff.out.1 e i hi (by rw [← HNN.out]; exact hi), fun h => hiff.out.2 fun i hi _ => h i hi⟩)
   have HBO := hid hb.out
   have HFS := hid hfk
   clear hlt hiff hb hzc HLEN
   go_wp2_with fail
   go_loopw [7, 10] (fun tv iv wr => ∃ (k : Nat) (fs : List FaultD), k ≤ nb ∧ iv = .int .i64 k ∧ fs.length ≤ 8 + k ∧ Hid (OwnF fFault 129 w1.heap.size wr tv fs) ∧ Hid (fs = [] ↔ (∀ i, (hi : i < cd.needs.length) → cd.needs[i].any (metW us c) = true) ∧ ∀ i, (hi : i < cd.bars.length) → i < k → metW us c cd.bars[i] = false) ∧ Hid (Below w1.heap.size w1 wr)) (fun _ iv _ => nb - (intOf iv).toNat)
   case atStart => exact ⟨0, fs, Nat.zero_le _, rfl, by rw [HM.out]; omega, how, hid ⟨fun e => ⟨HOUT.out.1 e, fun i _ h => absurd h (by omega)⟩, fun h => HOUT.out.2 h.1⟩, HBO⟩
   case round =>
    clear how HFS HOUT HBO HBR hzr hfk HM z0 z6 z7
    obtain ⟨q, fs, hq, rfl, hfk, how, hiff, hb⟩ := hrel
    have HBR := hid (bstep HBW.out hb.out)
    have z0 := cell_below hb.out hzw r0
    have z7 := cell_below hb.out hz1 x7
    obtain ⟨Ao, co, hov⟩ := how.out.form
    obtain ⟨m, hm⟩ : ∃ m, fs.length = m := ⟨_, rfl⟩
    rw [hm] at hov hfk
    subst hov
    have HM := hid hm
    have hzr : w.heap.size < wr.heap.size := Nat.lt_of_lt_of_le hzw hb.out.size
    have hzc : bc < wr.heap.size := Nat.lt_of_lt_of_le hz1 hb.out.size
    by_cases hqt : q < nb
    ·have hql : q < cd.bars.length := by rw [HNB.out]; exact hqt
     obtain ⟨gx, ox, a, b, hA, hFx, n0, n1, n2, hra, hrb⟩ := HCB.out q hql
     subst hA
     have hgx : gx < wr.heap.size := Nat.lt_of_lt_of_le hFx HBR.out.size
     have l0 := later_cell hgx (cell_below HBR.out hFx n0)
     have l1 := later_cell hgx (cell_below HBR.out hFx n1)
     have l2 := later_cell hgx (cell_below HBR.out hFx n2)
     have l3 := later_cell hzr z0
     have l4 := later_cell hzc z7
     have HS := hid (fun e : Later wr => met19_any (.agg #[.slice (some ⟨g, 0, none⟩) us.length cap]) (.slice (some ⟨gc, oc, none⟩) c.length cc) a b us c cd.bars[q] e.w (HW.out.lift (bstep HBR.out e.below) (bstep HBR.out e.below).size) (HCV.out.lift (bstep HBR.out e.below) (bstep HBR.out e.below).size) HC.out (hra.lift (bstep HBR.out e.below) (bstep HBR.out e.below).size) (hrb.lift (bstep HBR.out e.below) (bstep HBR.out e.below).size) (hin.2 _ (List.getElem_mem hql)).1 (hin.2 _ (List.getElem_mem hql)).2 (by omega))
     have hcl2 : c.length = us.length := by omega
     rw [hcl2] at HS
     obtain ⟨bm, hbb⟩ : ∃ bm, metW us c cd.bars[q] = bm := ⟨_, rfl⟩
     have HBB := hid hbb
     rw [hbb] at HS
     obtain ⟨xu, hxu⟩ : ∃ xu, cd.bars[q].u = xu := ⟨_, rfl⟩
     rw [hxu] at HS l0
     have i0 : (0 : Int) ≤ ↑q := by omega
     have i1 : (↑q : Int) < ↑nb := by omega
     clear hra hrb n0 n1 n2 hbb hxu
     cases bm with
     | false =>
      go_wp2_with fail
      (refine wp_region_later (by kernel_rfl) (by kernel_rfl) ?_; (repeat (go_big_quiet_step ((first | (go_at_call 90; exact Calls.later (HS.out _) rfl))))); refine wpQuiet_nil ?_; rintro _ ⟨⟨w2, hb2⟩, rfl⟩)
      go_wp2_with fail
      refine ⟨⟨q + 1, fs, by omega, by go_num, by rw [HM.out]; omega, ?_, ?_, hid (bstep hb.out hb2)⟩, by simp [intOf]; omega⟩
      ·exact hid (how.out.below hb2 (Nat.le_refl _))
      ·exact hid ⟨fun e => ⟨(hiff.out.1 e).1, fun i hi h => if e2 : i = q then by subst e2; exact HBB.out else (hiff.out.1 e).2 i hi (by omega)⟩, fun h => hiff.out.2 ⟨h.1, fun i hi h' => h.2 i hi (by omega)⟩⟩
     | true =>
      go_wp2_with fail
      (refine wp_region_later (by kernel_rfl) (by kernel_rfl) ?_; (repeat (go_big_quiet_step ((first | (go_at_call 90; exact Calls.later (HS.out _) rfl))))); refine wpQuiet_nil ?_; rintro _ ⟨⟨w2, hb2⟩, rfl⟩)
      have HB2 := hid hb2
      have HOWN := hid (show wr.ownsRow w1.heap.size 129 3 (.slice Ao m co) m (fFault.all fs) by have h := how.out.1; rw [HM.out] at h; exact h)
      have HOKT := hid (show fFault.ok ⟨3, u, q⟩ from ⟨⟨by show -9223372036854775808 ≤ (3 : Int); omega, by show (3 : Int) ≤ 9223372036854775807; omega⟩, i64_small (by omega), i64_small (by omega)⟩)
      have hsr := hb.out.size
      rename World => w2
      clear hb2
      go_wp2_with (at_builtin; go_must (refine wpList_append_src _ rfl (.tmp 60) (.tmp 64) _ rfl w1.heap.size 129 it _ 3 24 Tryz.underlying93 HIT.out.1 HIT.out.2.1 HIT.out.2.2.1 HIT.out.2.2.2 rfl (by omega) (.slice Ao m co) m (fFault.all fs) (by rfl) (by exact ownsRow_below HOWN.out (balloc HB2.out _) (fun g hg => (HOWN.out.lt g hg).2)) (some ⟨w2.heap.size, 0, none⟩) 1 1 (fFault.cells ⟨3, u, q⟩) (by rfl) (by exact src_one (f := fFault) rfl) (by simp [fFault, Value.oneCell']) (by unfold maxLen; omega) (by omega) (by have := HB2.out.size; simp; omega) ?_; intro v5 w5 hown5 hg5 hat5; have HO5 := hid (own_snocF (x := (⟨3, u, q⟩ : FaultD)) HM.out how.out.2 HOKT.out hown5); have HB5 := hid (Below.grown (hb.out.trans ((balloc HB2.out _).mono hb.out.size)) hg5 (by have := HB2.out.size; simp; omega) (fun k h => (HOWN.out.lt k h).1)); clear hown5 hg5 hat5))
      exact ⟨⟨q + 1, fs ++ [⟨3, u, q⟩], by omega, by go_num, by rw [List.length_append, HM.out]; show m + 1 ≤ 8 + (q + 1); omega, HO5, hid ⟨fun e => by simp at e, fun h => by have := h.2 q hql (by omega); rw [HBB.out] at this; cases this⟩, HB5⟩, by simp [intOf]; omega⟩
    ·have hqn : q = nb := by omega
     subst hqn
     go_wp2_with fail
     go_ret
     refine ⟨_, fs, rfl, how.out.mono HBW.out.size, ?_, by rw [HM.out]; omega, bstep HBW.out hb.out⟩
     rw [hiff.out, served_iff]
     exact ⟨fun h => ⟨h.1, fun i hi => h.2 i hi (by rw [← HNB.out]; exact hi)⟩, fun h => ⟨h.1, fun i hi _ => h.2 i hi⟩⟩
end
section
theorem fineAt_neg {us : List UnitW} {c : List Int} {u : Nat} (h : c.getD u 0 < 0) : fineAt us c u = true := by unfold fineAt; rw [if_pos h]
theorem fineAt_pos {us : List UnitW} {c : List Int} {u j : Nat} (hu : u < us.length) (hj : j < us[u].cands.length) (h : c.getD u 0 = (j : Int)) : fineAt us c u = servedC us c us[u].cands[j] := by
 unfold fineAt
 rw [if_neg (by omega), List.getElem?_eq_getElem hu]
 dsimp only
 rw [h, Int.toNat_natCast, List.getElem?_eq_getElem hj]
theorem fine_iff {us : List UnitW} {c : List Int} : fineC us c = true ↔ 0 ≤ c.getD 0 0 ∧ ∀ u, u < us.length → fineAt us c u = true := by
 unfold fineC
 rw [Bool.and_eq_true, decide_eq_true_eq, List.all_eq_true]
 exact ⟨fun h => ⟨h.1, fun u hu => h.2 u (List.mem_range.2 hu)⟩, fun h => ⟨h.1, fun u hu => h.2 u (List.mem_range.1 hu)⟩⟩
def WrongPost (us : List UnitW) (c : List Int) (w : World) (e : Ending) (w' : World) : Prop :=
 ∃ A n cap, e = .returned (.slice A n cap) ∧ (n = 0 ↔ fineC us c = true) ∧ Below w.heap.size w w'
set_option maxRecDepth 100000 in
set_option maxHeartbeats 8000000 in
theorem wrong19_any (v cv : Value) (us : List UnitW) (c : List Int) (w : World) (h : WorldRd w (Lt w.heap.size) v us) (hu : UnitsT us) (h0 : (nsOf us).head? = some 1) (hcv : SliceRd tInt w (Lt w.heap.size) cv c) (hc : ChoiceOk (nsOf us) c) :
  Calls Tryz.prog 33 #[v, cv] w (WrongPost us c w) := by
 obtain ⟨it, hit⟩ := info_parts fault_info
 have HIT := hid hit
 have hl : (nsOf us).length = us.length := by simp [nsOf]
 have h11 := hu.ns.hi
 have h2 := hu.ns.lo
 have hcl := hc.len
 have HMAY := hid (fun (W : World) (hb : Below w.heap.size w W) => may19_any v cv us c W (h.lift hb hb.size) hu h0 (hcv.lift hb hb.size) hc)
 have HONE := hid (fun (k j : Nat) (hk : k < us.length) (hj : j < us[k].cands.length) (hcu : c.getD k 0 = (j : Int)) (W : World) (hb : Below w.heap.size w W) => one19_any v cv us c k j W (h.lift hb hb.size) hu.ok (hcv.lift hb hb.size) hc hk hj hcu)
 obtain ⟨g, cap, rfl, -⟩ := h
 obtain ⟨Ac, cc, rfl, hca, hcm, hcc⟩ := hcv.ints
 unfold maxLen at hcm
 have HVAL := hid (show ∀ k, (hk : k < us.length) → -1 ≤ c.getD k 0 ∧ c.getD k 0 < us[k].cands.length from fun k hk => by
  have := hc.val k (by omega)
  simpa [nsOf] using this)
 have HCC := hid (show ∀ k, k < us.length → ∃ gc oc, Ac = some ⟨gc, oc, none⟩ ∧ gc < w.heap.size ∧ w.cell? ⟨gc, oc + k, none⟩ = some (.int .i64 (c.getD k 0)) from fun k hk => by
  obtain ⟨gc, oc, e1, e2, e3, -⟩ := hcc k (by omega)
  exact ⟨gc, oc, e1, e2, by rw [e3, List.getD_eq_getElem?_getD, List.getElem?_eq_getElem (by omega)]; rfl⟩)
 have hcn : c.length = us.length := by omega
 rw [hcn] at hca HMAY HONE ⊢
 obtain ⟨n, hn⟩ : ∃ n, us.length = n := ⟨_, rfl⟩
 have HN := hid hn
 have hn2 : 2 ≤ n := by omega
 have hn11 : n ≤ 11 := by omega
 rw [hn] at hca HMAY ⊢
 obtain ⟨gc, oc, rfl, hgc, c00⟩ := HCC.out 0 (by omega)
 rw [Nat.add_zero] at c00
 obtain ⟨q0, hq0⟩ : ∃ q0, c.getD 0 0 = q0 := ⟨_, rfl⟩
 have HQ0 := hid hq0
 rw [hq0] at c00
 clear hcv hc hcc hu h0 hn hcn hcl h11 h2 hl hit hq0
 obtain ⟨w0, hw0⟩ : ∃ w0 : World, w0 = w.alloc (.cells #[.slice (some ⟨g, 0, none⟩) n cap] 25) := ⟨_, rfl⟩
 have hb0 : Below w.heap.size w w0 := hw0 ▸ balloc (b0 w) _
 have hz0 : w.heap.size < w0.heap.size := by rw [hw0]; simp
 have x0 : w0.cell? ⟨w.heap.size, 0, none⟩ = some (.slice (some ⟨g, 0, none⟩) n cap) := by rw [hw0, alloc_cell]; rfl
 have HB0 := hid hb0
 have HW0 := hid hw0
 clear hb0 hw0
 go_enter Tryz.func33, Tryz.ntmps33
 go_upto_region 4 with (go_at_call 32; go_must (rw [← HW0.out]; refine (HMAY.out _ HB0.out).mono ?_; rintro e w1 ⟨rfl, hb1⟩; have HB1 := hid (bstep (b0 w0) hb1); have r0 := cell_below hb1 hz0 x0))
 have HBW := hid (bstep HB0.out HB1.out)
 have hz1 : w.heap.size < w1.heap.size := Nat.lt_of_lt_of_le hz0 HB1.out.size
 have d0 := cell_below HBW.out hgc c00
 clear x0 hz0 HMAY HB1 c00
 have hq1 : q0 < 0 ∨ 0 ≤ q0 := by omega
 rcases hq1 with hq1 | hq1
 have e1 : decide (q0 < 0) = true := decide_eq_true hq1
 have HOKT := hid (show fFault.ok ⟨1, 0, 0⟩ from ⟨⟨by show -9223372036854775808 ≤ (1 : Int); omega, by show (1 : Int) ≤ 9223372036854775807; omega⟩, ⟨by show -9223372036854775808 ≤ (0 : Int); omega, by show (0 : Int) ≤ 9223372036854775807; omega⟩, ⟨by show -9223372036854775808 ≤ (0 : Int); omega, by show (0 : Int) ≤ 9223372036854775807; omega⟩⟩)
 go_upto_region 6 with (at_builtin; go_must (refine wpList_append_src _ rfl (.tmp 15) (.tmp 17) _ rfl w1.heap.size 129 it _ 3 24 Tryz.underlying93 HIT.out.1 HIT.out.2.1 HIT.out.2.2.1 HIT.out.2.2.2 rfl (by omega) (.slice none 0 0) 0 [] (by rfl) (own_noneF _ _ _ _) (some ⟨w1.heap.size, 0, none⟩) 1 1 (fFault.cells ⟨1, 0, 0⟩) (by rfl) (by exact src_one (f := fFault) rfl) (by simp [fFault, Value.oneCell']) (by unfold maxLen; omega) (by omega) (by simp) ?_; intro v5 w2 hown5 hg5 hat5; simp only [Nat.zero_add, List.nil_append] at hown5; obtain ⟨A5, c5, rfl⟩ := own_form hown5; have HF0 := hid (show OwnF fFault 129 w1.heap.size w2 (.slice A5 1 c5) [⟨1, 0, 0⟩] from own_snocF (l := []) (x := (⟨1, 0, 0⟩ : FaultD)) rfl (fun y hy => by cases hy) HOKT.out hown5); have HB2 := hid (Below.grown (balloc (b0 w1) _) hg5 (by simp) (fun k h => by cases h)); clear hown5 hg5 hat5))
 obtain ⟨fs0, hfs0⟩ : ∃ fs0 : List FaultD, fs0 = [⟨1, 0, 0⟩] := ⟨_, rfl⟩
 rw [← hfs0] at HF0
 have hfl : fs0.length ≤ 1 := by rw [hfs0]; exact Nat.le_refl _
 have HI0 := hid (show fs0 = [] ↔ 0 ≤ c.getD 0 0 from ⟨fun e => absurd e (by rw [hfs0]; simp), fun h => by rw [HQ0.out] at h; omega⟩)
 clear e1 hq1 hfs0
 rotate_left 1
 have e1 : decide (q0 < 0) = false := decide_eq_false (by omega)
 have e2 : ¬ (q0 < 0) := by omega
 go_upto_region 6 with fail
 have HF0 := hid (OwnF.nil fFault 129 w1.heap.size w1)
 have HB2 := hid (b0 w1)
 obtain ⟨fs0, hfs0⟩ : ∃ fs0 : List FaultD, fs0 = [] := ⟨_, rfl⟩
 rw [← hfs0] at HF0
 have hfl : fs0.length ≤ 1 := by rw [hfs0]; exact Nat.zero_le _
 have HI0 := hid (show fs0 = [] ↔ 0 ≤ c.getD 0 0 from ⟨fun _ => by rw [HQ0.out]; exact hq1, fun _ => hfs0⟩)
 clear e1 e2 hq1 hfs0
 rotate_left 1
 all_goals
  clear d0
  go_wp2_with fail
  go_loopw [5, 6] (fun tv iv wr => ∃ (k : Nat) (fs : List FaultD), k ≤ n ∧ iv = .int .i64 k ∧ fs.length ≤ 1 + 64 * k ∧ Hid (OwnF fFault 129 w1.heap.size wr tv fs) ∧ Hid (fs = [] ↔ 0 ≤ c.getD 0 0 ∧ ∀ i, i < k → fineAt us c i = true) ∧ Hid (Below w1.heap.size w1 wr)) (fun _ iv _ => n - (intOf iv).toNat)
  case atStart => exact ⟨0, fs0, Nat.zero_le _, rfl, by omega, HF0, hid ⟨fun e => ⟨HI0.out.1 e, fun i h => absurd h (by omega)⟩, fun h => HI0.out.2 h.1⟩, HB2⟩
  case round =>
   clear HF0 HI0 hfl
   obtain ⟨k, fs, hk, rfl, hfk, how, hiff, hb⟩ := hrel
   have HBR := hid (bstep HBW.out hb.out)
   have z0 := cell_below hb.out hz1 r0
   obtain ⟨Ao, co, hov⟩ := how.out.form
   obtain ⟨m, hm⟩ : ∃ m, fs.length = m := ⟨_, rfl⟩
   rw [hm] at hov hfk
   subst hov
   have HM := hid hm
   by_cases hlt : k < n
   ·have hku : k < us.length := by rw [HN.out]; exact hlt
    obtain ⟨gc', oc', hA, hFc, n0⟩ := HCC.out k hku
    injection hA with hA
    injection hA with ea eb
    subst ea eb
    have y0 := cell_below HBR.out hFc n0
    have hv := HVAL.out k hku
    obtain ⟨q, hq⟩ : ∃ q, c.getD k 0 = q := ⟨_, rfl⟩
    rw [hq] at y0 hv
    have HQ := hid hq
    have i0 : (0 : Int) ≤ ↑k := by omega
    have i1 : (↑k : Int) < ↑n := by omega
    clear n0 hq
    by_cases hneg : q < 0
    ·have e1 : decide ((0 : Int) ≤ q) = false := decide_eq_false (by omega)
     have e2 : ¬ ((0 : Int) ≤ q) := by omega
     have HF := hid (fineAt_neg (us := us) (c := c) (u := k) (by rw [HQ.out]; exact hneg))
     go_wp2_with fail
     exact ⟨⟨k + 1, fs, by omega, by go_num, by rw [HM.out]; omega, how, hid ⟨fun e => ⟨(hiff.out.1 e).1, fun i h => if e2 : i = k then by subst e2; exact HF.out else (hiff.out.1 e).2 i (by omega)⟩, fun h => hiff.out.2 ⟨h.1, fun i hi => h.2 i (by omega)⟩⟩, hb⟩, by simp [intOf]; omega⟩
    ·obtain ⟨j, hj⟩ : ∃ j : Nat, q = (j : Int) := ⟨q.toNat, by omega⟩
     subst hj
     have e1 : decide ((0 : Int) ≤ ↑j) = true := decide_eq_true (by omega)
     have e2 : (0 : Int) ≤ ↑j := by omega
     have hjl : j < us[k].cands.length := by omega
     have HF := hid (fineAt_pos (c := c) hku hjl HQ.out)
     have HO := hid (HONE.out k j hku hjl HQ.out wr HBR.out)
     rw [HN.out] at HO
     have HOWN := hid (show wr.ownsRow w1.heap.size 129 3 (.slice Ao m co) m (fFault.all fs) by have h := how.out.1; rw [HM.out] at h; exact h)
     have hsr := hb.out.size
     go_wp2_with (first
      | (go_at_call 67; go_must (refine HO.out.mono ?_; rintro e w2 ⟨v', f2, rfl, ho2, hi2, hl2, hb2⟩; obtain ⟨A2, c2, hv2⟩ := ho2.form; subst hv2; have HO2 := hid ho2; have HI2 := hid hi2; have HB2' := hid hb2; obtain ⟨m2, hm2⟩ : ∃ m2, f2.length = m2 := ⟨_, rfl⟩; rw [hm2] at hl2; have HM2 := hid hm2; rw [hm2]; clear ho2 hi2 hb2 hm2))
      | (at_builtin; go_must (refine wpList_append_src _ rfl (.tmp 30) (.tmp 34) _ rfl w1.heap.size 129 it _ 3 24 Tryz.underlying93 HIT.out.1 HIT.out.2.1 HIT.out.2.2.1 HIT.out.2.2.2 rfl (by omega) (.slice Ao m co) m (fFault.all fs) (by rfl) (by exact ownsRow_below HOWN.out HB2'.out (fun g hg => (HOWN.out.lt g hg).2)) A2 m2 c2 (fFault.all f2) (by rfl) (by have h := (HO2.out.rd.srcF).2.1; rw [HM2.out] at h; exact h) (fFault.all_one _) (by unfold maxLen; omega) (by omega) (by have := HB2'.out.size; omega) ?_; intro v5 w5 hown5 hg5 hat5; have HO5 := hid (show OwnF fFault 129 w1.heap.size w5 v5 (fs ++ f2) from ⟨by rw [List.length_append, HM.out, HM2.out, Flat.all_append]; exact hown5, fun x hx => (List.mem_append.1 hx).elim (how.out.2 x) (HO2.out.2 x)⟩); have HB5 := hid (Below.grown (hb.out.trans (HB2'.out.mono hb.out.size)) hg5 (by have := HB2'.out.size; omega) (fun k h => (HOWN.out.lt k h).1)); clear hown5 hg5 hat5)))
     refine ⟨⟨k + 1, fs ++ f2, by omega, by go_num, by rw [List.length_append, HM.out, HM2.out]; omega, HO5, ?_, HB5⟩, by simp [intOf]; omega⟩
     refine hid ⟨fun e => ?_, fun h => ?_⟩
     ·obtain ⟨a1, a2⟩ := List.append_eq_nil_iff.1 e
      exact ⟨(hiff.out.1 a1).1, fun i h => if e2 : i = k then by subst e2; rw [HF.out]; exact HI2.out.1 a2 else (hiff.out.1 a1).2 i (by omega)⟩
     ·exact List.append_eq_nil_iff.2 ⟨hiff.out.2 ⟨h.1, fun i hi => h.2 i (by omega)⟩, HI2.out.2 (by rw [← HF.out]; exact h.2 k (by omega))⟩
   ·have hkn : k = n := by omega
    subst hkn
    go_wp2_with fail
    go_ret
    refine ⟨_, _, _, rfl, ?_, bstep HBW.out hb.out⟩
    rw [fine_iff, HN.out, ← hiff.out, ← HM.out]
    exact List.length_eq_zero_iff
set_option maxRecDepth 100000 in
set_option maxHeartbeats 4000000 in
theorem holds19_any (v cv : Value) (us : List UnitW) (c : List Int) (w : World) (h : WorldRd w (Lt w.heap.size) v us) (hu : UnitsT us) (h0 : (nsOf us).head? = some 1) (hcv : SliceRd tInt w (Lt w.heap.size) cv c) (hc : ChoiceOk (nsOf us) c) :
  Calls Tryz.prog 12 #[v, cv] w fun e w' => e = .returned (.bool (fineC us c)) ∧ Below w.heap.size w w' := by
 have HMAY := hid (fun (W : World) (hb : Below w.heap.size w W) => may19_any v cv us c W (h.lift hb hb.size) hu h0 (hcv.lift hb hb.size) hc)
 have HWR := hid (fun (W : World) (hb : Below w.heap.size w W) => wrong19_any v cv us c W (h.lift hb hb.size) hu h0 (hcv.lift hb hb.size) hc)
 obtain ⟨g, cap, rfl, -⟩ := h
 obtain ⟨Ac, cc, rfl, -⟩ := hcv.ints
 generalize us.length = n at *
 generalize c.length = m at *
 clear hu h0 hcv hc
 obtain ⟨w0, hw0⟩ : ∃ w0 : World, w0 = w.alloc (.cells #[.slice (some ⟨g, 0, none⟩) n cap] 25) := ⟨_, rfl⟩
 have hb0 : Below w.heap.size w w0 := hw0 ▸ balloc (b0 w) _
 have hz0 : w.heap.size < w0.heap.size := by rw [hw0]; simp
 have x0 : w0.cell? ⟨w.heap.size, 0, none⟩ = some (.slice (some ⟨g, 0, none⟩) n cap) := by rw [hw0, alloc_cell]; rfl
 have HB0 := hid hb0
 have HW0 := hid hw0
 clear hb0 hw0
 go_enter Tryz.func12, Tryz.ntmps12
 go_wp2_with (first
  | (go_at_call 32; go_must (rw [← HW0.out]; refine (HMAY.out _ HB0.out).mono ?_; rintro e w1 ⟨rfl, hb1⟩; have HB1 := hid (bstep HB0.out hb1); have r0 := cell_below hb1 hz0 x0))
  | (go_at_call 33; go_must (refine (HWR.out _ HB1.out).mono ?_; rintro e w2 ⟨A2, n2, c2, rfl, hi2, hb2⟩; have HI2 := hid hi2; have HB2 := hid (bstep HB1.out hb2); clear hi2 hb2)))
 go_ret
 refine ⟨?_, HB2.out⟩
 congr 2
 cases hf : fineC us c with
 | true =>
  have := HI2.out.2 hf
  subst this
  rfl
 | false =>
  have : ¬ n2 = 0 := fun e => by rw [HI2.out.1 e] at hf; cases hf
  simpa using this
end
end Go.Proofs.YthneiolcljnbeaaGreatDoor
