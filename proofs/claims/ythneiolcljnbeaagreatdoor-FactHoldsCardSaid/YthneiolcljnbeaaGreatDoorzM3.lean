import Derived.Test.YthneiolcljnbeaaGreatDoorzM1
import Derived.Test.YthneiolcljnbeaaGreatDoorzA1
import Derived.Test.YthneiolcljnbeaaGreatDoorzLater
import Derived.Outline
import Derived.Test.YthneiolcljnbeaaGreatDoorzP2
namespace Go.Proofs.YthneiolcljnbeaaGreatDoor
open Go Go.RowKit
section
def Ahead18 (n f n' f' : ByteArray) : Prop := Op.bytesLess n.toList n'.toList = true ∨ (n = n' ∧ Op.bytesLess f.toList f'.toList = true)
set_option maxRecDepth 100000 in
set_option maxHeartbeats 4000000 in
theorem ahead18_any (n f n' f' : ByteArray) (cv cv' : Value) (w : World) (h : Ahead18 n f n' f') :
  Calls Tryz.prog 109 #[.agg #[.string n, .string f, cv], .agg #[.string n', .string f', cv']] w fun e w' => e = .returned (.bool true) ∧ Below w.heap.size w w' := by
 rcases h with h | ⟨rfl, h⟩
 ·go_enter Tryz.func109, Tryz.ntmps109
  go_wp2_with fail
  go_ret
  exact ⟨rfl, balloc (balloc (b0 w) _) _⟩
 ·have hi := less_irr n.toList
  go_enter Tryz.func109, Tryz.ntmps109
  go_wp2_with fail
  go_ret
  exact ⟨rfl, balloc (balloc (b0 w) _) _⟩
theorem WorldRd.named {w : World} {F : Nat → Prop} {v : Value} {us : List UnitW} (h : WorldRd w F v us) :
  ∃ g cap, v = .agg #[.slice (some ⟨g, 0, none⟩) us.length cap] ∧ F g ∧ ∀ u, (hu : u < us.length) → ∃ A c, (w.cell? ⟨g, u * 3, none⟩ = some (.string us[u].nm) ∧ w.cell? ⟨g, u * 3 + 1, none⟩ = some (.string us[u].ft) ∧ w.cell? ⟨g, u * 3 + 2, none⟩ = some (.slice A us[u].cands.length c)) ∧
   ∀ k, (hk : k < us[u].cands.length) → ∃ gc o nv bv, A = some ⟨gc, o, none⟩ ∧ F gc ∧ CandAt w gc (o + k * 8) us[u].cands[k] nv bv ∧ us[u].cands[k].v.B ∧ SliceRd (tSlice tWant) w F nv us[u].cands[k].needs ∧ SliceRd tWant w F bv us[u].cands[k].bars := by
 obtain ⟨g, cap, rfl, hF, hs⟩ := h
 refine ⟨g, cap, rfl, hF, fun u hu => ?_⟩
 obtain ⟨A, cap', hv, -, -, hc⟩ := hs.shape
 injection hv with e1 e2 e3
 subst e1 e3
 obtain ⟨g', o, cs, hA, -, -, hcell, cv, rfl, A2, c2, rfl, hcd⟩ := hc u hu
 injection hA with hA
 injection hA with e1 e2
 subst e1 e2
 have h0 := hcell 0 (by show 0 < 3; omega)
 have h1 := hcell 1 (by show 1 < 3; omega)
 have h2 := hcell 2 (by show 2 < 3; omega)
 rw [Nat.zero_add] at h0 h1 h2
 refine ⟨A2, c2, ⟨h0, h1, h2⟩, fun k hk => ?_⟩
 obtain ⟨gc, oc, cl, hA2, hFc, -, hcl, nv, bv, rfl, hB, hn, hbr⟩ := hcd k hk
 exact ⟨gc, oc, nv, bv, hA2, hFc, ⟨hcl 0 (by show 0 < 8; omega), hcl 1 (by show 1 < 8; omega), hcl 2 (by show 2 < 8; omega), hcl 3 (by show 3 < 8; omega), hcl 4 (by show 4 < 8; omega), hcl 5 (by show 5 < 8; omega), hcl 6 (by show 6 < 8; omega), hcl 7 (by show 7 < 8; omega)⟩, hB, hn, hbr⟩
structure UnitMay (us : List UnitW) (k : Nat) (hk : k < us.length) : Prop where
 len : us[k].cands.length ≤ 16
 root : k = 0 → us[k].nm = ⟨#[]⟩ ∧ us[k].ft = ⟨#[]⟩ ∧ us[k].cands.length = 1
 named : 0 < k → us[k].nm ≠ ⟨#[]⟩
 ahead : (h : 1 < k) → Ahead18 (us[k - 1]'(by omega)).nm (us[k - 1]'(by omega)).ft us[k].nm us[k].ft
 cand : ∀ c ∈ us[k].cands, CandMay us.length c
 rise : ∀ j, (h : j + 1 < us[k].cands.length) → cmpV (us[k].cands[j]'(by omega)).v us[k].cands[j + 1].v < 0
set_option maxRecDepth 100000 in
set_option maxHeartbeats 8000000 in
theorem unit18_at (g cap U k : Nat) (nm ft : ByteArray) (cs : List CandW) (A : Option Addr) (c : Nat) (w : World) (hg : g < w.heap.size) (hk : k < U) (hul : U ≤ 48)
  (x0 : w.cell? ⟨g, k * 3, none⟩ = some (.string nm)) (x1 : w.cell? ⟨g, k * 3 + 1, none⟩ = some (.string ft)) (x2 : w.cell? ⟨g, k * 3 + 2, none⟩ = some (.slice A cs.length c))
  (hcd : ∀ k, (hk : k < cs.length) → ∃ gc o nv bv, A = some ⟨gc, o, none⟩ ∧ gc < w.heap.size ∧ CandAt w gc (o + k * 8) cs[k] nv bv ∧ cs[k].v.B ∧ SliceRd (tSlice tWant) w (Lt w.heap.size) nv cs[k].needs ∧ SliceRd tWant w (Lt w.heap.size) bv cs[k].bars)
  (hprev : 1 < k → ∃ n' f' cv, (w.cell? ⟨g, (k - 1) * 3, none⟩ = some (.string n') ∧ w.cell? ⟨g, (k - 1) * 3 + 1, none⟩ = some (.string f') ∧ w.cell? ⟨g, (k - 1) * 3 + 2, none⟩ = some cv) ∧ Ahead18 n' f' nm ft)
  (m1 : cs.length ≤ 16) (m2 : k = 0 → nm = ⟨#[]⟩ ∧ ft = ⟨#[]⟩ ∧ cs.length = 1) (m3 : 0 < k → nm ≠ ⟨#[]⟩) (m5 : ∀ c ∈ cs, CandMay U c) (m6 : ∀ j, (h : j + 1 < cs.length) → cmpV (cs[j]'(by omega)).v cs[j + 1].v < 0) :
  Calls Tryz.prog 88 #[.agg #[.slice (some ⟨g, 0, none⟩) U cap], .int .i64 k] w fun e w' => e = .returned (.bool true) ∧ Below w.heap.size w w' := by
 have HPREV := hid hprev
 have HCD := hid hcd
 have M5 := hid (fun j (hj : j < cs.length) => m5 cs[j] (List.getElem_mem hj))
 have M6 := hid m6
 obtain ⟨n, hn⟩ : ∃ n, cs.length = n := ⟨_, rfl⟩
 have HN := hid hn
 rw [hn] at x2 m1 m2
 have u1 : (0 : Int) ≤ ↑k := by omega
 have u2 : (↑k : Int) < ↑U := by omega
 have n1 : decide ((16 : Int) < ↑n) = false := decide_eq_false (by omega)
 have n2 : ¬ ((16 : Int) < ↑n) := by omega
 clear hprev hcd m5 m6 hn
 go_enter Tryz.func88, Tryz.ntmps88
 go_upto_region 2 with fail
 obtain ⟨w0, hw0⟩ : ∃ w0 : World, w0 = (w.alloc (.cells #[.slice (some ⟨g, 0, none⟩) U cap] 25)).alloc (.cells #[.string nm, .string ft, .slice A n c] 58) := ⟨_, rfl⟩
 have hb0 : Below w.heap.size w w0 := hw0 ▸ balloc (balloc (b0 w) _) _
 have hz0 : w.heap.size + 1 < w0.heap.size := by rw [hw0]; simp
 have hzz : w.heap.size < w0.heap.size := by omega
 have p0 : w0.cell? ⟨w.heap.size, 0, none⟩ = some (.slice (some ⟨g, 0, none⟩) U cap) := by rw [hw0]; exact alloc2_old rfl
 have q0 : w0.cell? ⟨w.heap.size + 1, 0, none⟩ = some (.string nm) := by rw [hw0]; exact alloc2_new rfl
 have q1 : w0.cell? ⟨w.heap.size + 1, 1, none⟩ = some (.string ft) := by rw [hw0]; exact alloc2_new rfl
 have q2 : w0.cell? ⟨w.heap.size + 1, 2, none⟩ = some (.slice A n c) := by rw [hw0]; exact alloc2_new rfl
 have HB0 := hid hb0
 rw [← hw0]
 clear hw0 hb0 x0 x1 x2
 have hk3 : k = 0 ∨ k = 1 ∨ 1 < k := by omega
 rcases hk3 with rfl | rfl | hk1
 obtain ⟨h1, h2, h3⟩ := m2 rfl
 have e1 : (nm.toList == []) = true := by rw [h1, toList_size]; rfl
 have e2 : (ft.toList == []) = true := by rw [h2, toList_size]; rfl
 have e3 : ((n : Int) == 1) = true := by rw [h3]; rfl
 have l4 := later_cell hz0 q0
 have l3 := later_cell hzz p0
 go_upto_region 6 with fail
 (refine wp_region_later (by kernel_rfl) (by kernel_rfl) ?_; (repeat (go_big_quiet_step ((fail)))); refine wpQuiet_nil ?_; rintro _ ⟨⟨w2, hb2⟩, rfl⟩)
 have HB2 := hid hb2
 have r0 := cell_below hb2 hzz p0
 have r2 := cell_below hb2 hz0 q2
 rename World => w2
 clear hb2 p0 q0 q1 q2 l3 l4 h1 h2 h3 e1 e2 e3
 rotate_left 1
 have hnm : (nm.toList == []) = false := by rw [toList_size]; exact decide_eq_false fun e => m3 (by omega) (ByteArray.ext (Array.eq_empty_of_size_eq_zero e))
 have l4 := later_cell hz0 q0
 have l3 := later_cell hzz p0
 go_upto_region 6 with fail
 (refine wp_region_later (by kernel_rfl) (by kernel_rfl) ?_; (repeat (go_big_quiet_step ((fail)))); refine wpQuiet_nil ?_; rintro _ ⟨⟨w2, hb2⟩, rfl⟩)
 have HB2 := hid hb2
 have r0 := cell_below hb2 hzz p0
 have r2 := cell_below hb2 hz0 q2
 rename World => w2
 clear hb2 p0 q0 q1 q2 l3 l4 hnm
 rotate_left 1
 obtain ⟨n', f', cv, ⟨y0, y1, y2⟩, hah⟩ := HPREV.out hk1
 have hnm : (nm.toList == []) = false := by rw [toList_size]; exact decide_eq_false fun e => m3 (by omega) (ByteArray.ext (Array.eq_empty_of_size_eq_zero e))
 have k0 : ¬ ((k : Int) = 0) := by omega
 have k1 : 0 < k := by omega
 have k2 : decide (0 < k) = true := decide_eq_true k1
 have k6 : (1 : Int) < ↑k := by omega
 have k8 : decide ((1 : Int) < ↑k) = true := decide_eq_true k6
 have k7 : ((k : Int) == 0) = false := beq_eq_false_iff_ne.2 k0
 have k3 : IntKind.i64.wrap ((k : Int) - 1) = ((k - 1 : Nat) : Int) := by rw [IntWalk.i64_in _ (by omega)]; omega
 have k4 : (0 : Int) ≤ ((k - 1 : Nat) : Int) := by omega
 have k5 : ((k - 1 : Nat) : Int) < ↑U := by omega
 have z0 := cell_below HB0.out hg y0
 have z1 := cell_below HB0.out hg y1
 have z2 := cell_below HB0.out hg y2
 have hg0 : g < w0.heap.size := Nat.lt_of_lt_of_le hg HB0.out.size
 have HA := hid (fun e : Later w0 => ahead18_any n' f' nm ft cv (.slice A n c) e.w hah)
 clear y0 y1 y2
 obtain ⟨j, hj⟩ : ∃ j, k - 1 = j := ⟨_, rfl⟩
 rw [hj] at k3 k4 k5 z0 z1 z2
 have l0 := later_cell hg0 z0
 have l1 := later_cell hg0 z1
 have l2 := later_cell hg0 z2
 have l3 := later_cell hzz p0
 have l4 := later_cell hz0 q0
 have l5 := later_cell hz0 q1
 have l6 := later_cell hz0 q2
 go_upto_region 6 with fail
 (refine wp_region_later (by kernel_rfl) (by kernel_rfl) ?_; (repeat (go_big_quiet_step ((first | (go_at_call 109; exact Calls.later (HA.out _) rfl))))); refine wpQuiet_nil ?_; rintro _ ⟨⟨w2, hb2⟩, rfl⟩)
 have HB2 := hid hb2
 have r0 := cell_below hb2 hzz p0
 have r2 := cell_below hb2 hz0 q2
 clear l0 l1 l2 l3 l4 l5 l6 z0 z1 z2 p0 q0 q1 q2 hb2
 rename World => w2
 go_upto_region 8 with fail
 rotate_left 1
 all_goals
  have HBW := hid (bstep HB0.out HB2.out)
  have hy0 : w.heap.size < w2.heap.size := Nat.lt_of_lt_of_le hzz HB2.out.size
  have hy1 : w.heap.size + 1 < w2.heap.size := Nat.lt_of_lt_of_le hz0 HB2.out.size
  clear hzz hz0 m2 m3
  go_wp2_with fail
  go_loopw [6] (fun iv wr => ∃ i : Nat, i ≤ n ∧ iv = .int .i64 i ∧ Hid (Below w2.heap.size w2 wr)) (fun iv _ => n - (intOf iv).toNat)
  case atStart => exact ⟨0, Nat.zero_le _, rfl, hid (b0 w2)⟩
  case round =>
   obtain ⟨i, hi, rfl, hb⟩ := hrel
   have hbw := bstep HBW.out hb.out
   have HBR := hid hbw
   have c0 := cell_below hb.out hy0 r0
   have c2 := cell_below hb.out hy1 r2
   have hv0 := Nat.lt_of_lt_of_le hy0 hb.out.size
   have hv1 := Nat.lt_of_lt_of_le hy1 hb.out.size
   by_cases hlt : i < n
   ·obtain ⟨gc, o, nv, bv, hA, hF, hat, hB, hnd, hbr⟩ := HCD.out i (by rw [HN.out]; exact hlt)
    have hMay := M5.out i (by rw [HN.out]; exact hlt)
    have hgr : gc < wr.heap.size := Nat.lt_of_lt_of_le hF hbw.size
    obtain ⟨d0, d1, d2, d3, d4, d5, d6, d7⟩ := hat.below hbw hF
    have hprv : 0 < i → ∃ (u : Ver), u.B ∧ (wr.cell? ⟨gc, o + (i - 1) * 8, none⟩ = some (.int .i64 u.major) ∧ wr.cell? ⟨gc, o + (i - 1) * 8 + 1, none⟩ = some (.int .i64 u.minor) ∧ wr.cell? ⟨gc, o + (i - 1) * 8 + 2, none⟩ = some (.int .i64 u.patch) ∧ wr.cell? ⟨gc, o + (i - 1) * 8 + 3, none⟩ = some (.string u.pre) ∧ wr.cell? ⟨gc, o + (i - 1) * 8 + 4, none⟩ = some (.string u.build)) ∧ cmpV u (cs[i]'(by rw [HN.out]; exact hlt)).v < 0 := fun h0 => by
     obtain ⟨gc', o', nv', bv', hA', hF', hat', hB', -, -⟩ := HCD.out (i - 1) (by rw [HN.out]; omega)
     rw [hA] at hA'
     injection hA' with hA'
     injection hA' with e1 e2
     subst e1 e2
     obtain ⟨f0, f1, f2, f3, f4, -, -, -⟩ := hat'.below hbw hF'
     have h6 := M6.out (i - 1) (by rw [HN.out]; omega)
     have e : i - 1 + 1 = i := by omega
     simp only [e] at h6
     exact ⟨_, hB', ⟨f0, f1, f2, f3, f4⟩, h6⟩
    subst hA
    generalize cs[i]'(by rw [HN.out]; exact hlt) = cd at *
    obtain ⟨⟨va, vb, vc, vp, vq⟩, sh, nd, br⟩ := cd
    dsimp only at d0 d1 d2 d3 d4 d5 d6 d7 hnd hbr hB hMay hprv
    have HCA := hid (fun e : Later wr => cand18_any va vb vc vp vq sh nv bv nd br U e.w (hnd.lift (bstep HBR.out e.below) (bstep HBR.out e.below).size) (hbr.lift (bstep HBR.out e.below) (bstep HBR.out e.below).size) hB hMay)
    have l0 := later_cell hgr d0
    have l1 := later_cell hgr d1
    have l2 := later_cell hgr d2
    have l3 := later_cell hgr d3
    have l4 := later_cell hgr d4
    have l5 := later_cell hgr d5
    have l6 := later_cell hgr d6
    have l7 := later_cell hgr d7
    have p0 := later_cell hv0 c0
    have p2 := later_cell hv1 c2
    have i0 : (0 : Int) ≤ ↑i := by omega
    have i1 : (↑i : Int) < ↑n := by omega
    have HBV := hid hB
    clear hat hnd hbr hMay d0 d1 d2 d3 d4 d5 d6 d7 hB
    by_cases h0 : 0 < i
    ·obtain ⟨⟨ua, ub, uc, up, uq⟩, huB, ⟨f0, f1, f2, f3, f4⟩, hlo⟩ := hprv h0
     dsimp only at f0 f1 f2 f3 f4
     have HCM := hid (fun e : Later wr => vcmp_any ua ub uc up uq va vb vc vp vq e.w huB HBV.out)
     obtain ⟨q, hq⟩ : ∃ q, cmpV ⟨ua, ub, uc, up, uq⟩ ⟨va, vb, vc, vp, vq⟩ = q := ⟨_, rfl⟩
     rw [hq] at HCM hlo
     have n3 : decide ((0 : Int) ≤ q) = false := decide_eq_false (by omega)
     have n4 : ¬ ((0 : Int) ≤ q) := by omega
     have g0 := later_cell hgr f0
     have g1 := later_cell hgr f1
     have g2 := later_cell hgr f2
     have g3 := later_cell hgr f3
     have g4 := later_cell hgr f4
     have j3 : IntKind.i64.wrap ((i : Int) - 1) = ((i - 1 : Nat) : Int) := by rw [IntWalk.i64_in _ (by omega)]; omega
     have j4 : (0 : Int) ≤ ((i - 1 : Nat) : Int) := by omega
     have j5 : ((i - 1 : Nat) : Int) < ↑n := by omega
     have j6 : decide (0 < i) = true := decide_eq_true h0
     obtain ⟨j, hj⟩ : ∃ j, i - 1 = j := ⟨_, rfl⟩
     rw [hj] at j3 j4 j5 g0 g1 g2 g3 g4
     clear hprv f0 f1 f2 f3 f4 hq huB
     go_wp2_with fail
     (refine wp_region_later (by kernel_rfl) (by kernel_rfl) ?_; (repeat (go_big_quiet_step ((first | (go_at_call 110; exact Calls.later (HCA.out _) rfl) | (go_at_call 111; exact Calls.later (HCM.out _) rfl))))); refine wpQuiet_nil ?_; rintro _ ⟨⟨w4, hb4⟩, rfl⟩)
     go_wp2_with fail
     exact ⟨⟨i + 1, by omega, by go_num, hid (bstep hb.out hb4)⟩, by simp [intOf]; omega⟩
    ·obtain rfl : i = 0 := by omega
     simp only [Nat.zero_mul, Nat.add_zero] at l0 l1 l2 l3 l4 l5 l6 l7
     clear hprv
     go_wp2_with fail
     (refine wp_region_later (by kernel_rfl) (by kernel_rfl) ?_; (repeat (go_big_quiet_step ((first | (go_at_call 110; exact Calls.later (HCA.out _) rfl))))); refine wpQuiet_nil ?_; rintro _ ⟨⟨w4, hb4⟩, rfl⟩)
     go_wp2_with fail
     exact ⟨⟨0 + 1, by omega, by go_num, hid (bstep hb.out hb4)⟩, by simp [intOf]; omega⟩
   ·have hin : i = n := by omega
    subst hin
    go_wp2_with fail
    go_ret
    exact ⟨rfl, hbw⟩
theorem unit18_any (v : Value) (us : List UnitW) (k : Nat) (w : World) (h : WorldRd w (Lt w.heap.size) v us) (hk : k < us.length) (hm : UnitMay us k hk) (hmax : us.length ≤ 48) :
  Calls Tryz.prog 88 #[v, .int .i64 k] w fun e w' => e = .returned (.bool true) ∧ Below w.heap.size w w' := by
 obtain ⟨g, cap, rfl, hg, hun⟩ := h.named
 obtain ⟨A, c, ⟨x0, x1, x2⟩, hcd⟩ := hun k hk
 exact unit18_at g cap us.length k us[k].nm us[k].ft us[k].cands A c w hg hk hmax x0 x1 x2 hcd
  (fun h => by
   obtain ⟨A', c', ⟨y0, y1, y2⟩, -⟩ := hun (k - 1) (by omega)
   exact ⟨_, _, _, ⟨y0, y1, y2⟩, hm.ahead h⟩) hm.len hm.root hm.named hm.cand hm.rise
end
section
set_option maxRecDepth 100000 in
set_option maxHeartbeats 4000000 in
theorem may18_any (v : Value) (us : List UnitW) (w : World) (h : WorldRd w (Lt w.heap.size) v us) (h1 : 1 ≤ us.length) (h2 : us.length ≤ 48) (hm : ∀ k, (hk : k < us.length) → UnitMay us k hk) :
  Calls Tryz.prog 66 #[v] w fun e w' => e = .returned (.bool true) ∧ Below w.heap.size w w' := by
 have HW := hid h
 have HM := hid hm
 have H48 := hid h2
 obtain ⟨g, cap, rfl, -⟩ := h
 obtain ⟨n, hn⟩ : ∃ n, us.length = n := ⟨_, rfl⟩
 have HN := hid hn
 have HU := hid (fun k (hk : k < n) (W : World) (hb : Below w.heap.size w W) => unit18_any (.agg #[.slice (some ⟨g, 0, none⟩) us.length cap]) us k W (HW.out.lift hb hb.size) (by rw [HN.out]; exact hk) (HM.out k (by rw [HN.out]; exact hk)) H48.out)
 rw [hn] at h1 h2 HU ⊢
 have n1 : decide ((↑n : Int) < 1) = false := decide_eq_false (by omega)
 have n2 : ¬ ((↑n : Int) < 1) := by omega
 have n3 : decide ((48 : Int) < ↑n) = false := decide_eq_false (by omega)
 have n4 : ¬ ((48 : Int) < ↑n) := by omega
 have n5 : ¬ (n = 0) := by omega
 have n6 : ¬ (n < 1) := by omega
 have n7 : (n == 0) = false := by simp; omega
 clear hm hn
 obtain ⟨w0, hw0⟩ : ∃ w0 : World, w0 = w.alloc (.cells #[.slice (some ⟨g, 0, none⟩) n cap] 25) := ⟨_, rfl⟩
 have hb0 : Below w.heap.size w w0 := hw0 ▸ balloc (b0 w) _
 have hz0 : w.heap.size < w0.heap.size := by rw [hw0]; simp
 have q0 : w0.cell? ⟨w.heap.size, 0, none⟩ = some (.slice (some ⟨g, 0, none⟩) n cap) := by rw [hw0, alloc_cell]; rfl
 have HB0 := hid hb0
 go_enter Tryz.func66, Tryz.ntmps66
 go_wp2_with fail
 rw [← hw0]
 clear hw0 hb0
 go_loopw [3] (fun iv wr => ∃ k : Nat, k ≤ n ∧ iv = .int .i64 k ∧ Hid (Below w0.heap.size w0 wr)) (fun iv _ => n - (intOf iv).toNat)
 case atStart => exact ⟨0, Nat.zero_le _, rfl, hid (b0 w0)⟩
 case round =>
  obtain ⟨k, hk, rfl, hb⟩ := hrel
  have c0 := cell_below hb.out hz0 q0
  by_cases hlt : k < n
  ·have HC := hid (HU.out k hlt wr (bstep HB0.out hb.out))
   have i0 : (0 : Int) ≤ ↑k := by omega
   have i1 : (↑k : Int) < ↑n := by omega
   go_wp2_with (go_at_call 88; go_must (refine HC.out.mono ?_; rintro e w1 ⟨rfl, hb1⟩))
   exact ⟨⟨k + 1, by omega, by go_num, hid (bstep hb.out hb1)⟩, by simp [intOf]; omega⟩
  ·have hkn : k = n := by omega
   subst hkn
   go_wp2_with fail
   go_ret
   exact ⟨rfl, bstep HB0.out hb.out⟩
end
end Go.Proofs.YthneiolcljnbeaaGreatDoor
