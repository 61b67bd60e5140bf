import Derived.Test.YthneiolcljnbeaaGreatDoorzY3
import Derived.Test.YthneiolcljnbeaaGreatDoorzV4
import Derived.Test.YthneiolcljnbeaaGreatDoorzN4
import Derived.Deep.RegionHeld3
import Derived.Outline
namespace Go.Proofs.YthneiolcljnbeaaGreatDoor
open Go Go.RowKit
theorem alloc2_new {w : World} {o1 : Obj} {cs : Array Value} {e : TypeId} {i : Nat} {v : Value} (h : cs[i]? = some v) : ((w.alloc o1).alloc (.cells cs e)).cell? ⟨w.heap.size + 1, i, none⟩ = some v := by
 have e1 : w.heap.size + 1 = (w.alloc o1).heap.size := by simp
 rw [e1, alloc_cell]
 exact h
theorem alloc2_old {w : World} {o2 : Obj} {cs : Array Value} {e : TypeId} {i : Nat} {v : Value} (h : cs[i]? = some v) : ((w.alloc (.cells cs e)).alloc o2).cell? ⟨w.heap.size, i, none⟩ = some v :=
 cell_below (w := w.alloc (.cells cs e)) (balloc (b0 _) _) (by simp) (by rw [alloc_cell]; exact h)
def coreB (a b c : Int) (p : ByteArray) (a' b' c' : Int) (p' : ByteArray) : Bool := decide (a = a') && (decide (b = b') && (decide (c = c') && decide (p = p')))
theorem core_eq (a b c : Int) (p : ByteArray) (a' b' c' : Int) (p' : ByteArray) (W : World) : (binOp .eql 52 (.agg #[.int .i64 a, .int .i64 b, .int .i64 c, .string p, .string ⟨#[]⟩]) (.agg #[.int .i64 a', .int .i64 b', .int .i64 c', .string p', .string ⟨#[]⟩])).run Tryz.prog W = .ok (.bool (coreB a b c p a' b' c' p')) W := by
 have u3 := Tryz.underlying3
 have a3 := Tryz.isAgg3
 have z3 := Tryz.sizeOf3
 have u9 := Tryz.underlying9
 have a9 := Tryz.isAgg9
 have z9 := Tryz.sizeOf9
 have hS : Tryz.prog.underlying 52 = some (.struct (Tryz.prog.fieldsOf 52)) := by kernel_rfl
 have hp : Tryz.prog.stoodInHeld 52 = false := by kernel_rfl
 have hpe : (p.toList == p'.toList) = decide (p = p') := ba_eq
 rw [run_eql_struct, show (10000 : Nat) = 9999 + 1 from rfl, run_equalIn_agg W 9999 52 _ _ hS hp]
 simp only [Program.fieldsOf, Tryz.underlying52]
 unfold coreB
 by_cases h1 : a = a'
 ·by_cases h2 : b = b'
  ·by_cases h3 : c = c'
   ·by_cases h4 : p = p'
    ·subst h1 h2 h3 h4; (try go_simp); (try simp)
    ·rw [decide_eq_false h4] at hpe; (try go_simp); (try simp [hpe, h4, *])
   ·(try go_simp); (try simp [*])
  ·(try go_simp); (try simp [*])
 ·(try go_simp); (try simp [*])
theorem cmpV_or (u v : Ver) : cmpV u v = if mayV u = true ∧ mayV v = true then (if or3 (intsF u.major v.major) (intsF u.minor v.minor) (intsF u.patch v.patch) ≠ 0 then or3 (intsF u.major v.major) (intsF u.minor v.minor) (intsF u.patch v.patch) else presF u.pre v.pre) else 0 := by
 unfold cmpV or3
 by_cases hm : mayV u = true ∧ mayV v = true
 ·rw [if_pos hm, if_pos hm]
  by_cases h1 : intsF u.major v.major = 0 <;> by_cases h2 : intsF u.minor v.minor = 0 <;> by_cases h3 : intsF u.patch v.patch = 0 <;> simp [h1, h2, h3]
 ·rw [if_neg hm, if_neg hm]
theorem intsF_zero {a b : Int} : intsF a b = 0 ↔ a = b := by
 unfold intsF
 split
 ·constructor
  ·intro h; omega
  ·intro h; omega
 ·split
  ·constructor
   ·intro h; omega
   ·intro h; omega
  ·constructor
   ·intro _; omega
   ·intro _; rfl
theorem or3_zero {x y z : Int} : or3 x y z = 0 ↔ x = 0 ∧ y = 0 ∧ z = 0 := by
 unfold or3
 split
 ·constructor
  ·intro h; omega
  ·intro h; omega
 ·split
  ·constructor
   ·intro h; omega
   ·intro h; omega
  ·constructor
   ·intro h; omega
   ·intro h; omega
theorem coreB_iff {a b c : Int} {p : ByteArray} {a' b' c' : Int} {p' : ByteArray} : coreB a b c p a' b' c' p' = true ↔ a = a' ∧ b = b' ∧ c = c' ∧ p = p' := by
 unfold coreB
 simp only [Bool.and_eq_true, decide_eq_true_eq]
theorem cmpV_same {a b c a' b' c' R : Int} {p p' : ByteArray} (h : R = if true = true ∧ true = true then (if or3 (intsF a a') (intsF b b') (intsF c c') ≠ 0 then or3 (intsF a a') (intsF b b') (intsF c c') else presF p p') else 0) (hc : coreB a b c p a' b' c' p' = true) : R = 0 := by
 obtain ⟨e1, e2, e3, e4⟩ := coreB_iff.1 hc
 subst e1 e2 e3 e4
 rw [h, if_pos ⟨rfl, rfl⟩, if_neg (fun h3 => h3 (or3_zero.2 ⟨intsF_zero.2 rfl, intsF_zero.2 rfl, intsF_zero.2 rfl⟩))]
 unfold presF
 rw [if_pos rfl]
set_option maxRecDepth 100000 in
set_option maxHeartbeats 8000000 in
theorem pvcmp_any (a b c : Int) (p q : ByteArray) (a' b' c' : Int) (p' q' : ByteArray) (w : World) (h : VB a b c p q) (h' : VB a' b' c' p' q') :
  Calls Tryz.prog 169 #[.agg #[.int .i64 a, .int .i64 b, .int .i64 c, .string p, .string q], .agg #[.int .i64 a', .int .i64 b', .int .i64 c', .string p', .string q']] w fun e w' => e = .returned (.int .i64 (cmpV ⟨a, b, c, p, q⟩ ⟨a', b', c', p', q'⟩)) ∧ Below w.heap.size w w' := by
 have hp : p.size ≤ 1000 := h.2.2.2.1
 have hp' : p'.size ≤ 1000 := h'.2.2.2.1
 have HV := hid h
 have HV' := hid h'
 have HC0 := hid (cmpV_or ⟨a, b, c, p, q⟩ ⟨a', b', c', p', q'⟩)
 dsimp only at HC0
 clear h h'
 obtain ⟨R, hR⟩ : ∃ R, cmpV ⟨a, b, c, p, q⟩ ⟨a', b', c', p', q'⟩ = R := ⟨_, rfl⟩
 rw [hR] at HC0 ⊢
 clear hR
 obtain ⟨m1, hm1⟩ : ∃ m1, mayV ⟨a, b, c, p, q⟩ = m1 := ⟨_, rfl⟩
 obtain ⟨m2, hm2⟩ : ∃ m2, mayV ⟨a', b', c', p', q'⟩ = m2 := ⟨_, rfl⟩
 obtain ⟨cb, hcb⟩ : ∃ cb, coreB a b c p a' b' c' p' = cb := ⟨_, rfl⟩
 have HM1 := hid hm1
 have HM2 := hid hm2
 have HCB := hid hcb
 have heq := fun W => core_eq a b c p a' b' c' p' W
 have hgd := fun op x y xs ys W => ver_eguard op x y xs ys W
 rw [hm1, hm2] at HC0
 rw [hcb] at heq
 obtain ⟨w0, hw0⟩ : ∃ w0 : World, w0 = (w.alloc (.cells #[.int .i64 a, .int .i64 b, .int .i64 c, .string p, .string q] 52)).alloc (.cells #[.int .i64 a', .int .i64 b', .int .i64 c', .string p', .string q'] 52) := ⟨_, rfl⟩
 have hb0 : Below w.heap.size w w0 := hw0 ▸ balloc (balloc (b0 w) _) _
 have hz1 : w.heap.size + 1 < w0.heap.size := by rw [hw0]; simp
 have hz0 : w.heap.size < w0.heap.size := Nat.lt_of_succ_lt hz1
 have k0 : w0.cell? ⟨w.heap.size, 0, none⟩ = some (.int .i64 a) := by rw [hw0]; exact alloc2_old rfl
 have k1 : w0.cell? ⟨w.heap.size, 1, none⟩ = some (.int .i64 b) := by rw [hw0]; exact alloc2_old rfl
 have k2 : w0.cell? ⟨w.heap.size, 2, none⟩ = some (.int .i64 c) := by rw [hw0]; exact alloc2_old rfl
 have k3 : w0.cell? ⟨w.heap.size, 3, none⟩ = some (.string p) := by rw [hw0]; exact alloc2_old rfl
 have k4 : w0.cell? ⟨w.heap.size, 4, none⟩ = some (.string q) := by rw [hw0]; exact alloc2_old rfl
 have j0 : w0.cell? ⟨w.heap.size + 1, 0, none⟩ = some (.int .i64 a') := by rw [hw0]; exact alloc2_new rfl
 have j1 : w0.cell? ⟨w.heap.size + 1, 1, none⟩ = some (.int .i64 b') := by rw [hw0]; exact alloc2_new rfl
 have j2 : w0.cell? ⟨w.heap.size + 1, 2, none⟩ = some (.int .i64 c') := by rw [hw0]; exact alloc2_new rfl
 have j3 : w0.cell? ⟨w.heap.size + 1, 3, none⟩ = some (.string p') := by rw [hw0]; exact alloc2_new rfl
 have j4 : w0.cell? ⟨w.heap.size + 1, 4, none⟩ = some (.string q') := by rw [hw0]; exact alloc2_new rfl
 have HB0 := hid hb0
 have HW0 := hid hw0
 clear hm1 hm2 hcb hw0 hb0
 have l0 := later_cell hz0 k0
 have l1 := later_cell hz0 k1
 have l2 := later_cell hz0 k2
 have l3 := later_cell hz0 k3
 have l4 := later_cell hz0 k4
 have n0 := later_cell hz1 j0
 have n1 := later_cell hz1 j1
 have n2 := later_cell hz1 j2
 have n3 := later_cell hz1 j3
 have n4 := later_cell hz1 j4
 have HX := hid (fun e : Later w0 => (pvmay_any a b c p q e.w HV.out))
 have HY := hid (fun e : Later w0 => (pvmay_any a' b' c' p' q' e.w HV'.out))
 rw [HM1.out] at HX
 rw [HM2.out] at HY
 go_enter Tryz.func169, Tryz.ntmps169
 go_wp2_with fail
 rw [← HW0.out]
 rcases (show m1 = false ∨ (m1 = true ∧ m2 = false) ∨ (m1 = true ∧ m2 = true ∧ cb = false) ∨ (m1 = true ∧ m2 = true ∧ cb = true) by cases m1 <;> cases m2 <;> cases cb <;> simp) with rfl | ⟨rfl, rfl⟩ | ⟨rfl, rfl, rfl⟩ | ⟨rfl, rfl, rfl⟩
 ·(refine wp_region_later (by kernel_rfl) (by kernel_rfl) ?_; (repeat (go_big_quiet_step ((first | (go_at_call_of 101 q; exact Calls.later (HX.out _) rfl) | (go_at_call_of 101 q'; exact Calls.later (HY.out _) rfl) | (go_at_call_of 174 q; exact Calls.later (pcore_any a b c p q _) rfl) | (go_at_call_of 174 q'; exact Calls.later (pcore_any a' b' c' p' q' _) rfl))))); refine wpQuiet_nil ?_; rintro _ ⟨e9, rfl⟩; obtain ⟨w9, hw9⟩ : ∃ w9 : World, w9 = e9.w := ⟨_, rfl⟩; have hb9 := e9.below; rw [← hw9] at hb9 ⊢; clear hw9)
  go_wp2
  go_ret
  exact ⟨ret_int (by have h := HC0.out; rw [if_neg (by simp)] at h; exact h.symm), bstep HB0.out hb9⟩
 ·(refine wp_region_later (by kernel_rfl) (by kernel_rfl) ?_; (repeat (go_big_quiet_step ((first | (go_at_call_of 101 q; exact Calls.later (HX.out _) rfl) | (go_at_call_of 101 q'; exact Calls.later (HY.out _) rfl) | (go_at_call_of 174 q; exact Calls.later (pcore_any a b c p q _) rfl) | (go_at_call_of 174 q'; exact Calls.later (pcore_any a' b' c' p' q' _) rfl))))); refine wpQuiet_nil ?_; rintro _ ⟨e9, rfl⟩; obtain ⟨w9, hw9⟩ : ∃ w9 : World, w9 = e9.w := ⟨_, rfl⟩; have hb9 := e9.below; rw [← hw9] at hb9 ⊢; clear hw9)
  go_wp2
  go_ret
  exact ⟨ret_int (by have h := HC0.out; rw [if_neg (by simp)] at h; exact h.symm), bstep HB0.out hb9⟩
 ·(refine wp_region_later (by kernel_rfl) (by kernel_rfl) ?_; (repeat (go_big_quiet_step ((first | (go_at_call_of 101 q; exact Calls.later (HX.out _) rfl) | (go_at_call_of 101 q'; exact Calls.later (HY.out _) rfl) | (go_at_call_of 174 q; exact Calls.later (pcore_any a b c p q _) rfl) | (go_at_call_of 174 q'; exact Calls.later (pcore_any a' b' c' p' q' _) rfl))))); refine wpQuiet_nil ?_; rintro _ ⟨e9, rfl⟩; obtain ⟨w9, hw9⟩ : ∃ w9 : World, w9 = e9.w := ⟨_, rfl⟩; have hb9 := e9.below; rw [← hw9] at hb9 ⊢; clear hw9)
  have HB9 := hid (bstep HB0.out hb9)
  have k0 := cell_below hb9 hz0 k0
  have k1 := cell_below hb9 hz0 k1
  have k2 := cell_below hb9 hz0 k2
  have k3 := cell_below hb9 hz0 k3
  have j0 := cell_below hb9 hz1 j0
  have j1 := cell_below hb9 hz1 j1
  have j2 := cell_below hb9 hz1 j2
  have j3 := cell_below hb9 hz1 j3
  have hz1 := Nat.lt_of_lt_of_le hz1 hb9.size
  have hz0 := Nat.lt_of_lt_of_le hz0 hb9.size
  clear l0 l1 l2 l3 l4 n0 n1 n2 n3 n4 heq hgd hb9 k4 j4
  obtain ⟨X, hX⟩ : ∃ X, intsF a a' = X := ⟨_, rfl⟩
  obtain ⟨Y, hY⟩ : ∃ Y, intsF b b' = Y := ⟨_, rfl⟩
  obtain ⟨Z, hZ⟩ : ∃ Z, intsF c c' = Z := ⟨_, rfl⟩
  have HXE := hid hX
  have HYE := hid hY
  have HZE := hid hZ
  have HC1 : Hid (R = if or3 X Y Z ≠ 0 then or3 X Y Z else presF p p') := hid (by have h := HC0.out; rw [if_pos ⟨rfl, rfl⟩, hX, hY, hZ] at h; exact h)
  clear hX hY hZ
  go_wp2_with fail
  go_region_held3 (fun w' => w'.cell? ⟨w.heap.size, 0, none⟩ = some (.int .i64 a) ∧ w'.cell? ⟨w.heap.size, 1, none⟩ = some (.int .i64 b) ∧ w'.cell? ⟨w.heap.size, 2, none⟩ = some (.int .i64 c) ∧ w'.cell? ⟨w.heap.size + 1, 0, none⟩ = some (.int .i64 a') ∧ w'.cell? ⟨w.heap.size + 1, 1, none⟩ = some (.int .i64 b') ∧ w'.cell? ⟨w.heap.size + 1, 2, none⟩ = some (.int .i64 c')) (first | exact ⟨by assumption, by assumption, by assumption, by assumption, by assumption, by assumption⟩ | go_keep) (first
   | (go_at_call_of 168 a; refine (cmpi_any a a' _).mono ?_; rintro e w5 ⟨rfl, hw5⟩; rw [hw5, HXE.out]; clear hw5)
   | (go_at_call_of 168 b; refine (cmpi_any b b' _).mono ?_; rintro e w5 ⟨rfl, hw5⟩; rw [hw5, HYE.out]; clear hw5)
   | (go_at_call_of 168 c; refine (cmpi_any c c' _).mono ?_; rintro e w5 ⟨rfl, hw5⟩; rw [hw5, HZE.out]; clear hw5)
   | (go_at_call 175; refine (or3_any X Y Z _ _ (by simp) (by exact (alloc_cell _ _ _ _).trans rfl) (by exact (alloc_cell _ _ _ _).trans rfl) (by exact (alloc_cell _ _ _ _).trans rfl)).mono ?_; rintro e w5 ⟨rfl, hw5⟩; rw [hw5]; clear hw5))
  obtain ⟨wA, hwA⟩ : ∃ wA : World, wA = (w9.alloc (.cells #[.int .i64 X, .int .i64 Y, .int .i64 Z] 3)).drew := ⟨_, rfl⟩
  have hbA : Below w9.heap.size w9 wA := hwA ▸ (balloc (b0 w9) _).drew
  have k3 := cell_below hbA hz0 k3
  have j3 := cell_below hbA hz1 j3
  have hz1 := Nat.lt_of_lt_of_le hz1 hbA.size
  have hz0 := Nat.lt_of_lt_of_le hz0 hbA.size
  have HBA := hid (bstep HB9.out hbA)
  rw [← hwA]
  clear hwA hbA HB9 k0 k1 k2 j0 j1 j2
  obtain ⟨O, hO⟩ : ∃ O, or3 X Y Z = O := ⟨_, rfl⟩
  have HOE := hid hO
  rw [hO] at HC1 ⊢
  clear hO
  by_cases hz : O = 0
  ·have e1 : (O != 0) = false := by rw [hz]; rfl
   have HR : Hid (R = presF p p') := hid (by rw [HC1.out, if_neg (by simpa using hz)])
   have hpne : p ≠ p' := fun e => by
    have h3 := or3_zero.1 (HOE.out.trans hz)
    have h4 : coreB a b c p a' b' c' p' = true := coreB_iff.2 ⟨intsF_zero.1 (HXE.out.trans h3.1), intsF_zero.1 (HYE.out.trans h3.2.1), intsF_zero.1 (HZE.out.trans h3.2.2), e⟩
    rw [HCB.out] at h4
    cases h4
   have H0 : Hid (presF p p' = if p.size = 0 then 1 else if p'.size = 0 then -1 else cmpL (wordsOf p) (wordsOf p')) := hid (by unfold presF; rw [if_neg hpne])
   clear hz hpne
   by_cases h1 : p.size = 0
   ·have e2 := empty_toList h1
    have H : Hid (R = 1) := hid (by rw [HR.out, H0.out, if_pos h1])
    clear h1
    go_wp2
    go_ret
    exact ⟨ret_int H.out.symm, HBA.out⟩
   ·have e2 := nonempty_toList (s := p) (by omega)
    by_cases h2 : p'.size = 0
    ·have e3 := empty_toList h2
     have H : Hid (R = -1) := hid (by rw [HR.out, H0.out, if_neg h1, if_pos h2])
     clear h1 h2
     go_wp2
     go_ret
     exact ⟨ret_int H.out.symm, HBA.out⟩
    ·have e3 := nonempty_toList (s := p') (by omega)
     have H1 : Hid (R = cmpL (wordsOf p) (wordsOf p')) := hid (by rw [HR.out, H0.out, if_neg h1, if_neg h2])
     clear h1 h2 H0 HR
     go_wp2_with fail
     go_region_held3 (fun w' => w'.cell? ⟨w.heap.size, 3, none⟩ = some (.string p) ∧ w'.cell? ⟨w.heap.size + 1, 3, none⟩ = some (.string p')) (first | exact ⟨by assumption, by assumption⟩ | go_keep) (first
      | (go_at_call_of 150 p; refine (iwords46_any p _ hp).mono ?_; rintro e w1 ⟨L, A, cap, rfl, hrd, hsp, hx, hlen, -, hb1⟩; have HB1 := hid ((b0 wA).drew.trans (hb1.mono (Nat.le_refl _))); have HR := hid hrd; have HS := hid (words_eq hsp); have HX := hid hx; have f0 := cell_below HB1.out hz0 k3; have f1 := cell_below HB1.out hz1 j3; clear hsp hrd hx hb1)
      | (go_at_call_of 150 p'; refine (iwords46_any p' _ hp').mono ?_; rintro e w2 ⟨M, A', cap', rfl, hrd, hsp, hx, hlen', -, hb2⟩; have HB2 := hid hb2; have HBW2 := hid (bstep HB1.out hb2); have HR' := hid hrd; have HS' := hid (words_eq hsp); have HX' := hid hx; have f2 := cell_below HBW2.out hz0 k3; have f3 := cell_below HBW2.out hz1 j3; clear hsp hrd hx hb2))
     obtain ⟨_, _, hv, hcap, hmax, hc⟩ := (HR.out.lift HB2.out HB2.out.size).flat
     injection hv with q1 q2 q3
     subst q1
     have HC := hid hc
     obtain ⟨_, _, hv, hcap', hmax', hc'⟩ := HR'.out.flat
     injection hv with q1' q2' q3'
     subst q1'
     have HC' := hid hc'
     clear hc hc' q2 q3 q2' q3' f0 f1 f2 f3 k3 j3
     have H2 : Hid (R = cmpL L M) := hid (by rw [H1.out, HS.out, HS'.out])
     have HBZ := hid (bstep HBA.out HBW2.out)
     have HLL := hid hlen
     have hsp1 : L.length ≤ 1001 := by omega
     have hsp2 : M.length ≤ 1001 := by omega
     obtain ⟨nl, hnl⟩ : ∃ nl, L.length = nl := ⟨_, rfl⟩
     obtain ⟨nm2, hnm⟩ : ∃ nm2, M.length = nm2 := ⟨_, rfl⟩
     have HNL := hid hnl
     have HNM := hid hnm
     rw [hnl] at hcap hsp1 hlen ⊢
     rw [hnm] at hcap' hsp2 hlen' ⊢
     clear hnl hnm HLL
     go_wp2_with fail
     go_loopw [8, 9] (fun iv _ wr => ∃ k : Nat, k ≤ nl ∧ k ≤ nm2 ∧ iv = .int .i64 k ∧ Hid (cmpL L M = cmpL (L.drop k) (M.drop k)) ∧ Hid (Below w2.heap.size w2 wr)) (fun iv _ _ => nl - (intOf iv).toNat)
     case atStart => exact ⟨0, Nat.zero_le _, Nat.zero_le _, rfl, hid (by simp), hid (b0 _)⟩
     case round =>
      obtain ⟨k, hk, hk', rfl, hcmp, hbr⟩ := hrel
      have HBW := hid (bstep HBZ.out hbr.out)
      by_cases hlt : k < nl ∧ k < nm2
      ·obtain ⟨hl1, hl2⟩ := hlt
       have hl1' : k < L.length := by rw [HNL.out]; exact hl1
       have hl2' : k < M.length := by rw [HNM.out]; exact hl2
       obtain ⟨g, o, hA, hF, -, hcell⟩ := HC.out k hl1'
       subst hA
       obtain ⟨g', o', hA', hF', -, hcell'⟩ := HC'.out k hl2'
       subst hA'
       have c0 := cell_below hbr.out hF (hcell 0 _ rfl)
       have c0' := cell_below hbr.out hF' (hcell' 0 _ rfl)
       have hxk : (L[k]).size ≤ 1000 := by have := HX.out _ (List.getElem_mem hl1'); omega
       have hxk' : (M[k]).size ≤ 1000 := by have := HX'.out _ (List.getElem_mem hl2'); omega
       simp only [fStr, Nat.mul_one, Nat.add_zero] at c0 c0'
       have HD := hid (cmpL_drop hl1' hl2')
       clear hcell hcell'
       have i1 : (0 : Int) ≤ ↑k := by omega
       have i2 : (↑k : Int) < ↑nl := by omega
       have i3 : (↑k : Int) < ↑nm2 := by omega
       have i4 : decide ((↑k : Int) < ↑nm2) = true := decide_eq_true i3
       have i5 : decide (k < nm2) = true := decide_eq_true hl2
       have i6 : IntKind.i64.wrap (↑k + 1) = (↑k : Int) + 1 := IntWalk.i64_in _ (by omega)
       have lc := later_cell (Nat.lt_of_lt_of_le hF hbr.out.size) c0
       have lc' := later_cell (Nat.lt_of_lt_of_le hF' hbr.out.size) c0'
       generalize L[k] = x at *
       generalize M[k] = y at *
       have HT := hid (fun W => ptag_any x y W hxk hxk')
       by_cases h1 : oneF x y = 0
       ·have HE : Hid (cmpL L M = cmpL (L.drop (k + 1)) (M.drop (k + 1))) := hid (by rw [hcmp.out, HD.out, if_pos h1])
        rw [h1] at HT
        clear h1
        go_wp2_with fail
        (refine wp_region_later (by kernel_rfl) (by kernel_rfl) ?_; (repeat (go_big_quiet_step ((go_at_call 176; exact Calls.later (HT.out _) rfl)))); refine wpQuiet_nil ?_; rintro _ ⟨e9, rfl⟩; obtain ⟨w9, hw9⟩ : ∃ w9 : World, w9 = e9.w := ⟨_, rfl⟩; have hb9 := e9.below; rw [← hw9] at hb9 ⊢; clear hw9)
        go_wp2
        exact ⟨⟨k + 1, by omega, by omega, by go_num, HE, hid (bstep hbr.out hb9)⟩, by simp [intOf]; omega⟩
       ·have HE : Hid (R = oneF x y) := hid (by rw [H2.out, hcmp.out, HD.out, if_neg h1])
        obtain ⟨ov, hov⟩ : ∃ ov, oneF x y = ov := ⟨_, rfl⟩
        rw [hov] at HE HT h1
        have e4 : (ov != 0) = true := by rw [bne_iff_ne]; exact h1
        clear h1 hov
        go_wp2_with fail
        (refine wp_region_later (by kernel_rfl) (by kernel_rfl) ?_; (repeat (go_big_quiet_step ((go_at_call 176; exact Calls.later (HT.out _) rfl)))); refine wpQuiet_nil ?_; rintro _ ⟨e9, rfl⟩; obtain ⟨w9, hw9⟩ : ∃ w9 : World, w9 = e9.w := ⟨_, rfl⟩; have hb9 := e9.below; rw [← hw9] at hb9 ⊢; clear hw9)
        go_wp2
        go_ret
        exact ⟨ret_int HE.out.symm, bstep HBW.out hb9⟩
      ·have HE : Hid (R = intsF nl nm2) := hid (by rw [H2.out, hcmp.out, ← HNL.out, ← HNM.out]; exact cmpL_end (by rw [HNL.out]; exact hk) (by rw [HNM.out]; exact hk') (by rw [HNL.out, HNM.out]; omega))
       by_cases hl1 : k < nl
       ·have i4 : decide ((↑k : Int) < ↑nm2) = false := decide_eq_false (by omega)
        have i5 : decide (k < nm2) = false := decide_eq_false (by omega)
        have hl2 : nm2 ≤ k := by omega
        have i6 : (↑k : Int) < ↑nl := by omega
        clear hlt
        go_wp2_with (go_at_call 168; refine (cmpi_any _ _ _).mono ?_; rintro e w' ⟨rfl, hw'⟩; rw [hw']; clear hw')
        go_ret
        exact ⟨ret_int HE.out.symm, HBW.out⟩
       ·have i6 : ¬ (↑k : Int) < ↑nl := by omega
        clear hlt
        go_wp2_with (go_at_call 168; refine (cmpi_any _ _ _).mono ?_; rintro e w' ⟨rfl, hw'⟩; rw [hw']; clear hw')
        go_ret
        exact ⟨ret_int HE.out.symm, HBW.out⟩
  ·have e1 : (O != 0) = true := by rw [bne_iff_ne]; exact hz
   have HR : Hid (R = O) := hid (by rw [HC1.out, if_pos hz])
   clear hz
   go_wp2
   go_ret
   exact ⟨ret_int HR.out.symm, HBA.out⟩
 ·(refine wp_region_later (by kernel_rfl) (by kernel_rfl) ?_; (repeat (go_big_quiet_step ((first | (go_at_call_of 101 q; exact Calls.later (HX.out _) rfl) | (go_at_call_of 101 q'; exact Calls.later (HY.out _) rfl) | (go_at_call_of 174 q; exact Calls.later (pcore_any a b c p q _) rfl) | (go_at_call_of 174 q'; exact Calls.later (pcore_any a' b' c' p' q' _) rfl))))); refine wpQuiet_nil ?_; rintro _ ⟨e9, rfl⟩; obtain ⟨w9, hw9⟩ : ∃ w9 : World, w9 = e9.w := ⟨_, rfl⟩; have hb9 := e9.below; rw [← hw9] at hb9 ⊢; clear hw9)
  go_wp2
  go_ret
  exact ⟨ret_int (cmpV_same HC0.out HCB.out).symm, bstep HB0.out hb9⟩
end Go.Proofs.YthneiolcljnbeaaGreatDoor
