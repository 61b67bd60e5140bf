import Derived.Test.YtilgijmokjekgaaGreatDoorzA4
import Derived.Test.YtilgijmokjekgaaGreatDoorzN
import Derived.Outline
import Derived.Test.YtilgijmokjekgaaGreatDoorzGW
import Derived.Test.YtilgijmokjekgaaGreatDoorzY10
import Derived.Deep.RegionWith
section
/- What ref24.Run tells; masks of terms. -/
namespace Go.Proofs.YtilgijmokjekgaaGreatDoor
open Go Go.RowKit

theorem mask_of {ns : List Nat} {M : Nat → Nat} {u : Nat} (hu : u < ns.length) : maskF ns (canon ns M) (u : Int) = (M u : Int) := by rw [mask_canon, maskN_nat M hu]
end Go.Proofs.YtilgijmokjekgaaGreatDoor
end
section
/- Contracts: fact.lost, fact.sure. -/
namespace Go.Proofs.YtilgijmokjekgaaGreatDoor
open Go Go.RowKit

theorem int_eq0 (r : Nat) : ((r : Int) == 0) = (r == 0) := by
  cases h : r == 0 with
  | true => rw [beq_iff_eq] at h ⊢; omega
  | false => rw [beq_eq_false_iff_ne] at h ⊢; omega
theorem int_ne0 (r : Nat) : ((r : Int) != 0) = (r != 0) := by unfold bne; rw [int_eq0]
/-- Three boxes: a world, a row, a want. -/
theorem three_boxes {w w0 : World} {x : Value} {y0 y1 y2 y3 y4 z0 z1 z2 : Value} {t t' t'' : TypeId} (h : w0 = ((w.alloc (.cells #[x] t)).alloc (.cells #[y0, y1, y2, y3, y4] t')).alloc (.cells #[z0, z1, z2] t'')) :
    Below w.heap.size w w0 ∧ w0.heap.size = w.heap.size + 3 ∧ w0.cell? ⟨w.heap.size, 0, none⟩ = some x ∧
      (w0.cell? ⟨w.heap.size + 1, 0, none⟩ = some y0 ∧ w0.cell? ⟨w.heap.size + 1, 1, none⟩ = some y1 ∧ w0.cell? ⟨w.heap.size + 1, 2, none⟩ = some y2 ∧ w0.cell? ⟨w.heap.size + 1, 3, none⟩ = some y3 ∧ w0.cell? ⟨w.heap.size + 1, 4, none⟩ = some y4) ∧
      (w0.cell? ⟨w.heap.size + 1 + 1, 0, none⟩ = some z0 ∧ w0.cell? ⟨w.heap.size + 1 + 1, 1, none⟩ = some z1 ∧ w0.cell? ⟨w.heap.size + 1 + 1, 2, none⟩ = some z2) := by
  subst h
  refine ⟨balloc (balloc (balloc (b0 w) _) _) _, by simp, cell_below (balloc (b0 _) _) (by simp only [World.size_alloc]; omega) (alloc2_old rfl), ⟨?_, ?_, ?_, ?_, ?_⟩, ⟨alloc3_new rfl, alloc3_new rfl, alloc3_new rfl⟩⟩
  all_goals exact cell_below (balloc (b0 _) _) (by simp only [World.size_alloc]; omega) (alloc2_new rfl)
section
variable {us : List UnitW} {M : Nat → Nat} {u p : Nat} {x : WantD}
theorem lost_same (h : x.u = (u : Int)) : lostN us M u p x = (metN us x &&& 2 ^ (p + 1) == 0) := by unfold lostN; rw [if_pos h]
theorem lost_other (h : ¬ x.u = (u : Int)) : lostN us M u p x = (metN us x &&& M x.u.toNat == 0) := by unfold lostN; rw [if_neg h]
theorem sure_same (h : x.u = (u : Int)) : sureN us M u p x = (metN us x &&& 2 ^ (p + 1) != 0) := by unfold sureN; rw [if_pos h]
theorem sure_other (h : ¬ x.u = (u : Int)) : sureN us M u p x = (M x.u.toNat &&& metN us x == M x.u.toNat) := by unfold sureN; rw [if_neg h]
end
/-- What a row and a want are to be. -/
structure RowWant (us : List UnitW) (v tv a b : Value) (M : Nat → Nat) (u p : Nat) (x : WantD) (w : World) : Prop where
  wd : WorldRd w (Lt w.heap.size) v us
  ok : UnitsOk us
  inc : IncOk (nsOf us) M
  terms : SliceRd tTerm w (Lt w.heap.size) tv (canon (nsOf us) M)
  rel : SliceRd fSpan.ty w (Lt w.heap.size) a x.s.rel
  pre : SliceRd fSpan.ty w (Lt w.heap.size) b x.s.pre
  lo : 0 ≤ x.u
  hi : x.u < us.length
  first : FirstIs w
  p : p ≤ 3
theorem RowWant.later {us : List UnitW} {v tv a b : Value} {M : Nat → Nat} {u p : Nat} {x : WantD} {w w' : World} (h : RowWant us v tv a b M u p x w) (hb : Below w.heap.size w w') : RowWant us v tv a b M u p x w' :=
  ⟨h.wd.lift hb hb.size, h.ok, h.inc, h.terms.lift hb hb.size, h.rel.lift hb hb.size, h.pre.lift hb hb.size, h.lo, h.hi, h.first.below hb, h.p⟩
theorem and_pq {m q : Nat} (hm : m ≤ 31) (hq : q ≤ 31) : bits .and .i64 (m : Int) (q : Int) = ((m &&& q : Nat) : Int) := by
  have h1 : nm (m : Int) = m := nm_nat (by omega)
  have h2 : nm (q : Int) = q := nm_nat (by omega)
  rw [band _ _ (by rw [h1, h2]; have := and_le31 (a := m) hq; omega), h1, h2]
theorem andn_pq {m q : Nat} (hm : m ≤ 31) (hq : q ≤ 31) : (bits .andNot .i64 (m : Int) (q : Int) == 0) = (m &&& q == m) := by
  rw [bandn, nm_nat (k := m) (by omega), nm_nat (k := q) (by omega)]
  rfl
set_option maxRecDepth 100000 in
set_option maxHeartbeats 4000000 in
theorem lost_any (v tv a b : Value) (us : List UnitW) (M : Nat → Nat) (kk : Int) (u p : Nat) (x : WantD) (w : World) (h : RowWant us v tv a b M u p x w) :
    Calls Tryz.prog 98 #[v, .agg #[.int .i64 kk, .int .i64 u, .int .i64 0, .int .i64 0, tv], .int .i64 p, .agg #[.int .i64 x.u, a, b]] w fun e w' => e = .returned (.bool (lostN us M u p x)) ∧ Below w.heap.size w w' := by
  have hp3 := h.p
  have hmle := metN_le us x
  have hf31 := fullN_le h.ok.ns x.u.toNat
  have hM31 : M x.u.toNat ≤ 31 := h.inc.le h.ok.ns _ (by have := h.lo; have := h.hi; simp [nsOf]; omega)
  have HS := hid (lost_same (us := us) (M := M) (u := u) (p := p) (x := x))
  have HO := hid (lost_other (us := us) (M := M) (u := u) (p := p) (x := x))
  have HMET := hid (fun (W : World) (hb : Below w.heap.size w W) => pmet_any v a b us x W (h.later hb).wd h.ok (h.later hb).rel (h.later hb).pre h.lo h.hi (h.later hb).first)
  have HMASK := hid (fun (W : World) (hb : Below w.heap.size w W) => mask_any v tv (nsOf us) (canon (nsOf us) M) x.u W (h.later hb).wd.uni h.ok.ns (h.later hb).terms)
  have hxu : x.u = ((x.u.toNat : Nat) : Int) := by have := h.lo; omega
  have hmk : maskF (nsOf us) (canon (nsOf us) M) x.u = (M x.u.toNat : Int) := by
    rw [hxu]
    exact mask_of (by have := h.hi; simp [nsOf]; omega)
  rw [hmk] at HMASK
  obtain ⟨Aa, ca, hav, -⟩ := h.rel.shape
  obtain ⟨Ab, cb, hbv, -⟩ := h.pre.shape
  obtain ⟨At, ct, htv, -⟩ := h.terms.terms
  obtain ⟨g, cap0, hv, hg, -⟩ := h.wd
  generalize x.s.rel.length = n1 at hav
  generalize x.s.pre.length = n2 at hbv
  generalize (canon (nsOf us) M).length = n3 at htv
  subst hv hav hbv htv
  obtain ⟨w0, hw0⟩ : ∃ w0 : World, w0 = ((w.alloc (.cells #[.slice (some ⟨g, 0, none⟩) us.length cap0] 25)).alloc (.cells #[.int .i64 kk, .int .i64 u, .int .i64 0, .int .i64 0, .slice At n3 ct] 36)).alloc (.cells #[.int .i64 x.u, .slice Aa n1 ca, .slice Ab n2 cb] 83) := ⟨_, rfl⟩
  obtain ⟨hb0, hs0, q0, ⟨r0, r1, r2, r3, r4⟩, x0, x1, x2⟩ := three_boxes hw0
  have HB0 := hid hb0
  have HL := hid (fun e : Later w0 => HMET.out e.w (bstep hb0 e.below))
  have HK := hid (fun e : Later w0 => HMASK.out e.w (bstep hb0 e.below))
  obtain ⟨mt, hmt⟩ : ∃ mt, metN us x = mt := ⟨_, rfl⟩
  rw [hmt] at HS HO HL hmle
  obtain ⟨mm, hmm⟩ : ∃ mm, M x.u.toNat = mm := ⟨_, rfl⟩
  rw [hmm] at HO HK hM31
  have hpc : p = 0 ∨ p = 1 ∨ p = 2 ∨ p = 3 := by omega
  obtain ⟨pq, hpq⟩ : ∃ pq, 2 ^ (p + 1) = pq := ⟨_, rfl⟩
  have hpq31 : pq ≤ 31 := by rw [← hpq]; rcases hpc with rfl | rfl | rfl | rfl <;> decide
  have hmt31 : mt ≤ 31 := by omega
  rw [hpq] at HS
  have i4 : (0 : Int) ≤ ↑p + 1 := by omega
  have i5 : ¬ ((↑p : Int) + 1 < 0) := by omega
  have hw1 : IntKind.i64.wrap ((p : Int) + 1) = (p : Int) + 1 := IntWalk.i64_in _ (by omega)
  have hw2 : ((p : Int) + 1).toNat = p + 1 := by omega
  have hw3 : wrap64 ((2 : Int) ^ (p + 1)) = (pq : Int) := by rw [← hpq]; rcases hpc with rfl | rfl | rfl | rfl <;> simp [wrap64]
  obtain ⟨xu, hxx⟩ : ∃ xu, x.u = xu := ⟨_, rfl⟩
  rw [hxx] at HS HO x0 hw0 HL HK ⊢
  clear hpc hpq HMET HMASK hmk h hmt hmm hf31 hmle hxu hb0 hxx
  have hHW0 := hid hw0
  clear hw0
  have hz0 : w.heap.size + 2 < w0.heap.size := by omega
  have l0 := later_cell (show w.heap.size < w0.heap.size by omega) q0
  have l1 := later_cell (show w.heap.size + 1 < w0.heap.size by omega) r4
  have l2 := later_cell (show w.heap.size + 1 + 1 < w0.heap.size by omega) x0
  have l3 := later_cell (show w.heap.size + 1 + 1 < w0.heap.size by omega) x1
  have l4 := later_cell (show w.heap.size + 1 + 1 < w0.heap.size by omega) x2
  by_cases hc : xu = (u : Int)
  · have z1 : (xu == (u : Int)) = true := beq_iff_eq.2 hc
    have HR := hid (HS.out hc)
    have hand := and_pq hmt31 hpq31
    have he := int_eq0 (mt &&& pq)
    have hn := int_ne0 (mt &&& pq)
    generalize mt &&& pq = r at *
    clear hc HS HO HK
    go_enter Tryz.func98, Tryz.ntmps98
    go_wp2_with fail
    rw [← hHW0.out]
    clear hHW0
    (refine wp_region_later (by kernel_rfl) (by kernel_rfl) ?_; (repeat (go_big_quiet_step ((go_at_call 77; exact Calls.later (HL.out _) rfl)))); refine wpQuiet_nil ?_; rintro _ ⟨⟨w1, hb1⟩, rfl⟩)
    go_wp2
    go_ret
    exact ⟨ret_bool (by first | exact HR.out.symm | (rw [hw3, hand, he]; exact HR.out.symm) | (rw [hand, he]; exact HR.out.symm)), bstep HB0.out hb1⟩
  · have z1 : (xu == (u : Int)) = false := beq_false_of_ne hc
    have HR := hid (HO.out hc)
    have hand := and_pq hmt31 hM31
    have he := int_eq0 (mt &&& mm)
    generalize mt &&& mm = r at *
    clear hc HS HO hw1 hw2 hw3
    go_enter Tryz.func98, Tryz.ntmps98
    go_wp2_with fail
    rw [← hHW0.out]
    clear hHW0
    (refine wp_region_later (by kernel_rfl) (by kernel_rfl) ?_; (repeat (go_big_quiet_step ((first | (go_at_call 77; exact Calls.later (HL.out _) rfl) | (go_at_call 125; exact Calls.later (HK.out _) rfl))))); refine wpQuiet_nil ?_; rintro _ ⟨⟨w1, hb1⟩, rfl⟩)
    go_wp2
    go_ret
    exact ⟨ret_bool (by first | exact HR.out.symm | (rw [hw3, hand, he]; exact HR.out.symm) | (rw [hand, he]; exact HR.out.symm)), bstep HB0.out hb1⟩
set_option maxRecDepth 100000 in
set_option maxHeartbeats 4000000 in
theorem sure_any (v tv a b : Value) (us : List UnitW) (M : Nat → Nat) (kk : Int) (u p : Nat) (x : WantD) (w : World) (h : RowWant us v tv a b M u p x w) :
    Calls Tryz.prog 94 #[v, .agg #[.int .i64 kk, .int .i64 u, .int .i64 0, .int .i64 0, tv], .int .i64 p, .agg #[.int .i64 x.u, a, b]] w fun e w' => e = .returned (.bool (sureN us M u p x)) ∧ Below w.heap.size w w' := by
  have hp3 := h.p
  have hmle := metN_le us x
  have hf31 := fullN_le h.ok.ns x.u.toNat
  have hM31 : M x.u.toNat ≤ 31 := h.inc.le h.ok.ns _ (by have := h.lo; have := h.hi; simp [nsOf]; omega)
  have HS := hid (sure_same (us := us) (M := M) (u := u) (p := p) (x := x))
  have HO := hid (sure_other (us := us) (M := M) (u := u) (p := p) (x := x))
  have HMET := hid (fun (W : World) (hb : Below w.heap.size w W) => pmet_any v a b us x W (h.later hb).wd h.ok (h.later hb).rel (h.later hb).pre h.lo h.hi (h.later hb).first)
  have HMASK := hid (fun (W : World) (hb : Below w.heap.size w W) => mask_any v tv (nsOf us) (canon (nsOf us) M) x.u W (h.later hb).wd.uni h.ok.ns (h.later hb).terms)
  have hxu : x.u = ((x.u.toNat : Nat) : Int) := by have := h.lo; omega
  have hmk : maskF (nsOf us) (canon (nsOf us) M) x.u = (M x.u.toNat : Int) := by
    rw [hxu]
    exact mask_of (by have := h.hi; simp [nsOf]; omega)
  rw [hmk] at HMASK
  obtain ⟨Aa, ca, hav, -⟩ := h.rel.shape
  obtain ⟨Ab, cb, hbv, -⟩ := h.pre.shape
  obtain ⟨At, ct, htv, -⟩ := h.terms.terms
  obtain ⟨g, cap0, hv, hg, -⟩ := h.wd
  generalize x.s.rel.length = n1 at hav
  generalize x.s.pre.length = n2 at hbv
  generalize (canon (nsOf us) M).length = n3 at htv
  subst hv hav hbv htv
  obtain ⟨w0, hw0⟩ : ∃ w0 : World, w0 = ((w.alloc (.cells #[.slice (some ⟨g, 0, none⟩) us.length cap0] 25)).alloc (.cells #[.int .i64 kk, .int .i64 u, .int .i64 0, .int .i64 0, .slice At n3 ct] 36)).alloc (.cells #[.int .i64 x.u, .slice Aa n1 ca, .slice Ab n2 cb] 83) := ⟨_, rfl⟩
  obtain ⟨hb0, hs0, q0, ⟨r0, r1, r2, r3, r4⟩, x0, x1, x2⟩ := three_boxes hw0
  have HB0 := hid hb0
  have HL := hid (fun e : Later w0 => HMET.out e.w (bstep hb0 e.below))
  have HK := hid (fun e : Later w0 => HMASK.out e.w (bstep hb0 e.below))
  obtain ⟨mt, hmt⟩ : ∃ mt, metN us x = mt := ⟨_, rfl⟩
  rw [hmt] at HS HO HL hmle
  obtain ⟨mm, hmm⟩ : ∃ mm, M x.u.toNat = mm := ⟨_, rfl⟩
  rw [hmm] at HO HK hM31
  have hpc : p = 0 ∨ p = 1 ∨ p = 2 ∨ p = 3 := by omega
  obtain ⟨pq, hpq⟩ : ∃ pq, 2 ^ (p + 1) = pq := ⟨_, rfl⟩
  have hpq31 : pq ≤ 31 := by rw [← hpq]; rcases hpc with rfl | rfl | rfl | rfl <;> decide
  have hmt31 : mt ≤ 31 := by omega
  rw [hpq] at HS
  have i4 : (0 : Int) ≤ ↑p + 1 := by omega
  have i5 : ¬ ((↑p : Int) + 1 < 0) := by omega
  have hw1 : IntKind.i64.wrap ((p : Int) + 1) = (p : Int) + 1 := IntWalk.i64_in _ (by omega)
  have hw2 : ((p : Int) + 1).toNat = p + 1 := by omega
  have hw3 : wrap64 ((2 : Int) ^ (p + 1)) = (pq : Int) := by rw [← hpq]; rcases hpc with rfl | rfl | rfl | rfl <;> simp [wrap64]
  obtain ⟨xu, hxx⟩ : ∃ xu, x.u = xu := ⟨_, rfl⟩
  rw [hxx] at HS HO x0 hw0 HL HK ⊢
  clear hpc hpq HMET HMASK hmk h hmt hmm hf31 hmle hxu hb0 hxx
  have hHW0 := hid hw0
  clear hw0
  have hz0 : w.heap.size + 2 < w0.heap.size := by omega
  have l0 := later_cell (show w.heap.size < w0.heap.size by omega) q0
  have l1 := later_cell (show w.heap.size + 1 < w0.heap.size by omega) r4
  have l2 := later_cell (show w.heap.size + 1 + 1 < w0.heap.size by omega) x0
  have l3 := later_cell (show w.heap.size + 1 + 1 < w0.heap.size by omega) x1
  have l4 := later_cell (show w.heap.size + 1 + 1 < w0.heap.size by omega) x2
  by_cases hc : xu = (u : Int)
  · have z1 : (xu == (u : Int)) = true := beq_iff_eq.2 hc
    have HR := hid (HS.out hc)
    have hand := and_pq hmt31 hpq31
    have he := int_eq0 (mt &&& pq)
    have hn := int_ne0 (mt &&& pq)
    generalize mt &&& pq = r at *
    clear hc HS HO HK
    go_enter Tryz.func94, Tryz.ntmps94
    go_wp2_with fail
    rw [← hHW0.out]
    clear hHW0
    (refine wp_region_later (by kernel_rfl) (by kernel_rfl) ?_; (repeat (go_big_quiet_step ((go_at_call 77; exact Calls.later (HL.out _) rfl)))); refine wpQuiet_nil ?_; rintro _ ⟨⟨w1, hb1⟩, rfl⟩)
    go_wp2
    go_ret
    exact ⟨ret_bool (by first | exact HR.out.symm | (rw [hw3, hand, hn]; exact HR.out.symm) | (rw [hand]; exact HR.out.symm)), bstep HB0.out hb1⟩
  · have z1 : (xu == (u : Int)) = false := beq_false_of_ne hc
    have HR := hid (HO.out hc)
    have hand := andn_pq hM31 hmt31
    generalize hr : (mm &&& mt == mm) = r at *
    clear hr
    clear hc HS HO hw1 hw2 hw3
    go_enter Tryz.func94, Tryz.ntmps94
    go_wp2_with fail
    rw [← hHW0.out]
    clear hHW0
    (refine wp_region_later (by kernel_rfl) (by kernel_rfl) ?_; (repeat (go_big_quiet_step ((first | (go_at_call 77; exact Calls.later (HL.out _) rfl) | (go_at_call 125; exact Calls.later (HK.out _) rfl))))); refine wpQuiet_nil ?_; rintro _ ⟨⟨w1, hb1⟩, rfl⟩)
    go_wp2
    go_ret
    exact ⟨ret_bool (by first | exact HR.out.symm | (rw [hw3, hand, hn]; exact HR.out.symm) | (rw [hand]; exact HR.out.symm)), bstep HB0.out hb1⟩
end Go.Proofs.YtilgijmokjekgaaGreatDoor
end
section
/- Contracts: slices.IndexFunc, ContainsFunc at wants and at rows of wants, by places; fact.broken's closures. -/
namespace Go.Proofs.YtilgijmokjekgaaGreatDoor
open Go Go.RowKit

/-- The first place at which a predicate holds. -/
def IdxP (n : Nat) (p : Nat → Bool) (r : Int) : Prop := (r = -1 ∧ ∀ k, k < n → p k = false) ∨ ∃ k, k < n ∧ r = (k : Int) ∧ p k = true
theorem idx_any {n : Nat} {p : Nat → Bool} {r : Int} (h : IdxP n p r) : decide (0 ≤ r) = (List.range n).any p := by
  rcases h with ⟨rfl, hn⟩ | ⟨k, hk, rfl, hp⟩
  · rw [List.any_eq_false.2 (fun t ht => by rw [hn t (List.mem_range.1 ht)]; decide)]
    decide
  · rw [List.any_eq_true.2 ⟨k, List.mem_range.2 hk, hp⟩]
    exact decide_eq_true (by omega)
set_option maxHeartbeats 1000000 in
theorem indexW_any (A : Option Addr) (n cap : Nat) (xu av bv : Nat → Value) (p : Nat → Bool) (f : Nat) (lb : Array Value) (eg : ∀ args w, (callFunc f args).run Tryz.prog w = .ok (.enter f args) w) (w : World) (hmax : n ≤ 1000000)
    (hc : ∀ k, k < n → ∃ g o, A = some ⟨g, o, none⟩ ∧ g < w.heap.size ∧ w.cell? ⟨g, o + k * 3, none⟩ = some (xu k) ∧ w.cell? ⟨g, o + k * 3 + 1, none⟩ = some (av k) ∧ w.cell? ⟨g, o + k * 3 + 2, none⟩ = some (bv k))
    (hp : ∀ W k, k < n → Below w.heap.size w W → Calls Tryz.prog f (#[.agg #[xu k, av k, bv k]] ++ lb) W fun e w' => e = .returned (.bool (p k)) ∧ Below w.heap.size w w') :
    Calls Tryz.prog 124 #[.slice A n cap, .func (.func f) #[] lb] w fun e w' => ∃ r : Int, e = .returned (.int .i64 r) ∧ IdxP n p r ∧ Below w.heap.size w w' := by
  have HC := hid hc
  have HP := hid hp
  clear hc hp
  go_enter Tryz.func124, Tryz.ntmps124
  go_wp2
  go_loopw [5, 8] (fun _ kv wr => ∃ k : Nat, k ≤ n ∧ kv = .int .i64 k ∧ Hid (Below w.heap.size w wr) ∧ Hid (∀ j, j < k → p j = false)) (fun _ kv _ => n - (intOf kv).toNat)
  case atStart => exact ⟨0, Nat.zero_le _, rfl, hid (b0 w), hid (fun j hj => absurd hj (by omega))⟩
  case round =>
    obtain ⟨k, hk, rfl, hb, hn⟩ := hrel
    by_cases hlt : k < n
    · obtain ⟨g, o, hA, hF, h0, h1, h2⟩ := HC.out k hlt
      subst hA
      have hcall := HP.out wr k hlt hb.out
      obtain ⟨y0, hy0⟩ : ∃ y, xu k = y := ⟨_, rfl⟩
      obtain ⟨y1, hy1⟩ : ∃ y, av k = y := ⟨_, rfl⟩
      obtain ⟨y2, hy2⟩ : ∃ y, bv k = y := ⟨_, rfl⟩
      rw [hy0] at h0
      rw [hy1] at h1
      rw [hy2] at h2
      have c0 := cell_below hb.out hF h0
      have c1 := cell_below hb.out hF h1
      have c2 := cell_below hb.out hF h2
      rw [hy0, hy1, hy2] at hcall
      have i1 : (0 : Int) ≤ ↑k := by omega
      have i2 : (↑k : Int) < ↑n := by omega
      clear hy0 h0 hy1 h1 hy2 h2
      cases hq : p k with
      | true =>
        have HQ := hid hq
        rw [hq] at hcall
        clear hq
        go_wp2_with (go_at_fn f; refine hcall.mono ?_; rintro e w' ⟨rfl, hb'⟩)
        go_ret
        exact ⟨_, rfl, .inr ⟨k, hlt, rfl, HQ.out⟩, hb'⟩
      | false =>
        have HQ := hid hq
        rw [hq] at hcall
        clear hq
        go_wp2_with (go_at_fn f; refine hcall.mono ?_; rintro e w' ⟨rfl, hb'⟩)
        exact ⟨⟨k + 1, by omega, by go_num, hid hb', hid (fun j hj => if e : j = k then by subst e; exact HQ.out else hn.out j (by omega))⟩, by simp [intOf]; omega⟩
    · go_wp2
      go_ret
      exact ⟨_, rfl, .inl ⟨rfl, fun j hj => hn.out j (by omega)⟩, hb.out⟩
theorem containsW_any (A : Option Addr) (n cap : Nat) (xu av bv : Nat → Value) (p : Nat → Bool) (f : Nat) (lb : Array Value) (eg : ∀ args w, (callFunc f args).run Tryz.prog w = .ok (.enter f args) w) (w : World) (hmax : n ≤ 1000000)
    (hc : ∀ k, k < n → ∃ g o, A = some ⟨g, o, none⟩ ∧ g < w.heap.size ∧ w.cell? ⟨g, o + k * 3, none⟩ = some (xu k) ∧ w.cell? ⟨g, o + k * 3 + 1, none⟩ = some (av k) ∧ w.cell? ⟨g, o + k * 3 + 2, none⟩ = some (bv k))
    (hp : ∀ W k, k < n → Below w.heap.size w W → Calls Tryz.prog f (#[.agg #[xu k, av k, bv k]] ++ lb) W fun e w' => e = .returned (.bool (p k)) ∧ Below w.heap.size w w') :
    Calls Tryz.prog 92 #[.slice A n cap, .func (.func f) #[] lb] w fun e w' => e = .returned (.bool ((List.range n).any p)) ∧ Below w.heap.size w w' := by
  have hcall := indexW_any A n cap xu av bv p f lb eg w hmax hc hp
  clear hc hp eg
  go_enter Tryz.func92, Tryz.ntmps92
  go_wp2_with (go_at_call 124; refine hcall.mono ?_; rintro e w' ⟨r, rfl, hr, hb'⟩)
  go_ret
  exact ⟨ret_bool (idx_any hr), hb'⟩
set_option maxHeartbeats 1000000 in
theorem indexL_any (A : Option Addr) (n cap : Nat) (lv : Nat → Value) (p : Nat → Bool) (f : Nat) (lb : Array Value) (eg : ∀ args w, (callFunc f args).run Tryz.prog w = .ok (.enter f args) w) (w : World) (hmax : n ≤ 1000000)
    (hc : ∀ k, k < n → ∃ g o, A = some ⟨g, o, none⟩ ∧ g < w.heap.size ∧ w.cell? ⟨g, o + k, none⟩ = some (lv k))
    (hp : ∀ W k, k < n → Below w.heap.size w W → Calls Tryz.prog f (#[lv k] ++ lb) W fun e w' => e = .returned (.bool (p k)) ∧ Below w.heap.size w w') :
    Calls Tryz.prog 126 #[.slice A n cap, .func (.func f) #[] lb] w fun e w' => ∃ r : Int, e = .returned (.int .i64 r) ∧ IdxP n p r ∧ Below w.heap.size w w' := by
  have HC := hid hc
  have HP := hid hp
  clear hc hp
  go_enter Tryz.func126, Tryz.ntmps126
  go_wp2
  go_loopw [5, 8] (fun _ kv wr => ∃ k : Nat, k ≤ n ∧ kv = .int .i64 k ∧ Hid (Below w.heap.size w wr) ∧ Hid (∀ j, j < k → p j = false)) (fun _ kv _ => n - (intOf kv).toNat)
  case atStart => exact ⟨0, Nat.zero_le _, rfl, hid (b0 w), hid (fun j hj => absurd hj (by omega))⟩
  case round =>
    obtain ⟨k, hk, rfl, hb, hn⟩ := hrel
    by_cases hlt : k < n
    · obtain ⟨g, o, hA, hF, h0⟩ := HC.out k hlt
      subst hA
      have hcall := HP.out wr k hlt hb.out
      obtain ⟨y0, hy0⟩ : ∃ y, lv k = y := ⟨_, rfl⟩
      rw [hy0] at h0
      have c0 := cell_below hb.out hF h0
      rw [hy0] at hcall
      have i1 : (0 : Int) ≤ ↑k := by omega
      have i2 : (↑k : Int) < ↑n := by omega
      clear hy0 h0
      cases hq : p k with
      | true =>
        have HQ := hid hq
        rw [hq] at hcall
        clear hq
        go_wp2_with (go_at_fn f; refine hcall.mono ?_; rintro e w' ⟨rfl, hb'⟩)
        go_ret
        exact ⟨_, rfl, .inr ⟨k, hlt, rfl, HQ.out⟩, hb'⟩
      | false =>
        have HQ := hid hq
        rw [hq] at hcall
        clear hq
        go_wp2_with (go_at_fn f; refine hcall.mono ?_; rintro e w' ⟨rfl, hb'⟩)
        exact ⟨⟨k + 1, by omega, by go_num, hid hb', hid (fun j hj => if e : j = k then by subst e; exact HQ.out else hn.out j (by omega))⟩, by simp [intOf]; omega⟩
    · go_wp2
      go_ret
      exact ⟨_, rfl, .inl ⟨rfl, fun j hj => hn.out j (by omega)⟩, hb.out⟩
theorem containsL_any (A : Option Addr) (n cap : Nat) (lv : Nat → Value) (p : Nat → Bool) (f : Nat) (lb : Array Value) (eg : ∀ args w, (callFunc f args).run Tryz.prog w = .ok (.enter f args) w) (w : World) (hmax : n ≤ 1000000)
    (hc : ∀ k, k < n → ∃ g o, A = some ⟨g, o, none⟩ ∧ g < w.heap.size ∧ w.cell? ⟨g, o + k, none⟩ = some (lv k))
    (hp : ∀ W k, k < n → Below w.heap.size w W → Calls Tryz.prog f (#[lv k] ++ lb) W fun e w' => e = .returned (.bool (p k)) ∧ Below w.heap.size w w') :
    Calls Tryz.prog 95 #[.slice A n cap, .func (.func f) #[] lb] w fun e w' => e = .returned (.bool ((List.range n).any p)) ∧ Below w.heap.size w w' := by
  have hcall := indexL_any A n cap lv p f lb eg w hmax hc hp
  clear hc hp eg
  go_enter Tryz.func95, Tryz.ntmps95
  go_wp2_with (go_at_call 126; refine hcall.mono ?_; rintro e w' ⟨r, rfl, hr, hb'⟩)
  go_ret
  exact ⟨ret_bool (idx_any hr), hb'⟩
end Go.Proofs.YtilgijmokjekgaaGreatDoor
end
