import Derived.Test.YtbfbppjccbppiaaGreatDoorzA4
import Derived.Outline
namespace Go.Proofs.YtbfbppjccbppiaaGreatDoor
open Go Go.RowKit
def joinR (ns : List Nat) (Ma Mb : Nat → Nat) (unit : Int) : Option (List Term) := if unit < 0 ∨ (ns.length : Int) ≤ unit then none else zi1 ns (qo2 Ma Mb unit.toNat)
def upto (ns : List Nat) (J : Nat → Nat) (k : Nat) : Nat → Nat := fun v => if v < k then J v else qb8 ns v
theorem or_fact (a b : Nat) (ha : a ≤ 31) (hb : b ≤ 31) : bits .or .i64 (a : Int) (b : Int) = ((a ||| b : Nat) : Int) := by
 have h1 : nm (a : Int) = a := ql1 (by omega)
 have h2 : nm (b : Int) = b := ql1 (by omega)
 have h3 := zi8 ha hb
 rw [bor _ _ (by rw [h1, h2]; omega), h1, h2]
theorem and_fact2 (a b : Nat) (ha : a ≤ 31) (hb : b ≤ 31) : bits .and .i64 (a : Int) (b : Int) = ((a &&& b : Nat) : Int) := by
 rw [qy7 a b ha, ql1 (by omega)]
theorem upto_set (ns : List Nat) (J : Nat → Nat) (k : Nat) : qh3 (fun v => if v = k then J k else upto ns J k v) ns.length = qh3 (upto ns J (k + 1)) ns.length := qo6 fun v _ => by
 unfold upto
 by_cases e : v = k
 ·subst e; simp
 ·by_cases h : v < k
  ·simp [e, h, show v < k + 1 by omega]
  ·simp [e, h, show ¬ v < k + 1 by omega]
set_option maxRecDepth 100000 in
set_option maxHeartbeats 4000000 in
theorem rjoin_new (v lv bv : Value) (ns : List Nat) (Ma Mb : Nat → Nat) (unit : Int) (w : World) (h : qi7 w (Lt w.heap.size) v ns) (ho : NsOk ns) (hl : SliceRd qg1 w (Lt w.heap.size) lv (canon ns Ma)) (hbv : SliceRd qg1 w (Lt w.heap.size) bv (canon ns Mb)) (ha : IncOk ns Ma) (hM : IncOk ns Mb) :
  Calls Tryz.prog 88 #[v, lv, bv, .int .i64 unit] w (qm7 (joinR ns Ma Mb unit) w) := by
 have HH := hid h
 have HO := hid ho
 have HL := hid hl
 have HBV := hid hbv
 have HA := hid ha
 have HM := hid hM
 obtain ⟨g, cap0, rfl, hg, -⟩ := h
 obtain ⟨A, cap, hae, -⟩ := hl.terms
 generalize (canon ns Ma).length = an at hae
 subst hae
 obtain ⟨B, bcap, hbe, -⟩ := hbv.terms
 generalize (canon ns Mb).length = bn at hbe
 subst hbe
 have h11 := ho.hi
 have h2 := ho.lo
 clear hl hbv ha hM ho
 by_cases hun : 0 ≤ unit ∧ unit < ns.length
 ·obtain ⟨un, rfl⟩ : ∃ un : Nat, unit = un := ⟨unit.toNat, by omega⟩
  have HJ : Hid (joinR ns Ma Mb un = zi1 ns (qo2 Ma Mb un)) := hid (by unfold joinR; rw [if_neg (by omega)]; simp)
  have u1 : ¬ ((un : Int) < 0) := by omega
  have u2 : ¬ ((ns.length : Int) ≤ un) := by omega
  clear hun
  go_enter Tryz.func88, Tryz.ntmps88
  go_wp2_with fail
  obtain ⟨w0, hw0⟩ : ∃ w0 : World, w0 = w.alloc (.cells #[.slice (some ⟨g, 0, none⟩) ns.length cap0] 26) := ⟨_, rfl⟩
  have hb0 : Below w.heap.size w w0 := hw0 ▸ qa0 (b0 w) _
  have hl0 : w.heap.size < w0.heap.size := by rw [hw0]; simp
  have q0 : w0.cell? ⟨w.heap.size, 0, none⟩ = some (.slice (some ⟨g, 0, none⟩) ns.length cap0) := by rw [hw0, qa6]; rfl
  have HB0 := hid hb0
  have HQ := hid q0
  have HU0 := hid (qc0 HH.out hb0)
  have HL0 := hid (HL.out.lift hb0 hb0.size)
  have HBV0 := hid (HBV.out.lift hb0 hb0.size)
  rw [← hw0]
  clear hw0 hb0 q0
  refine (fulls_any _ ns _ HU0.out HO.out).mono ?_
  rintro e w1 ⟨mv, rfl, hown1, hb1⟩
  obtain ⟨gb, cb, hmv, hgb, hgl, hfz⟩ := hown1.block (by rw [qf5]; omega)
  have hml := qf5 (qb8 ns) ns.length
  rw [hml] at hmv
  subst hmv
  have HOWN1 := hid hown1
  have HB1 := hid hb1
  clear hown1 hb1 hfz hml
  go_wp2_with fail
  go_loopw [11, 12, 13] (fun iv _ _ wr => ∃ k : Nat, k ≤ ns.length ∧ iv = .int .i64 k ∧ Hid (OwnF fInt 3 w0.heap.size wr (.slice (some ⟨gb, 0, none⟩) ns.length cb) (qh3 (upto ns (qo2 Ma Mb un) k) ns.length)) ∧ Hid (Below w0.heap.size w0 wr)) (fun iv _ _ _ => ns.length - (intOf iv).toNat)
  case atStart => exact ⟨0, Nat.zero_le _, rfl, hid (by rw [qo6 (M' := qb8 ns) (fun u _ => by unfold upto; rw [if_neg (by omega)])]; exact HOWN1.out), HB1⟩
  case round =>
   obtain ⟨k, hk, rfl, hown, hb⟩ := hrel
   by_cases hlt : k < ns.length
   ·have d0 := cell_below hb.out hl0 HQ.out
    have l0 := qa2 (Nat.lt_of_lt_of_le hl0 hb.out.size) d0
    have hur := qc0 HU0.out hb.out
    have hlr := HL0.out.lift hb.out hb.out.size
    have hbr := HBV0.out.lift hb.out hb.out.size
    have hka : I64 (k : Int) := ⟨by omega, by omega⟩
    have e1 : qk3 ns (canon ns Ma) k = (Ma k : Nat) := by rw [qq0, qp9 _ hlt]
    have e2 : qk3 ns (canon ns Mb) k = (Mb k : Nat) := by rw [qq0, qp9 _ hlt]
    have HCA := hid (fun e : Later wr => e1 ▸ qn6 _ _ ns (canon ns Ma) k e.w (qn9 hur e) HO.out (hlr.lift e.below e.below.size) hka)
    have HCB := hid (fun e : Later wr => e2 ▸ qn6 _ _ ns (canon ns Mb) k e.w (qn9 hur e) HO.out (hbr.lift e.below e.below.size) hka)
    have hma := HA.out.le HO.out k hlt
    have hmb := HM.out.le HO.out k hlt
    have hand := and_fact2 (Ma k) (Mb k) hma hmb
    have hor := or_fact (Ma k) (Mb k) hma hmb
    have i1 : (0 : Int) ≤ ↑k := by omega
    have i2 : (↑k : Int) < ↑ns.length := by omega
    have hgbw : gb < wr.heap.size := by
     obtain ⟨g', c', e3, -, e4, -⟩ := hown.out.block (by rw [qf5]; omega)
     injection e3 with e3
     injection e3 with e3
     injection e3 with e3
     subst e3
     exact e4
    have HJK : Hid (qo2 Ma Mb un k = if k = un then Ma k ||| Mb k else Ma k &&& Mb k) := hid rfl
    have HA31 := hid (Nat.le_trans (Nat.and_le_left (n := Ma k) (m := Mb k)) hma)
    have HO31 := hid (zi8 hma hmb)
    clear hur hlr hbr hka e1 e2
    generalize hra : Ma k &&& Mb k = ra at hand HJK HA31
    generalize hro : Ma k ||| Mb k = ro at hor HJK HO31
    generalize Ma k = ma at *
    generalize Mb k = mb at *
    clear hra hro
    go_wp2_with fail
    (refine qa3 (by kernel_rfl) (by kernel_rfl) ?_; (repeat (go_big_quiet_step (((first | (go_at_call_of 87 bcap; exact Calls.later (HCB.out _) rfl) | (go_at_call_of 87 cap; exact Calls.later (HCA.out _) rfl)))))); refine wpQuiet_nil ?_; rintro _ ⟨e1, rfl⟩)
    obtain ⟨w2, hw2⟩ : ∃ w2 : World, w2 = e1.w := ⟨_, rfl⟩
    have hb2 : Below wr.heap.size wr w2 := hw2 ▸ e1.below
    rw [← hw2]
    have HOW := hid (hown.out.below hb2 (Nat.le_refl _))
    have HB2 := hid (qa1 hb.out hb2)
    have xf : ∀ o, w2.frozen? ⟨gb, o, none⟩ = false := by
     obtain ⟨g', c', e3, -, -, e2⟩ := HOW.out.block (by rw [qf5]; omega)
     injection e3 with e3
     injection e3 with e3
     injection e3 with e3
     subst e3
     exact e2
    have x0 : ∃ y, w2.cell? ⟨gb, k, none⟩ = some (.int .i64 y) := by
     have h3 := qf5 (upto ns (qo2 Ma Mb un) k) ns.length
     exact ⟨_, int_cell (c := cb) (by rw [h3]; exact HOW.out) (u := k) (by rw [h3]; exact hlt)⟩
    obtain ⟨y, x0⟩ := x0
    have hset := ints_set HOW.out (g := gb) rfl (i := k) (by rw [qf5]; exact hlt) (ra : Int) (qg9 HA31.out)
    have hset2 := ints_set hset (g := gb) rfl (i := k) (by rw [List.length_set, qf5]; exact hlt) (ro : Int) (qg9 HO31.out)
    rw [List.set_set, zi4] at hset2
    rw [zi4] at hset
    have HS1 := hid hset
    have HS2 := hid hset2
    have hgb0 : w0.heap.size ≤ gb := hgb
    clear hw2 l0 hset hset2 hb2
    by_cases he : k = un
    ·have hz : ((k : Int) == un) = true := by simp [he]
     have HE := hid (show qo2 Ma Mb un k = ro by rw [HJK.out, if_pos he])
     have hup := upto_set ns (qo2 Ma Mb un) k
     rw [HE.out] at hup
     have HUP := hid hup
     clear he hup HE HJK
     go_wp2
     exact ⟨⟨k + 1, by omega, by go_num, hid (by rw [← HUP.out]; exact HS2.out), hid ((HB2.out.setCell (p := ⟨gb, k, none⟩) hgb0 _).setCell (p := ⟨gb, k, none⟩) hgb0 _)⟩, by simp [intOf]; omega⟩
    ·have hz : ((k : Int) == un) = false := by simp; omega
     have HE := hid (show qo2 Ma Mb un k = ra by rw [HJK.out, if_neg he])
     have hup := upto_set ns (qo2 Ma Mb un) k
     rw [HE.out] at hup
     have HUP := hid hup
     clear he hup HE HJK
     go_wp2
     exact ⟨⟨k + 1, by omega, by go_num, hid (by rw [← HUP.out]; exact HS1.out), hid (HB2.out.setCell (p := ⟨gb, k, none⟩) hgb0 _)⟩, by simp [intOf]; omega⟩
   ·have hk2 : k = ns.length := by omega
    have hown' : OwnF fInt 3 w0.heap.size wr (.slice (some ⟨gb, 0, none⟩) ns.length cb) (qh3 (qo2 Ma Mb un) ns.length) := by
     have := hown.out
     rwa [qo6 (M' := qo2 Ma Mb un) (fun u hu => by unfold upto; rw [if_pos (by omega)])] at this
    have hd := cell_below hb.out hl0 HQ.out
    have HRD := hid hown'.rd
    have HJ31 := hid (fun u (hu : u < ns.length) => show qo2 Ma Mb un u ≤ 31 by
     unfold qo2
     split
     ·exact zi8 (HA.out.le HO.out u hu) (HM.out.le HO.out u hu)
     ·exact and_le31 (HM.out.le HO.out u hu))
    clear hown' hk2
    go_wp2_with (go_at_call 85; refine (made_new _ _ ns (qo2 Ma Mb un) _ (qc0 HU0.out hb.out) HO.out HRD.out HJ31.out).mono ?_; rintro e w2 ⟨sv, rfl, hrd, hb2⟩)
    go_ret2
    exact ⟨_, by rw [HJ.out]; rfl, by rw [HJ.out]; exact hrd.more fun _ h => ⟨Nat.le_trans (qa1 HB0.out hb.out).size h.1, h.2⟩, qa1 HB0.out (qa1 hb.out hb2)⟩
 ·have HJ : Hid (joinR ns Ma Mb unit = none) := hid (by unfold joinR; rw [if_pos (by omega)])
  by_cases hneg : unit < 0
  ·clear hun
   go_enter Tryz.func88, Tryz.ntmps88
   go_wp2_with fail
   go_ret2
   exact ⟨_, by rw [HJ.out]; rfl, by rw [HJ.out]; exact SliceRd.nil _ _ _, qa0 (b0 w) _⟩
  ·have hbig : (ns.length : Int) ≤ unit := by omega
   clear hun
   go_enter Tryz.func88, Tryz.ntmps88
   go_wp2_with fail
   go_ret2
   exact ⟨_, by rw [HJ.out]; rfl, by rw [HJ.out]; exact SliceRd.nil _ _ _, qa0 (b0 w) _⟩
end Go.Proofs.YtbfbppjccbppiaaGreatDoor
