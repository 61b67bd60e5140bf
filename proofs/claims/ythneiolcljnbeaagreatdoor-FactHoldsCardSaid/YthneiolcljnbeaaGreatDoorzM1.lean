import Derived.Test.YthneiolcljnbeaaGreatDoorzA1
import Derived.Test.YthneiolcljnbeaaGreatDoorzN10
import Derived.Outline
import Derived.Test.YthneiolcljnbeaaGreatDoorzV16
import Derived.Test.YthneiolcljnbeaaGreatDoorzNs
namespace Go.Proofs.YthneiolcljnbeaaGreatDoor
open Go Go.RowKit
section
theorem clauseL_snoc (us : List UnitW) (u p : Nat) (l : List WantD) (bar : Bool) {k : Nat} (hk : k < l.length) : clauseL us u p (l.take (k + 1)) bar = clauseL us u p (l.take k) bar ++ [clauseT us bar l[k]] := by
 unfold clauseL
 rw [take_snoc hk, List.map_append]
 rfl
theorem SliceRd.wants {w : World} {F : Nat → Prop} {v : Value} {l : List WantD} (h : SliceRd tWant w F v l) :
  ∃ A cap, v = .slice A l.length cap ∧ l.length ≤ cap ∧ cap ≤ maxLen ∧ ∀ k, (hk : k < l.length) → ∃ g o a b, A = some ⟨g, o, none⟩ ∧ F g ∧ w.cell? ⟨g, o + k * 3, none⟩ = some (.int .i64 l[k].u) ∧ w.cell? ⟨g, o + k * 3 + 1, none⟩ = some a ∧ w.cell? ⟨g, o + k * 3 + 2, none⟩ = some b ∧ SliceRd fSpan.ty w F a l[k].s.rel ∧ SliceRd fSpan.ty w F b l[k].s.pre := by
 obtain ⟨A, cap, hv, h1, h2, h3⟩ := h.shape
 refine ⟨A, cap, hv, h1, h2, fun k hk => ?_⟩
 obtain ⟨g, o, cs, hA, hF, -, hcell, a, b, rfl, -, a', b', e, hr, hp⟩ := h3 k hk
 injection e with e1 e
 injection e with e2 _
 subst e1 e2
 exact ⟨g, o, a, b, hA, hF, hcell 0 (by show 0 < 3; omega), hcell 1 (by show 1 < 3; omega), hcell 2 (by show 2 < 3; omega), hr, hp⟩
end
section
def WantMay (m : Nat) (x : WantD) : Prop := 1 ≤ x.u ∧ x.u < m ∧ setMayB x.s.rel x.s.pre = true
set_option maxRecDepth 100000 in
set_option maxHeartbeats 4000000 in
theorem want18_any (av bv : Value) (x : WantD) (m : Nat) (w : World) (h1 : SliceRd fSpan.ty w (Lt w.heap.size) av x.s.rel) (h2 : SliceRd fSpan.ty w (Lt w.heap.size) bv x.s.pre) (hx : WantMay m x) :
  Calls Tryz.prog 142 #[.agg #[.int .i64 x.u, av, bv], .int .i64 m] w fun e w' => e = .returned (.bool true) ∧ Below w.heap.size w w' := by
 obtain ⟨Aa, ca, hav, -⟩ := h1.shape
 obtain ⟨Ab, cb, hbv, -⟩ := h2.shape
 have HM := hid (fun (W : World) (hb : Below w.heap.size w W) => setMay_any av bv x.s.rel x.s.pre W (h1.lift hb hb.size) (h2.lift hb hb.size))
 obtain ⟨hx0, hx1, hx2⟩ := hx
 rw [hx2] at HM
 generalize x.s.rel.length = n1 at hav
 generalize x.s.pre.length = n2 at hbv
 subst hav hbv
 generalize x.u = u at *
 clear h1 h2 hx2
 have u0 : (0 : Int) < u := by omega
 have u1 : decide ((0 : Int) < u) = true := decide_eq_true u0
 have u2 : decide (u < (m : Int)) = true := decide_eq_true hx1
 go_enter Tryz.func142, Tryz.ntmps142
 go_wp2_with (go_at_call 97; go_must (refine (HM.out _ (balloc (b0 w) _)).mono ?_; rintro e w1 ⟨rfl, hb1⟩))
 go_ret
 exact ⟨rfl, (balloc (b0 w) _).trans (hb1.mono (by simp))⟩
set_option maxRecDepth 100000 in
set_option maxHeartbeats 4000000 in
theorem wants18_any (lv : Value) (l : List WantD) (m : Nat) (w : World) (hl : SliceRd tWant w (Lt w.heap.size) lv l) (h1 : 1 ≤ l.length) (h2 : l.length ≤ 24) (hx : ∀ x ∈ l, WantMay m x) :
  Calls Tryz.prog 141 #[lv, .int .i64 m] w fun e w' => e = .returned (.bool true) ∧ Below w.heap.size w w' := by
 obtain ⟨A, cap, rfl, hca, hcm, hc⟩ := hl.wants
 have HC := hid hc
 have HX := hid (fun k (hk : k < l.length) => hx l[k] (List.getElem_mem hk))
 obtain ⟨n, hn⟩ : ∃ n, l.length = n := ⟨_, rfl⟩
 have HN := hid hn
 rw [hn] at hca h1 h2 ⊢
 clear hl hc hx hn hcm
 have n0 : decide ((0 : Int) < ↑n) = true := decide_eq_true (by omega)
 have n1 : decide ((↑n : Int) ≤ 24) = true := decide_eq_true (by omega)
 go_enter Tryz.func141, Tryz.ntmps141
 go_wp2_with fail
 go_loopw [5] (fun iv wr => ∃ k : Nat, k ≤ n ∧ iv = .int .i64 k ∧ Hid (Below w.heap.size w wr)) (fun iv _ => n - (intOf iv).toNat)
 case atStart => exact ⟨0, Nat.zero_le _, rfl, hid (b0 w)⟩
 case round =>
  obtain ⟨k, hk, rfl, hb⟩ := hrel
  by_cases hlt : k < n
  ·obtain ⟨gx, ox, a, b, hA, hFx, x0, x1, x2, hra, hrb⟩ := HC.out k (by rw [HN.out]; exact hlt)
   subst hA
   have c0 := cell_below hb.out hFx x0
   have c1 := cell_below hb.out hFx x1
   have c2 := cell_below hb.out hFx x2
   have HW := hid (want18_any a b (l[k]'(by rw [HN.out]; exact hlt)) m wr (hra.lift hb.out hb.out.size) (hrb.lift hb.out hb.out.size) (HX.out k (by rw [HN.out]; exact hlt)))
   obtain ⟨xu, hxu⟩ : ∃ xu, (l[k]'(by rw [HN.out]; exact hlt)).u = xu := ⟨_, rfl⟩
   rw [hxu] at c0 HW
   have i0 : (0 : Int) ≤ ↑k := by omega
   have i1 : (↑k : Int) < ↑n := by omega
   clear hra hrb hxu x0 x1 x2
   go_wp2_with (go_at_call 142; go_must (refine HW.out.mono ?_; rintro e w1 ⟨rfl, hb1⟩))
   exact ⟨⟨k + 1, by omega, by go_num, hid (bstep hb.out hb1)⟩, by simp [intOf]; omega⟩
  ·have hkn : k = n := by omega
   subst hkn
   have n2 : (0 : Int) < ↑k := by omega
   have n3 : (↑k : Int) ≤ 24 := by omega
   go_wp2_with fail
   go_ret
   exact ⟨rfl, hb.out⟩
end
section
structure CandMay (m : Nat) (c : CandW) : Prop where
 v : mayV c.v = true
 needs : c.needs.length ≤ 24
 bars : c.bars.length ≤ 24
 need : ∀ r ∈ c.needs, (1 ≤ r.length ∧ r.length ≤ 24) ∧ ∀ x ∈ r, WantMay m x
 bar : ∀ x ∈ c.bars, WantMay m x
set_option maxRecDepth 100000 in
set_option maxHeartbeats 4000000 in
theorem cand18_any (a b c : Int) (p q : ByteArray) (sh : Int) (nv bv : Value) (nd : List (List WantD)) (br : List WantD) (m : Nat) (w : World) (hn : SliceRd (tSlice tWant) w (Lt w.heap.size) nv nd) (hb : SliceRd tWant w (Lt w.heap.size) bv br) (hB : VB a b c p q) (hm : CandMay m ⟨⟨a, b, c, p, q⟩, sh, nd, br⟩) :
  Calls Tryz.prog 110 #[.agg #[.int .i64 a, .int .i64 b, .int .i64 c, .string p, .string q, .int .i64 sh, nv, bv], .int .i64 m] w fun e w' => e = .returned (.bool true) ∧ Below w.heap.size w w' := by
 obtain ⟨hv, h1, h2, h3, h4⟩ := hm
 dsimp only at hv h1 h2 h3 h4
 have HN := hid hn
 obtain ⟨A, ca, rfl, hca, hcm, hcn⟩ := hn.shape
 obtain ⟨A', ca', rfl, hca', hcm', hcb⟩ := hb.wants
 have HV := hid (fun (W : World) => hv ▸ vmay_any a b c p q W hB)
 have H3 := hid (fun k (hk : k < nd.length) => h3 nd[k] (List.getElem_mem hk))
 have H4 := hid (fun k (hk : k < br.length) => h4 br[k] (List.getElem_mem hk))
 have HCN := hid (show ∀ k, (hk : k < nd.length) → ∃ g o v, A = some ⟨g, o, none⟩ ∧ g < w.heap.size ∧ w.cell? ⟨g, o + k, none⟩ = some v ∧ SliceRd tWant w (Lt w.heap.size) v nd[k] from fun k hk => by
  obtain ⟨g, o, cs, e1, e2, e3, e4, v, rfl, e5⟩ := hcn k hk
  exact ⟨g, o, v, e1, e2, by have h := e4 0 (by show 0 < 1; omega); simpa [tSlice] using h, e5⟩)
 have HCB := hid hcb
 obtain ⟨n, hnn⟩ : ∃ n, nd.length = n := ⟨_, rfl⟩
 obtain ⟨n', hnn'⟩ : ∃ n', br.length = n' := ⟨_, rfl⟩
 have HL := hid hnn
 have HL' := hid hnn'
 rw [hnn] at hca h1 ⊢
 rw [hnn'] at hca' h2 ⊢
 clear hn hb hB hv h3 h4 hcn hcb hnn hnn' hcm hcm' HN
 have n1 : decide ((24 : Int) < ↑n) = false := decide_eq_false (by omega)
 have n2 : decide ((24 : Int) < ↑n') = false := decide_eq_false (by omega)
 have n3 : ¬ ((24 : Int) < ↑n) := by omega
 have n4 : ¬ ((24 : Int) < ↑n') := by omega
 obtain ⟨w0, hw0⟩ : ∃ w0 : World, w0 = w.alloc (.cells #[.int .i64 a, .int .i64 b, .int .i64 c, .string p, .string q, .int .i64 sh, .slice A n ca, .slice A' n' ca'] 55) := ⟨_, rfl⟩
 have hb0 : Below w.heap.size w w0 := hw0 ▸ balloc (b0 w) _
 have hz0 : w.heap.size < w0.heap.size := by rw [hw0]; simp
 have q0 : w0.cell? ⟨w.heap.size, 6, none⟩ = some (.slice A n ca) := by rw [hw0, alloc_cell]; rfl
 have q1 : w0.cell? ⟨w.heap.size, 7, none⟩ = some (.slice A' n' ca') := by rw [hw0, alloc_cell]; rfl
 have HB0 := hid hb0
 have HW0 := hid hw0
 clear hb0 hw0
 go_enter Tryz.func110, Tryz.ntmps110
 go_wp2_with (go_at_call 36; go_must (rw [← HW0.out]; refine (HV.out _).mono ?_; rintro e w1 ⟨rfl, hb1⟩; have HB1 := hid (bstep (b0 w0) hb1); have r0 := cell_below hb1 hz0 q0; have r1 := cell_below hb1 hz0 q1))
 have hz1 : w.heap.size < w1.heap.size := Nat.lt_of_lt_of_le hz0 HB1.out.size
 have HBW := hid (bstep HB0.out HB1.out)
 clear q0 q1 hb1
 go_loopw [5] (fun iv wr => ∃ k : Nat, k ≤ n ∧ iv = .int .i64 k ∧ Hid (Below w1.heap.size w1 wr)) (fun iv _ => n - (intOf iv).toNat)
 case atStart => exact ⟨0, Nat.zero_le _, rfl, hid (b0 w1)⟩
 case round =>
  obtain ⟨k, hk, rfl, hb⟩ := hrel
  have hbw := bstep HBW.out hb.out
  have c0 := cell_below hb.out hz1 r0
  have c1 := cell_below hb.out hz1 r1
  by_cases hlt : k < n
  ·obtain ⟨g, o, v, rfl, hg, x0, hrd⟩ := HCN.out k (by rw [HL.out]; exact hlt)
   have d0 := cell_below hbw hg x0
   obtain ⟨⟨e1, e2⟩, e3⟩ := H3.out k (by rw [HL.out]; exact hlt)
   have HW := hid (wants18_any v _ m wr (hrd.lift hbw hbw.size) e1 e2 e3)
   have i0 : (0 : Int) ≤ ↑k := by omega
   have i1 : (↑k : Int) < ↑n := by omega
   clear hrd x0 e1 e2 e3
   go_wp2_with (go_at_call 141; go_must (refine HW.out.mono ?_; rintro e w2 ⟨rfl, hb2⟩))
   exact ⟨⟨k + 1, by omega, by go_num, hid (bstep hb.out hb2)⟩, by simp [intOf]; omega⟩
  ·have hkn : k = n := by omega
   subst hkn
   have hz2 : w.heap.size < wr.heap.size := Nat.lt_of_lt_of_le hz1 hb.out.size
   have HBR := hid hbw
   clear hlt r0 r1 hz1
   go_wp2_with fail
   rename World => wo
   go_loopw [6] (fun iv wq => ∃ j : Nat, j ≤ n' ∧ iv = .int .i64 j ∧ Hid (Below wo.heap.size wo wq)) (fun iv _ => n' - (intOf iv).toNat)
   case atStart => exact ⟨0, Nat.zero_le _, rfl, hid (b0 wo)⟩
   case round =>
    obtain ⟨j, hj, rfl, hbj⟩ := hrel
    have hbv := bstep HBR.out hbj.out
    have d1 := cell_below hbj.out hz2 c1
    by_cases hjt : j < n'
    ·obtain ⟨gx, ox, av, bv, hA, hFx, x0, x1, x2, hra, hrb⟩ := HCB.out j (by rw [HL'.out]; exact hjt)
     subst hA
     have y0 := cell_below hbv hFx x0
     have y1 := cell_below hbv hFx x1
     have y2 := cell_below hbv hFx x2
     have HW := hid (want18_any av bv (br[j]'(by rw [HL'.out]; exact hjt)) m wr (hra.lift hbv hbv.size) (hrb.lift hbv hbv.size) (H4.out j (by rw [HL'.out]; exact hjt)))
     obtain ⟨xu, hxu⟩ : ∃ xu, (br[j]'(by rw [HL'.out]; exact hjt)).u = xu := ⟨_, rfl⟩
     rw [hxu] at y0 HW
     have i0 : (0 : Int) ≤ ↑j := by omega
     have i1 : (↑j : Int) < ↑n' := by omega
     clear hra hrb hxu x0 x1 x2
     go_wp2_with (go_at_call 142; go_must (refine HW.out.mono ?_; rintro e w2 ⟨rfl, hb2⟩))
     exact ⟨⟨j + 1, by omega, by go_num, hid (bstep hbj.out hb2)⟩, by simp [intOf]; omega⟩
    ·have hjn : j = n' := by omega
     subst hjn
     go_wp2_with fail
     go_ret
     exact ⟨rfl, hbv⟩
end
end Go.Proofs.YthneiolcljnbeaaGreatDoor
