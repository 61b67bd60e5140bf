import Derived.Test.YtbfbppjccbppiaaGreatDoorzA4
import Derived.Outline
import Derived.Test.YtbfbppjccbppiaaGreatDoorRows
import Derived.Test.YtbfbppjccbppiaaGreatDoorzA
import Derived.Laws.StructEq
import Derived.Deep.RegionHeld3
import Derived.Deep.DeepCutAuto
import Derived.Deep.DrawnRows
import Derived.Test.YtbfbppjccbppiaaGreatDoorzGW
namespace Go.Proofs.YtbfbppjccbppiaaGreatDoor
open Go Go.RowKit
section
theorem clauseL_snoc (us : List UnitW) (u p : Nat) (l : List WantD) (bar : Bool) {k : Nat} (hk : k < l.length) : qg2 us u p (l.take (k + 1)) bar = qg2 us u p (l.take k) bar ++ [zq5 us bar l[k]] := by
 unfold qg2
 rw [qn8 hk, List.map_append]
 rfl
theorem full_pow {ns : List Nat} {u p : Nat} (hu : u < ns.length) (hp : p < ns[u]) : qb8 ns u &&& 2 ^ (p + 1) = 2 ^ (p + 1) := by
 apply Nat.eq_of_testBit_eq
 intro k
 rw [Nat.testBit_and, Nat.testBit_two_pow, full_bit hu]
 by_cases e : p + 1 = k
 ·subst e; simp; omega
 ·simp [e]
theorem SliceRd.wants {w : World} {F : Nat → Prop} {v : Value} {l : List WantD} (h : SliceRd qh5 w F v l) :
  ∃ A cap, v = .slice A l.length cap ∧ l.length ≤ cap ∧ cap ≤ maxLen ∧ ∀ k, (hk : k < l.length) → ∃ g o a b, A = some ⟨g, o, none⟩ ∧ F g ∧ w.cell? ⟨g, o + k * 3, none⟩ = some (.int .i64 l[k].u) ∧ w.cell? ⟨g, o + k * 3 + 1, none⟩ = some a ∧ w.cell? ⟨g, o + k * 3 + 2, none⟩ = some b ∧ SliceRd qd6.ty w F a l[k].s.rel ∧ SliceRd qd6.ty w F b l[k].s.pre := by
 obtain ⟨A, cap, hv, h1, h2, h3⟩ := h.shape
 refine ⟨A, cap, hv, h1, h2, fun k hk => ?_⟩
 obtain ⟨g, o, cs, hA, hF, -, hcell, a, b, rfl, -, a', b', e, hr, hp⟩ := h3 k hk
 injection e with e1 e
 injection e with e2 _
 subst e1 e2
 exact ⟨g, o, a, b, hA, hF, hcell 0 (by show 0 < 3; omega), hcell 1 (by show 1 < 3; omega), hcell 2 (by show 2 < 3; omega), hr, hp⟩
set_option maxRecDepth 100000 in
set_option maxHeartbeats 8000000 in
theorem zm9 (v lv : Value) (us : List UnitW) (u p : Nat) (l : List WantD) (bar : Bool) (w : World) (h : qd0 w (Lt w.heap.size) v us) (ho : UnitsOk us) (hl : SliceRd qh5 w (Lt w.heap.size) lv l) (hu : u < us.length) (hp : p < us[u].cands.length) (hll : l.length ≤ 10) (hok : ∀ x ∈ l, x.ok us.length) :
  Calls Tryz.prog 82 #[v, .int .i64 u, .int .i64 p, lv, .bool bar] w (qm7 (qt5 (nsOf us) (qg2 us u p l bar)) w) := by
 obtain ⟨it, hit⟩ := info_parts qk7
 have HIT := hid hit
 have HW := hid h
 have HU := hid h.uni
 have HO := hid ho
 have HNS := hid ho.ns
 have h11 : us.length ≤ 11 := by have := ho.ns.hi; simpa [nsOf] using this
 have h4 : us[u].cands.length ≤ 4 := by
  have := ho.ns.le u (by simpa [nsOf] using hu)
  simpa [nsOf] using this
 have HF31 := hid (fun x => qi2 ho.ns x)
 have hful := full_pow (ns := nsOf us) (u := u) (p := p) (by simpa [nsOf] using hu) (by simpa [nsOf] using hp)
 obtain ⟨g, cap0, rfl, hg, -⟩ := h
 obtain ⟨A, cap, rfl, hca, hcm, hc⟩ := hl.wants
 unfold maxLen at hcm
 have HC := hid hc
 have HOK := hid (fun k (hk : k < l.length) => hok l[k] (List.getElem_mem hk))
 have hp4 : p < 4 := by omega
 have hpc : p = 0 ∨ p = 1 ∨ p = 2 ∨ p = 3 := by omega
 obtain ⟨pq, hpq⟩ : ∃ pq, 2 ^ (p + 1) = pq := ⟨_, rfl⟩
 have hpq31 : pq ≤ 31 := by rw [← hpq]; rcases hpc with rfl | rfl | rfl | rfl <;> decide
 have hsh : wrap64 (2 * (2 : Int) ^ p) = (pq : Int) := by rw [← hpq]; rcases hpc with rfl | rfl | rfl | rfl <;> simp [wrap64]
 rw [hpq] at hful
 have HCL0 : Hid (qg2 us u p (l.take 0) bar = [⟨(u : Int), (pq : Int)⟩]) := hid (by unfold qg2; rw [List.take_zero, hpq]; rfl)
 have HSN := hid (fun k (hk : k < l.length) => clauseL_snoc us u p l bar hk)
 have hand := zq2 (HF31.out u) hpq31
 rw [hful] at hand
 have hfu := qj6 (ns := nsOf us) u
 have HFL := hid (fun (x : Nat) (W : World) (hb : Below w.heap.size w W) (hx : x ≤ 100) => qj8 (.agg #[.slice (some ⟨g, 0, none⟩) us.length cap0]) (nsOf us) x W _ (qc0 HU.out hb) HNS.out ⟨by omega, by omega⟩ (fun _ h => h))
 have p0 : (0 : Int) ≤ ↑p := by omega
 clear hit ho hl hc hok hpc hful hp
 go_enter Tryz.func82, Tryz.ntmps82
 go_wp2_with fail
 obtain ⟨w0, hw0⟩ : ∃ w0 : World, w0 = w.alloc (.cells #[.slice (some ⟨g, 0, none⟩) us.length cap0] 26) := ⟨_, rfl⟩
 have hb0 : Below w.heap.size w w0 := hw0 ▸ qa0 (b0 w) _
 have hz0 : w.heap.size < w0.heap.size := by rw [hw0]; simp
 have q0 : w0.cell? ⟨w.heap.size, 0, none⟩ = some (.slice (some ⟨g, 0, none⟩) us.length cap0) := by rw [hw0, qa6]; rfl
 have HB0 := hid hb0
 rw [← hw0]
 clear hw0 hb0
 refine (HFL.out u w0 HB0.out (by omega)).mono ?_
 rintro e w1 ⟨rfl, hb1⟩
 rw [hfu]
 have q1 := cell_below hb1 hz0 q0
 have hz1 := Nat.lt_of_lt_of_le hz0 hb1.size
 have HB1 := hid (qa1 HB0.out hb1)
 clear hb1 q0
 go_wp2_with fail
 obtain ⟨w2, hw2⟩ : ∃ w2 : World, w2 = w1.alloc (.cells #[.int .i64 u, .int .i64 pq] 66) := ⟨_, rfl⟩
 have hb2 : Below w1.heap.size w1 w2 := hw2 ▸ qa0 (b0 w1) _
 have HOW0 : Hid (OwnF qd9 66 w1.heap.size w2 (.slice (some ⟨w1.heap.size, 0, none⟩) 1 1) [⟨(u : Int), (pq : Int)⟩]) := hid (by
  rw [hw2]
  exact zj1 (f := qd9) (e := 66) (w := w1) (l := [⟨(u : Int), (pq : Int)⟩]) (cs := #[.int .i64 u, .int .i64 pq]) rfl (fun x hx => by rw [List.mem_singleton.1 hx]; exact ⟨⟨by show -9223372036854775808 ≤ (u : Int); omega, by show (u : Int) ≤ 9223372036854775807; omega⟩, qg9 hpq31⟩) (by simp [maxLen]))
 have HB2 := hid hb2
 rw [← hw2]
 clear hw2 hb2 hsh hand hfu
 go_loopw [12, 13] (fun tv iv wr => ∃ k : Nat, k ≤ l.length ∧ iv = .int .i64 k ∧ Hid (OwnF qd9 66 w1.heap.size wr tv (qg2 us u p (l.take k) bar)) ∧ Hid (Below w1.heap.size w1 wr)) (fun _ iv _ => l.length - (intOf iv).toNat)
 case atStart => exact ⟨0, Nat.zero_le _, rfl, hid (by rw [HCL0.out]; exact HOW0.out), HB2⟩
 case round =>
  obtain ⟨k, hk, rfl, how, hb⟩ := hrel
  have hbw := HB1.out.trans (hb.out.mono HB1.out.size)
  have HBW := hid hbw
  have qr := cell_below hb.out hz1 q1
  have hzr := Nat.lt_of_lt_of_le hz1 hb.out.size
  obtain ⟨Ao, co, hov⟩ := how.out.form
  subst hov
  have hlen : (qg2 us u p (l.take k) bar).length ≤ 20 := by
   unfold qg2
   rw [List.length_cons, List.length_map, List.length_take]
   omega
  by_cases hlt : k < l.length
  ·obtain ⟨gx, ox, a, b, hA, hFx, x0, x1, x2, hra, hrb⟩ := HC.out k hlt
   subst hA
   have HS := hid (HSN.out k hlt)
   obtain ⟨hx0, hx1, -⟩ := HOK.out k hlt
   have HMT := hid (fun (W : World) (hb : Below w.heap.size w W) => met_any (.agg #[.slice (some ⟨g, 0, none⟩) us.length cap0]) a b us l[k] W (HW.out.lift hb hb.size) HO.out (hra.lift hb hb.size) (hrb.lift hb hb.size) hx0 hx1)
   have hmle := metN_le us l[k]
   obtain ⟨xu, hxu⟩ : ∃ xu : Nat, l[k].u = (xu : Int) := ⟨l[k].u.toNat, by omega⟩
   have hxl : xu < us.length := by omega
   have hct : zq5 us bar l[k] = ⟨(xu : Int), ((if bar then metN us l[k] else qb8 (nsOf us) xu - metN us l[k] : Nat) : Int)⟩ := by
    unfold zq5
    rw [hxu, Int.toNat_natCast]
   have HCT := hid hct
   rw [hxu, Int.toNat_natCast] at hmle
   rw [hxu] at x0 HMT
   have hf31 := HF31.out xu
   have hfu := qj6 (ns := nsOf us) xu
   have HFX := hid (fun (W : World) (hb : Below w.heap.size w W) => HFL.out xu W hb (by omega))
   rw [hfu] at HFX
   obtain ⟨mt, hmt⟩ : ∃ mt, metN us l[k] = mt := ⟨_, rfl⟩
   rw [hmt] at HMT hmle HCT
   obtain ⟨ff, hff⟩ : ∃ ff, qb8 (nsOf us) xu = ff := ⟨_, rfl⟩
   rw [hff] at HFX hmle HCT hf31
   have hgx : gx < wr.heap.size := Nat.lt_of_lt_of_le hFx hbw.size
   have l0 := qa2 hgx (cell_below hbw hFx x0)
   have l1 := qa2 hgx (cell_below hbw hFx x1)
   have l2 := qa2 hgx (cell_below hbw hFx x2)
   have lq := qa2 hzr qr
   have HX0 := hid x0
   have HM1 := hid (fun e : Later wr => HMT.out e.w (qa1 HBW.out e.below))
   have i0 : (0 : Int) ≤ ↑k := by omega
   have i1 : (↑k : Int) < ↑l.length := by omega
   clear hra hrb hxu hct hmt hff hfu x1 x2 hx0 hx1
   generalize hLs : qg2 us u p (l.take k) bar = L at *
   go_wp2_with fail
   (refine qa3 (by kernel_rfl) (by kernel_rfl) ?_; (repeat (go_big_quiet_step ((first | (go_at_call 119; exact Calls.later (HM1.out _) rfl))))); refine wpQuiet_nil ?_; rintro _ ⟨⟨w3, hb3⟩, rfl⟩)
   rename_i w3
   have HB3 := hid (hb.out.trans (hb3.mono hb.out.size))
   have HBW3 := hid (qa1 HBW.out hb3)
   have HOW3 := hid (how.out.below hb3 (Nat.le_refl _))
   have z0 := cell_below HBW3.out hFx HX0.out
   have q3 := cell_below hb3 hzr qr
   have hz3 := Nat.lt_of_lt_of_le hzr hb3.size
   have hgx3 : gx < w3.heap.size := Nat.lt_of_lt_of_le hFx HBW3.out.size
   have hs3 := HB3.out.size
   clear hb3 l0 l1 l2 lq
   cases bar with
   | true =>
    have hct2 := HCT.out
    rw [if_pos rfl] at hct2
    have HE := hid (HS.out.trans (by rw [hct2]))
    have HOKT := hid (show qd9.ok ⟨(xu : Int), (mt : Int)⟩ from ⟨⟨by show -9223372036854775808 ≤ (xu : Int); omega, by show (xu : Int) ≤ 9223372036854775807; omega⟩, qg9 (by omega)⟩)
    clear hct2
    go_wp2_with (at_builtin; go_must (refine qa5 _ rfl (.tmp 48) (.tmp 56) _ rfl w1.heap.size 66 it _ 2 16 Tryz.underlying47 HIT.out.1 HIT.out.2.1 HIT.out.2.2.1 HIT.out.2.2.2 rfl (by omega) (.slice Ao L.length co) L.length (qd9.all L) (by rfl) (by exact HOW3.out.1.alloc _) (some ⟨w3.heap.size, 0, none⟩) 1 1 (qd9.cells ⟨(xu : Int), (mt : Int)⟩) (by rfl) (by exact qm2 (f := qd9) rfl) (by simp [qd9, Value.oneCell']) (by unfold maxLen; omega) (by omega) (by simp; omega) ?_; intro v5 w5 hown5 hg5 hat5; have HO5 := hid (HOW3.out.snoc HOKT.out hown5); have HB5 := hid (ql6 (v2 := v5) (HB3.out.alloc hs3 _) (HOW3.out.alloc _) (by simp; omega) hg5 rfl); clear hown5 hg5 hat5))
    exact ⟨⟨k + 1, by omega, by go_num, hid (by rw [HE.out]; exact HO5.out), HB5⟩, by simp [intOf]; omega⟩
   | false =>
    have hct2 := HCT.out
    rw [if_neg (by decide)] at hct2
    have HE := hid (HS.out.trans (by rw [hct2]))
    have HOKT := hid (show qd9.ok ⟨(xu : Int), ((ff - mt : Nat) : Int)⟩ from ⟨⟨by show -9223372036854775808 ≤ (xu : Int); omega, by show (xu : Int) ≤ 9223372036854775807; omega⟩, qg9 (by omega)⟩)
    have hsub : (ff : Int) - (mt : Int) = ((ff - mt : Nat) : Int) := by omega
    have hw64 : IntKind.i64.wrap (((ff - mt : Nat) : Int)) = ((ff - mt : Nat) : Int) := IntWalk.i64_in _ (by omega)
    have m0 := qa2 hgx3 z0
    have mq := qa2 hz3 q3
    have HF3 := hid (fun e : Later w3 => HFX.out e.w (qa1 HBW3.out e.below))
    clear hct2
    go_wp2_with fail
    (refine qa3 (by kernel_rfl) (by kernel_rfl) ?_; (repeat (go_big_quiet_step ((first | (go_at_call 22; exact Calls.later (HF3.out _) rfl))))); refine wpQuiet_nil ?_; rintro _ ⟨⟨w4, hb4⟩, rfl⟩)
    rename_i w4
    have HB4 := hid (HB3.out.trans (hb4.mono HB3.out.size))
    have HOW4 := hid (HOW3.out.below hb4 (Nat.le_refl _))
    have y0 := cell_below hb4 hgx3 z0
    have hs4 := HB4.out.size
    clear hb4 m0 mq
    go_wp2_with (at_builtin; go_must (refine qa5 _ rfl (.tmp 48) (.tmp 56) _ rfl w1.heap.size 66 it _ 2 16 Tryz.underlying47 HIT.out.1 HIT.out.2.1 HIT.out.2.2.1 HIT.out.2.2.2 rfl (by omega) (.slice Ao L.length co) L.length (qd9.all L) (by rfl) (by exact HOW4.out.1.alloc _) (some ⟨w4.heap.size, 0, none⟩) 1 1 (qd9.cells ⟨(xu : Int), ((ff - mt : Nat) : Int)⟩) (by rfl) (by exact qm2 (f := qd9) rfl) (by simp [qd9, Value.oneCell']) (by unfold maxLen; omega) (by omega) (by simp; omega) ?_; intro v5 w5 hown5 hg5 hat5; have HO5 := hid (HOW4.out.snoc HOKT.out hown5); have HB5 := hid (ql6 (v2 := v5) (HB4.out.alloc hs4 _) (HOW4.out.alloc _) (by simp; omega) hg5 rfl); clear hown5 hg5 hat5))
    exact ⟨⟨k + 1, by omega, by go_num, hid (by rw [HE.out]; exact HO5.out), HB5⟩, by simp [intOf]; omega⟩
  ·have hkn : k = l.length := by omega
   subst hkn
   rw [List.take_length] at how hlen ⊢
   have hrd := how.out.rd
   generalize hLs : qg2 us u p l bar = L at *
   generalize hLL : L.length = LL at *
   have HMK := hid (zj6 (.agg #[.slice (some ⟨g, 0, none⟩) us.length cap0]) (.slice Ao LL co) (nsOf us) L wr (by have := qc0 HU.out HBW.out; exact this) HNS.out hrd)
   clear hrd hlt
   go_wp2_with (go_at_call 43; refine HMK.out.mono ?_; rintro e w6 ⟨sv, rfl, hsv, hb6⟩)
   go_ret2
   exact ⟨_, rfl, hsv.more fun _ h => ⟨Nat.le_trans HBW.out.size h.1, h.2⟩, qa1 HBW.out hb6⟩
end
section
attribute [local go_sem ↓] Go.wp_at_zero Go.wp_at_succ
theorem term_neq (s t : Term) (W : World) : (binOp .neq 66 (.agg #[.int .i64 s.unit, .int .i64 s.mask]) (.agg #[.int .i64 t.unit, .int .i64 t.mask])).run Tryz.prog W = .ok (.bool (!decide (s = t))) W := by
 have u3 := Tryz.underlying3
 have a3 := Tryz.isAgg3
 have z3 := Tryz.sizeOf3
 have hS : Tryz.prog.underlying 66 = some (.struct (Tryz.prog.fieldsOf 66)) := by kernel_rfl
 have hp : Tryz.prog.stoodInHeld 66 = false := by kernel_rfl
 rw [run_neq_struct, show (10000 : Nat) = 9999 + 1 from rfl, run_equalIn_agg W 9999 66 _ _ hS hp]
 simp only [Program.fieldsOf, Tryz.underlying66]
 go_simp
 obtain ⟨a, b⟩ := s
 obtain ⟨c, d⟩ := t
 by_cases h1 : a = c <;> by_cases h2 : b = d <;> simp [h1, h2]
theorem term_guard (op : BinOp) (a b : Operand) (s t : Term) (W : World) : (eqGuard op 66 a b (.agg #[.int .i64 s.unit, .int .i64 s.mask]) (.agg #[.int .i64 t.unit, .int .i64 t.mask])).run Tryz.prog W = .ok () W :=
 run_eqGuard_agg W op 66 a b _ _ (by kernel_rfl)
set_option maxRecDepth 100000 in
set_option maxHeartbeats 400000 in
theorem za4 (v v' : Value) (l l' : List Term) (w : World) (h : SliceRd qg1 w (Lt w.heap.size) v l) (h' : SliceRd qg1 w (Lt w.heap.size) v' l') :
  Calls Tryz.prog 76 #[v, v'] w fun e w' => e = .returned (.bool (decide (l = l'))) ∧ Below w.heap.size w w' := by
 obtain ⟨A, cap, rfl, hcap, hmax, hc⟩ := h.terms
 obtain ⟨A', cap', rfl, hcap', hmax', hc'⟩ := h'.terms
 unfold maxLen at hmax hmax'
 have HC := hid hc
 have HC' := hid hc'
 clear hc hc' h h'
 by_cases hl : l.length = l'.length
 ·have hb1 : ((l.length : Int) != (l'.length : Int)) = false := by simp [hl]
  have HL := hid hl
  clear hl
  go_enter Tryz.func76, Tryz.ntmps76
  go_wp2
  go_loopw [5] (fun iv wr => ∃ k : Nat, k ≤ l.length ∧ iv = .int .i64 k ∧ Hid (l.take k = l'.take k) ∧ Below w.heap.size w wr) (fun iv _ => l.length - (intOf iv).toNat)
  case atStart => exact ⟨0, Nat.zero_le _, rfl, hid rfl, Below.refl _ _⟩
  case round =>
   obtain ⟨k, hk, rfl, ht, hb⟩ := hrel
   by_cases hlt : k < l.length
   ·have hlt' : k < l'.length := by have := HL.out; omega
    obtain ⟨g, o, hA, hF, g0, g1, -, -⟩ := HC.out k hlt
    obtain ⟨g', o', hA', hF', g0', g1', -, -⟩ := HC'.out k hlt'
    subst hA hA'
    have c0 := cell_below hb hF g0
    have c1 := cell_below hb hF g1
    have d0 := cell_below hb hF' g0'
    have d1 := cell_below hb hF' g1'
    clear g0 g1 g0' g1'
    have i1 : (0 : Int) ≤ ↑k := by omega
    have i2 : (↑k : Int) < ↑l.length := by omega
    have i3 : (↑k : Int) < ↑l'.length := by omega
    have hn := fun W => term_neq l[k] l'[k] W
    have hgd := fun op a b W => term_guard op a b l[k] l'[k] W
    by_cases he : l[k] = l'[k]
    ·have hd : decide (l[k] = l'[k]) = true := decide_eq_true he
     have HE := hid he
     clear he
     go_wp2
     go_quiet (fail)
     go_wp2
     exact ⟨⟨k + 1, by omega, by go_num, hid (by rw [List.take_succ_eq_append_getElem hlt, List.take_succ_eq_append_getElem hlt', ht.out, HE.out]), below_drewN hb _⟩, by simp [intOf]; omega⟩
    ·have hd : decide (l[k] = l'[k]) = false := decide_eq_false he
     have HE := hid he
     clear he
     go_wp2
     go_quiet (fail)
     go_wp2
     go_ret
     exact ⟨by rw [decide_eq_false (p := l = l') (fun e => HE.out (by subst e; rfl))]; rfl, below_drewN hb _⟩
   ·have HE : Hid (l = l') := hid (by
     have := ht.out
     rwa [List.take_of_length_le (by omega), List.take_of_length_le (by have := HL.out; omega)] at this)
    clear ht
    go_wp2
    go_ret
    exact ⟨by rw [decide_eq_true HE.out]; rfl, hb⟩
 ·have hb1 : ((l.length : Int) != (l'.length : Int)) = true := by simp; omega
  have HL := hid hl
  clear hl
  go_enter Tryz.func76, Tryz.ntmps76
  go_wp2
  go_ret
  exact ⟨by rw [decide_eq_false (p := l = l') (fun e => HL.out (by rw [e]))]; rfl, Below.refl _ _⟩
end
section
def qw1 (ns : List Nat) : Ty RowN where
 size := 5
 rd w F cs r := ∃ tv, cs = [.int .i64 r.kind, .int .i64 r.u, .int .i64 0, .int .i64 0, tv] ∧ SliceRd qg1 w F tv (canon ns r.M)
 len h := by obtain ⟨a, rfl, _⟩ := h; rfl
 keep hk h := by obtain ⟨a, h0, h1⟩ := h; exact ⟨a, h0, h1.keep hk⟩
 more hF h := by obtain ⟨a, h0, h1⟩ := h; exact ⟨a, h0, h1.more hF⟩
theorem OwnT.setTerms {ns : List Nat} {e : TypeId} {w : World} {B : Nat} {v : Value} {l : List RowN} {xs : List Value} (h : OwnT (qw1 ns) e w B v l xs) {g : Nat} (hg : v.ownBlock = some g) {k : Nat} (hk : k < l.length) (x : Value) (r : RowN) (hrk : r.kind = l[k].kind) (hru : r.u = l[k].u)
  (hx : SliceRd qg1 w (fun b => B ≤ b ∧ b < w.heap.size ∧ v.ownBlock ≠ some b) x (canon ns r.M)) : OwnT (qw1 ns) e (w.setCell ⟨g, k * 5 + 4, none⟩ x) B v (l.set k r) (xs.set (k * 5 + 4) x) := by
 have hsz : (w.setCell ⟨g, k * 5 + 4, none⟩ x).heap.size = w.heap.size := by simp
 have hlt : k * 5 + 4 < l.length * 5 := by omega
 have hkeep : ∀ b, (B ≤ b ∧ b < w.heap.size ∧ v.ownBlock ≠ some b) → (w.setCell ⟨g, k * 5 + 4, none⟩ x).heap[b]? = w.heap[b]? := fun b hb => heap_setCell_other _ _ _ _ (fun e2 => hb.2.2 (by rw [hg]; exact congrArg some e2.symm))
 refine ⟨by rw [List.length_set]; exact own_put h.own hg hlt x, fun i hi => ?_⟩
 rw [List.length_set] at hi
 obtain ⟨cs, h1, h2, tv, h3, h4⟩ := h.el i hi
 rw [List.getElem_set]
 by_cases e1 : k = i
 ·subst e1
  rw [if_pos rfl]
  refine ⟨[.int .i64 r.kind, .int .i64 r.u, .int .i64 0, .int .i64 0, x], rfl, fun j hj => ?_, x, rfl, (hx.keep hkeep).more fun b hb => ⟨hb.1, by rw [hsz]; exact hb.2.1, hb.2.2⟩⟩
  have hj5 : j < 5 := hj
  have h5 := h2 j hj
  rw [List.getElem?_set]
  by_cases e2 : k * 5 + 4 = k * (qw1 ns).size + j
  ·have h7 : (qw1 ns).size = 5 := rfl
   have h8 : j = 4 := by rw [h7] at e2; omega
   subst h8
   have h9 : k * 5 + 4 < xs.length := by
    have h10 : xs.length = l.length * (qw1 ns).size := h.own.1
    rw [h7] at h10
    omega
   rw [if_pos e2, if_pos h9]
   rfl
  ·rw [if_neg e2, h5, h3, hrk, hru]
   have : j ≠ 4 := fun e4 => e2 (by subst e4; rfl)
   rcases (show j = 0 ∨ j = 1 ∨ j = 2 ∨ j = 3 by omega) with rfl | rfl | rfl | rfl <;> rfl
 ·rw [if_neg e1]
  refine ⟨cs, h1, fun j hj => ?_, tv, h3, (h4.keep hkeep).more fun b hb => ⟨hb.1, by rw [hsz]; exact hb.2.1, hb.2.2⟩⟩
  have hj5 : j < 5 := hj
  have h6 : (qw1 ns).size = 5 := rfl
  rw [List.getElem?_set, if_neg (by rw [h6]; omega)]
  exact h2 j hj
theorem OwnT.rows {ns : List Nat} {e : TypeId} {w : World} {B : Nat} {v : Value} {l : List RowN} {xs : List Value} (h : OwnT (qw1 ns) e w B v l xs) : ∃ A c, v = .slice A l.length c ∧ ∀ k, (hk : k < l.length) → ∃ g tv, A = some ⟨g, 0, none⟩ ∧ v.ownBlock = some g ∧ B ≤ g ∧ g < w.heap.size ∧ (∀ o, w.frozen? ⟨g, o, none⟩ = false) ∧ w.cell? ⟨g, k * 5, none⟩ = some (.int .i64 l[k].kind) ∧ w.cell? ⟨g, k * 5 + 1, none⟩ = some (.int .i64 l[k].u) ∧ w.cell? ⟨g, k * 5 + 2, none⟩ = some (.int .i64 0) ∧ w.cell? ⟨g, k * 5 + 3, none⟩ = some (.int .i64 0) ∧ w.cell? ⟨g, k * 5 + 4, none⟩ = some tv ∧ SliceRd qg1 w (fun b => B ≤ b ∧ b < w.heap.size ∧ v.ownBlock ≠ some b) tv (canon ns l[k].M) := by
 rcases h.own.2 with ⟨rfl, h0⟩ | ⟨g, cap, cur, rfl, hb, hg, q1, q2, q3, q4⟩
 ·have : l = [] := List.length_eq_zero_iff.1 h0
  subst this
  exact ⟨none, 0, rfl, fun k hk => absurd hk (by simp)⟩
 ·refine ⟨_, cap, rfl, fun k hk => ?_⟩
  obtain ⟨cs, h1, h2, tv, rfl, h4⟩ := h.el k hk
  have hc : ∀ j, j < 5 → w.cell? ⟨g, k * 5 + j, none⟩ = [Value.int .i64 l[k].kind, .int .i64 l[k].u, .int .i64 0, .int .i64 0, tv][j]? := by
   intro j hj
   rw [cell_of_row w g _ cur e (0, 0) hg, ← h2 j hj]
   have h6 : (qw1 ns).size = 5 := rfl
   rw [h6] at q4 ⊢
   rw [← Array.getElem?_toList, ← q4, List.getElem?_take_of_lt (by omega)]
  exact ⟨g, tv, rfl, rfl, hb, (Array.getElem?_eq_some_iff.1 hg).1, fun o => frozen_of_row w g o cur e hg, hc 0 (by omega), hc 1 (by omega), hc 2 (by omega), hc 3 (by omega), hc 4 (by omega), h4⟩
end
section
theorem mask_of {ns : List Nat} {M : Nat → Nat} {u : Nat} (hu : u < ns.length) : qk3 ns (canon ns M) (u : Int) = (M u : Int) := by rw [qq0, qp9 M hu]
end
end Go.Proofs.YtbfbppjccbppiaaGreatDoor
