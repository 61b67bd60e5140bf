/- Contract: law23.FactSound. -/
import Derived.Test.YtfdjoknklpiooaaGreatDoorZv
import Derived.Test.YtfdjoknklpiooaaGreatDoorZ8
import Derived.Test.YtfdjoknklpiooaaGreatDoorA12
import Derived.Test.YtfdjoknklpiooaaGreatDoorzW14
import Derived.Test.YtfdjoknklpiooaaGreatDoorzN4
import Derived.Test.YtfdjoknklpiooaaGreatDoorzH1
import Derived.Test.YtfdjoknklpiooaaGreatDoorH6
import Derived.Deep.RegionHeld3
import Derived.BigRegion
import Derived.Outline
namespace Go.Proofs.YtfdjoknklpiooaaGreatDoor
open Go Go.RowKit

theorem place_natH (x : Int) {n : Nat} (h : 1 ≤ n) : ∃ k : Nat, placeF x n = (k : Int) ∧ k < n :=
 ⟨(placeF x n).toNat, by have := placeF_lo x n; omega, by have := placeF_lo x n; have := placeF_hi x n; omega⟩
theorem sizeGo_leH : ∀ (ns : List Nat) (n : Nat), (∀ k ∈ ns, k ≤ 4) → n ≤ 5000000 → sizeGo n ns ≤ 5000000
 | [], n, _, h => h
 | k :: r, n, hk, h => by
  unfold sizeGo
  split
  ·rename_i h1
   refine sizeGo_leH r _ (fun x hx => hk x (List.mem_cons_of_mem _ hx)) ?_
   have := hk k (List.mem_cons_self ..)
   have := Nat.mul_le_mul (Nat.le_of_lt h1) (show k + 1 ≤ 5 by omega)
   omega
  ·exact h
/-- Rows of a world's facts, read as rows. -/
theorem rd_rowsH {ns : List Nat} {w : World} {F : Nat → Prop} {v : Value} {rows : List RowN} (h : SliceRd (tRowN ns) w F v rows) (hok : ∀ r ∈ rows, r.Ok ns) (hn : ns.length ≤ 11) : SliceRd tRow w F v (rows.map (rowOf ns)) := by
 obtain ⟨A, cap, hv, h1, h2, h3⟩ := h.shape
 refine ⟨A, cap, by rw [List.length_map]; exact hv, by rw [List.length_map]; exact h1, h2, fun k hk => ?_⟩
 have hk' : k < rows.length := by simpa using hk
 obtain ⟨g, o, cs, e1, e2, e3, e4, tv, e5, e6⟩ := h3 k hk'
 have hx := hok _ (List.getElem_mem hk')
 have hu := hx.u
 have hkd := hx.kind
 refine ⟨g, o, cs, e1, e2, e3, e4, tv, ?_, ?_⟩
 ·rw [List.getElem_map]; exact e5
 ·rw [List.getElem_map]
  exact ⟨⟨by show _ ≤ rows[k].kind; omega, by show rows[k].kind ≤ _; omega⟩, ⟨by show _ ≤ (rows[k].u : Int); omega, by show (rows[k].u : Int) ≤ _; omega⟩, (show I64 (0 : Int) from ⟨by decide, by decide⟩), (show I64 (0 : Int) from ⟨by decide, by decide⟩), e6⟩
theorem allrdH_any (v : Value) (us : List UnitW) (w : World) (h : WorldRd w (Lt w.heap.size) v us) (ho : UnitsOk us) (h0 : (nsOf us).head? = some 1) :
  Calls Tryz.prog 7 #[v] w (AllRd us w) := by
 refine (all23_any v us w h ho h0).mono ?_
 rintro e w' ⟨rv, xs, rfl, hx, hb⟩
 refine ⟨rv, rfl, rd_rowsH hx.rd (units_ok ho h0 us.length (Nat.le_refl _)).1 (by have := ho.ns.hi; exact this), hb⟩
theorem all_lenH {us : List UnitW} (ho : UnitsOk us) (h0 : (nsOf us).head? = some 1) : (allN us).length ≤ 600 := by
 have h1 := (units_ok ho h0 us.length (Nat.le_refl _)).2
 have h2 : us.length ≤ 11 := by have := ho.ns.hi; simpa [nsOf] using this
 show (unitsN us us.length).length ≤ 600
 omega
/-- A row more behind one's own, its terms another's. -/
theorem Copied.snocRd {eR eT : TypeId} {w wq w' : World} {B : Nat} {v v' : Value} {l : List Row} {tvs : List Value} {r : Row} {tv : Value}
  (h : Copied eR eT w B v l tvs) (hB : B ≤ w.heap.size) (hr : I64 r.kind ∧ I64 r.unit ∧ I64 r.a ∧ I64 r.b) (ht : SliceRd tTerm w (Lt B) tv r.terms)
  (hb : Below w.heap.size w wq) (hg : wq.grownBy w' v.ownBlock) (ho : w'.ownsRow B eR 5 v' (l.length + 1) (rowsCells l tvs ++ rowCells r tv)) :
  SliceRd tRow w' (Lt w'.heap.size) v' (l ++ [r]) := by
 have hws : w.heap.size ≤ w'.heap.size := Nat.le_trans hb.size hg.size
 have hblk : ∀ k, k < w.heap.size → v.ownBlock ≠ some k → w'.heap[k]? = w.heap[k]? := fun k hk hne => (hg.block k (Nat.lt_of_lt_of_le hk hb.size) (fun e => hne e.symm)).trans (hb.block k hk)
 have hlt := ho.lt
 rcases ho.2 with ⟨_, hn⟩ | ⟨g, cap, cur, rfl, hbg, hgc, h1, h2, h3, h4⟩
 ·exact absurd hn (by omega)
 ·have hgl := (hlt g rfl).2
  rw [← rowsCells_snoc l tvs h.len r tv] at h4
  have hlen : (tvs ++ [tv]).length = (l ++ [r]).length := by simp [h.len]
  have hll : (l ++ [r]).length = l.length + 1 := by simp
  refine ⟨some ⟨g, 0, none⟩, cap, by rw [hll], by rw [hll]; exact h1, h2, fun k hk => ?_⟩
  have hkt : k < (tvs ++ [tv]).length := by rw [hlen]; exact hk
  refine ⟨g, 0, rowCells (l ++ [r])[k] (tvs ++ [tv])[k], rfl, hgl, rfl, ?_, (tvs ++ [tv])[k], rfl, ?_⟩
  ·intro j hj
   have hj' : j < 5 := hj
   rw [cell_of_row w' g _ cur eR (0, 0) hgc]
   show cur[0 + k * 5 + j]? = _
   have e : 0 + k * 5 + j = k * 5 + j := by omega
   rw [e, ← rowsCells_get hlen hk hkt j hj', ← h4, List.getElem?_take_of_lt (by omega), Array.getElem?_toList]
  ·by_cases hkl : k < l.length
   ·have hkt' : k < tvs.length := by rw [h.len]; exact hkl
    rw [List.getElem_append_left hkl, List.getElem_append_left hkt']
    have hi := h.ints _ (List.getElem_mem hkl)
    refine ⟨hi.kind, hi.unit, hi.a, hi.b, ?_⟩
    have hrd : SliceRd tTerm w (fun b => b < w.heap.size ∧ v.ownBlock ≠ some b) tvs[k] l[k].terms := rd_of_own (h.terms k hkl hkt') hi.terms (fun g' hg' => ⟨(h.lt.2 k hkt' g' hg').2, fun e => own_ne h.own (h.terms k hkl hkt') h.ne g' e hg'⟩)
    exact (hrd.keep fun b hb' => hblk b hb'.1 hb'.2).more fun b hb' => Nat.lt_of_lt_of_le hb'.1 hws
   ·have hk2 : k = l.length := by omega
    subst hk2
    rw [List.getElem_append_right (Nat.le_refl _), List.getElem_append_right (by rw [h.len]; exact Nat.le_refl _)]
    simp only [h.len, Nat.sub_self, List.getElem_cons_zero]
    refine ⟨hr.1, hr.2.1, hr.2.2.1, hr.2.2.2, ?_⟩
    refine (ht.keep fun b hb' => hblk b (Nat.lt_of_lt_of_le hb' hB) fun e => ?_).more fun b hb' => Nat.lt_of_lt_of_le (Nat.lt_of_lt_of_le hb' hB) hws
    have := (h.lt.1 b e).1
    have h9 : b < B := hb'
    omega
theorem right_units {us : List UnitW} {r : Row} (h : rightR us r = true) : ∀ t ∈ r.terms, 0 ≤ t.unit ∧ t.unit < (nsOf us).length := by
 unfold rightR at h
 rw [Bool.and_eq_true, Bool.and_eq_true, Bool.and_eq_true] at h
 obtain ⟨-, -, hm, -⟩ := h
 intro t ht
 obtain ⟨k, hk, rfl⟩ := List.getElem_of_mem ht
 unfold mayL at hm
 have h1 := List.all_eq_true.1 hm k (List.mem_range.2 hk)
 rw [okAt_lt hk, Bool.and_eq_true] at h1
 exact mayT_unit h1.1
/-- From a lower place on. -/
theorem own_from {w : World} {B B' : Nat} {e : TypeId} {s n : Nat} {v : Value} {xs : List Value} (h : w.ownsRow B e s v n xs) (hB : B' ≤ B) : w.ownsRow B' e s v n xs := by
 refine ⟨h.1, ?_⟩
 rcases h.2 with h1 | ⟨g, cap, cur, h1, h2, h3⟩
 ·exact .inl h1
 ·exact .inr ⟨g, cap, cur, h1, Nat.le_trans hB h2, h3⟩
theorem Copied.base {eR eT : TypeId} {w : World} {B B' : Nat} {v : Value} {l : List Row} {tvs : List Value} (h : Copied eR eT w B v l tvs) (hB : B' ≤ B) : Copied eR eT w B' v l tvs :=
 ⟨h.ne, h.len, own_from h.own hB, h.ints, fun k a b => own_from (h.terms k a b) hB, h.apart⟩
theorem src_later {w w' : World} {b m s : Nat} {news : List Value} (h : Src w (some ⟨b, 0, none⟩) m s news) (hb : b < w.heap.size) (hw : Below w.heap.size w w') : Src w' (some ⟨b, 0, none⟩) m s news := by
 refine ⟨h.1, fun hm => ?_⟩
 obtain ⟨ad, ha, hc⟩ := h.2 hm
 injection ha with ha
 subst ha
 refine ⟨_, rfl, fun j u hu => ?_⟩
 have := hc j u hu
 rw [add_mk] at this ⊢
 exact cell_below hw hb this
set_option maxRecDepth 100000 in
set_option maxHeartbeats 8000000 in
theorem factSound_any (wv tv : Value) (ws : List Int) (r : Row) (at_ which by_ n : Int) (w : World) (hw : SliceRd tInt w (Lt w.heap.size) wv ws) (htv : SliceRd tTerm w (Lt w.heap.size) tv r.terms) (hri : I64 r.kind ∧ I64 r.unit ∧ I64 r.a ∧ I64 r.b) (ha : I64 at_) (hwh : I64 which) (hby : I64 by_) (hn : I64 n) (hF : FirstIs w) (hT : TabIs w) :
  Calls Tryz.prog 3 #[wv, .agg #[.int .i64 r.kind, .int .i64 r.unit, .int .i64 r.a, .int .i64 r.b, tv], .int .i64 at_, .int .i64 which, .int .i64 by_, .int .i64 n] w fun e w' => e = .returned (.bool true) ∧ Below w.heap.size w w' := by
 obtain ⟨ir, hir⟩ := info_parts row_info
 have HIR := hid hir
 clear hir
 have HW := hid hw
 have HF := hid hF
 have HT := hid hT
 have HTV := hid htv
 have HRI := hid hri
 obtain ⟨Aw, wcap, rfl, -⟩ := hw.ints
 obtain ⟨At, ct, rfl, -⟩ := htv.terms
 obtain ⟨tn, htn⟩ : ∃ tn, r.terms.length = tn := ⟨_, rfl⟩
 rw [htn] at HTV ⊢
 obtain ⟨w0, hw0⟩ : ∃ w0 : World, w0 = w.alloc (.cells #[.int .i64 r.kind, .int .i64 r.unit, .int .i64 r.a, .int .i64 r.b, .slice At tn ct] 25) := ⟨_, rfl⟩
 have hb0 : Below w.heap.size w w0 := hw0 ▸ balloc (b0 w) _
 have hl0 : w.heap.size < w0.heap.size := by rw [hw0]; simp
 have R0 := hid (show w0.cell? ⟨w.heap.size, 0, none⟩ = some (.int .i64 r.kind) by rw [hw0, alloc_cell]; rfl)
 have R1 := hid (show w0.cell? ⟨w.heap.size, 1, none⟩ = some (.int .i64 r.unit) by rw [hw0, alloc_cell]; rfl)
 have R2 := hid (show w0.cell? ⟨w.heap.size, 2, none⟩ = some (.int .i64 r.a) by rw [hw0, alloc_cell]; rfl)
 have R3 := hid (show w0.cell? ⟨w.heap.size, 3, none⟩ = some (.int .i64 r.b) by rw [hw0, alloc_cell]; rfl)
 have R4 := hid (show w0.cell? ⟨w.heap.size, 4, none⟩ = some (.slice At tn ct) by rw [hw0, alloc_cell]; rfl)
 have HB0 := hid hb0
 have HW0 := hid hw0
 clear hw htv hF hT hri hw0 hb0 htn
 by_cases h40 : tn ≤ 40
 ·have z0 : decide ((40 : Int) < ↑tn) = false := decide_eq_false (by omega)
  have z1 : ¬ ((40 : Int) < ↑tn) := by omega
  clear h40
  go_enter Tryz.func3, Tryz.ntmps3
  go_wp2_with (go_at_call 5; go_must (rw [← HW0.out]; refine (world23_any _ ws 3 _ (HW.out.lift HB0.out HB0.out.size) (by decide) (by decide)).mono ?_; rintro e w1 ⟨g, c, us, rfl, hwr, huo, h0, hb1⟩; have HWR := hid hwr; have HUO := hid huo; have H0 := hid h0; have HB1 := hid hb1; clear hwr huo h0 hb1))
  obtain ⟨w2, hw2⟩ : ∃ w2 : World, w2 = w1.alloc (.cells #[.slice (some ⟨g, 0, none⟩) us.length c] 29) := ⟨_, rfl⟩
  have hb2 : Below w1.heap.size w1 w2 := hw2 ▸ balloc (b0 w1) _
  have hl2 : w1.heap.size < w2.heap.size := by rw [hw2]; simp
  have q2 : w2.cell? ⟨w1.heap.size, 0, none⟩ = some (.slice (some ⟨g, 0, none⟩) us.length c) := by rw [hw2, alloc_cell]; rfl
  have HW2 := hid (HWR.out.lift hb2 hb2.size)
  have HB2 := hid (bstep HB1.out hb2)
  have hn11 : (nsOf us).length ≤ 11 := HUO.out.ns.hi
  have hrn := all_lenH HUO.out.ok H0.out
  have HTERM := hid (show ∀ x ∈ (allN us).map (rowOf (nsOf us)), x.terms.length ≤ 11 from fun x hx => by
   obtain ⟨y, -, rfl⟩ := List.mem_map.1 hx
   exact Nat.le_trans (canon_len _) hn11)
  have HNS := hid HUO.out.ns
  have hsz : sizeN (nsOf us) ≤ 5000000 := sizeGo_leH (nsOf us) 1 (fun k hk => by obtain ⟨i, hi, rfl⟩ := List.getElem_of_mem hk; exact HNS.out.le i hi) (by decide)
  have hsp := sizeN_pos (nsOf us)
  obtain ⟨sz, hszz⟩ : ∃ sz, sizeN (nsOf us) = sz := ⟨_, rfl⟩
  have HSZ := hid (fun (v : Value) (W : World) (h : UniRd W (Lt W.heap.size) v (nsOf us)) => hszz ▸ size_any v (nsOf us) W h HNS.out)
  rw [hszz] at hsz hsp
  obtain ⟨p0, hp0, hp0l⟩ := place_natH n (show 1 ≤ 1048576 by omega)
  have HP0 := hid (show placeF n (1048576 : Int) = (p0 : Int) from hp0)
  have hb02 : Below w0.heap.size w0 w2 := HB2.out
  have s0 := cell_below hb02 hl0 R0.out
  have s1 := cell_below hb02 hl0 R1.out
  have s2 := cell_below hb02 hl0 R2.out
  have s3 := cell_below hb02 hl0 R3.out
  have s4 := cell_below hb02 hl0 R4.out
  have hr2 : w.heap.size < w2.heap.size := Nat.lt_of_lt_of_le hl0 hb02.size
  have HTV2 := hid (HTV.out.lift (bstep HB0.out hb02) (bstep HB0.out hb02).size)
  rw [← hw2]
  clear hw2 hb2 HWR hszz hp0
  go_wp2_with fail
  have HALL := hid (fun (W : World) (hb : Below w2.heap.size w2 W) => allrdH_any (.agg #[.slice (some ⟨g, 0, none⟩) us.length c]) us W (HW2.out.lift hb hb.size) HUO.out.ok H0.out)
  have HLEN := hid (show ((allN us).map (rowOf (nsOf us))).length ≤ 600 by rw [List.length_map]; exact hrn)
  go_region_held3 (fun w' => w'.cell? ⟨w1.heap.size, 0, none⟩ = some (.slice (some ⟨g, 0, none⟩) us.length c) ∧ w'.cell? ⟨w.heap.size, 0, none⟩ = some (.int .i64 r.kind) ∧ w'.cell? ⟨w.heap.size, 1, none⟩ = some (.int .i64 r.unit) ∧ w'.cell? ⟨w.heap.size, 2, none⟩ = some (.int .i64 r.a) ∧ w'.cell? ⟨w.heap.size, 3, none⟩ = some (.int .i64 r.b) ∧ w'.cell? ⟨w.heap.size, 4, none⟩ = some (.slice At tn ct)) (first | exact ⟨by assumption, by assumption, by assumption, by assumption, by assumption, by assumption⟩ | go_keep) (first
   | (go_at_call 7; go_must (refine (HALL.out _ (by repeat (first | (with_reducible exact b0 _) | assumption | (with_reducible refine balloc ?_ _) | (with_reducible refine Below.drew ?_)))).mono ?_; rintro e w3 ⟨rv, rfl, hrd, hb3⟩; have HC3 := hid hb3; have HB3 := hid (show Below w2.heap.size w2 w3 from bstep (by repeat (first | (with_reducible exact b0 _) | assumption | (with_reducible refine balloc ?_ _) | (with_reducible refine Below.drew ?_))) hb3); have HRD := hid (fun (W : World) (hb : Below w3.heap.size w3 W) => hrd.lift hb hb.size); have f0 := cell_below HB3.out hl2 q2; have f1 := cell_below HB3.out hr2 s0; have f2 := cell_below HB3.out hr2 s1; have f3 := cell_below HB3.out hr2 s2; have f4 := cell_below HB3.out hr2 s3; have f5 := cell_below HB3.out hr2 s4; clear hrd hb3))
   | (go_at_call 6; go_must (refine (bent_own _ _ 11 at_ which by_ _ (HRD.out _ (by repeat (first | (with_reducible exact b0 _) | assumption | (with_reducible refine balloc ?_ _) | (with_reducible refine Below.drew ?_)))) (by have := HLEN.out; omega) HTERM.out (by decide) ha hwh hby).mono ?_; rintro e w4 ⟨v4, L, T, rfl, hcop, hlen4, -, hb4⟩; have HC4 := hid hb4; have HB34 := hid (show Below w3.heap.size w3 w4 from bstep (by repeat (first | (with_reducible exact b0 _) | assumption | (with_reducible refine balloc ?_ _) | (with_reducible refine Below.drew ?_))) hb4); have HB4 := hid (bstep HB3.out HB34.out); have HCOP := hid (show Copied 25 73 w4 w2.heap.size v4 L T from hcop.base (by have := HB3.out.size; first | omega | (simp; omega))); obtain ⟨ln, hln⟩ : ∃ ln, L.length = ln := ⟨_, rfl⟩; have HLN := hid hln; have hl600 : ln ≤ 600 := (by rw [← hln, hlen4]; exact HLEN.out); obtain ⟨A4, c4, hv4⟩ := own_form HCOP.out.own; rw [hln] at hv4; subst hv4; have HOWN := hid (show w4.ownsRow w2.heap.size 25 5 (.slice A4 ln c4) ln (rowsCells L T) from (by have h := HCOP.out.own; rw [HLN.out] at h; exact h)); have g0 := cell_below HB4.out hl2 q2; have g1 := cell_below HB4.out hr2 s0; have g2 := cell_below HB4.out hr2 s1; have g3 := cell_below HB4.out hr2 s2; have g4 := cell_below HB4.out hr2 s3; have g5 := cell_below HB4.out hr2 s4; clear hcop hlen4 hb4 hln))
   | (refine step_guard (.tmp 31) (.tmp 33) 31 rfl ?_; go_must (refine step_append_src _ rfl (.tmp 31) (.tmp 33) 31 rfl w2.heap.size 25 ir _ 5 56 Tryz.underlying31 HIR.out.1 HIR.out.2.1 HIR.out.2.2.1 HIR.out.2.2.2 rfl (by omega) (.slice A4 ln c4) ln (rowsCells L T) (by rfl) (by exact ownsRow_below HOWN.out (by repeat (first | (with_reducible exact b0 _) | assumption | (with_reducible refine balloc ?_ _) | (with_reducible refine Below.drew ?_))) (fun g hg => (HOWN.out.lt g hg).2)) _ 1 1 (rowCells r (.slice At tn ct)) (by rfl) (by first | exact src_new _ _ rfl 5 _ rfl rfl | exact src_new_drew _ _ rfl 5 _ rfl rfl | exact src_later (src_new _ _ rfl 5 _ rfl rfl) (by simp) HC4.out | exact src_later (src_new _ _ rfl 5 _ rfl rfl) (by simp) (bstep HC3.out HB34.out) | exact src_later (src_new_drew _ _ rfl 5 _ rfl rfl) (by simp) HC4.out | exact src_later (src_new_drew _ _ rfl 5 _ rfl rfl) (by simp) (bstep HC3.out HB34.out)) (by simp [Value.oneCell', rowCells]) (by unfold maxLen; omega) (by omega) (by have := HB4.out.size; first | omega | (simp; omega)) ?_; intro v5 w5 hown5 hg5 hat5; have HRD5 := hid (HCOP.out.snocRd HB4.out.size HRI.out (HTV2.out.below HB4.out) (by repeat (first | (with_reducible exact b0 _) | assumption | (with_reducible refine balloc ?_ _) | (with_reducible refine Below.drew ?_))) hg5 (by rw [HLN.out]; exact hown5)); have HB5 := hid (show Below w2.heap.size w2 w5 from Below.grown (bstep HB4.out (by repeat (first | (with_reducible exact b0 _) | assumption | (with_reducible refine balloc ?_ _) | (with_reducible refine Below.drew ?_)))) hg5 (by have := HB4.out.size; first | omega | (simp; omega)) (fun k h => (HOWN.out.lt k h).1)); obtain ⟨A5, c5, rfl⟩ := own_form hown5; have h0 := cell_below HB5.out hl2 q2; have h1 := cell_below HB5.out hr2 s0; have h2 := cell_below HB5.out hr2 s1; have h3 := cell_below HB5.out hr2 s2; have h4 := cell_below HB5.out hr2 s3; have h5 := cell_below HB5.out hr2 s4; clear hown5 hg5 hat5)))
  all_goals
   have hl5 : w1.heap.size < w5.heap.size := Nat.lt_of_lt_of_le hl2 HB5.out.size
   have HW5 := hid (HW2.out.lift HB5.out HB5.out.size)
   obtain ⟨L5, hL5⟩ : ∃ L5, L ++ [r] = L5 := ⟨_, rfl⟩
   have hlen5 : L5.length = ln + 1 := by rw [← hL5, List.length_append, HLN.out]; rfl
   rw [hL5] at HRD5
   have HLEN5 := hid hlen5
   clear hL5 hlen5 h1 h2 h3 h4 h5 f0 f1 f2 f3 f4 f5 g0 g1 g2 g3 g4 g5 s0 s1 s2 s3 s4
   go_wp2_with (go_at_call 8; go_must (refine (masked_any _ us w5 HW5.out HUO.out.ok).mono ?_; rintro e w6 ⟨Af, nf, cf, nv, bv, rfl, hmr, hb6⟩; have HMR := hid hmr; obtain ⟨fv', nv', bv', hve, hsn, hsb⟩ := hmr; obtain ⟨An, cn, hnv, -⟩ := hsn.shape; obtain ⟨Ab, cb, hbv, -⟩ := hsb.shape; injection hve with hve; have hvl := congrArg Array.toList hve; simp only [List.cons.injEq, and_true] at hvl; obtain ⟨-, e1, e2⟩ := hvl; subst e1 e2 hnv hbv; obtain ⟨nn, hnn⟩ : ∃ nn, (needsM us).length = nn := ⟨_, rfl⟩; obtain ⟨nb, hnb⟩ : ∃ nb, (barsM us).length = nb := ⟨_, rfl⟩; rw [hnn, hnb] at HMR ⊢; have HB6 := hid hb6; clear hb6 hnn hnb hve hsn hsb))
   obtain ⟨w7, hw7⟩ : ∃ w7 : World, w7 = w6.alloc (.cells #[.slice Af nf cf, .slice An nn cn, .slice Ab nb cb] 37) := ⟨_, rfl⟩
   have hb7 : Below w6.heap.size w6 w7 := hw7 ▸ balloc (b0 w6) _
   have hl7 : w6.heap.size < w7.heap.size := by rw [hw7]; simp
   have m0 : w7.cell? ⟨w6.heap.size, 0, none⟩ = some (.slice Af nf cf) := by rw [hw7, alloc_cell]; rfl
   have m1 : w7.cell? ⟨w6.heap.size, 1, none⟩ = some (.slice An nn cn) := by rw [hw7, alloc_cell]; rfl
   have m2 : w7.cell? ⟨w6.heap.size, 2, none⟩ = some (.slice Ab nb cb) := by rw [hw7, alloc_cell]; rfl
   have HB57 := hid (bstep HB6.out hb7)
   have HM7 := hid (HMR.out.lift hb7 hb7.size)
   have HRD7 := hid (HRD5.out.lift HB57.out HB57.out.size)
   have HW7 := hid (HW5.out.lift HB57.out HB57.out.size)
   have q7 := cell_below HB57.out hl5 h0
   have hl17 : w1.heap.size < w7.heap.size := Nat.lt_of_lt_of_le hl5 HB57.out.size
   have HB07 := hid (bstep HB2.out (bstep HB5.out HB57.out))
   obtain ⟨A7, c7, hv7, hc7, hm7, hrow7⟩ := HRD7.out.rows
   rw [HLEN5.out] at hv7 hc7
   injection hv7 with e1 e2 e3
   subst e1 e3
   have HROW := hid hrow7
   unfold maxLen at hm7
   rw [← hw7]
   clear hw7 hb7 HMR HRD5 HW5 h0 e2 hrow7
   go_wp2_with fail
   go_loopw [16, 17, 18] (fun iv _ _ wr => ∃ i : Nat, i ≤ ln + 1 ∧ iv = .int .i64 i ∧ Hid (Below w7.heap.size w7 wr)) (fun iv _ _ _ => ln + 1 - (RowKit.intOf iv).toNat)
   case atStart => exact ⟨0, Nat.zero_le _, rfl, hid (b0 w7)⟩
   case round =>
    obtain ⟨i, hi, rfl, hb⟩ := hrel
    by_cases hlt : i < ln + 1
    ·have i0 : (0 : Int) ≤ ↑i := by omega
     have i1 : (↑i : Int) < ↑ln + 1 := by omega
     obtain ⟨g4, o4, tv4, hA4, hF4, x0, x1, x2, x3, x4, -, htr⟩ := HROW.out i (by rw [HLEN5.out]; exact hlt)
     subst hA4
     obtain ⟨x, hx⟩ : ∃ x, L5[i]'(by rw [HLEN5.out]; exact hlt) = x := ⟨_, rfl⟩
     rw [hx] at x0 x1 x2 x3 htr
     have HFR := hid (fun e : Later wr => pright_any (.agg #[.slice (some ⟨g, 0, none⟩) us.length c]) tv4 us x e.w (HW7.out.lift (bstep hb.out e.below) (bstep hb.out e.below).size) HUO.out.ok ((HF.out.below HB0.out).below (bstep HB07.out (bstep hb.out e.below))) (htr.lift (bstep hb.out e.below) (bstep hb.out e.below).size))
     have HTR := hid htr
     have HRS := hid (fun (C : List Int) (hc : ChoiceOk (nsOf us) C) (hf : fineC us C = true) (hr : rightR us x = true) => right_sound HUO.out.ok hc hf hr)
     have HRU := hid (fun hr : rightR us x = true => right_units hr)
     obtain ⟨At4, ct4, hte, -⟩ := htr.terms
     obtain ⟨bb, hbb⟩ : ∃ bb, rightR us x = bb := ⟨_, rfl⟩
     rw [hbb] at HFR HRS HRU
     obtain ⟨k1, k2, k3, k4, k5⟩ := x
     dsimp only at x0 x1 x2 x3 hte HFR HTR HRS HRU
     obtain ⟨tl4, htl4⟩ : ∃ tl4, k5.length = tl4 := ⟨_, rfl⟩
     rw [htl4] at hte
     subst hte
     have hF4w : g4 < wr.heap.size := Nat.lt_of_lt_of_le hF4 hb.out.size
     have l0 := later_cell (Nat.lt_of_lt_of_le hl17 hb.out.size) (cell_below hb.out hl17 q7)
     have l1 := later_cell hF4w (cell_below hb.out hF4 x0)
     have l2 := later_cell hF4w (cell_below hb.out hF4 x1)
     have l3 := later_cell hF4w (cell_below hb.out hF4 x2)
     have l4 := later_cell hF4w (cell_below hb.out hF4 x3)
     have l5 := later_cell hF4w (cell_below hb.out hF4 x4)
     clear x0 x1 x2 x3 htr hx hbb htl4 HROW
     go_wp2_with fail
     (refine wp_region_later (by kernel_rfl) (by kernel_rfl) ?_; (repeat (go_big_quiet_step ((go_at_call 9; exact Calls.later (HFR.out _) rfl)))); refine wpQuiet_nil ?_; rintro w8 ⟨⟨_, hw8⟩, rfl⟩)
     have HB8 := hid (bstep hb.out hw8)
     clear l0 l1 l2 l3 l4 l5 hF4w HFR hw8
     cases bb with
     | false =>
      go_wp2_with fail
      exact ⟨⟨i + 1, by omega, by go_num, HB8⟩, by simp [RowKit.intOf]; omega⟩
     | true =>
      go_wp2_with fail
      go_loopw [17, 18] (fun kv _ wq => ∃ k : Nat, k ≤ 300 ∧ kv = .int .i64 k ∧ Hid (Below w7.heap.size w7 wq)) (fun kv _ _ => 300 - (RowKit.intOf kv).toNat)
      case atStart => exact ⟨0, Nat.zero_le _, rfl, HB8⟩
      case round =>
       obtain ⟨k, hk, rfl, hbq⟩ := hrel
       have d0 := cell_below hbq.out hl17 q7
       have HSZ1 := hid (HSZ.out _ _ (uni_later HW7.out.uni hbq.out))
       by_cases hlt : k < sz ∧ k < 300
       ·have j1 : (k : Int) < (sz : Nat) := by omega
        have j2 : (k : Int) < 300 := by omega
        have HKL := hid hlt
        clear hlt
        go_wp2_with (go_at_call 10; go_must (refine HSZ1.out.mono ?_; rintro e w9 ⟨rfl, hb9⟩; have HB9 := hid (bstep hbq.out hb9); have d1 := cell_below HB9.out hl17 q7; have hl19 : w1.heap.size < w9.heap.size := Nat.lt_of_lt_of_le hl17 HB9.out.size; clear hb9))
        obtain ⟨N, hN, hNl⟩ := place_natH ((p0 : Int) + k) hsp
        have HN := hid hN
        have HNL := hid (show N ≤ 100000000 by omega)
        have HCO := hid (choice_ok (nsOf us) N)
        have HCL := hid (show (choiceF (nsOf us) N).length = us.length by rw [choiceF_len]; simp [nsOf])
        have HU9 := hid (uni_later HW7.out.uni HB9.out)
        have HK3 := hid (show k < 300 by omega)
        have j3 : IntKind.i64.wrap ((p0 : Int) + (k : Int)) = (p0 : Int) + (k : Int) := IntWalk.i64_in _ (by omega)
        clear hN hNl
        go_region_held3 (fun w' => w'.cell? ⟨w1.heap.size, 0, none⟩ = some (.slice (some ⟨g, 0, none⟩) us.length c)) (first | assumption | go_keep) (first
         | (go_at_call 10; go_must (refine (HSZ.out _ _ (uni_later HU9.out (by repeat (first | (with_reducible exact b0 _) | assumption | (with_reducible refine balloc ?_ _) | (with_reducible refine Below.drew ?_))))).mono ?_; rintro e w10 ⟨rfl, hb10⟩; have HB10 := hid (show Below w9.heap.size w9 w10 from bstep (by repeat (first | (with_reducible exact b0 _) | assumption | (with_reducible refine balloc ?_ _) | (with_reducible refine Below.drew ?_))) hb10); have q10 := cell_below HB10.out hl19 d1; clear hb10))
         | (go_at_call_of 12 n; go_must (refine (place_eq n 1048576 p0 _ hn ⟨by decide, by decide⟩ HP0).mono ?_; rintro e w' ⟨rfl, rfl⟩))
         | (go_at_call_of 12 sz; go_must (refine (place_eq ((p0 : Int) + (k : Int)) (sz : Int) (N : Int) _ ⟨by omega, by omega⟩ ⟨by omega, by omega⟩ HN).mono ?_; rintro e w' ⟨rfl, rfl⟩))
         | (go_at_call 11; go_must (refine (choice_any _ (nsOf us) N w10 (uni_later HU9.out HB10.out) HNS.out HNL.out).mono ?_; rintro e w11 ⟨cv, rfl, hcv, hb11⟩; obtain ⟨Ac, cc, hce⟩ := hcv.form; rw [HCL.out] at hce; subst hce; have HCV := hid hcv.rd; have HB11 := hid (bstep HB10.out hb11); have q11 := cell_below HB11.out hl19 d1; clear hcv hb11)))
        all_goals
         have HB7_11 := hid (bstep HB9.out HB11.out)
         have HB711 := hid (show Below w7.heap.size w7 w11 from HB7_11.out)
         obtain ⟨C, hC⟩ : ∃ C, choiceF (nsOf us) N = C := ⟨_, rfl⟩
         rw [hC] at HCO HCV
         have HFI := hid (fun e : Later w11 => fine_any (.agg #[.slice Af nf cf, .slice An nn cn, .slice Ab nb cb]) (.slice Ac us.length cc) us C e.w HUO.out.ok (HM7.out.lift (bstep HB711.out e.below) (bstep HB711.out e.below).size) (HCV.out.lift e.below e.below.size) HCO.out)
         have HHO := hid (fun e : Later w11 => rhold_any (.agg #[.slice (some ⟨g, 0, none⟩) us.length c]) (.slice At4 tl4 ct4) (.slice Ac us.length cc) (nsOf us) k5 C e.w (uni_later HW7.out.uni (bstep HB711.out e.below)) HNS.out (HTR.out.lift (bstep HB711.out e.below) (bstep HB711.out e.below).size) (HCV.out.lift e.below e.below.size) HCO.out (HRU.out (by first | exact rfl | exact trivial)))
         obtain ⟨ff, hff⟩ : ∃ ff, fineC us C = ff := ⟨_, rfl⟩
         obtain ⟨hh, hhh⟩ : ∃ hh, holdL C k5 = hh := ⟨_, rfl⟩
         have HBAD := hid (show (ff && hh) = false from by
          cases ff with
          | false => rfl
          | true =>
           have := HRS.out C HCO.out hff (by first | exact rfl | exact trivial)
           rw [← hhh]
           exact this)
         rw [hff] at HFI
         rw [hhh] at HHO
         have hl11 : w1.heap.size < w11.heap.size := Nat.lt_of_lt_of_le hl17 HB711.out.size
         have hm11 : w6.heap.size < w11.heap.size := Nat.lt_of_lt_of_le hl7 HB711.out.size
         have hg11 : g4 < w11.heap.size := Nat.lt_of_lt_of_le hF4 HB711.out.size
         have l0 := later_cell hl11 (cell_below HB711.out hl17 q7)
         have l1 := later_cell hm11 (cell_below HB711.out hl7 m0)
         have l2 := later_cell hm11 (cell_below HB711.out hl7 m1)
         have l3 := later_cell hm11 (cell_below HB711.out hl7 m2)
         have l4 := later_cell hg11 (cell_below HB711.out hF4 x4)
         clear hC hff hhh HRS HCO HCV HB10 q10 q11 d0 d1
         cases ff <;> cases hh <;> first | (exact absurd HBAD.out (by decide)) | skip
         all_goals go_wp2_with fail
         all_goals (refine wp_region_later (by kernel_rfl) (by kernel_rfl) ?_; (repeat (go_big_quiet_step (((first | (go_at_call 13; exact Calls.later (HFI.out _) rfl) | (go_at_call 14; exact Calls.later (HHO.out _) rfl)))))); refine wpQuiet_nil ?_; rintro w12 ⟨⟨_, hw12⟩, rfl⟩)
         all_goals have HB12 := hid (bstep HB711.out hw12)
         all_goals go_wp2_with fail
         all_goals exact ⟨⟨k + 1, by have := HKL.out; omega, by go_num, HB12⟩, by have := HKL.out; simp [RowKit.intOf]; omega⟩
       ·by_cases hs : k < sz
        ·have j1 : (k : Int) < (sz : Nat) := by omega
         have j2 : ¬ ((k : Int) < 300) := by omega
         clear hlt hs
         go_wp2_with (go_at_call 10; go_must (refine HSZ1.out.mono ?_; rintro e w9 ⟨rfl, hb9⟩; have HB9 := hid (bstep hbq.out hb9); clear hb9))
         exact ⟨⟨i + 1, by omega, by go_num, HB9⟩, by simp [RowKit.intOf]; omega⟩
        ·have j1 : ¬ ((k : Int) < (sz : Nat)) := by omega
         clear hlt hs
         go_wp2_with (go_at_call 10; go_must (refine HSZ1.out.mono ?_; rintro e w9 ⟨rfl, hb9⟩; have HB9 := hid (bstep hbq.out hb9); clear hb9))
         exact ⟨⟨i + 1, by omega, by go_num, HB9⟩, by simp [RowKit.intOf]; omega⟩
    ·have hie : i = ln + 1 := by omega
     subst hie
     clear hlt
     have i2 : ¬ ((ln : Int) + 1 < (ln : Int) + 1) := by omega
     have HAW := hid (awake_any wr ((HF.out.below HB0.out).below (bstep HB07.out hb.out)) ((HT.out.later HB0.out).later (bstep HB07.out hb.out)))
     go_wp2_with (go_at_call 4; refine HAW.out.mono ?_; rintro e wz ⟨rfl, hbz⟩)
     go_ret
     exact ⟨rfl, bstep HB0.out (bstep HB07.out (bstep hb.out hbz))⟩
 ·have z0 : decide ((40 : Int) < ↑tn) = true := decide_eq_true (by omega)
  have z1 : (40 : Int) < ↑tn := by omega
  clear h40
  go_enter Tryz.func3, Tryz.ntmps3
  go_wp2_with (go_at_call 4; rw [← HW0.out]; refine (awake_any _ (HF.out.below HB0.out) (HT.out.later HB0.out)).mono ?_; rintro e wz ⟨rfl, hbz⟩; have HBZ := hid (bstep HB0.out hbz); clear hbz)
  go_ret
  exact ⟨rfl, HBZ.out⟩
end Go.Proofs.YtfdjoknklpiooaaGreatDoor
