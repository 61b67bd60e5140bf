import Derived.Test.YtfdjoknklpiooaaGreatDoorRows
import Derived.Test.YtfdjoknklpiooaaGreatDoorzMem
import Derived.Test.YtfdjoknklpiooaaGreatDoorzN9
import Derived.Test.YtfdjoknklpiooaaGreatDoorzFlat
import Derived.Deep.RegionHeld3
import Derived.Deep.RegionLaw
import Derived.Test.YtfdjoknklpiooaaGreatDoorzP2
import Derived.Outline
section
/- Contract: linchpinmade.CopyRows. -/
namespace Go.Proofs.YtfdjoknklpiooaaGreatDoor
open Go Go.RowKit

theorem row_info : (Tryz.prog.info? 25).map (fun i => (i.zero, i.size, i.bytes)) = some (some (.agg #[.int .i64 0, .int .i64 0, .int .i64 0, .int .i64 0, .slice none 0 0]), 5, 56) := by kernel_rfl

set_option maxHeartbeats 1000000 in
theorem copyRows_any (v : Value) (l : List Row) (w : World) (h : SliceRd tRow w (Lt w.heap.size) v l) (hl : l.length ≤ 1000000) (hlt : ∀ r ∈ l, r.terms.length ≤ 1000000) :
  Calls Tryz.prog 22 #[v] w fun e w' => ∃ v' tvs, e = .returned v' ∧ Copied 25 73 w' w.heap.size v' l tvs ∧ Below w.heap.size w w' := by
 obtain ⟨A, cap, rfl, hcap, hmax, hc⟩ := h.rows
 have HC := hid hc
 unfold maxLen at hmax
 clear h hc
 obtain ⟨ir, hir⟩ := info_parts row_info
 have HIR := hid hir
 obtain ⟨it, hit⟩ := info_parts term_info
 have HIT := hid hit
 clear hir hit
 have HL := hid hlt
 clear hlt
 go_enter Tryz.func22, Tryz.ntmps22
 go_wp2
 go_loopw [3, 4] (fun u v wr => ∃ k : Nat, k ≤ l.length ∧ v = .int .i64 k ∧ Below w.heap.size w wr ∧ Hid (∃ tvs, Copied 25 73 wr w.heap.size u (l.take k) tvs)) (fun _ v _ => l.length - (intOf v).toNat)
 case atStart => exact ⟨0, Nat.zero_le _, rfl, Below.refl _ _, hid ⟨[], Copied.nil (by decide) _ _⟩⟩
 case round =>
  obtain ⟨k, hk, rfl, hb, hcop⟩ := hrel
  by_cases hlt : k < l.length
  ·obtain ⟨g, o, tv, hA, hF, g0, g1, g2, g3, g4, ⟨i0, i1, i2, i3⟩, ht⟩ := HC.out k hlt
   cases hA
   have c0 := cell_below hb hF g0
   have c1 := cell_below hb hF g1
   have c2 := cell_below hb hF g2
   have c3 := cell_below hb hF g3
   have c4 := cell_below hb hF g4
   have HT := hid ht
   clear g0 g1 g2 g3 g4 ht
   have hbb : g < wr.heap.size := Nat.lt_of_lt_of_le hF hb.size
   obtain ⟨TA, tcap, rfl, htcap, htmax, -⟩ := HT.out.terms
   have HSRC : Hid (∀ W', Below w.heap.size w W' → Src W' TA l[k].terms.length 2 (termCells l[k].terms)) := hid (fun W' hW => ((HT.out.below hW).src).2.1)
   have hlk : l[k].terms.length ≤ 1000000 := HL.out _ (List.getElem_mem hlt)
   have hsz : w.heap.size ≤ wr.heap.size := hb.size
   obtain ⟨tvs, hcop'⟩ := hcop.out
   have HCOP := hid hcop'
   have HRI : Hid (RowI l[k]) := hid ⟨i0, i1, i2, i3, HT.out.src.2.2⟩
   clear hcop'
   go_wp2_with (first
    | (at_builtin
       refine wpList_append_src _ rfl (.const (.slice none 0 0)) (.tmp 17) _ rfl w.heap.size 73 it _ 2 16 Tryz.underlying23 HIT.out.1 HIT.out.2.1 HIT.out.2.2.1 HIT.out.2.2.2 rfl (by omega) (.slice none 0 0) 0 [] rfl ⟨rfl, .inl ⟨rfl, rfl⟩⟩ TA l[k].terms.length tcap (termCells l[k].terms) rfl (HSRC.out _ (by exact hb.alloc hb.size _)) termCells_one (by unfold maxLen; omega) (by omega) (by simp; omega) ?_
       intro v1 w1 hown1 hg1 hat1
       have hB1 := (Below.refl _ _).grown hg1 (Nat.le_refl _) (by intro k h; cases h)
       obtain ⟨hbc1, hbf1⟩ := bcell hB1
       have hz1 : wr.heap.size < w1.heap.size := by have := hB1.size; simp at this; omega
       obtain ⟨A1, c1, rfl⟩ := own_form hown1)
    | (at_builtin
       obtain ⟨hBw, hstep⟩ := copied_step HCOP.out hsz HRI.out hg1 hown1 hat1 4 (.slice A1 l[k].terms.length c1) (.cells #[.int .i64 l[k].kind, .int .i64 l[k].unit, .int .i64 l[k].a, .int .i64 l[k].b, .slice A1 l[k].terms.length c1] 25)
       refine wpList_append_src _ rfl (.tmp 20) (.tmp 22) _ rfl w.heap.size 25 ir _ 5 56 Tryz.underlying31 HIR.out.1 HIR.out.2.1 HIR.out.2.2.1 HIR.out.2.2.2 rfl (by omega) u3 (l.take k).length (rowsCells (l.take k) tvs) rfl (by exact (HCOP.out.below hBw (Nat.le_refl _)).own) (some ⟨w1.heap.size, 0, none⟩) 1 1 (rowCells l[k] (.slice A1 l[k].terms.length c1)) rfl (by exact src_new _ _ (by simp) 5 _ rfl rfl) (by simp [rowCells, Value.oneCell']) (by rw [List.length_take]; unfold maxLen; omega) (by rw [List.length_take]; omega) (by exact Nat.le_trans hsz hBw.size) ?_
       intro v2 w2 hown2 hg2 hat2
       have HC2 := hid (hstep _ _ hg2 hown2)
       have hB2 := (hb.trans (hBw.mono hsz)).grown hg2 (by exact Nat.le_trans hsz hBw.size) (by intro k' h'; exact ((HCOP.out.lt).1 k' h').1)
       clear hown1 hat1 hg1 hown2 hat2 hstep hg2))
   refine ⟨⟨k + 1, by omega, by go_num, hB2, hid ⟨tvs ++ [.slice A1 l[k].terms.length c1], ?_⟩⟩, by simp [intOf]; omega⟩
   rw [List.take_succ_eq_append_getElem hlt]
   exact HC2.out
  ·obtain ⟨tvs, hc'⟩ := hcop.out
   rw [List.take_of_length_le (by omega)] at hc'
   have HF := hid hc'
   clear hc' hcop
   go_wp2
   go_ret
   exact ⟨u3, tvs, rfl, HF.out, hb⟩
end Go.Proofs.YtfdjoknklpiooaaGreatDoor
end
section
/- Copied rows with one thing turned. No program stands here. -/
namespace Go.Proofs.YtfdjoknklpiooaaGreatDoor
open Go Go.RowKit

theorem rowsCells_length : ∀ (l : List Row) (tvs : List Value) (_ : tvs.length = l.length), (rowsCells l tvs).length = l.length * 5
 | [], [], _ => rfl
 | r :: l, tv :: tvs, h => by
  have := rowsCells_length l tvs (by simpa using h)
  simp [rowsCells, rowCells, this]
  omega
 | [], _ :: _, h => by simp at h
 | _ :: _, [], h => by simp at h
theorem rowsCells_setU {l : List Row} {tvs : List Value} (h : tvs.length = l.length) {p : Nat} (hp : p < l.length) (hp' : p < tvs.length) {j : Nat} (hj : j < 5) {x : Value} {r' : Row} {tv' : Value}
  (hx : rowCells r' tv' = (rowCells l[p] tvs[p]).set j x) : (rowsCells l tvs).set (p * 5 + j) x = rowsCells (l.set p r') (tvs.set p tv') := by
 have hL : (tvs.set p tv').length = (l.set p r').length := by simp [h]
 have h1 := rowsCells_length l tvs h
 have h2 := rowsCells_length _ _ hL
 have h3 : (l.set p r').length = l.length := by simp
 apply List.ext_getElem?
 intro i
 by_cases hi : i < l.length * 5
 ·have hq : i / 5 < l.length := by omega
  have hq' : i / 5 < tvs.length := by omega
  have e : i = i / 5 * 5 + i % 5 := by omega
  have hm : i % 5 < 5 := by omega
  have hs := rowsCells_get hL (k := i / 5) (by simp; exact hq) (by simp; exact hq') (i % 5) hm
  rw [← e] at hs
  rw [hs, List.getElem?_set]
  have ho := rowsCells_get h (k := i / 5) hq hq' (i % 5) hm
  rw [← e] at ho
  by_cases hpq : p = i / 5
  ·subst hpq
   simp only [List.getElem_set_self, hx]
   rw [List.getElem?_set]
   by_cases hjm : j = i % 5
   ·have e2 : i / 5 * 5 + j = i := by omega
    rw [if_pos e2, if_pos (by omega), if_pos hjm, if_pos (by simp [rowCells]; omega)]
   ·rw [if_neg (by omega), if_neg hjm, ho]
  ·rw [if_neg (by omega), ho, List.getElem_set_ne hpq, List.getElem_set_ne hpq]
 ·rw [List.getElem?_eq_none (by simp; omega), List.getElem?_eq_none (by omega)]

theorem own_setU {w : World} {B : Nat} {e : TypeId} {s n g cap : Nat} {xs : List Value} (h : w.ownsRow B e s (.slice (some ⟨g, 0, none⟩) n cap) n xs) (q : Nat) (_ : q < n * s) (x : Value) :
  (w.setCell ⟨g, q, none⟩ x).ownsRow B e s (.slice (some ⟨g, 0, none⟩) n cap) n (xs.set q x) := by
 refine ⟨by rw [List.length_set]; exact h.1, ?_⟩
 rcases h.2 with ⟨h0, _⟩ | ⟨a, c, cur, hv, hb, hg, h1, h2, h3, h4⟩
 ·cases h0
 ·injection hv with e1 e2 e3
  injection e1 with e1
  injection e1 with e1
  subst e1; subst e3
  refine .inr ⟨g, cap, cur.setIfInBounds q x, rfl, hb, heap_setCell_same w g q cur e x hg, h1, h2, by simpa using h3, ?_⟩
  rw [Array.toList_setIfInBounds, List.take_set, h4]

theorem own_shrink {w : World} {B : Nat} {e : TypeId} {s n g cap : Nat} {xs : List Value} (h : w.ownsRow B e s (.slice (some ⟨g, 0, none⟩) n cap) n xs) (m : Nat) (hm : m ≤ n) :
  w.ownsRow B e s (.slice (some ⟨g, 0, none⟩) m cap) m (xs.take (m * s)) := by
 have hms : m * s ≤ n * s := Nat.mul_le_mul_right s hm
 refine ⟨by rw [List.length_take, h.1]; omega, ?_⟩
 rcases h.2 with ⟨h0, _⟩ | ⟨a, c, cur, hv, hb, hg, h1, h2, h3, h4⟩
 ·cases h0
 ·injection hv with e1 e2 e3
  injection e1 with e1
  injection e1 with e1
  subst e1; subst e3
  refine .inr ⟨g, cap, cur, rfl, hb, hg, by omega, h2, h3, ?_⟩
  rw [← h4, List.take_take]
  congr 1
  omega

theorem termCells_take : ∀ (l : List Term) (m : Nat), (termCells l).take (m * 2) = termCells (l.take m)
 | [], m => by simp [termCells]
 | t :: l, 0 => by simp [termCells]
 | t :: l, m + 1 => by
  have := termCells_take l m
  have e : (m + 1) * 2 = m * 2 + 1 + 1 := by omega
  rw [e]
  simp [termCells, this]
theorem termCells_setU : ∀ (l : List Term) (q : Nat) (h : q < l.length) (y : Int), (termCells l).set (q * 2 + 1) (.int .i64 y) = termCells (l.set q { l[q] with mask := y })
 | t :: l, 0, _, y => by simp [termCells]
 | t :: l, q + 1, h, y => by
  have := termCells_setU l q (by simpa using h) y
  have e : (q + 1) * 2 + 1 = q * 2 + 1 + 1 + 1 := by omega
  rw [e]
  simp [termCells, this]

section
variable {eR eT : TypeId} {w w1 w' : World} {B : Nat} {v : Value} {l : List Row} {tvs : List Value}
/-- Row p turned, and its terms; nothing else. -/
theorem Copied.upd0 (h : Copied eR eT w B v l tvs) {p : Nat} (hp : p < l.length) (hp' : p < tvs.length) {r' : Row} {tv' : Value}
  (hk : ∀ g, g < w.heap.size → some g ≠ v.ownBlock → some g ≠ tvs[p].ownBlock → w'.heap[g]? = w.heap[g]?)
  (ho : w'.ownsRow B eR 5 v l.length (rowsCells (l.set p r') (tvs.set p tv')))
  (ht : w'.ownsRow B eT 2 tv' r'.terms.length (termCells r'.terms)) (hr : RowI r')
  (hap : tv'.ownBlock = tvs[p].ownBlock ∨ tv'.ownBlock = none ∨ ∃ n, tv'.ownBlock = some n ∧ w.heap.size ≤ n) : Copied eR eT w' B v (l.set p r') (tvs.set p tv') := by
 have hne : ∀ k, (hk : k < tvs.length) → k ≠ p → ∀ g, tvs[k].ownBlock = some g → some g ≠ tvs[p].ownBlock := by
  intro k hk hkp g hg e
  rcases Nat.lt_or_gt_of_ne hkp with hlt | hgt
  ·exact h.apart k p hlt hp' g hg e.symm
  ·exact h.apart p k hgt hk g e.symm hg
 have hold : ∀ k, (hk' : k < tvs.length) → k ≠ p → ∀ g, tvs[k].ownBlock = some g → tv'.ownBlock ≠ some g := by
  intro k hk' hkp g hg hg'
  rcases hap with e | e | ⟨n, e, hn⟩
  ·rw [e] at hg'; exact hne k hk' hkp g hg hg'.symm
  ·rw [e] at hg'; cases hg'
  ·rw [e] at hg'
   injection hg' with hg'
   subst hg'
   have := (h.lt.2 k hk' _ hg).2
   omega
 refine ⟨h.ne, by simp [h.len], by rw [List.length_set]; exact ho, ?_, ?_, ?_⟩
 ·intro r hrm
  rcases List.mem_or_eq_of_mem_set hrm with hm | hm
  ·exact h.ints r hm
  ·rw [hm]; exact hr
 ·intro k hkl hkt
  rw [List.length_set] at hkl hkt
  by_cases hkp : k = p
  ·subst hkp
   simpa using ht
  ·rw [List.getElem_set_ne (Ne.symm hkp), List.getElem_set_ne (Ne.symm hkp)]
   refine ownsRow_keep (h.terms k hkl hkt) (fun g hg => hk g (h.lt.2 k hkt g hg).2 (fun e => own_ne h.own (h.terms k hkl hkt) h.ne g e.symm hg) (hne k hkt hkp g hg))
 ·intro j k hjk hkt g hgj hgk
  have hktt := hkt
  rw [List.length_set] at hktt
  by_cases hkp : k = p
  ·subst hkp
   rw [List.getElem_set_self] at hgk
   rw [List.getElem_set_ne (by omega)] at hgj
   exact hold j (by omega) (by omega) g hgj hgk
  ·rw [List.getElem_set_ne (Ne.symm hkp)] at hgk
   by_cases hjp : j = p
   ·subst hjp
    rw [List.getElem_set_self] at hgj
    exact hold k (by omega) hkp g hgk hgj
   ·rw [List.getElem_set_ne (Ne.symm hjp)] at hgj
    exact h.apart j k hjk hktt g hgj hgk
/-- A cell of row p written, behind what has been done to its terms. -/
theorem Copied.upd {gg n cap : Nat} (h : Copied eR eT w B (.slice (some ⟨gg, 0, none⟩) n cap) l tvs) {p : Nat} (hp : p < l.length) (hp' : p < tvs.length) {j : Nat} (hj : j < 5) {x : Value} {r' : Row} {tv' : Value}
  (hx : rowCells r' tv' = (rowCells l[p] tvs[p]).set j x)
  (hk : ∀ g, g < w.heap.size → some g ≠ tvs[p].ownBlock → w1.heap[g]? = w.heap[g]?)
  (ht : w1.ownsRow B eT 2 tv' r'.terms.length (termCells r'.terms)) (hr : RowI r')
  (hap : tv'.ownBlock = tvs[p].ownBlock ∨ tv'.ownBlock = none ∨ ∃ n, tv'.ownBlock = some n ∧ w.heap.size ≤ n) :
  Copied eR eT (w1.setCell ⟨gg, p * 5 + j, none⟩ x) B (.slice (some ⟨gg, 0, none⟩) n cap) (l.set p r') (tvs.set p tv') := by
 have hn : n = l.length := by
  rcases h.own.2 with ⟨h0, _⟩ | ⟨a, c, cur, hv, _⟩
  ·cases h0
  ·injection hv
 subst hn
 have hgp : some gg ≠ tvs[p].ownBlock := fun e => own_ne h.own (h.terms p hp hp') h.ne gg rfl e.symm
 have hggl := (h.lt.1 gg rfl).2
 have hgt' : some gg ≠ tv'.ownBlock := by
  intro e
  rcases hap with e' | e' | ⟨n, e', hn⟩
  ·exact hgp (e.trans e')
  ·rw [e'] at e; cases e
  ·rw [e'] at e; cases e; omega
 refine h.upd0 hp hp' ?_ ?_ ?_ hr hap
 ·intro g hg hgv hgt
  rw [heap_setCell_other _ _ _ _ (by intro e; apply hgv; rw [e]; rfl)]
  exact hk g hg hgt
 ·rw [← rowsCells_setU h.len hp hp' hj hx]
  have ho1 : w1.ownsRow B eR 5 (.slice (some ⟨gg, 0, none⟩) l.length cap) l.length (rowsCells l tvs) := ownsRow_keep h.own (fun g hg => by
   have : g = gg := by simpa [Value.ownBlock] using hg.symm
   subst this
   exact hk g hggl hgp)
  exact own_setU ho1 (p * 5 + j) (by omega) x
 ·exact ownsRow_keep ht (fun g hg => heap_setCell_other _ _ _ _ (by intro e; apply hgt'; rw [hg]; rw [e]))
theorem Copied.upd_field {gg n cap : Nat} (h : Copied eR eT w B (.slice (some ⟨gg, 0, none⟩) n cap) l tvs) {p : Nat} (hp : p < l.length) {y : Int} (hy : I64 y) :
  (∃ L T, L.length = l.length ∧ (∀ r ∈ L, ∃ r0 ∈ l, r.terms.length = r0.terms.length) ∧ Copied eR eT (w.setCell ⟨gg, p * 5, none⟩ (.int .i64 y)) B (.slice (some ⟨gg, 0, none⟩) n cap) L T) ∧
  (∃ L T, L.length = l.length ∧ (∀ r ∈ L, ∃ r0 ∈ l, r.terms.length = r0.terms.length) ∧ Copied eR eT (w.setCell ⟨gg, p * 5 + 1, none⟩ (.int .i64 y)) B (.slice (some ⟨gg, 0, none⟩) n cap) L T) ∧
  (∃ L T, L.length = l.length ∧ (∀ r ∈ L, ∃ r0 ∈ l, r.terms.length = r0.terms.length) ∧ Copied eR eT (w.setCell ⟨gg, p * 5 + 2, none⟩ (.int .i64 y)) B (.slice (some ⟨gg, 0, none⟩) n cap) L T) ∧
  (∃ L T, L.length = l.length ∧ (∀ r ∈ L, ∃ r0 ∈ l, r.terms.length = r0.terms.length) ∧ Copied eR eT (w.setCell ⟨gg, p * 5 + 3, none⟩ (.int .i64 y)) B (.slice (some ⟨gg, 0, none⟩) n cap) L T) := by
 have hp' : p < tvs.length := by rw [h.len]; exact hp
 have hI := h.ints _ (List.getElem_mem hp)
 have hm : ∀ r', r'.terms.length = l[p].terms.length → ∀ r ∈ l.set p r', ∃ r0 ∈ l, r.terms.length = r0.terms.length := by
  intro r' e r hr
  rcases List.mem_or_eq_of_mem_set hr with hm | hm
  ·exact ⟨r, hm, rfl⟩
  ·exact ⟨l[p], List.getElem_mem hp, by rw [hm, e]⟩
 refine ⟨⟨l.set p { l[p] with kind := y }, tvs.set p tvs[p], by simp, hm _ rfl, ?_⟩, ⟨l.set p { l[p] with unit := y }, tvs.set p tvs[p], by simp, hm _ rfl, ?_⟩, ⟨l.set p { l[p] with a := y }, tvs.set p tvs[p], by simp, hm _ rfl, ?_⟩, ⟨l.set p { l[p] with b := y }, tvs.set p tvs[p], by simp, hm _ rfl, ?_⟩⟩
 ·exact h.upd hp hp' (j := 0) (by omega) rfl (fun _ _ _ => rfl) (h.terms p hp hp') ⟨hy, hI.unit, hI.a, hI.b, hI.terms⟩ (.inl rfl)
 ·exact h.upd hp hp' (j := 1) (by omega) rfl (fun _ _ _ => rfl) (h.terms p hp hp') ⟨hI.kind, hy, hI.a, hI.b, hI.terms⟩ (.inl rfl)
 ·exact h.upd hp hp' (j := 2) (by omega) rfl (fun _ _ _ => rfl) (h.terms p hp hp') ⟨hI.kind, hI.unit, hy, hI.b, hI.terms⟩ (.inl rfl)
 ·exact h.upd hp hp' (j := 3) (by omega) rfl (fun _ _ _ => rfl) (h.terms p hp hp') ⟨hI.kind, hI.unit, hI.a, hy, hI.terms⟩ (.inl rfl)
end

/-- A look ahead: is the operation this append? -/
theorem i64_of {x : Int} (h0 : -9223372036854775808 ≤ x) (h1 : x ≤ 9223372036854775807) : I64 x := ⟨h0, h1⟩
theorem Copied.drew {eR eT : TypeId} {w : World} {B : Nat} {v : Value} {l : List Row} {tvs : List Value} (h : Copied eR eT w B v l tvs) : Copied eR eT w.drew B v l tvs :=
 h.keep (fun _ _ => rfl) (fun _ _ _ _ => rfl)
theorem set_same {α : Type} {l : List α} {i : Nat} {x : α} (h : l[i]? = some x) : l.set i x = l := by
 apply List.ext_getElem?
 intro k
 rw [List.getElem?_set]
 by_cases hk : i = k
 ·subst hk
  rw [if_pos rfl, if_pos (List.getElem?_eq_some_iff.1 h).1, h]
 ·rw [if_neg hk]
theorem own_addrU {w : World} {B : Nat} {e : TypeId} {s n : Nat} {v : Value} {xs : List Value} (h : w.ownsRow B e s v n xs) (hn : 0 < n) :
  ∃ g cap, v = .slice (some ⟨g, 0, none⟩) n cap ∧ v.ownBlock = some g ∧ B ≤ g ∧ g < w.heap.size ∧ n ≤ cap ∧ cap ≤ maxLen ∧ (∀ i, i < n * s → w.cell? ⟨g, i, none⟩ = xs[i]?) ∧ ∀ o, w.frozen? ⟨g, o, none⟩ = false := by
 have hlt := h.lt
 rcases h.2 with ⟨rfl, h0⟩ | ⟨g, cap, cur, rfl, hb, hg, h1, h2, h3, h4⟩
 ·omega
 ·refine ⟨g, cap, rfl, rfl, hb, (hlt g rfl).2, h1, h2, fun i hi => ?_, fun o => frozen_of_row w g o cur e hg⟩
  rw [cell_of_row w g i cur e (0, 0) hg, ← h4, List.getElem?_take_of_lt hi, Array.getElem?_toList]
section
variable {eR eT : TypeId} {w : World} {B : Nat} {v : Value} {l : List Row} {tvs : List Value}
/-- A mask of row p's terms written. -/
theorem Copied.updMask (h : Copied eR eT w B v l tvs) {p q : Nat} (hp : p < l.length) (hp' : p < tvs.length) (hq : q < l[p].terms.length) {gt : Nat} (hgt : tvs[p].ownBlock = some gt) {y : Int} (hy : I64 y) :
  ∃ L T, L.length = l.length ∧ (∀ r ∈ L, ∃ r0 ∈ l, r.terms.length = r0.terms.length) ∧ Copied eR eT (w.setCell ⟨gt, q * 2 + 1, none⟩ (.int .i64 y)) B v L T := by
 have hI := h.ints _ (List.getElem_mem hp)
 have ht := h.terms p hp hp'
 obtain ⟨g', cap, hv', hb', _, _, _, _, _, _⟩ := own_addrU ht (by omega)
 rw [hb'] at hgt
 injection hgt with hgt
 subst hgt
 refine ⟨l.set p { l[p] with terms := l[p].terms.set q { l[p].terms[q] with mask := y } }, tvs.set p tvs[p], by simp, ?_, ?_⟩
 ·intro r hr
  rcases List.mem_or_eq_of_mem_set hr with hm | hm
  ·exact ⟨r, hm, rfl⟩
  ·exact ⟨l[p], List.getElem_mem hp, by rw [hm]; simp⟩
 ·refine h.upd0 hp hp' ?_ ?_ ?_ ⟨hI.kind, hI.unit, hI.a, hI.b, ?_⟩ (.inl rfl)
  ·intro g hg hgv hgt
   exact heap_setCell_other _ _ _ _ (by intro e; apply hgt; rw [hb', e])
  ·have e0 : (rowsCells l tvs)[p * 5]? = some (.int .i64 l[p].kind) := by
    have := rowsCells_get h.len hp hp' 0 (by omega)
    simpa [rowCells] using this
   have e1 := rowsCells_setU h.len hp hp' (j := 0) (by omega) (x := .int .i64 l[p].kind) (r' := { l[p] with terms := l[p].terms.set q { l[p].terms[q] with mask := y } }) (tv' := tvs[p]) rfl
   rw [← e1]
   rw [set_same (show (rowsCells l tvs)[p * 5 + 0]? = _ from e0)]
   exact ownsRow_keep h.own (fun g hg => heap_setCell_other _ _ _ _ (by intro e; exact own_ne h.own ht h.ne g hg (by rw [hb', e])))
  ·show World.ownsRow _ _ _ _ _ (l[p].terms.set q _).length (termCells (l[p].terms.set q _))
   rw [List.length_set, ← termCells_setU]
   have hw2 : tvs[p] = .slice (some ⟨g', 0, none⟩) l[p].terms.length cap := hv'
   rw [hw2] at ht ⊢
   exact own_setU ht (q * 2 + 1) (by omega) _
  ·intro t htm
   rcases List.mem_or_eq_of_mem_set htm with hm | hm
   ·exact hI.terms t hm
   ·rw [hm]; exact ⟨(hI.terms _ (List.getElem_mem hq)).1, hy⟩
/-- The last term of row p cut off. -/
theorem Copied.updCut {gg n cap : Nat} (h : Copied eR eT w B (.slice (some ⟨gg, 0, none⟩) n cap) l tvs) {p : Nat} (hp : p < l.length) (hp' : p < tvs.length) {gt tcap : Nat} (htv : tvs[p] = .slice (some ⟨gt, 0, none⟩) l[p].terms.length tcap) :
  ∃ L T, L.length = l.length ∧ (∀ r ∈ L, ∃ r0 ∈ l, r.terms.length ≤ r0.terms.length) ∧ Copied eR eT (w.setCell ⟨gg, p * 5 + 4, none⟩ (.slice (some ⟨gt, 0, none⟩) (l[p].terms.length - 1) tcap)) B (.slice (some ⟨gg, 0, none⟩) n cap) L T := by
 have hI := h.ints _ (List.getElem_mem hp)
 have ht := h.terms p hp hp'
 refine ⟨l.set p { l[p] with terms := l[p].terms.take (l[p].terms.length - 1) }, tvs.set p (.slice (some ⟨gt, 0, none⟩) (l[p].terms.length - 1) tcap), by simp, ?_, ?_⟩
 ·intro r hr
  rcases List.mem_or_eq_of_mem_set hr with hm | hm
  ·exact ⟨r, hm, Nat.le_refl _⟩
  ·exact ⟨l[p], List.getElem_mem hp, by rw [hm]; simp⟩
 ·refine h.upd hp hp' (j := 4) (by omega) rfl (fun _ _ _ => rfl) ?_ ⟨hI.kind, hI.unit, hI.a, hI.b, fun t htm => hI.terms t (List.mem_of_mem_take htm)⟩ (.inl (by rw [htv]; rfl))
  rw [htv] at ht
  have := own_shrink ht (l[p].terms.length - 1) (by omega)
  rw [termCells_take] at this
  have e : (l[p].terms.take (l[p].terms.length - 1)).length = l[p].terms.length - 1 := by simp
  show World.ownsRow _ _ _ _ _ (l[p].terms.take (l[p].terms.length - 1)).length _
  rw [e]
  exact this
/-- A term more in row p. -/
theorem Copied.updMore {gg n cap : Nat} {w1 : World} {O : Obj} {v1 : Value} {t : Term} (h : Copied eR eT w B (.slice (some ⟨gg, 0, none⟩) n cap) l tvs) {p : Nat} (hp : p < l.length) (hp' : p < tvs.length) (htI : I64 t.unit ∧ I64 t.mask)
  (hg1 : ((w.alloc O).drew).grownBy w1 tvs[p].ownBlock) (hown1 : w1.ownsRow B eT 2 v1 (l[p].terms.length + 1) (termCells l[p].terms ++ termCells [t])) (hat1 : v1.ownBlock = tvs[p].ownBlock ∨ v1.ownBlock = some (w.heap.size + 1)) :
  ∃ L T, L.length = l.length ∧ (∀ r ∈ L, ∃ r0 ∈ l, r.terms.length ≤ r0.terms.length + 1) ∧ Copied eR eT (w1.setCell ⟨gg, p * 5 + 4, none⟩ v1) B (.slice (some ⟨gg, 0, none⟩) n cap) L T := by
 have hI := h.ints _ (List.getElem_mem hp)
 refine ⟨l.set p { l[p] with terms := l[p].terms ++ [t] }, tvs.set p v1, by simp, ?_, ?_⟩
 ·intro r hr
  rcases List.mem_or_eq_of_mem_set hr with hm | hm
  ·exact ⟨r, hm, Nat.le_succ _⟩
  ·exact ⟨l[p], List.getElem_mem hp, by rw [hm]; simp⟩
 ·refine h.upd hp hp' (j := 4) (by omega) rfl ?_ ?_ ⟨hI.kind, hI.unit, hI.a, hI.b, ?_⟩ ?_
  ·intro g hg hgt
   rw [hg1.block g (by simp; omega) hgt]
   exact Below.heap_alloc w O g hg
  ·show World.ownsRow _ _ _ _ _ (l[p].terms ++ [t]).length (termCells (l[p].terms ++ [t]))
   rw [termCells_append, List.length_append]
   exact hown1
  ·intro x hx
   rcases List.mem_append.1 hx with hx | hx
   ·exact hI.terms x hx
   ·rw [List.mem_singleton.1 hx]; exact htI
  ·rcases hat1 with e | e
   ·exact .inl e
   ·exact .inr (.inr ⟨_, e, by omega⟩)
end
end Go.Proofs.YtfdjoknklpiooaaGreatDoor
end
section
/- Contract, with whose memory it is: linchpinmade.Bent. -/
namespace Go.Proofs.YtfdjoknklpiooaaGreatDoor
open Go Go.RowKit

def BentOwn (w : World) (n m : Nat) (e : Ending) (w' : World) : Prop :=
 ∃ v' L T, e = .returned v' ∧ Copied 25 73 w' w.heap.size v' L T ∧ L.length = n ∧ (∀ r ∈ L, r.terms.length ≤ m + 1) ∧ Below w.heap.size w w'

theorem place_eq (v n r : Int) (w : World) (hv : I64 v) (hn : I64 n) (hr : Hid (placeF v n = r)) :
  Calls Tryz.prog 12 #[.int .i64 v, .int .i64 n] w fun e w' => e = .returned (.int .i64 r) ∧ w = w' :=
 hr.out ▸ place_any v n w hv hn

/-- Copied rows: the first address. -/
theorem Copied.form {eR eT : TypeId} {w : World} {B : Nat} {v : Value} {l : List Row} {tvs : List Value} (h : Copied eR eT w B v l tvs) (hl : 0 < l.length) :
  ∃ g cap, v = .slice (some ⟨g, 0, none⟩) l.length cap ∧ B ≤ g ∧ g < w.heap.size ∧ l.length ≤ cap ∧ cap ≤ maxLen ∧
   ∀ p, (hp : p < l.length) → (hp' : p < tvs.length) → (w.cell? ⟨g, p * 5, none⟩ = some (.int .i64 l[p].kind) ∧ w.cell? ⟨g, p * 5 + 1, none⟩ = some (.int .i64 l[p].unit) ∧ w.cell? ⟨g, p * 5 + 2, none⟩ = some (.int .i64 l[p].a) ∧ w.cell? ⟨g, p * 5 + 3, none⟩ = some (.int .i64 l[p].b) ∧ w.cell? ⟨g, p * 5 + 4, none⟩ = some tvs[p]) ∧ ∀ o, w.frozen? ⟨g, o, none⟩ = false := by
 rcases h.own.2 with ⟨rfl, h0⟩ | ⟨g, cap, cur, rfl, hb, hg, h1, h2, h3, h4⟩
 ·omega
 ·refine ⟨g, cap, rfl, hb, (h.lt.1 g rfl).2, h1, h2, fun p hp hp' => ?_⟩
  have hc : ∀ j, j < 5 → w.cell? ⟨g, p * 5 + j, none⟩ = (rowCells l[p] tvs[p])[j]? := by
   intro j hj
   rw [cell_of_row w g _ cur eR (0, 0) hg, ← rowsCells_get h.len hp hp' j hj, ← h4, List.getElem?_take_of_lt (by omega), Array.getElem?_toList]
  exact ⟨⟨hc 0 (by omega), hc 1 (by omega), hc 2 (by omega), hc 3 (by omega), hc 4 (by omega)⟩, fun o => frozen_of_row w g o cur eR hg⟩

set_option maxRecDepth 100000 in
set_option maxHeartbeats 4000000 in
theorem bent_own (v : Value) (l : List Row) (m : Nat) (at_ which by_ : Int) (w : World) (h : SliceRd tRow w (Lt w.heap.size) v l) (hl : l.length ≤ 1000000) (hlt : ∀ r ∈ l, r.terms.length ≤ m) (hm : m ≤ 1000)
  (ha : I64 at_) (hw : I64 which) (hb : I64 by_) :
  Calls Tryz.prog 6 #[v, .int .i64 at_, .int .i64 which, .int .i64 by_] w (BentOwn w l.length m) := by
 have HH := hid h
 have HLT := hid hlt
 clear h hlt
 obtain ⟨it, hit⟩ := info_parts term_info
 have HIT := hid hit
 clear hit
 go_enter Tryz.func6, Tryz.ntmps6
 go_wp2_with fail
 refine (copyRows_any v l w HH.out hl (fun r hr => by have := HLT.out r hr; omega)).mono ?_
 rintro e w1 ⟨v1, tvs, rfl, hcop, hb1⟩
 have HCOP := hid hcop
 clear hcop
 obtain ⟨A1, cap1, rfl⟩ := own_form HCOP.out.own
 by_cases hz : l.length = 0
 ·have hzB : ((l.length : Int) == 0) = true := by rw [beq_iff_eq]; omega
  have HZ := hid hz
  clear hz
  go_wp2_with fail
  go_ret
  exact ⟨_, l, _, rfl, HCOP.out, rfl, fun r hr => by have := HLT.out r hr; omega, hb1⟩
 ·have hzB : ((l.length : Int) == 0) = false := by rw [beq_eq_false_iff_ne]; omega
  obtain ⟨g, cap, hv, hBg, hgl, hlc, hcm, hcells⟩ := HCOP.out.form (by omega)
  injection hv with e1 e2 e3
  subst e1; subst e3
  have HCELLS := hid hcells
  clear hcells e2
  unfold maxLen at hcm
  go_wp2_with fail
  have p0 := placeF_lo at_ l.length
  have p1 := placeF_hi at_ l.length (by omega)
  obtain ⟨p, hp⟩ : ∃ p : Nat, placeF at_ l.length = (p : Int) := ⟨(placeF at_ l.length).toNat, by omega⟩
  refine (place_eq at_ l.length p _ ha ⟨by omega, by omega⟩ (hid hp)).mono ?_
  rintro e w2 ⟨rfl, rfl⟩
  have hpl : p < l.length := by omega
  have hplI : (p : Int) < l.length := by omega
  have HP := hid hp
  clear hp p0 p1
  have hpt : p < tvs.length := by rw [HCOP.out.len]; exact hpl
  obtain ⟨⟨c0, c1, c2, c3, c4⟩, cf⟩ := HCELLS.out p hpl hpt
  go_wp2_with fail
  have w0 := placeF_lo which 7
  have w7 := placeF_hi which 7 (by omega)
  obtain ⟨q, hq⟩ : ∃ q : Int, placeF which 7 = q := ⟨_, rfl⟩
  rw [hq] at w0 w7
  have HQ := hid hq
  clear hq
  refine (place_eq which 7 q _ hw ⟨by omega, by omega⟩ HQ).mono ?_
  rintro e w2 ⟨rfl, rfl⟩
  have hq : q = 0 ∨ q = 1 ∨ q = 2 ∨ q = 3 ∨ q = 4 ∨ q = 5 ∨ q = 6 := by omega
  clear w0 w7
  rcases hq with rfl | rfl | rfl | rfl | rfl | rfl | rfl
  ·skip
   have hy8 := placeF_lo by_ 8
   have hy9 := placeF_hi by_ 8 (by omega)
   go_wp2_with fail
   refine (place_any by_ 8 _ hb ⟨by omega, by omega⟩).mono ?_
   rintro e w2 ⟨rfl, rfl⟩
   go_wp2_with fail
   obtain ⟨L, T, hL1, hL2, hL3⟩ := (HCOP.out.upd_field hpl (y := placeF by_ 8 - 1) ⟨by omega, by omega⟩).1
   go_ret
   exact ⟨_, L, _, rfl, hL3, hL1, (fun r hr => by obtain ⟨r0, h0, h1⟩ := hL2 r hr; have := HLT.out r0 h0; omega), hb1.setCell (p := ⟨g, _, none⟩) hBg _⟩
  ·skip
   have hy8 := placeF_lo by_ 9
   have hy9 := placeF_hi by_ 9 (by omega)
   go_wp2_with fail
   refine (place_any by_ 9 _ hb ⟨by omega, by omega⟩).mono ?_
   rintro e w2 ⟨rfl, rfl⟩
   go_wp2_with fail
   obtain ⟨L, T, hL1, hL2, hL3⟩ := (HCOP.out.upd_field hpl (y := placeF by_ 9 - 1) ⟨by omega, by omega⟩).2.1
   go_ret
   exact ⟨_, L, _, rfl, hL3, hL1, (fun r hr => by obtain ⟨r0, h0, h1⟩ := hL2 r hr; have := HLT.out r0 h0; omega), hb1.setCell (p := ⟨g, _, none⟩) hBg _⟩
  ·skip
   have hy8 := placeF_lo by_ ((l.length : Int) + 2)
   have hy9 := placeF_hi by_ ((l.length : Int) + 2) (by omega)
   go_wp2_with fail
   refine (place_any by_ ((l.length : Int) + 2) _ hb ⟨by omega, by omega⟩).mono ?_
   rintro e w2 ⟨rfl, rfl⟩
   go_wp2_with fail
   obtain ⟨L, T, hL1, hL2, hL3⟩ := (HCOP.out.upd_field hpl (y := placeF by_ ((l.length : Int) + 2) - 1) ⟨by omega, by omega⟩).2.2.1
   go_ret
   exact ⟨_, L, _, rfl, hL3, hL1, (fun r hr => by obtain ⟨r0, h0, h1⟩ := hL2 r hr; have := HLT.out r0 h0; omega), hb1.setCell (p := ⟨g, _, none⟩) hBg _⟩
  ·skip
   have hy8 := placeF_lo by_ ((l.length : Int) + 2)
   have hy9 := placeF_hi by_ ((l.length : Int) + 2) (by omega)
   go_wp2_with fail
   refine (place_any by_ ((l.length : Int) + 2) _ hb ⟨by omega, by omega⟩).mono ?_
   rintro e w2 ⟨rfl, rfl⟩
   go_wp2_with fail
   obtain ⟨L, T, hL1, hL2, hL3⟩ := (HCOP.out.upd_field hpl (y := placeF by_ ((l.length : Int) + 2) - 1) ⟨by omega, by omega⟩).2.2.2
   go_ret
   exact ⟨_, L, _, rfl, hL3, hL1, (fun r hr => by obtain ⟨r0, h0, h1⟩ := hL2 r hr; have := HLT.out r0 h0; omega), hb1.setCell (p := ⟨g, _, none⟩) hBg _⟩
  ·skip
   by_cases hz4 : 0 < l[p].terms.length
   ·obtain ⟨gt, tcap, hv4, hob, hBt, htl, htc, htm, hcel, hfr⟩ := own_addrU (HCOP.out.terms p hpl hpt) hz4
    have hne : gt ≠ g := fun e => own_ne HCOP.out.own (HCOP.out.terms p hpl hpt) HCOP.out.ne g rfl (by rw [hob, e])
    rw [hv4] at c4
    have HOB := hid hob
    clear hv4 hob
    have hl64 : l[p].terms.length ≤ 1000 := by have := HLT.out _ (List.getElem_mem hpl); omega
    have q0 := placeF_lo by_ l[p].terms.length
    have q1 := placeF_hi by_ l[p].terms.length (by omega)
    obtain ⟨q, hq⟩ : ∃ q : Nat, placeF by_ l[p].terms.length = (q : Int) := ⟨(placeF by_ l[p].terms.length).toNat, by omega⟩
    have hql : q < l[p].terms.length := by omega
    have d0 : w1.cell? ⟨gt, q * 2 + 1, none⟩ = some (.int .i64 l[p].terms[q].mask) := by rw [hcel (q * 2 + 1) (by omega)]; exact (termCells_get hql).2
    have df := hfr (q * 2 + 1)
    have m0 := placeF_lo by_ 70
    have m1 := placeF_hi by_ 70 (by omega)
    have r1 : (0 : Int) ≤ ↑q := by omega
    have r2 : (↑q : Int) < ↑l[p].terms.length := by omega
    clear hcel hfr q0 q1
    go_wp2_with fail
    go_region_held3 (fun w' => w'.cell? ⟨g, p * 5 + 4, none⟩ = some (.slice (some ⟨gt, 0, none⟩) l[p].terms.length tcap)) (go_keep)
     ((go_at_call 12; refine (place_any _ _ _ hb (by unfold I64; omega)).mono ?_; rintro e w' ⟨rfl, rfl⟩))
    all_goals
     go_wp2_with fail
     obtain ⟨L, T, hL1, hL2, hL3⟩ := HCOP.out.updMask hpl hpt hql HOB.out (y := placeF by_ 70) ⟨by omega, by omega⟩
     go_ret
     exact ⟨_, L, _, rfl, hL3.drew, hL1, (fun r hr => by obtain ⟨r0, h0, h1⟩ := hL2 r hr; have := HLT.out r0 h0; omega), (hb1.setCell (p := ⟨gt, _, none⟩) hBt _).drew⟩
   ·obtain ⟨TA, tcap, htv⟩ := own_form (HCOP.out.terms p hpl hpt)
    rw [htv] at c4
    clear htv
    have hz5 : l[p].terms.length ≤ 0 := by omega
    go_wp2_with fail
    go_ret
    exact ⟨_, l, _, rfl, HCOP.out, rfl, fun r hr => by have := HLT.out r hr; omega, hb1⟩
  ·skip
   by_cases hz4 : 0 < l[p].terms.length
   ·obtain ⟨gt, tcap, hv4, hob, hBt, htl, htc, htm, hcel, hfr⟩ := own_addrU (HCOP.out.terms p hpl hpt) hz4
    have HV4 := hid hv4
    rw [hv4] at c4
    clear hv4 hob hcel hfr
    have hl64 : l[p].terms.length ≤ 1000 := by have := HLT.out _ (List.getElem_mem hpl); omega
    unfold maxLen at htm
    have r1 : (0 : Int) ≤ ↑l[p].terms.length - 1 := by omega
    have r2 : (↑l[p].terms.length : Int) - 1 ≤ ↑tcap := by omega
    have r5 : (1 : Int) ≤ ↑l[p].terms.length := by omega
    have r6 : (↑l[p].terms.length : Int) ≤ ↑tcap + 1 := by omega
    have r3 : ((↑l[p].terms.length : Int) - 1).toNat = l[p].terms.length - 1 := by omega
    have r4 : IntKind.i64.wrap ((↑l[p].terms.length : Int) - 1) = ↑l[p].terms.length - 1 := IntWalk.i64_in _ (by omega)
    go_wp2_with fail
    go_region_law (fail)
    all_goals
     go_wp2_with fail
     obtain ⟨L, T, hL1, hL2, hL3⟩ := HCOP.out.updCut hpl hpt HV4.out
     go_ret
     exact ⟨_, L, _, rfl, hL3.drew, hL1, (fun r hr => by obtain ⟨r0, h0, h1⟩ := hL2 r hr; have := HLT.out r0 h0; omega), (hb1.setCell (p := ⟨g, _, none⟩) hBg _).drew⟩
   ·obtain ⟨TA, tcap, htv⟩ := own_form (HCOP.out.terms p hpl hpt)
    rw [htv] at c4
    clear htv
    have hz5 : l[p].terms.length ≤ 0 := by omega
    go_wp2_with fail
    go_ret
    exact ⟨_, l, _, rfl, HCOP.out, rfl, fun r hr => by have := HLT.out r hr; omega, hb1⟩
  ·skip
   obtain ⟨TA, tcap, htv⟩ := own_form (HCOP.out.terms p hpl hpt)
   rw [htv] at c4
   have HTV := hid htv
   have htt := HCOP.out.terms p hpl hpt
   rw [htv] at htt
   have HTT := hid htt
   clear htv htt
   have hl64 : l[p].terms.length ≤ 1000 := by have := HLT.out _ (List.getElem_mem hpl); omega
   have m0 := placeF_lo by_ 9
   have m1 := placeF_hi by_ 9 (by omega)
   have m2 := placeF_lo by_ 33
   have m3 := placeF_hi by_ 33 (by omega)
   go_wp2_with fail
   go_region_law ((first
    | (refine step_guard (.tmp 114) (.tmp 121) 23 rfl ?_
       refine step_append_src _ rfl (.tmp 114) (.tmp 121) _ rfl w.heap.size 73 it _ 2 16 Tryz.underlying23 HIT.out.1 HIT.out.2.1 HIT.out.2.2.1 HIT.out.2.2.2 rfl (by omega) (.slice TA l[p].terms.length tcap) l[p].terms.length (termCells l[p].terms) rfl (by with_reducible exact own_alloc_drew HTT.out _) (some ⟨w1.heap.size, 0, none⟩) 1 1 (termCells [⟨IntKind.i64.wrap (placeF by_ 9 - 1), placeF by_ 33⟩]) rfl (by exact src_new_drew _ _ rfl 2 _ rfl rfl) termCells_one (by unfold maxLen; omega) (by omega) (by have := hb1.size; simp; omega) ?_
       intro v9 w9 hown9 hg9 hat9
       have hb9 : ∀ o, w9.cell? ⟨g, o, none⟩ = w1.cell? ⟨g, o, none⟩ := fun o => World.cell?_of_block (by rw [hg9.block g (by simp; omega) (by intro e; exact own_ne HCOP.out.own (HCOP.out.terms p hpl hpt) HCOP.out.ne g rfl (by rw [HTV.out, e]))]; exact Below.heap_alloc w1 _ g hgl)
       have hf9 : ∀ o, w9.frozen? ⟨g, o, none⟩ = w1.frozen? ⟨g, o, none⟩ := fun o => World.frozen?_of_block (by rw [hg9.block g (by simp; omega) (by intro e; exact own_ne HCOP.out.own (HCOP.out.terms p hpl hpt) HCOP.out.ne g rfl (by rw [HTV.out, e]))]; exact Below.heap_alloc w1 _ g hgl)
       obtain ⟨A9, c9, rfl⟩ := own_form hown9)
    | (go_simp; go_at_call 12; refine (place_any _ _ _ hb (by unfold I64; omega)).mono ?_; rintro e w' ⟨rfl, rfl⟩)))
   all_goals
    go_wp2_with fail
    obtain ⟨L, T, hL1, hL2, hL3⟩ := HCOP.out.updMore (v1 := .slice A9 (l[p].terms.length + 1) c9) (t := ⟨IntKind.i64.wrap (placeF by_ 9 - 1), placeF by_ 33⟩) hpl hpt ⟨i64_wrap _, i64_of (x := placeF by_ 33) (by omega) (by omega)⟩ (by rw [HTV.out]; exact hg9) hown9 (by rw [HTV.out]; simpa using hat9)
    have hB9 : Below w.heap.size w w9 := ((hb1.alloc hb1.size _).drew).grown hg9 (by have := hb1.size; simp; omega) (fun k hk => (HTT.out.lt k hk).1)
    go_ret
    exact ⟨_, L, _, rfl, hL3, hL1, (fun r hr => by obtain ⟨r0, h0, h1⟩ := hL2 r hr; have := HLT.out r0 h0; omega), hB9.setCell (p := ⟨g, _, none⟩) hBg _⟩
end Go.Proofs.YtfdjoknklpiooaaGreatDoor
end
section
/- Contracts: linchpinmade.Choice, Size. -/
namespace Go.Proofs.YtfdjoknklpiooaaGreatDoor
open Go Go.RowKit

theorem choiceF_len : ∀ (ns : List Nat) (n : Nat), (choiceF ns n).length = ns.length
 | [], _ => rfl
 | k :: r, n => by simp [choiceF, choiceF_len r]
theorem drop_at22 {ns : List Nat} {k : Nat} (h : k < ns.length) : ns.drop k = ns[k] :: ns.drop (k + 1) := List.drop_eq_getElem_cons h
def ChoicePost (ns : List Nat) (n : Nat) (w : World) (e : Ending) (w' : World) : Prop := ∃ v, e = .returned v ∧ OwnF fInt 3 w.heap.size w' v (choiceF ns n) ∧ Below w.heap.size w w'
set_option maxRecDepth 100000 in
set_option maxHeartbeats 2000000 in
theorem choice_any (v : Value) (ns : List Nat) (n : Nat) (w : World) (h : UniRd w (Lt w.heap.size) v ns) (ho : NsOk ns) (hn : n ≤ 100000000) :
  Calls Tryz.prog 11 #[v, .int .i64 n] w (ChoicePost ns n w) := by
 have HO := hid ho
 obtain ⟨g, cap0, rfl, hg, hat⟩ := h
 have h11 := ho.hi
 obtain ⟨ii, hii⟩ := info_parts int_info
 have HII := hid hii
 have HAT := hid hat
 have HFIN : Hid (∀ L, L ++ choiceF [] 0 = choiceF ns n → L = choiceF ns n) := hid (fun L h => by simpa [choiceF] using h)
 clear ho hii hat
 go_enter Tryz.func11, Tryz.ntmps11
 go_wp2_with fail
 obtain ⟨w0, hw0⟩ : ∃ w0 : World, w0 = w.alloc (.cells #[.slice (some ⟨g, 0, none⟩) ns.length cap0] 29) := ⟨_, rfl⟩
 have hb0 : Below w.heap.size w w0 := hw0 ▸ balloc (b0 w) _
 have hl0 : w.heap.size < w0.heap.size := by rw [hw0]; simp
 have q0 : w0.cell? ⟨w.heap.size, 0, none⟩ = some (.slice (some ⟨g, 0, none⟩) ns.length cap0) := by rw [hw0, alloc_cell]; rfl
 have HB0 := hid hb0
 have HQ := hid q0
 rw [← hw0]
 clear hw0 hb0 q0
 go_loopw [1, 5, 6, 7] (fun nv ov iv _ wr => ∃ (k m : Nat) (L : List Int), k ≤ ns.length ∧ m ≤ 100000000 ∧ nv = .int .i64 m ∧ iv = .int .i64 k ∧ L.length = k ∧ Hid (L ++ choiceF (ns.drop k) m = choiceF ns n) ∧ Hid (OwnF fInt 3 w0.heap.size wr ov L) ∧ Hid (Below w0.heap.size w0 wr)) (fun _ _ iv _ _ => ns.length - (intOf iv).toNat)
 case atStart => exact ⟨0, n, [], Nat.zero_le _, hn, rfl, rfl, rfl, hid (by simp), hid (OwnF.nil _ _ _ _), hid (b0 w0)⟩
 case round =>
  obtain ⟨k, m, L, hk, hm, rfl, rfl, hL, heq, hown, hb⟩ := hrel
  obtain ⟨Ao, co, rfl⟩ := hown.out.form
  have d0 := cell_below hb.out hl0 HQ.out
  have HLk := hid hL
  clear hL
  by_cases hlt : k < ns.length
  ·obtain ⟨Ak, ck, hck⟩ := HAT.out k hlt
   have c0 := cell_below hb.out (Nat.lt_of_lt_of_le hg HB0.out.size) (cell_below HB0.out hg hck)
   have hnk := HO.out.le k hlt
   have HEQ : Hid (L ++ [((m % (ns[k] + 1) : Nat) : Int) - 1] ++ choiceF (ns.drop (k + 1)) (m / (ns[k] + 1)) = choiceF ns n) := hid (by
    have := heq.out
    rw [drop_at22 hlt] at this
    simpa [choiceF] using this)
   generalize ns[k] = q at *
   have hmod : (m : Int).tmod ((q : Int) + 1) = ((m % (q + 1) : Nat) : Int) := by
    rw [Int.tmod_eq_emod_of_nonneg (by omega)]; push_cast; rfl
   have hdiv : (m : Int).tdiv ((q : Int) + 1) = ((m / (q + 1) : Nat) : Int) := by
    rw [Int.tdiv_eq_ediv_of_nonneg (by omega)]; push_cast; rfl
   have hr1 : m % (q + 1) < q + 1 := Nat.mod_lt _ (by omega)
   have hd1 : m / (q + 1) ≤ m := Nat.div_le_self _ _
   have hz : ((q : Int) + 1 == 0) = false := by simp; omega
   have i1 : (0 : Int) ≤ ↑k := by omega
   have i2 : (↑k : Int) < ↑ns.length := by omega
   have HLLE : L.length ≤ 11 := by have := HLk.out; omega
   generalize m % (q + 1) = r at *
   generalize hdq : m / (q + 1) = d at *
   have HI := hid (show I64 ((r : Int) - 1) from ⟨by omega, by omega⟩)
   have y1 : IntKind.i64.wrap ((r : Int) - 1) = (r : Int) - 1 := IntWalk.i64_in _ (by omega)
   clear hck heq hdq
   go_wp2_with (at_builtin; go_must (refine wpList_append_src _ rfl (.tmp 23) (.tmp 28) _ rfl w0.heap.size 3 ii _ 1 8 Tryz.underlying22 HII.out.1 HII.out.2.1 HII.out.2.2.1 HII.out.2.2.2 rfl (by omega) (.slice Ao L.length co) L.length (fInt.all L) (by rfl) (by exact hown.out.1.alloc _) (some ⟨wr.heap.size, 0, none⟩) 1 1 (fInt.cells ((r : Int) - 1)) (by rfl) (by exact src_one (f := fInt) rfl) (by simp [fInt, Value.oneCell']) (by unfold maxLen; omega) (by omega) (by have := hb.out.size; simp; omega) ?_; intro v2 w2 hown2 hg2 hat2; have HB2 := hid (own_app (v2 := v2) (balloc hb.out _) (hown.out.alloc _) (by have := hb.out.size; simp; omega) hg2 rfl); have HO2 := hid (hown.out.snoc (e := 3) (B := w0.heap.size) (v' := v2) (show fInt.ok ((r : Int) - 1) from HI.out) hown2); clear hown2 hg2 hat2))
   exact ⟨⟨k + 1, d, L ++ [(r : Int) - 1], by omega, by omega, by go_num, by go_num, by rw [List.length_append, HLk.out]; rfl, HEQ, HO2, HB2⟩, by simp [intOf]; omega⟩
  ·have HF : Hid (L = choiceF ns n) := hid (by
    have := heq.out
    rw [List.drop_eq_nil_of_le (by omega)] at this
    simpa [choiceF] using this)
   go_wp2
   go_ret
   exact ⟨_, rfl, by rw [← HF.out]; exact hown.out.mono HB0.out.size, bstep HB0.out hb.out⟩

set_option maxHeartbeats 2000000 in
theorem size_any (v : Value) (ns : List Nat) (w : World) (h : UniRd w (Lt w.heap.size) v ns) (ho : NsOk ns) :
  Calls Tryz.prog 10 #[v] w fun e w' => e = .returned (.int .i64 (sizeN ns : Nat)) ∧ Below w.heap.size w w' := by
 have HO := hid ho
 obtain ⟨g, cap0, rfl, hg, hat⟩ := h
 have h11 := ho.hi
 have HAT := hid hat
 clear ho hat
 go_enter Tryz.func10, Tryz.ntmps10
 go_wp2_with fail
 obtain ⟨w0, hw0⟩ : ∃ w0 : World, w0 = w.alloc (.cells #[.slice (some ⟨g, 0, none⟩) ns.length cap0] 29) := ⟨_, rfl⟩
 have hb0 : Below w.heap.size w w0 := hw0 ▸ balloc (b0 w) _
 have q0 : w0.cell? ⟨w.heap.size, 0, none⟩ = some (.slice (some ⟨g, 0, none⟩) ns.length cap0) := by rw [hw0, alloc_cell]; rfl
 have HB0 := hid hb0
 have HQ := hid q0
 rw [← hw0]
 clear hw0 hb0 q0
 go_loopw [3, 4] (fun sv iv wr => ∃ k s : Nat, k ≤ ns.length ∧ s ≤ 5000000 ∧ sv = .int .i64 s ∧ iv = .int .i64 k ∧ wr = w0 ∧ Hid (sizeGo s (ns.drop k) = sizeN ns)) (fun _ iv _ => ns.length - (intOf iv).toNat)
 case atStart => exact ⟨0, 1, Nat.zero_le _, by omega, rfl, rfl, rfl, hid (by rw [List.drop_zero]; rfl)⟩
 case round =>
  obtain ⟨k, s, hk, hs, rfl, rfl, rfl, heq⟩ := hrel
  have d0 := HQ.out
  by_cases hlt : k < ns.length
  ·by_cases hbig : s < 1000000
   ·obtain ⟨Ak, ck, hck⟩ := HAT.out k hlt
    have c0 := cell_below HB0.out hg hck
    have hnk := HO.out.le k hlt
    have HEQ : Hid (sizeGo (s * (ns[k] + 1)) (ns.drop (k + 1)) = sizeN ns) := hid (by
     have := heq.out
     rw [drop_at22 hlt] at this
     unfold sizeGo at this
     rwa [if_pos hbig] at this)
    generalize ns[k] = q at *
    have hmul : (s : Int) * ((q : Int) + 1) = ((s * (q + 1) : Nat) : Int) := by push_cast; rfl
    have hle : s * (q + 1) ≤ 5000000 := by
     have : s * (q + 1) ≤ 1000000 * 5 := Nat.mul_le_mul (by omega) (by omega)
     omega
    have i1 : (0 : Int) ≤ ↑k := by omega
    have i2 : (↑k : Int) < ↑ns.length := by omega
    have i3 : (s : Int) < 1000000 := by omega
    generalize s * (q + 1) = s2 at *
    clear hck heq
    go_wp2
    exact ⟨⟨k + 1, s2, by omega, hle, by go_num, by go_num, by first | trivial | rfl, HEQ⟩, by simp [intOf]; omega⟩
   ·have HF : Hid (sizeN ns = s) := hid (by
     have := heq.out
     rw [drop_at22 hlt] at this
     unfold sizeGo at this
     rw [if_neg hbig] at this
     exact this.symm)
    have i2 : (↑k : Int) < ↑ns.length := by omega
    have i3 : ¬ ((s : Int) < 1000000) := by omega
    go_wp2
    go_ret
    exact ⟨ret_int (by rw [HF.out]), HB0.out⟩
  ·have HF : Hid (sizeN ns = s) := hid (by
    have := heq.out
    rw [List.drop_eq_nil_of_le (by omega)] at this
    exact this.symm)
   go_wp2
   go_ret
   exact ⟨ret_int (by rw [HF.out]), HB0.out⟩
end Go.Proofs.YtfdjoknklpiooaaGreatDoor
end
