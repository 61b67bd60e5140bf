import Derived.Test.YtbfbppjccbppiaaGreatDoorzA
import Derived.Test.YtbfbppjccbppiaaGreatDoorRows
import Derived.Test.YtbfbppjccbppiaaGreatDoorzN9
namespace Go.Proofs.YtbfbppjccbppiaaGreatDoor
open Go Go.RowKit
section
theorem qm1 : ∀ (l : List Row) (tvs : List Value) (_ : tvs.length = l.length), (qd2 l tvs).length = l.length * 5
 | [], [], _ => rfl
 | r :: l, tv :: tvs, h => by
  have := qm1 l tvs (by simpa using h)
  simp [qd2, qe0, this]
  omega
 | [], _ :: _, h => by simp at h
 | _ :: _, [], h => by simp at h
theorem qw6 {l : List Row} {tvs : List Value} (h : tvs.length = l.length) {p : Nat} (hp : p < l.length) (hp' : p < tvs.length) {j : Nat} (hj : j < 5) {x : Value} {r' : Row} {tv' : Value}
  (hx : qe0 r' tv' = (qe0 l[p] tvs[p]).set j x) : (qd2 l tvs).set (p * 5 + j) x = qd2 (l.set p r') (tvs.set p tv') := by
 have hL : (tvs.set p tv').length = (l.set p r').length := by simp [h]
 have h1 := qm1 l tvs h
 have h2 := qm1 _ _ hL
 have h3 : (l.set p r').length = l.length := by simp
 apply List.ext_getElem?
 intro i
 by_cases hi : i < l.length * 5
 ·have hq : i / 5 < l.length := by omega
  have hq' : i / 5 < tvs.length := by omega
  have e : i = i / 5 * 5 + i % 5 := by omega
  have hm : i % 5 < 5 := by omega
  have hs := qj0 hL (k := i / 5) (by simp; exact hq) (by simp; exact hq') (i % 5) hm
  rw [← e] at hs
  rw [hs, List.getElem?_set]
  have ho := qj0 h (k := i / 5) hq hq' (i % 5) hm
  rw [← e] at ho
  by_cases hpq : p = i / 5
  ·subst hpq
   simp only [List.getElem_set_self, hx]
   rw [List.getElem?_set]
   by_cases hjm : j = i % 5
   ·have e2 : i / 5 * 5 + j = i := by omega
    rw [if_pos e2, if_pos (by omega), if_pos hjm, if_pos (by simp [qe0]; omega)]
   ·rw [if_neg (by omega), if_neg hjm, ho]
  ·rw [if_neg (by omega), ho, List.getElem_set_ne hpq, List.getElem_set_ne hpq]
 ·rw [List.getElem?_eq_none (by simp; omega), List.getElem?_eq_none (by omega)]
theorem own_setU {w : World} {B : Nat} {e : TypeId} {s n g cap : Nat} {xs : List Value} (h : w.ownsRow B e s (.slice (some ⟨g, 0, none⟩) n cap) n xs) (q : Nat) (_ : q < n * s) (x : Value) :
  (w.setCell ⟨g, q, none⟩ x).ownsRow B e s (.slice (some ⟨g, 0, none⟩) n cap) n (xs.set q x) := by
 refine ⟨by rw [List.length_set]; exact h.1, ?_⟩
 rcases h.2 with ⟨h0, _⟩ | ⟨a, c, cur, hv, hb, hg, h1, h2, h3, h4⟩
 ·cases h0
 ·injection hv with e1 e2 e3
  injection e1 with e1
  injection e1 with e1
  subst e1; subst e3
  refine .inr ⟨g, cap, cur.setIfInBounds q x, rfl, hb, heap_setCell_same w g q cur e x hg, h1, h2, by simpa using h3, ?_⟩
  rw [Array.toList_setIfInBounds, List.take_set, h4]
theorem own_shrink {w : World} {B : Nat} {e : TypeId} {s n g cap : Nat} {xs : List Value} (h : w.ownsRow B e s (.slice (some ⟨g, 0, none⟩) n cap) n xs) (m : Nat) (hm : m ≤ n) :
  w.ownsRow B e s (.slice (some ⟨g, 0, none⟩) m cap) m (xs.take (m * s)) := by
 have hms : m * s ≤ n * s := Nat.mul_le_mul_right s hm
 refine ⟨by rw [List.length_take, h.1]; omega, ?_⟩
 rcases h.2 with ⟨h0, _⟩ | ⟨a, c, cur, hv, hb, hg, h1, h2, h3, h4⟩
 ·cases h0
 ·injection hv with e1 e2 e3
  injection e1 with e1
  injection e1 with e1
  subst e1; subst e3
  refine .inr ⟨g, cap, cur, rfl, hb, hg, by omega, h2, h3, ?_⟩
  rw [← h4, List.take_take]
  congr 1
  omega
theorem qx1 : ∀ (l : List Term) (m : Nat), (qb2 l).take (m * 2) = qb2 (l.take m)
 | [], m => by simp [qb2]
 | t :: l, 0 => by simp [qb2]
 | t :: l, m + 1 => by
  have := qx1 l m
  have e : (m + 1) * 2 = m * 2 + 1 + 1 := by omega
  rw [e]
  simp [qb2, this]
theorem qx0 : ∀ (l : List Term) (q : Nat) (h : q < l.length) (y : Int), (qb2 l).set (q * 2 + 1) (.int .i64 y) = qb2 (l.set q { l[q] with mask := y })
 | t :: l, 0, _, y => by simp [qb2]
 | t :: l, q + 1, h, y => by
  have := qx0 l q (by simpa using h) y
  have e : (q + 1) * 2 + 1 = q * 2 + 1 + 1 + 1 := by omega
  rw [e]
  simp [qb2, this]
section
variable {eR eT : TypeId} {w w1 w' : World} {B : Nat} {v : Value} {l : List Row} {tvs : List Value}
theorem Copied.upd0 (h : Copied eR eT w B v l tvs) {p : Nat} (hp : p < l.length) (hp' : p < tvs.length) {r' : Row} {tv' : Value}
  (hk : ∀ g, g < w.heap.size → some g ≠ v.ownBlock → some g ≠ tvs[p].ownBlock → w'.heap[g]? = w.heap[g]?)
  (ho : w'.ownsRow B eR 5 v l.length (qd2 (l.set p r') (tvs.set p tv')))
  (ht : w'.ownsRow B eT 2 tv' r'.terms.length (qb2 r'.terms)) (hr : RowI r')
  (hap : tv'.ownBlock = tvs[p].ownBlock ∨ tv'.ownBlock = none ∨ ∃ n, tv'.ownBlock = some n ∧ w.heap.size ≤ n) : Copied eR eT w' B v (l.set p r') (tvs.set p tv') := by
 have hne : ∀ k, (hk : k < tvs.length) → k ≠ p → ∀ g, tvs[k].ownBlock = some g → some g ≠ tvs[p].ownBlock := by
  intro k hk hkp g hg e
  rcases Nat.lt_or_gt_of_ne hkp with hlt | hgt
  ·exact h.apart k p hlt hp' g hg e.symm
  ·exact h.apart p k hgt hk g e.symm hg
 have hold : ∀ k, (hk' : k < tvs.length) → k ≠ p → ∀ g, tvs[k].ownBlock = some g → tv'.ownBlock ≠ some g := by
  intro k hk' hkp g hg hg'
  rcases hap with e | e | ⟨n, e, hn⟩
  ·rw [e] at hg'; exact hne k hk' hkp g hg hg'.symm
  ·rw [e] at hg'; cases hg'
  ·rw [e] at hg'
   injection hg' with hg'
   subst hg'
   have := (h.lt.2 k hk' _ hg).2
   omega
 refine ⟨h.ne, by simp [h.len], by rw [List.length_set]; exact ho, ?_, ?_, ?_⟩
 ·intro r hrm
  rcases List.mem_or_eq_of_mem_set hrm with hm | hm
  ·exact h.ints r hm
  ·rw [hm]; exact hr
 ·intro k hkl hkt
  rw [List.length_set] at hkl hkt
  by_cases hkp : k = p
  ·subst hkp
   simpa using ht
  ·rw [List.getElem_set_ne (Ne.symm hkp), List.getElem_set_ne (Ne.symm hkp)]
   refine qb3 (h.terms k hkl hkt) (fun g hg => hk g (h.lt.2 k hkt g hg).2 (fun e => own_ne h.own (h.terms k hkl hkt) h.ne g e.symm hg) (hne k hkt hkp g hg))
 ·intro j k hjk hkt g hgj hgk
  have hktt := hkt
  rw [List.length_set] at hktt
  by_cases hkp : k = p
  ·subst hkp
   rw [List.getElem_set_self] at hgk
   rw [List.getElem_set_ne (by omega)] at hgj
   exact hold j (by omega) (by omega) g hgj hgk
  ·rw [List.getElem_set_ne (Ne.symm hkp)] at hgk
   by_cases hjp : j = p
   ·subst hjp
    rw [List.getElem_set_self] at hgj
    exact hold k (by omega) hkp g hgk hgj
   ·rw [List.getElem_set_ne (Ne.symm hjp)] at hgj
    exact h.apart j k hjk hktt g hgj hgk
theorem Copied.upd {gg n cap : Nat} (h : Copied eR eT w B (.slice (some ⟨gg, 0, none⟩) n cap) l tvs) {p : Nat} (hp : p < l.length) (hp' : p < tvs.length) {j : Nat} (hj : j < 5) {x : Value} {r' : Row} {tv' : Value}
  (hx : qe0 r' tv' = (qe0 l[p] tvs[p]).set j x)
  (hk : ∀ g, g < w.heap.size → some g ≠ tvs[p].ownBlock → w1.heap[g]? = w.heap[g]?)
  (ht : w1.ownsRow B eT 2 tv' r'.terms.length (qb2 r'.terms)) (hr : RowI r')
  (hap : tv'.ownBlock = tvs[p].ownBlock ∨ tv'.ownBlock = none ∨ ∃ n, tv'.ownBlock = some n ∧ w.heap.size ≤ n) :
  Copied eR eT (w1.setCell ⟨gg, p * 5 + j, none⟩ x) B (.slice (some ⟨gg, 0, none⟩) n cap) (l.set p r') (tvs.set p tv') := by
 have hn : n = l.length := by
  rcases h.own.2 with ⟨h0, _⟩ | ⟨a, c, cur, hv, _⟩
  ·cases h0
  ·injection hv
 subst hn
 have hgp : some gg ≠ tvs[p].ownBlock := fun e => own_ne h.own (h.terms p hp hp') h.ne gg rfl e.symm
 have hggl := (h.lt.1 gg rfl).2
 have hgt' : some gg ≠ tv'.ownBlock := by
  intro e
  rcases hap with e' | e' | ⟨n, e', hn⟩
  ·exact hgp (e.trans e')
  ·rw [e'] at e; cases e
  ·rw [e'] at e; cases e; omega
 refine h.upd0 hp hp' ?_ ?_ ?_ hr hap
 ·intro g hg hgv hgt
  rw [heap_setCell_other _ _ _ _ (by intro e; apply hgv; rw [e]; rfl)]
  exact hk g hg hgt
 ·rw [← qw6 h.len hp hp' hj hx]
  have ho1 : w1.ownsRow B eR 5 (.slice (some ⟨gg, 0, none⟩) l.length cap) l.length (qd2 l tvs) := qb3 h.own (fun g hg => by
   have : g = gg := by simpa [Value.ownBlock] using hg.symm
   subst this
   exact hk g hggl hgp)
  exact own_setU ho1 (p * 5 + j) (by omega) x
 ·exact qb3 ht (fun g hg => heap_setCell_other _ _ _ _ (by intro e; apply hgt'; rw [hg]; rw [e]))
theorem Copied.upd_field {gg n cap : Nat} (h : Copied eR eT w B (.slice (some ⟨gg, 0, none⟩) n cap) l tvs) {p : Nat} (hp : p < l.length) {y : Int} (hy : I64 y) :
  (∃ L T, L.length = l.length ∧ (∀ r ∈ L, ∃ r0 ∈ l, r.terms.length = r0.terms.length) ∧ Copied eR eT (w.setCell ⟨gg, p * 5, none⟩ (.int .i64 y)) B (.slice (some ⟨gg, 0, none⟩) n cap) L T) ∧
  (∃ L T, L.length = l.length ∧ (∀ r ∈ L, ∃ r0 ∈ l, r.terms.length = r0.terms.length) ∧ Copied eR eT (w.setCell ⟨gg, p * 5 + 1, none⟩ (.int .i64 y)) B (.slice (some ⟨gg, 0, none⟩) n cap) L T) ∧
  (∃ L T, L.length = l.length ∧ (∀ r ∈ L, ∃ r0 ∈ l, r.terms.length = r0.terms.length) ∧ Copied eR eT (w.setCell ⟨gg, p * 5 + 2, none⟩ (.int .i64 y)) B (.slice (some ⟨gg, 0, none⟩) n cap) L T) ∧
  (∃ L T, L.length = l.length ∧ (∀ r ∈ L, ∃ r0 ∈ l, r.terms.length = r0.terms.length) ∧ Copied eR eT (w.setCell ⟨gg, p * 5 + 3, none⟩ (.int .i64 y)) B (.slice (some ⟨gg, 0, none⟩) n cap) L T) := by
 have hp' : p < tvs.length := by rw [h.len]; exact hp
 have hI := h.ints _ (List.getElem_mem hp)
 have hm : ∀ r', r'.terms.length = l[p].terms.length → ∀ r ∈ l.set p r', ∃ r0 ∈ l, r.terms.length = r0.terms.length := by
  intro r' e r hr
  rcases List.mem_or_eq_of_mem_set hr with hm | hm
  ·exact ⟨r, hm, rfl⟩
  ·exact ⟨l[p], List.getElem_mem hp, by rw [hm, e]⟩
 refine ⟨⟨l.set p { l[p] with kind := y }, tvs.set p tvs[p], by simp, hm _ rfl, ?_⟩, ⟨l.set p { l[p] with unit := y }, tvs.set p tvs[p], by simp, hm _ rfl, ?_⟩, ⟨l.set p { l[p] with a := y }, tvs.set p tvs[p], by simp, hm _ rfl, ?_⟩, ⟨l.set p { l[p] with b := y }, tvs.set p tvs[p], by simp, hm _ rfl, ?_⟩⟩
 ·exact h.upd hp hp' (j := 0) (by omega) rfl (fun _ _ _ => rfl) (h.terms p hp hp') ⟨hy, hI.unit, hI.a, hI.b, hI.terms⟩ (.inl rfl)
 ·exact h.upd hp hp' (j := 1) (by omega) rfl (fun _ _ _ => rfl) (h.terms p hp hp') ⟨hI.kind, hy, hI.a, hI.b, hI.terms⟩ (.inl rfl)
 ·exact h.upd hp hp' (j := 2) (by omega) rfl (fun _ _ _ => rfl) (h.terms p hp hp') ⟨hI.kind, hI.unit, hy, hI.b, hI.terms⟩ (.inl rfl)
 ·exact h.upd hp hp' (j := 3) (by omega) rfl (fun _ _ _ => rfl) (h.terms p hp hp') ⟨hI.kind, hI.unit, hI.a, hy, hI.terms⟩ (.inl rfl)
end
theorem i64_of {x : Int} (h0 : -9223372036854775808 ≤ x) (h1 : x ≤ 9223372036854775807) : I64 x := ⟨h0, h1⟩
theorem Copied.drew {eR eT : TypeId} {w : World} {B : Nat} {v : Value} {l : List Row} {tvs : List Value} (h : Copied eR eT w B v l tvs) : Copied eR eT w.drew B v l tvs :=
 h.keep (fun _ _ => rfl) (fun _ _ _ _ => rfl)
theorem set_same {α : Type} {l : List α} {i : Nat} {x : α} (h : l[i]? = some x) : l.set i x = l := by
 apply List.ext_getElem?
 intro k
 rw [List.getElem?_set]
 by_cases hk : i = k
 ·subst hk
  rw [if_pos rfl, if_pos (List.getElem?_eq_some_iff.1 h).1, h]
 ·rw [if_neg hk]
theorem zi9 {w : World} {B : Nat} {e : TypeId} {s n : Nat} {v : Value} {xs : List Value} (h : w.ownsRow B e s v n xs) (hn : 0 < n) :
  ∃ g cap, v = .slice (some ⟨g, 0, none⟩) n cap ∧ v.ownBlock = some g ∧ B ≤ g ∧ g < w.heap.size ∧ n ≤ cap ∧ cap ≤ maxLen ∧ (∀ i, i < n * s → w.cell? ⟨g, i, none⟩ = xs[i]?) ∧ ∀ o, w.frozen? ⟨g, o, none⟩ = false := by
 have hlt := h.lt
 rcases h.2 with ⟨rfl, h0⟩ | ⟨g, cap, cur, rfl, hb, hg, h1, h2, h3, h4⟩
 ·omega
 ·refine ⟨g, cap, rfl, rfl, hb, (hlt g rfl).2, h1, h2, fun i hi => ?_, fun o => frozen_of_row w g o cur e hg⟩
  rw [cell_of_row w g i cur e (0, 0) hg, ← h4, List.getElem?_take_of_lt hi, Array.getElem?_toList]
section
variable {eR eT : TypeId} {w : World} {B : Nat} {v : Value} {l : List Row} {tvs : List Value}
theorem Copied.updMask (h : Copied eR eT w B v l tvs) {p q : Nat} (hp : p < l.length) (hp' : p < tvs.length) (hq : q < l[p].terms.length) {gt : Nat} (hgt : tvs[p].ownBlock = some gt) {y : Int} (hy : I64 y) :
  ∃ L T, L.length = l.length ∧ (∀ r ∈ L, ∃ r0 ∈ l, r.terms.length = r0.terms.length) ∧ Copied eR eT (w.setCell ⟨gt, q * 2 + 1, none⟩ (.int .i64 y)) B v L T := by
 have hI := h.ints _ (List.getElem_mem hp)
 have ht := h.terms p hp hp'
 obtain ⟨g', cap, hv', hb', _, _, _, _, _, _⟩ := zi9 ht (by omega)
 rw [hb'] at hgt
 injection hgt with hgt
 subst hgt
 refine ⟨l.set p { l[p] with terms := l[p].terms.set q { l[p].terms[q] with mask := y } }, tvs.set p tvs[p], by simp, ?_, ?_⟩
 ·intro r hr
  rcases List.mem_or_eq_of_mem_set hr with hm | hm
  ·exact ⟨r, hm, rfl⟩
  ·exact ⟨l[p], List.getElem_mem hp, by rw [hm]; simp⟩
 ·refine h.upd0 hp hp' ?_ ?_ ?_ ⟨hI.kind, hI.unit, hI.a, hI.b, ?_⟩ (.inl rfl)
  ·intro g hg hgv hgt
   exact heap_setCell_other _ _ _ _ (by intro e; apply hgt; rw [hb', e])
  ·have e0 : (qd2 l tvs)[p * 5]? = some (.int .i64 l[p].kind) := by
    have := qj0 h.len hp hp' 0 (by omega)
    simpa [qe0] using this
   have e1 := qw6 h.len hp hp' (j := 0) (by omega) (x := .int .i64 l[p].kind) (r' := { l[p] with terms := l[p].terms.set q { l[p].terms[q] with mask := y } }) (tv' := tvs[p]) rfl
   rw [← e1]
   rw [set_same (show (qd2 l tvs)[p * 5 + 0]? = _ from e0)]
   exact qb3 h.own (fun g hg => heap_setCell_other _ _ _ _ (by intro e; exact own_ne h.own ht h.ne g hg (by rw [hb', e])))
  ·show World.ownsRow _ _ _ _ _ (l[p].terms.set q _).length (qb2 (l[p].terms.set q _))
   rw [List.length_set, ← qx0]
   have hw2 : tvs[p] = .slice (some ⟨g', 0, none⟩) l[p].terms.length cap := hv'
   rw [hw2] at ht ⊢
   exact own_setU ht (q * 2 + 1) (by omega) _
  ·intro t htm
   rcases List.mem_or_eq_of_mem_set htm with hm | hm
   ·exact hI.terms t hm
   ·rw [hm]; exact ⟨(hI.terms _ (List.getElem_mem hq)).1, hy⟩
theorem Copied.updCut {gg n cap : Nat} (h : Copied eR eT w B (.slice (some ⟨gg, 0, none⟩) n cap) l tvs) {p : Nat} (hp : p < l.length) (hp' : p < tvs.length) {gt tcap : Nat} (htv : tvs[p] = .slice (some ⟨gt, 0, none⟩) l[p].terms.length tcap) :
  ∃ L T, L.length = l.length ∧ (∀ r ∈ L, ∃ r0 ∈ l, r.terms.length ≤ r0.terms.length) ∧ Copied eR eT (w.setCell ⟨gg, p * 5 + 4, none⟩ (.slice (some ⟨gt, 0, none⟩) (l[p].terms.length - 1) tcap)) B (.slice (some ⟨gg, 0, none⟩) n cap) L T := by
 have hI := h.ints _ (List.getElem_mem hp)
 have ht := h.terms p hp hp'
 refine ⟨l.set p { l[p] with terms := l[p].terms.take (l[p].terms.length - 1) }, tvs.set p (.slice (some ⟨gt, 0, none⟩) (l[p].terms.length - 1) tcap), by simp, ?_, ?_⟩
 ·intro r hr
  rcases List.mem_or_eq_of_mem_set hr with hm | hm
  ·exact ⟨r, hm, Nat.le_refl _⟩
  ·exact ⟨l[p], List.getElem_mem hp, by rw [hm]; simp⟩
 ·refine h.upd hp hp' (j := 4) (by omega) rfl (fun _ _ _ => rfl) ?_ ⟨hI.kind, hI.unit, hI.a, hI.b, fun t htm => hI.terms t (List.mem_of_mem_take htm)⟩ (.inl (by rw [htv]; rfl))
  rw [htv] at ht
  have := own_shrink ht (l[p].terms.length - 1) (by omega)
  rw [qx1] at this
  have e : (l[p].terms.take (l[p].terms.length - 1)).length = l[p].terms.length - 1 := by simp
  show World.ownsRow _ _ _ _ _ (l[p].terms.take (l[p].terms.length - 1)).length _
  rw [e]
  exact this
theorem Copied.updMore {gg n cap : Nat} {w1 : World} {O : Obj} {v1 : Value} {t : Term} (h : Copied eR eT w B (.slice (some ⟨gg, 0, none⟩) n cap) l tvs) {p : Nat} (hp : p < l.length) (hp' : p < tvs.length) (htI : I64 t.unit ∧ I64 t.mask)
  (hg1 : ((w.alloc O).drew).grownBy w1 tvs[p].ownBlock) (hown1 : w1.ownsRow B eT 2 v1 (l[p].terms.length + 1) (qb2 l[p].terms ++ qb2 [t])) (hat1 : v1.ownBlock = tvs[p].ownBlock ∨ v1.ownBlock = some (w.heap.size + 1)) :
  ∃ L T, L.length = l.length ∧ (∀ r ∈ L, ∃ r0 ∈ l, r.terms.length ≤ r0.terms.length + 1) ∧ Copied eR eT (w1.setCell ⟨gg, p * 5 + 4, none⟩ v1) B (.slice (some ⟨gg, 0, none⟩) n cap) L T := by
 have hI := h.ints _ (List.getElem_mem hp)
 refine ⟨l.set p { l[p] with terms := l[p].terms ++ [t] }, tvs.set p v1, by simp, ?_, ?_⟩
 ·intro r hr
  rcases List.mem_or_eq_of_mem_set hr with hm | hm
  ·exact ⟨r, hm, Nat.le_succ _⟩
  ·exact ⟨l[p], List.getElem_mem hp, by rw [hm]; simp⟩
 ·refine h.upd hp hp' (j := 4) (by omega) rfl ?_ ?_ ⟨hI.kind, hI.unit, hI.a, hI.b, ?_⟩ ?_
  ·intro g hg hgt
   rw [hg1.block g (by simp; omega) hgt]
   exact Below.heap_alloc w O g hg
  ·show World.ownsRow _ _ _ _ _ (l[p].terms ++ [t]).length (qb2 (l[p].terms ++ [t]))
   rw [qs1, List.length_append]
   exact hown1
  ·intro x hx
   rcases List.mem_append.1 hx with hx | hx
   ·exact hI.terms x hx
   ·rw [List.mem_singleton.1 hx]; exact htI
  ·rcases hat1 with e | e
   ·exact .inl e
   ·exact .inr (.inr ⟨_, e, by omega⟩)
end
end
section
theorem row_info : (Tryz.prog.info? 49).map (fun i => (i.zero, i.size, i.bytes)) = some (some (.agg #[.int .i64 0, .int .i64 0, .int .i64 0, .int .i64 0, .slice none 0 0]), 5, 56) := by kernel_rfl
set_option maxHeartbeats 1000000 in
theorem copyRows_any (v : Value) (l : List Row) (w : World) (h : SliceRd tRow w (Lt w.heap.size) v l) (hl : l.length ≤ 1000000) (hlt : ∀ r ∈ l, r.terms.length ≤ 1000000) :
    Calls Tryz.prog 11 #[v] w fun e w' => ∃ v' tvs, e = .returned v' ∧ Copied 49 66 w' w.heap.size v' l tvs ∧ Below w.heap.size w w' := by
  obtain ⟨A, cap, rfl, hcap, hmax, hc⟩ := h.rows
  have HC := hid hc
  unfold maxLen at hmax
  clear h hc
  obtain ⟨ir, hir⟩ := info_parts row_info
  have HIR := hid hir
  obtain ⟨it, hit⟩ := info_parts qk7
  have HIT := hid hit
  clear hir hit
  have HL := hid hlt
  clear hlt
  go_enter Tryz.func11, Tryz.ntmps11
  go_wp2
  go_loopw [3, 4] (fun u v wr => ∃ k : Nat, k ≤ l.length ∧ v = .int .i64 k ∧ Below w.heap.size w wr ∧ Hid (∃ tvs, Copied 49 66 wr w.heap.size u (l.take k) tvs)) (fun _ v _ => l.length - (intOf v).toNat)
  case atStart => exact ⟨0, Nat.zero_le _, rfl, Below.refl _ _, hid ⟨[], Copied.nil (by decide) _ _⟩⟩
  case round =>
    obtain ⟨k, hk, rfl, hb, hcop⟩ := hrel
    by_cases hlt : k < l.length
    · obtain ⟨g, o, tv, hA, hF, g0, g1, g2, g3, g4, ⟨i0, i1, i2, i3⟩, ht⟩ := HC.out k hlt
      cases hA
      have c0 := cell_below hb hF g0
      have c1 := cell_below hb hF g1
      have c2 := cell_below hb hF g2
      have c3 := cell_below hb hF g3
      have c4 := cell_below hb hF g4
      have HT := hid ht
      clear g0 g1 g2 g3 g4 ht
      have hbb : g < wr.heap.size := Nat.lt_of_lt_of_le hF hb.size
      obtain ⟨TA, tcap, rfl, htcap, htmax, -⟩ := HT.out.terms
      have HSRC : Hid (∀ W', Below w.heap.size w W' → Src W' TA l[k].terms.length 2 (qb2 l[k].terms)) := hid (fun W' hW => ((HT.out.below hW).src).2.1)
      have hlk : l[k].terms.length ≤ 1000000 := HL.out _ (List.getElem_mem hlt)
      have hsz : w.heap.size ≤ wr.heap.size := hb.size
      obtain ⟨tvs, hcop'⟩ := hcop.out
      have HCOP := hid hcop'
      have HRI : Hid (RowI l[k]) := hid ⟨i0, i1, i2, i3, HT.out.src.2.2⟩
      clear hcop'
      go_wp2_with (first
        | (at_builtin
           refine qa5 _ rfl (.const (.slice none 0 0)) (.tmp 17) _ rfl w.heap.size 66 it _ 2 16 Tryz.underlying47 HIT.out.1 HIT.out.2.1 HIT.out.2.2.1 HIT.out.2.2.2 rfl (by omega) (.slice none 0 0) 0 [] rfl ⟨rfl, .inl ⟨rfl, rfl⟩⟩ TA l[k].terms.length tcap (qb2 l[k].terms) rfl (HSRC.out _ (by exact hb.alloc hb.size _)) qr7 (by unfold maxLen; omega) (by omega) (by simp; omega) ?_
           intro v1 w1 hown1 hg1 hat1
           have hB1 := (Below.refl _ _).grown hg1 (Nat.le_refl _) (by intro k h; cases h)
           obtain ⟨hbc1, hbf1⟩ := qb4 hB1
           have hz1 : wr.heap.size < w1.heap.size := by have := hB1.size; simp at this; omega
           obtain ⟨A1, c1, rfl⟩ := qb1 hown1)
        | (at_builtin
           obtain ⟨hBw, hstep⟩ := copied_step HCOP.out hsz HRI.out hg1 hown1 hat1 4 (.slice A1 l[k].terms.length c1) (.cells #[.int .i64 l[k].kind, .int .i64 l[k].unit, .int .i64 l[k].a, .int .i64 l[k].b, .slice A1 l[k].terms.length c1] 49)
           refine qa5 _ rfl (.tmp 20) (.tmp 22) _ rfl w.heap.size 49 ir _ 5 56 Tryz.underlying28 HIR.out.1 HIR.out.2.1 HIR.out.2.2.1 HIR.out.2.2.2 rfl (by omega) u3 (l.take k).length (qd2 (l.take k) tvs) rfl (by exact (HCOP.out.below hBw (Nat.le_refl _)).own) (some ⟨w1.heap.size, 0, none⟩) 1 1 (qe0 l[k] (.slice A1 l[k].terms.length c1)) rfl (by exact qe1 _ _ (by simp) 5 _ rfl rfl) (by simp [qe0, Value.oneCell']) (by rw [List.length_take]; unfold maxLen; omega) (by rw [List.length_take]; omega) (by exact Nat.le_trans hsz hBw.size) ?_
           intro v2 w2 hown2 hg2 hat2
           have HC2 := hid (hstep _ _ hg2 hown2)
           have hB2 := (hb.trans (hBw.mono hsz)).grown hg2 (by exact Nat.le_trans hsz hBw.size) (by intro k' h'; exact ((HCOP.out.lt).1 k' h').1)
           clear hown1 hat1 hg1 hown2 hat2 hstep hg2))
      refine ⟨⟨k + 1, by omega, by go_num, hB2, hid ⟨tvs ++ [.slice A1 l[k].terms.length c1], ?_⟩⟩, by simp [intOf]; omega⟩
      rw [List.take_succ_eq_append_getElem hlt]
      exact HC2.out
    · obtain ⟨tvs, hc'⟩ := hcop.out
      rw [List.take_of_length_le (by omega)] at hc'
      have HF := hid hc'
      clear hc' hcop
      go_wp2
      go_ret
      exact ⟨u3, tvs, rfl, HF.out, hb⟩
end
end Go.Proofs.YtbfbppjccbppiaaGreatDoor
