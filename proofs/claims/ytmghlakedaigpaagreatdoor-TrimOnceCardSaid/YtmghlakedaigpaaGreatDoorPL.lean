/- Copied rows put behind copied rows. No program stands here. -/
import Derived.Test.YtmghlakedaigpaaGreatDoorzU
namespace Go.Proofs.YtmghlakedaigpaaGreatDoor
open Go Go.RowKit

theorem own_src {w : World} {B : Nat} {e : TypeId} {s n c : Nat} {A : Option Addr} {xs : List Value} (h : w.ownsRow B e s (.slice A n c) n xs) : Src w A n s xs := by
  refine ⟨h.1, fun hn => ?_⟩
  rcases h.2 with ⟨hv, h0⟩ | ⟨g, cap, cur, hv, hb, hg, h1, h2, h3, h4⟩
  · omega
  · injection hv with e1 e2 e3
    subst e1
    refine ⟨⟨g, 0, none⟩, rfl, fun j u hu => ?_⟩
    have hj : j < n * s := by
      rw [← h.1]
      exact (List.getElem?_eq_some_iff.1 hu).1
    rw [add_mk, cell_of_row w g _ cur e (0, 0) hg, Nat.zero_add]
    show cur[j]? = some u
    rw [← hu, ← h4, List.getElem?_take_of_lt hj, Array.getElem?_toList]
theorem rowsCells_append : ∀ (l : List Row) (t : List Value) (_ : t.length = l.length) (m : List Row) (s : List Value), rowsCells (l ++ m) (t ++ s) = rowsCells l t ++ rowsCells m s
  | [], [], _, _, _ => rfl
  | r :: l, tv :: t, h, m, s => by
    have := rowsCells_append l t (by simpa using h) m s
    show rowCells r tv ++ rowsCells (l ++ m) (t ++ s) = (rowCells r tv ++ rowsCells l t) ++ rowsCells m s
    rw [this, List.append_assoc]
  | [], _ :: _, h, _, _ => by simp at h
  | _ :: _, [], h, _, _ => by simp at h
theorem rowsCells_one : ∀ (l : List Row) (t : List Value) (_ : ∀ v ∈ t, ∃ A n c, v = Value.slice A n c), ∀ u ∈ rowsCells l t, u.oneCell' = true
  | [], _, _, u, hu => by simp [rowsCells] at hu
  | _ :: _, [], _, u, hu => by simp [rowsCells] at hu
  | r :: l, tv :: t, h, u, hu => by
    obtain ⟨A, n, c, rfl⟩ := h tv (List.mem_cons_self ..)
    rcases List.mem_append.1 (show u ∈ rowCells r (.slice A n c) ++ rowsCells l t from hu) with hu | hu
    · simp [rowCells] at hu
      rcases hu with rfl | rfl | rfl | rfl | rfl <;> rfl
    · exact rowsCells_one l t (fun v hv => h v (List.mem_cons_of_mem _ hv)) u hu
section
variable {eR eT : TypeId} {w w' : World} {B : Nat} {v v1 v2 v' : Value} {l l1 l2 : List Row} {tvs t1 t2 : List Value}
theorem Copied.slices (h : Copied eR eT w B v l tvs) : ∀ u ∈ tvs, ∃ A n c, u = Value.slice A n c := fun u hu => by
  obtain ⟨k, hk, rfl⟩ := List.getElem_of_mem hu
  obtain ⟨A, c, hv⟩ := own_form (h.terms k (by rw [← h.len]; exact hk) hk)
  exact ⟨A, _, c, hv⟩
theorem Copied.monoB {B' : Nat} (h : Copied eR eT w B v l tvs) (hB : B' ≤ B) : Copied eR eT w B' v l tvs := by
  have hm : ∀ {e : TypeId} {s n : Nat} {u : Value} {xs : List Value}, w.ownsRow B e s u n xs → w.ownsRow B' e s u n xs := fun {e s n u xs} ho => by
    refine ⟨ho.1, ?_⟩
    rcases ho.2 with h1 | ⟨g, cap, cur, h1, h2, h3⟩
    · exact .inl h1
    · exact .inr ⟨g, cap, cur, h1, Nat.le_trans hB h2, h3⟩
  exact ⟨h.ne, h.len, hm h.own, h.ints, fun k a b => hm (h.terms k a b), h.apart⟩
theorem Copied.app (h1 : Copied eR eT w B v1 l1 t1) (h2 : Copied eR eT w B v2 l2 t2) (hap : ∀ j k, (hj : j < t1.length) → (hk : k < t2.length) → ∀ g, t1[j].ownBlock = some g → t2[k].ownBlock ≠ some g)
    (ho : w'.ownsRow B eR 5 v' (l1.length + l2.length) (rowsCells l1 t1 ++ rowsCells l2 t2)) (hg : w.grownBy w' v1.ownBlock) : Copied eR eT w' B v' (l1 ++ l2) (t1 ++ t2) := by
  have hne : ∀ {n : Nat} {u : Value} {xs : List Value}, w.ownsRow B eT 2 u n xs → w'.ownsRow B eT 2 u n xs := fun hu =>
    ownsRow_keep hu fun g hgu => hg.block g (hu.lt g hgu).2 (fun e => own_ne h1.own hu h1.ne g e.symm hgu)
  refine ⟨h1.ne, by rw [List.length_append, List.length_append, h1.len, h2.len], ?_, fun r hr => ?_, fun k hk hk' => ?_, fun j k hjk hk' g hgj => ?_⟩
  · rw [rowsCells_append _ _ h1.len, List.length_append]
    exact ho
  · rcases List.mem_append.1 hr with h | h
    · exact h1.ints r h
    · exact h2.ints r h
  · have hl := h1.len
    by_cases hlt : k < l1.length
    · rw [List.getElem_append_left hlt, List.getElem_append_left (by omega)]
      exact hne (h1.terms k hlt (by omega))
    · rw [List.length_append] at hk hk'
      simp only [List.getElem_append_right (show l1.length ≤ k by omega), List.getElem_append_right (show t1.length ≤ k by omega)]
      have e : k - t1.length = k - l1.length := by omega
      simp only [e]
      exact hne (h2.terms (k - l1.length) (by omega) (by omega))
  · rw [List.length_append] at hk'
    by_cases hlt : k < t1.length
    · rw [List.getElem_append_left hlt]
      rw [List.getElem_append_left (by omega)] at hgj
      exact h1.apart j k hjk hlt g hgj
    · rw [List.getElem_append_right (by omega)]
      by_cases hlj : j < t1.length
      · rw [List.getElem_append_left hlj] at hgj
        exact hap j _ hlj (by omega) g hgj
      · rw [List.getElem_append_right (by omega)] at hgj
        exact h2.apart (j - t1.length) (k - t1.length) (by omega) (by omega) g hgj
/-- Copied rows: the cells. -/
theorem Copied.formC (h : Copied eR eT w B v l tvs) (hl : 0 < l.length) :
    ∃ g cap, v = .slice (some ⟨g, 0, none⟩) l.length cap ∧ B ≤ g ∧ g < w.heap.size ∧ l.length ≤ cap ∧ cap ≤ maxLen ∧ (∀ o, w.frozen? ⟨g, o, none⟩ = false) ∧
      ∀ p, (hp : p < l.length) → w.cell? ⟨g, p * 5, none⟩ = some (.int .i64 l[p].kind) ∧ w.cell? ⟨g, p * 5 + 2, none⟩ = some (.int .i64 l[p].a) ∧ w.cell? ⟨g, p * 5 + 3, none⟩ = some (.int .i64 l[p].b) := by
  rcases h.own.2 with ⟨rfl, h0⟩ | ⟨g, cap, cur, rfl, hb, hg, h1, h2, h3, h4⟩
  · omega
  · refine ⟨g, cap, rfl, hb, (h.lt.1 g rfl).2, h1, h2, fun o => frozen_of_row w g o cur eR hg, fun p hp => ?_⟩
    have hp' : p < tvs.length := by rw [h.len]; exact hp
    have hc : ∀ j, j < 5 → w.cell? ⟨g, p * 5 + j, none⟩ = (rowCells l[p] tvs[p])[j]? := by
      intro j hj
      rw [cell_of_row w g _ cur eR (0, 0) hg, ← rowsCells_get h.len hp hp' j hj, ← h4, List.getElem?_take_of_lt (by omega), Array.getElem?_toList]
    exact ⟨hc 0 (by omega), hc 2 (by omega), hc 3 (by omega)⟩
end
/-- Both places of a row put anew, in either order. -/
theorem Copied.setAB {eR eT : TypeId} {w : World} {B gg n cap : Nat} {l : List Row} {tvs : List Value} (h : Copied eR eT w B (.slice (some ⟨gg, 0, none⟩) n cap) l tvs) {p : Nat} (hp : p < l.length) {x y : Int} (hx : I64 x) (hy : I64 y) :
    (∃ L T, L.length = l.length ∧ Copied eR eT ((w.setCell ⟨gg, p * 5 + 2, none⟩ (.int .i64 x)).setCell ⟨gg, p * 5 + 3, none⟩ (.int .i64 y)) B (.slice (some ⟨gg, 0, none⟩) n cap) L T) ∧
    (∃ L T, L.length = l.length ∧ Copied eR eT ((w.setCell ⟨gg, p * 5 + 3, none⟩ (.int .i64 y)).setCell ⟨gg, p * 5 + 2, none⟩ (.int .i64 x)) B (.slice (some ⟨gg, 0, none⟩) n cap) L T) := by
  obtain ⟨-, -, ⟨L, T, h1, -, h2⟩, -⟩ := h.upd_field hp hx
  obtain ⟨-, -, -, L', T', h3, -, h4⟩ := h.upd_field hp hy
  obtain ⟨-, -, -, L2, T2, h5, -, h6⟩ := h2.upd_field (p := p) (by omega) hy
  obtain ⟨-, -, ⟨L3, T3, h7, -, h8⟩, -⟩ := h4.upd_field (p := p) (by omega) hx
  exact ⟨⟨L2, T2, h5.trans h1, h6⟩, ⟨L3, T3, h7.trans h3, h8⟩⟩
end Go.Proofs.YtmghlakedaigpaaGreatDoor
