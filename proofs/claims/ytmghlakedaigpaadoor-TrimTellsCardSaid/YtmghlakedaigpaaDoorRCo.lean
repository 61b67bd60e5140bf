/- slices.Compact at terms: walked. -/
import Derived.Test.YtmghlakedaigpaaDoorRAt
import Derived.Lib.SliceRun
namespace Go.Proofs.YtmghlakedaigpaaDoor
open Go Go.RowKit
attribute [local go_sem ↓] Go.wp_at_zero Go.wp_at_succ

theorem compL_snoc : ∀ (a : List Term) (x y : Term), compL (a ++ [x, y]) = if x = y then compL (a ++ [x]) else compL (a ++ [x]) ++ [y]
  | [], x, y => by
    show compL [x, y] = _
    unfold compL
    split
    · next h => subst h; rfl
    · rfl
  | [z], x, y => by
    by_cases h : x = y <;> by_cases h' : z = x <;> simp [compL, h, h']
  | z :: u :: a, x, y => by
    have ih := compL_snoc (u :: a) x y
    show compL (z :: u :: (a ++ [x, y])) = if x = y then compL (z :: u :: (a ++ [x])) else compL (z :: u :: (a ++ [x])) ++ [y]
    rw [compL, compL]
    simp only [List.cons_append] at ih
    rw [ih]
    split <;> split <;> simp
theorem compL_take {l : List Term} {p : Nat} (h1 : 1 ≤ p) (hp : p < l.length) : compL (l.take (p + 1)) = if l[p - 1] = l[p] then compL (l.take p) else compL (l.take p) ++ [l[p]] := by
  obtain ⟨m, rfl⟩ : ∃ m, p = m + 1 := ⟨p - 1, by omega⟩
  have e1 : l.take (m + 1) = l.take m ++ [l[m]] := (List.take_append_getElem (by omega)).symm
  have e2 : l.take (m + 1 + 1) = l.take m ++ [l[m], l[m + 1]] := by
    have e3 : l.take (m + 1 + 1) = l.take (m + 1) ++ [l[m + 1]] := (List.take_append_getElem hp).symm
    rw [e3, e1, List.append_assoc]
    rfl
  rw [e2, e1, compL_snoc]
  rfl
theorem compL_one {l : List Term} (h : l.length < 2) : compL l = l := by
  match l, h with
  | [], _ => rfl
  | [x], _ => rfl
/-- What stands behind p terms, kk of them kept. -/
structure CI (l X : List Term) (kk p : Nat) : Prop where
  len : X.length = l.length
  lt : kk < p
  tail : ∀ j (h : j < X.length) (h' : j < l.length), p ≤ j + 1 → X[j] = l[j]
  head : X.take kk = compL (l.take p)
theorem CI.start {l : List Term} {k : Nat} (h1 : 1 ≤ k) (hk : k < l.length) (hd : l[k - 1] = l[k]) (ht : compL (l.take k) = l.take k) : CI l l k (k + 1) :=
  ⟨rfl, by omega, fun _ _ _ _ => rfl, by rw [compL_take h1 hk, if_pos hd, ht]⟩
theorem CI.skip {l X : List Term} {kk p : Nat} (h : CI l X kk p) (h1 : 1 ≤ p) (hp : p < l.length) (hd : l[p - 1] = l[p]) : CI l X kk (p + 1) :=
  ⟨h.len, by have := h.lt; omega, fun j a b c => h.tail j a b (by omega), by rw [compL_take h1 hp, if_pos hd, h.head]⟩
theorem CI.keep {l X : List Term} {kk p : Nat} (h : CI l X kk p) (h1 : 1 ≤ p) (hp : p < l.length) (hd : l[p - 1] ≠ l[p]) : CI l (X.set kk l[p]) (kk + 1) (p + 1) := by
  have hlt := h.lt
  refine ⟨by rw [List.length_set]; exact h.len, by omega, fun j a b c => ?_, ?_⟩
  · rw [List.getElem_set_ne (by omega)]
    exact h.tail j (by simpa using a) b (by omega)
  · rw [compL_take h1 hp, if_neg hd, ← h.head]
    have hk : kk < (X.set kk l[p]).length := by rw [List.length_set, h.len]; omega
    rw [← List.take_append_getElem hk, List.getElem_set_self, List.take_set_of_le (Nat.le_refl _)]
theorem zero_term (w : World) : (zeroValue 38).run Tryd.prog w = .ok (.agg #[.int .i64 0, .int .i64 0]) w := by kernel_rfl
theorem run_clear_terms (w : World) (ty : TypeId) (g o n c : Nat) (hn : 0 < n) (hc : ∀ j, j < n * 2 → (w.cell? ⟨g, o + j, none⟩).isSome = true) (hf : ∀ j, j < n * 2 → w.frozen? ⟨g, o + j, none⟩ = false) :
    (Builtin.clear_ #[33] ty #[.slice (some ⟨g, o, none⟩) n c]).run Tryd.prog w = .ok (.tuple #[]) (w.setCells g o (List.replicate (n * 2) (.int .i64 0))) := by
  have hzc : (Builtin.zeroCells (Value.agg #[.int .i64 0, .int .i64 0]).cells n).toList = List.replicate (n * 2) (.int .i64 0) := by
    apply List.ext_getElem
    · simp [Builtin.zeroCells, Value.cells]
    · intro i h1 h2
      have h3 : i % 2 = 0 ∨ i % 2 = 1 := by omega
      simp [Builtin.zeroCells, Value.cells]
      rcases h3 with h3 | h3 <;> simp [h3]
  have hst := run_storeCells_cells (P := Tryd.prog) g o (List.replicate (n * 2) (.int .i64 0)) 0 w (by simpa using hc) (by simpa using hf) (by intro v hv'; rw [List.eq_of_mem_replicate hv']; rfl)
  simp only [Nat.add_zero] at hst
  obtain ⟨m, rfl⟩ : ∃ m, n = m + 1 := ⟨n - 1, by omega⟩
  simp [Builtin.clear_, run_underlying Tryd.underlying33, zero_term, hzc, hst]
theorem all_set : ∀ {X : List Term} {k : Nat} (_ : k < X.length) {t : Term}, fTerm.all (X.set k t) = ((fTerm.all X).set (k * 2) (.int .i64 t.unit)).set (k * 2 + 1) (.int .i64 t.mask)
  | x :: X, 0, _, t => rfl
  | x :: X, k + 1, h, t => by
    have ih := all_set (X := X) (k := k) (by simpa using h) (t := t)
    have e : (k + 1) * 2 = k * 2 + 1 + 1 := by omega
    rw [List.set_cons_succ, Flat.all_cons, ih, Flat.all_cons, e]
    rfl
/-- Cells written from i on leave those ahead of it. -/
theorem own_setCells {B n s g : Nat} {e : TypeId} {v : Value} (hg : v.ownBlock = some g) : ∀ (vs : List Value) (i : Nat) (w : World) (xs : List Value), w.ownsRow B e s v n xs → i + vs.length ≤ n * s →
    ∃ ys, (w.setCells g i vs).ownsRow B e s v n ys ∧ ys.take i = xs.take i
  | [], i, w, xs, h, _ => ⟨xs, h, rfl⟩
  | x :: r, i, w, xs, h, hl => by
    obtain ⟨ys, h1, h2⟩ := own_setCells hg r (i + 1) (w.setCell ⟨g, i, none⟩ x) (xs.set i x) (own_put h hg (by simp at hl; omega) x) (by simp at hl; omega)
    refine ⟨ys, h1, ?_⟩
    have h3 := congrArg (List.take i) h2
    rw [List.take_take, List.take_take, Nat.min_eq_left (by omega)] at h3
    rw [h3, List.take_set_of_le (Nat.le_refl _)]
theorem below_setCells {B g : Nat} (hg : B ≤ g) : ∀ (vs : List Value) (i : Nat) (w0 w : World), Below B w0 w → Below B w0 (w.setCells g i vs)
  | [], _, _, _, h => h
  | x :: r, i, w0, w, h => below_setCells hg r (i + 1) w0 _ (h.setCell (p := ⟨g, i, none⟩) hg x)
theorem own_cut {w : World} {B n m s g c : Nat} {e : TypeId} {xs : List Value} (h : w.ownsRow B e s (.slice (some ⟨g, 0, none⟩) n c) n xs) (hm : m ≤ n) : w.ownsRow B e s (.slice (some ⟨g, 0, none⟩) m c) m (xs.take (m * s)) := by
  have hms : m * s ≤ n * s := Nat.mul_le_mul_right s hm
  refine ⟨by rw [List.length_take, h.1]; omega, ?_⟩
  rcases h.2 with ⟨h1, _⟩ | ⟨g', cap, cur, h1, hb, hg, h3, h4, h5, h6⟩
  · cases h1
  · injection h1 with e1 e2 e3
    injection e1 with e1
    injection e1 with e1
    subst e1; subst e3
    exact .inr ⟨g, c, cur, rfl, hb, hg, by omega, h4, h5, by rw [← h6, List.take_take, Nat.min_eq_left hms]⟩
theorem all_take {X : List Term} {m : Nat} (hm : m ≤ X.length) : fTerm.all (X.take m) = (fTerm.all X).take (m * 2) := by
  have hl : (X.take m).length = m := by rw [List.length_take]; omega
  have h1 : fTerm.all X = fTerm.all (X.take m) ++ fTerm.all (X.drop m) := by rw [← fTerm.all_append, List.take_append_drop]
  have h2 : (fTerm.all (X.take m)).length = m * 2 := by rw [fTerm.all_length, hl]; rfl
  rw [h1, List.take_append_of_le_length (by rw [h2]; exact Nat.le_refl _)]
  exact (List.take_of_length_le (by rw [h2]; exact Nat.le_refl _)).symm
theorem own_cells {e : TypeId} {B : Nat} {w : World} {X : List Term} {g n c : Nat} (h : OwnF fTerm e B w (.slice (some ⟨g, 0, none⟩) n c) X) : B ≤ g ∧ g < w.heap.size ∧ (∀ o, w.frozen? ⟨g, o, none⟩ = false) ∧ X.length ≤ c ∧ (∀ j, j < X.length * 2 → (w.cell? ⟨g, j, none⟩).isSome = true) ∧
    ∀ j (hj : j < X.length), w.cell? ⟨g, j * 2, none⟩ = some (.int .i64 X[j].unit) ∧ w.cell? ⟨g, j * 2 + 1, none⟩ = some (.int .i64 X[j].mask) := by
  rcases h.1.2 with ⟨hv, _⟩ | ⟨g', cap, cur, hv, hb, hgg, h1, h2, h3, h4⟩
  · cases hv
  · injection hv with q1 _ q3
    injection q1 with q1
    injection q1 with q1
    subst q1
    subst q3
    have hcs : X.length * 2 ≤ cur.size := by rw [h3]; exact Nat.mul_le_mul_right 2 h1
    have hat : ∀ i, i < X.length * 2 → w.cell? ⟨g, i, none⟩ = (fTerm.all X)[i]? := fun i hi => by
      rw [cell_of_row w g _ _ e (0, 0) hgg, ← h4, List.getElem?_take_of_lt (by exact hi), Array.getElem?_toList]
    refine ⟨hb, (Array.getElem?_eq_some_iff.1 hgg).1, fun o => frozen_of_row w g o _ e hgg, h1, fun j hj => ?_, fun j hj => ⟨?_, ?_⟩⟩
    · rw [hat j hj, List.getElem?_eq_getElem (by rw [fTerm.all_length]; exact hj)]
      rfl
    · rw [hat _ (by omega)]
      exact fTerm.all_get hj (j := 0) (by show 0 < 2; omega)
    · rw [hat _ (by omega)]
      exact fTerm.all_get hj (j := 1) (by show 1 < 2; omega)
theorem OwnF.setT {e : TypeId} {B : Nat} {w : World} {X : List Term} {g n c k : Nat} (h : OwnF fTerm e B w (.slice (some ⟨g, 0, none⟩) n c) X) (hk : k < X.length) (t : Term) (ht : I64 t.unit ∧ I64 t.mask) :
    OwnF fTerm e B ((w.setCell ⟨g, k * 2, none⟩ (.int .i64 t.unit)).setCell ⟨g, k * 2 + 1, none⟩ (.int .i64 t.mask)) (.slice (some ⟨g, 0, none⟩) n c) (X.set k t) := by
  refine ⟨?_, fun y hy => ?_⟩
  · have h1 := own_put (own_put h.1 (g := g) rfl (i := k * 2) (by show k * 2 < X.length * 2; omega) (.int .i64 t.unit)) (g := g) rfl (i := k * 2 + 1) (by show k * 2 + 1 < X.length * 2; omega) (.int .i64 t.mask)
    rw [List.length_set, all_set hk]
    exact h1
  · rcases List.mem_or_eq_of_mem_set hy with h1 | h1
    · exact h.2 y h1
    · subst h1; exact ht
end Go.Proofs.YtmghlakedaigpaaDoor
