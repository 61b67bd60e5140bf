import Derived.Test.YtilgijmokjekgaaGreatDoorRows
import Derived.Test.YtilgijmokjekgaaGreatDoorzBase
import Derived.Laws.StructEq
import Derived.Deep.RegionHeld3
import Derived.Deep.DeepCutAuto
import Derived.Deep.DrawnRows
import Derived.Test.YtilgijmokjekgaaGreatDoorzA6
import Derived.Outline
section
/- Contract: linchpinref21.Same. -/
namespace Go.Proofs.YtilgijmokjekgaaGreatDoor
open Go Go.RowKit
attribute [local go_sem ↓] Go.wp_at_zero Go.wp_at_succ

theorem term_neq (s t : Term) (W : World) : (binOp .neq 55 (.agg #[.int .i64 s.unit, .int .i64 s.mask]) (.agg #[.int .i64 t.unit, .int .i64 t.mask])).run Tryz.prog W = .ok (.bool (!decide (s = t))) W := by
  have u3 := Tryz.underlying3
  have a3 := Tryz.isAgg3
  have z3 := Tryz.sizeOf3
  have hS : Tryz.prog.underlying 55 = some (.struct (Tryz.prog.fieldsOf 55)) := by kernel_rfl
  have hp : Tryz.prog.stoodInHeld 55 = false := by kernel_rfl
  rw [run_neq_struct, show (10000 : Nat) = 9999 + 1 from rfl, run_equalIn_agg W 9999 55 _ _ hS hp]
  simp only [Program.fieldsOf, Tryz.underlying55]
  go_simp
  obtain ⟨a, b⟩ := s
  obtain ⟨c, d⟩ := t
  by_cases h1 : a = c <;> by_cases h2 : b = d <;> simp [h1, h2]
theorem term_guard (op : BinOp) (a b : Operand) (s t : Term) (W : World) : (eqGuard op 55 a b (.agg #[.int .i64 s.unit, .int .i64 s.mask]) (.agg #[.int .i64 t.unit, .int .i64 t.mask])).run Tryz.prog W = .ok () W :=
  run_eqGuard_agg W op 55 a b _ _ (by kernel_rfl)

set_option maxRecDepth 100000 in
set_option maxHeartbeats 400000 in
theorem sameTerms_any (v v' : Value) (l l' : List Term) (w : World) (h : SliceRd tTerm w (Lt w.heap.size) v l) (h' : SliceRd tTerm w (Lt w.heap.size) v' l') :
    Calls Tryz.prog 31 #[v, v'] w fun e w' => e = .returned (.bool (decide (l = l'))) ∧ Below w.heap.size w w' := by
  obtain ⟨A, cap, rfl, hcap, hmax, hc⟩ := h.terms
  obtain ⟨A', cap', rfl, hcap', hmax', hc'⟩ := h'.terms
  unfold maxLen at hmax hmax'
  have HC := hid hc
  have HC' := hid hc'
  clear hc hc' h h'
  by_cases hl : l.length = l'.length
  · have hb1 : ((l.length : Int) != (l'.length : Int)) = false := by simp [hl]
    have HL := hid hl
    clear hl
    go_enter Tryz.func31, Tryz.ntmps31
    go_wp2
    go_loopw [5] (fun iv wr => ∃ k : Nat, k ≤ l.length ∧ iv = .int .i64 k ∧ Hid (l.take k = l'.take k) ∧ Below w.heap.size w wr) (fun iv _ => l.length - (intOf iv).toNat)
    case atStart => exact ⟨0, Nat.zero_le _, rfl, hid rfl, Below.refl _ _⟩
    case round =>
      obtain ⟨k, hk, rfl, ht, hb⟩ := hrel
      by_cases hlt : k < l.length
      · have hlt' : k < l'.length := by have := HL.out; omega
        obtain ⟨g, o, hA, hF, g0, g1, -, -⟩ := HC.out k hlt
        obtain ⟨g', o', hA', hF', g0', g1', -, -⟩ := HC'.out k hlt'
        subst hA hA'
        have c0 := cell_below hb hF g0
        have c1 := cell_below hb hF g1
        have d0 := cell_below hb hF' g0'
        have d1 := cell_below hb hF' g1'
        clear g0 g1 g0' g1'
        have i1 : (0 : Int) ≤ ↑k := by omega
        have i2 : (↑k : Int) < ↑l.length := by omega
        have i3 : (↑k : Int) < ↑l'.length := by omega
        have hn := fun W => term_neq l[k] l'[k] W
        have hgd := fun op a b W => term_guard op a b l[k] l'[k] W
        by_cases he : l[k] = l'[k]
        · have hd : decide (l[k] = l'[k]) = true := decide_eq_true he
          have HE := hid he
          clear he
          go_wp2
          go_quiet (fail)
          go_wp2
          exact ⟨⟨k + 1, by omega, by go_num, hid (by rw [List.take_succ_eq_append_getElem hlt, List.take_succ_eq_append_getElem hlt', ht.out, HE.out]), below_drewN hb _⟩, by simp [intOf]; omega⟩
        · have hd : decide (l[k] = l'[k]) = false := decide_eq_false he
          have HE := hid he
          clear he
          go_wp2
          go_quiet (fail)
          go_wp2
          go_ret
          exact ⟨by rw [decide_eq_false (p := l = l') (fun e => HE.out (by subst e; rfl))]; rfl, below_drewN hb _⟩
      · have HE : Hid (l = l') := hid (by
          have := ht.out
          rwa [List.take_of_length_le (by omega), List.take_of_length_le (by have := HL.out; omega)] at this)
        clear ht
        go_wp2
        go_ret
        exact ⟨by rw [decide_eq_true HE.out]; rfl, hb⟩
  · have hb1 : ((l.length : Int) != (l'.length : Int)) = true := by simp; omega
    have HL := hid hl
    clear hl
    go_enter Tryz.func31, Tryz.ntmps31
    go_wp2
    go_ret
    exact ⟨by rw [decide_eq_false (p := l = l') (fun e => HL.out (by rw [e]))]; rfl, Below.refl _ _⟩

end Go.Proofs.YtilgijmokjekgaaGreatDoor
end
section
/- Rows of a world's facts in memory. Contract: ref23.put. -/
namespace Go.Proofs.YtilgijmokjekgaaGreatDoor
open Go Go.RowKit

def tRowN (ns : List Nat) : Ty RowN where
  size := 5
  rd w F cs r := ∃ tv, cs = [.int .i64 r.kind, .int .i64 r.u, .int .i64 0, .int .i64 0, tv] ∧ SliceRd tTerm w F tv (canon ns r.M)
  len h := by obtain ⟨a, rfl, _⟩ := h; rfl
  keep hk h := by obtain ⟨a, h0, h1⟩ := h; exact ⟨a, h0, h1.keep hk⟩
  more hF h := by obtain ⟨a, h0, h1⟩ := h; exact ⟨a, h0, h1.more hF⟩
/-- One row's terms are put anew. -/
theorem OwnT.setTerms {ns : List Nat} {e : TypeId} {w : World} {B : Nat} {v : Value} {l : List RowN} {xs : List Value} (h : OwnT (tRowN ns) e w B v l xs) {g : Nat} (hg : v.ownBlock = some g) {k : Nat} (hk : k < l.length) (x : Value) (r : RowN) (hrk : r.kind = l[k].kind) (hru : r.u = l[k].u)
    (hx : SliceRd tTerm w (fun b => B ≤ b ∧ b < w.heap.size ∧ v.ownBlock ≠ some b) x (canon ns r.M)) : OwnT (tRowN ns) e (w.setCell ⟨g, k * 5 + 4, none⟩ x) B v (l.set k r) (xs.set (k * 5 + 4) x) := by
  have hsz : (w.setCell ⟨g, k * 5 + 4, none⟩ x).heap.size = w.heap.size := by simp
  have hlt : k * 5 + 4 < l.length * 5 := by omega
  have hkeep : ∀ b, (B ≤ b ∧ b < w.heap.size ∧ v.ownBlock ≠ some b) → (w.setCell ⟨g, k * 5 + 4, none⟩ x).heap[b]? = w.heap[b]? := fun b hb => heap_setCell_other _ _ _ _ (fun e2 => hb.2.2 (by rw [hg]; exact congrArg some e2.symm))
  refine ⟨by rw [List.length_set]; exact own_put h.own hg hlt x, fun i hi => ?_⟩
  rw [List.length_set] at hi
  obtain ⟨cs, h1, h2, tv, h3, h4⟩ := h.el i hi
  rw [List.getElem_set]
  by_cases e1 : k = i
  · subst e1
    rw [if_pos rfl]
    refine ⟨[.int .i64 r.kind, .int .i64 r.u, .int .i64 0, .int .i64 0, x], rfl, fun j hj => ?_, x, rfl, (hx.keep hkeep).more fun b hb => ⟨hb.1, by rw [hsz]; exact hb.2.1, hb.2.2⟩⟩
    have hj5 : j < 5 := hj
    have h5 := h2 j hj
    rw [List.getElem?_set]
    by_cases e2 : k * 5 + 4 = k * (tRowN ns).size + j
    · have h7 : (tRowN ns).size = 5 := rfl
      have h8 : j = 4 := by rw [h7] at e2; omega
      subst h8
      have h9 : k * 5 + 4 < xs.length := by
        have h10 : xs.length = l.length * (tRowN ns).size := h.own.1
        rw [h7] at h10
        omega
      rw [if_pos e2, if_pos h9]
      rfl
    · rw [if_neg e2, h5, h3, hrk, hru]
      have : j ≠ 4 := fun e4 => e2 (by subst e4; rfl)
      rcases (show j = 0 ∨ j = 1 ∨ j = 2 ∨ j = 3 by omega) with rfl | rfl | rfl | rfl <;> rfl
  · rw [if_neg e1]
    refine ⟨cs, h1, fun j hj => ?_, tv, h3, (h4.keep hkeep).more fun b hb => ⟨hb.1, by rw [hsz]; exact hb.2.1, hb.2.2⟩⟩
    have hj5 : j < 5 := hj
    have h6 : (tRowN ns).size = 5 := rfl
    rw [List.getElem?_set, if_neg (by rw [h6]; omega)]
    exact h2 j hj
/-- A row of rows, opened. -/
theorem OwnT.rows {ns : List Nat} {e : TypeId} {w : World} {B : Nat} {v : Value} {l : List RowN} {xs : List Value} (h : OwnT (tRowN ns) e w B v l xs) : ∃ A c, v = .slice A l.length c ∧ ∀ k, (hk : k < l.length) → ∃ g tv, A = some ⟨g, 0, none⟩ ∧ v.ownBlock = some g ∧ B ≤ g ∧ g < w.heap.size ∧ (∀ o, w.frozen? ⟨g, o, none⟩ = false) ∧ w.cell? ⟨g, k * 5, none⟩ = some (.int .i64 l[k].kind) ∧ w.cell? ⟨g, k * 5 + 1, none⟩ = some (.int .i64 l[k].u) ∧ w.cell? ⟨g, k * 5 + 2, none⟩ = some (.int .i64 0) ∧ w.cell? ⟨g, k * 5 + 3, none⟩ = some (.int .i64 0) ∧ w.cell? ⟨g, k * 5 + 4, none⟩ = some tv ∧ SliceRd tTerm w (fun b => B ≤ b ∧ b < w.heap.size ∧ v.ownBlock ≠ some b) tv (canon ns l[k].M) := by
  rcases h.own.2 with ⟨rfl, h0⟩ | ⟨g, cap, cur, rfl, hb, hg, q1, q2, q3, q4⟩
  · have : l = [] := List.length_eq_zero_iff.1 h0
    subst this
    exact ⟨none, 0, rfl, fun k hk => absurd hk (by simp)⟩
  · refine ⟨_, cap, rfl, fun k hk => ?_⟩
    obtain ⟨cs, h1, h2, tv, rfl, h4⟩ := h.el k hk
    have hc : ∀ j, j < 5 → w.cell? ⟨g, k * 5 + j, none⟩ = [Value.int .i64 l[k].kind, .int .i64 l[k].u, .int .i64 0, .int .i64 0, tv][j]? := by
      intro j hj
      rw [cell_of_row w g _ cur e (0, 0) hg, ← h2 j hj]
      have h6 : (tRowN ns).size = 5 := rfl
      rw [h6] at q4 ⊢
      rw [← Array.getElem?_toList, ← q4, List.getElem?_take_of_lt (by omega)]
    exact ⟨g, tv, rfl, rfl, hb, (Array.getElem?_eq_some_iff.1 hg).1, fun o => frozen_of_row w g o cur e hg, hc 0 (by omega), hc 1 (by omega), hc 2 (by omega), hc 3 (by omega), hc 4 (by omega), h4⟩
end Go.Proofs.YtilgijmokjekgaaGreatDoor
end
