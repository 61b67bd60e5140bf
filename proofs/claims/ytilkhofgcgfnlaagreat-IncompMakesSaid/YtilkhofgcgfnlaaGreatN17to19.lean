import Derived.Test.YtilkhofgcgfnlaaGreatRows
import Derived.Test.YtilkhofgcgfnlaaGreatMem
import Derived.Laws.StructEq
import Derived.Deep.RegionHeld3
import Derived.Deep.DeepCutAuto
import Derived.Deep.DrawnRows
import Derived.Test.YtilkhofgcgfnlaaGreatN9
import Derived.Test.YtilkhofgcgfnlaaGreatG1
import Derived.BigRegion
import Derived.Outline
import Derived.Test.YtilkhofgcgfnlaaGreatG57
import Derived.Test.YtilkhofgcgfnlaaGreatN4
section
/- Contract: linchpinref21.Same. -/
namespace Go.Proofs.YtilkhofgcgfnlaaGreat
open Go Go.RowKit
attribute [local go_sem ↓] Go.wp_at_zero Go.wp_at_succ

theorem term_neq (s t : Term) (W : World) : (binOp .neq 31 (.agg #[.int .i64 s.unit, .int .i64 s.mask]) (.agg #[.int .i64 t.unit, .int .i64 t.mask])).run Tryz.prog W = .ok (.bool (!decide (s = t))) W := by
  have u3 := Tryz.underlying3
  have a3 := Tryz.isAgg3
  have z3 := Tryz.sizeOf3
  have hS : Tryz.prog.underlying 31 = some (.struct (Tryz.prog.fieldsOf 31)) := by kernel_rfl
  have hp : Tryz.prog.stoodInHeld 31 = false := by kernel_rfl
  rw [run_neq_struct, show (10000 : Nat) = 9999 + 1 from rfl, run_equalIn_agg W 9999 31 _ _ hS hp]
  simp only [Program.fieldsOf, Tryz.underlying31]
  go_simp
  obtain ⟨a, b⟩ := s
  obtain ⟨c, d⟩ := t
  by_cases h1 : a = c <;> by_cases h2 : b = d <;> simp [h1, h2]
theorem term_guard (op : BinOp) (a b : Operand) (s t : Term) (W : World) : (eqGuard op 31 a b (.agg #[.int .i64 s.unit, .int .i64 s.mask]) (.agg #[.int .i64 t.unit, .int .i64 t.mask])).run Tryz.prog W = .ok () W :=
  run_eqGuard_agg W op 31 a b _ _ (by kernel_rfl)

set_option maxRecDepth 100000 in
set_option maxHeartbeats 400000 in
theorem sameTerms_any (v v' : Value) (l l' : List Term) (w : World) (h : SliceRd tTerm w (Lt w.heap.size) v l) (h' : SliceRd tTerm w (Lt w.heap.size) v' l') :
    Calls Tryz.prog 15 #[v, v'] w fun e w' => e = .returned (.bool (decide (l = l'))) ∧ Below w.heap.size w w' := by
  obtain ⟨A, cap, rfl, hcap, hmax, hc⟩ := h.terms
  obtain ⟨A', cap', rfl, hcap', hmax', hc'⟩ := h'.terms
  unfold maxLen at hmax hmax'
  have HC := hid hc
  have HC' := hid hc'
  clear hc hc' h h'
  by_cases hl : l.length = l'.length
  · have hb1 : ((l.length : Int) != (l'.length : Int)) = false := by simp [hl]
    have HL := hid hl
    clear hl
    go_enter Tryz.func15, Tryz.ntmps15
    go_wp2
    go_loopw [5] (fun iv wr => ∃ k : Nat, k ≤ l.length ∧ iv = .int .i64 k ∧ Hid (l.take k = l'.take k) ∧ Below w.heap.size w wr) (fun iv _ => l.length - (intOf iv).toNat)
    case atStart => exact ⟨0, Nat.zero_le _, rfl, hid rfl, Below.refl _ _⟩
    case round =>
      obtain ⟨k, hk, rfl, ht, hb⟩ := hrel
      by_cases hlt : k < l.length
      · have hlt' : k < l'.length := by have := HL.out; omega
        obtain ⟨g, o, hA, hF, g0, g1, -, -⟩ := HC.out k hlt
        obtain ⟨g', o', hA', hF', g0', g1', -, -⟩ := HC'.out k hlt'
        subst hA hA'
        have c0 := cell_below hb hF g0
        have c1 := cell_below hb hF g1
        have d0 := cell_below hb hF' g0'
        have d1 := cell_below hb hF' g1'
        clear g0 g1 g0' g1'
        have i1 : (0 : Int) ≤ ↑k := by omega
        have i2 : (↑k : Int) < ↑l.length := by omega
        have i3 : (↑k : Int) < ↑l'.length := by omega
        have hn := fun W => term_neq l[k] l'[k] W
        have hgd := fun op a b W => term_guard op a b l[k] l'[k] W
        by_cases he : l[k] = l'[k]
        · have hd : decide (l[k] = l'[k]) = true := decide_eq_true he
          have HE := hid he
          clear he
          go_wp2
          go_quiet (fail)
          go_wp2
          exact ⟨⟨k + 1, by omega, by go_num, hid (by rw [List.take_succ_eq_append_getElem hlt, List.take_succ_eq_append_getElem hlt', ht.out, HE.out]), below_drewN hb _⟩, by simp [intOf]; omega⟩
        · have hd : decide (l[k] = l'[k]) = false := decide_eq_false he
          have HE := hid he
          clear he
          go_wp2
          go_quiet (fail)
          go_wp2
          go_ret
          exact ⟨by rw [decide_eq_false (p := l = l') (fun e => HE.out (by subst e; rfl))]; rfl, below_drewN hb _⟩
      · have HE : Hid (l = l') := hid (by
          have := ht.out
          rwa [List.take_of_length_le (by omega), List.take_of_length_le (by have := HL.out; omega)] at this)
        clear ht
        go_wp2
        go_ret
        exact ⟨by rw [decide_eq_true HE.out]; rfl, hb⟩
  · have hb1 : ((l.length : Int) != (l'.length : Int)) = true := by simp; omega
    have HL := hid hl
    clear hl
    go_enter Tryz.func15, Tryz.ntmps15
    go_wp2
    go_ret
    exact ⟨by rw [decide_eq_false (p := l = l') (fun e => HL.out (by rw [e]))]; rfl, Below.refl _ _⟩

end Go.Proofs.YtilkhofgcgfnlaaGreat
end
section
/- Contract: linchpinlaw22.small. -/
namespace Go.Proofs.YtilkhofgcgfnlaaGreat
open Go Go.RowKit

def SmallPost (w : World) (e : Ending) (w' : World) : Prop := ∃ g, e = .returned (.agg #[.slice (some ⟨g, 0, none⟩) 3 3]) ∧ UniRd w' (Lt w'.heap.size) (.agg #[.slice (some ⟨g, 0, none⟩) 3 3]) [1, 1, 1] ∧ Below w.heap.size w w'
theorem small_uni {W : World} {g : Nat} {A0 A1 A2 : Option Addr} {c0 c1 c2 : Nat} {x0 x1 x3 x4 x6 x7 : Value} {T : TypeId} (h : W.heap[g]? = some (.cells #[x0, x1, .slice A0 1 c0, x3, x4, .slice A1 1 c1, x6, x7, .slice A2 1 c2] T (0, 0))) :
    UniRd W (Lt W.heap.size) (.agg #[.slice (some ⟨g, 0, none⟩) 3 3]) [1, 1, 1] := by
  refine ⟨g, 3, rfl, (Array.getElem?_eq_some_iff.1 h).1, fun k hk => ?_⟩
  match k, hk with
  | 0, _ => exact ⟨A0, c0, by rw [cell_of_row _ _ _ _ _ _ h]; rfl⟩
  | 1, _ => exact ⟨A1, c1, by rw [cell_of_row _ _ _ _ _ _ h]; rfl⟩
  | 2, _ => exact ⟨A2, c2, by rw [cell_of_row _ _ _ _ _ _ h]; rfl⟩
theorem small_last {w w1 : World} {o1 o2 o3 o4 : Obj} {p : Addr} (hp : p.block < w1.heap.size) (x : Value) : (((((w1.alloc o1).alloc o2).alloc o3).alloc o4).setCell p x).heap[w1.heap.size + 1 + 1 + 1]? = some o4 := by
  have _ := w
  rw [heap_setCell_other _ _ _ _ (by omega)]
  have := heap_alloc_new (((w1.alloc o1).alloc o2).alloc o3) o4
  simpa using this
set_option maxRecDepth 100000 in
set_option maxHeartbeats 4000000 in
theorem small_any (w : World) : Calls Tryz.prog 28 #[] w (SmallPost w) := by
  go_enter Tryz.func28, Tryz.ntmps28
  go_wp2_with (go_at_call 51; refine (versions_any _).mono ?_; rintro e w1 ⟨b, rfl, hB, hblk, hb1⟩)
  have v0 : w1.cell? ⟨b, 0, none⟩ = some (.int .i64 1) := by rw [cell_of_row _ _ _ _ _ _ hblk]; rfl
  have v1 : w1.cell? ⟨b, 1, none⟩ = some (.int .i64 0) := by rw [cell_of_row _ _ _ _ _ _ hblk]; rfl
  have v2 : w1.cell? ⟨b, 2, none⟩ = some (.int .i64 0) := by rw [cell_of_row _ _ _ _ _ _ hblk]; rfl
  have v3 : w1.cell? ⟨b, 3, none⟩ = some (.string ⟨#[]⟩) := by rw [cell_of_row _ _ _ _ _ _ hblk]; rfl
  have v4 : w1.cell? ⟨b, 4, none⟩ = some (.string ⟨#[]⟩) := by rw [cell_of_row _ _ _ _ _ _ hblk]; rfl
  have hbl : b < w1.heap.size := (Array.getElem?_eq_some_iff.1 hblk).1
  have hrb : w1.heap[w.heap.size]? = some (.cells #[.slice none 0 0] 27 (0, 0)) := (hb1.block _ (by simp)).trans (heap_alloc_new w _)
  have r0 : w1.cell? ⟨w.heap.size, 0, none⟩ = some (.slice none 0 0) := by rw [cell_of_row _ _ _ _ _ _ hrb]; rfl
  have rf : ∀ o, w1.frozen? ⟨w.heap.size, o, none⟩ = false := fun o => frozen_of_row _ _ o _ _ hrb
  have hrl : w.heap.size < w1.heap.size := (Array.getElem?_eq_some_iff.1 hrb).1
  have HB1 := hid ((balloc (b0 w) (.cells #[.slice none 0 0] 27)).trans (hb1.mono (by simp)))
  have hr4 : ∀ o1 o2 o3 o4 : Obj, ((((w1.alloc o1).alloc o2).alloc o3).alloc o4).cell? ⟨w.heap.size, 0, none⟩ = some (.slice none 0 0) := fun o1 o2 o3 o4 => cell_below (balloc (balloc (balloc (balloc (b0 w1) o1) o2) o3) o4) hrl r0
  have hf4 : ∀ o1 o2 o3 o4 : Obj, ((((w1.alloc o1).alloc o2).alloc o3).alloc o4).frozen? ⟨w.heap.size, 0, none⟩ = false := fun o1 o2 o3 o4 => ((balloc (balloc (balloc (balloc (b0 w1) o1) o2) o3) o4).frozen (p := ⟨w.heap.size, 0, none⟩) hrl).trans (rf 0)
  have HRB := hid hrb
  clear hblk hb1 hrb hB
  go_wp2_with fail
  have HRL := hid hrl
  have HB5 : ∀ (o1 o2 o3 o4 : Obj) (x : Value), Hid (Below w.heap.size w (((((w1.alloc o1).alloc o2).alloc o3).alloc o4).setCell ⟨w.heap.size, 0, none⟩ x)) := fun o1 o2 o3 o4 x => hid (bset (balloc (balloc (balloc (balloc HB1.out o1) o2) o3) o4) (Nat.le_refl _) x)
  have hr5 : ∀ (o1 o2 o3 o4 : Obj) (x : Value), (((((w1.alloc o1).alloc o2).alloc o3).alloc o4).setCell ⟨w.heap.size, 0, none⟩ x).cell? ⟨w.heap.size, 0, none⟩ = some x := fun o1 o2 o3 o4 x => by
    have h1 : ((((w1.alloc o1).alloc o2).alloc o3).alloc o4).heap[w.heap.size]? = some (.cells #[.slice none 0 0] 27 (0, 0)) := ((balloc (balloc (balloc (balloc (b0 w1) o1) o2) o3) o4).block _ hrl).trans HRB.out
    rw [cell_of_row _ _ _ _ _ _ (heap_setCell_same _ _ _ _ _ _ h1)]
    rfl
  go_region
  all_goals go_wp2
  all_goals
    exact bodyPost_ret (v := .agg #[.slice (some ⟨w1.heap.size + 1 + 1 + 1, 0, none⟩) 3 3]) (by simp [results, Tryz.results28, go_sem, hr5]) rfl ⟨_, rfl, small_uni (small_last (w := w) HRL.out _), (by first | exact (HB5 _ _ _ _ _).out.drew | exact (HB5 _ _ _ _ _).out)⟩
end Go.Proofs.YtilkhofgcgfnlaaGreat
end
section
/- Contracts: slices.Equal, incomp.Same at terms; linchpinmade.World, read. -/
namespace Go.Proofs.YtilkhofgcgfnlaaGreat
open Go Go.RowKit
attribute [local go_sem ↓] Go.wp_at_zero Go.wp_at_succ

set_option maxRecDepth 100000 in
set_option maxHeartbeats 400000 in
theorem equal_any (v v' : Value) (l l' : List Term) (w : World) (h : SliceRd tTerm w (Lt w.heap.size) v l) (h' : SliceRd tTerm w (Lt w.heap.size) v' l') :
    Calls Tryz.prog 50 #[v, v'] w fun e w' => e = .returned (.bool (decide (l = l'))) ∧ Below w.heap.size w w' := by
  obtain ⟨A, cap, rfl, hcap, hmax, hc⟩ := h.terms
  obtain ⟨A', cap', rfl, hcap', hmax', hc'⟩ := h'.terms
  unfold maxLen at hmax hmax'
  have HC := hid hc
  have HC' := hid hc'
  clear hc hc' h h'
  by_cases hl : l.length = l'.length
  · have hb1 : ((l.length : Int) != (l'.length : Int)) = false := by simp [hl]
    have HL := hid hl
    clear hl
    go_enter Tryz.func50, Tryz.ntmps50
    go_wp2
    go_loopw [5, 13] (fun _ iv wr => ∃ k : Nat, k ≤ l.length ∧ iv = .int .i64 k ∧ Hid (l.take k = l'.take k) ∧ Below w.heap.size w wr) (fun _ iv _ => l.length - (intOf iv).toNat)
    case atStart => exact ⟨0, Nat.zero_le _, rfl, hid rfl, Below.refl _ _⟩
    case round =>
      obtain ⟨k, hk, rfl, ht, hb⟩ := hrel
      by_cases hlt : k < l.length
      · have hlt' : k < l'.length := by have := HL.out; omega
        obtain ⟨g, o, hA, hF, g0, g1, -, -⟩ := HC.out k hlt
        obtain ⟨g', o', hA', hF', g0', g1', -, -⟩ := HC'.out k hlt'
        subst hA hA'
        have c0 := cell_below hb hF g0
        have c1 := cell_below hb hF g1
        have d0 := cell_below hb hF' g0'
        have d1 := cell_below hb hF' g1'
        clear g0 g1 g0' g1'
        have i1 : (0 : Int) ≤ ↑k := by omega
        have i2 : (↑k : Int) < ↑l.length := by omega
        have i3 : (↑k : Int) < ↑l'.length := by omega
        have hn := fun W => term_neq l[k] l'[k] W
        have hgd := fun op a b W => term_guard op a b l[k] l'[k] W
        by_cases he : l[k] = l'[k]
        · have hd : decide (l[k] = l'[k]) = true := decide_eq_true he
          have HE := hid he
          clear he
          go_wp2
          go_quiet (fail)
          go_wp2
          exact ⟨⟨k + 1, by omega, by go_num, hid (by rw [List.take_succ_eq_append_getElem hlt, List.take_succ_eq_append_getElem hlt', ht.out, HE.out]), below_drewN hb _⟩, by simp [intOf]; omega⟩
        · have hd : decide (l[k] = l'[k]) = false := decide_eq_false he
          have HE := hid he
          clear he
          go_wp2
          go_quiet (fail)
          go_wp2
          go_ret
          exact ⟨by rw [decide_eq_false (p := l = l') (fun e => HE.out (by subst e; rfl))]; rfl, below_drewN hb _⟩
      · have HE : Hid (l = l') := hid (by
          have := ht.out
          rwa [List.take_of_length_le (by omega), List.take_of_length_le (by have := HL.out; omega)] at this)
        clear ht
        go_wp2
        go_ret
        exact ⟨by rw [decide_eq_true HE.out]; rfl, hb⟩
  · have hb1 : ((l.length : Int) != (l'.length : Int)) = true := by simp; omega
    have HL := hid hl
    clear hl
    go_enter Tryz.func50, Tryz.ntmps50
    go_wp2
    go_ret
    exact ⟨by rw [decide_eq_false (p := l = l') (fun e => HL.out (by rw [e]))]; rfl, Below.refl _ _⟩
theorem isame_any (v v' : Value) (l l' : List Term) (w : World) (h : SliceRd tTerm w (Lt w.heap.size) v l) (h' : SliceRd tTerm w (Lt w.heap.size) v' l') :
    Calls Tryz.prog 27 #[v, v'] w fun e w' => e = .returned (.bool (decide (l = l'))) ∧ Below w.heap.size w w' := by
  have hcall := equal_any v v' l l' w h h'
  obtain ⟨A, cap, rfl, -⟩ := h.terms
  obtain ⟨A', cap', rfl, -⟩ := h'.terms
  clear h h'
  generalize decide (l = l') = q at hcall ⊢
  go_enter Tryz.func27, Tryz.ntmps27
  go_wp2_with (go_at_call 50; refine hcall.mono ?_; rintro e w1 ⟨rfl, hb1⟩)
  go_ret
  exact ⟨rfl, hb1⟩
/-- A made world, as it is read here. -/
def WorldRd (w : World) (e : Ending) (w' : World) : Prop := ∃ (g c : Nat) (ns : List Nat), e = .returned (.agg #[.slice (some ⟨g, 0, none⟩) ns.length c]) ∧ UniRd w' (Lt w'.heap.size) (.agg #[.slice (some ⟨g, 0, none⟩) ns.length c]) ns ∧ NsOk ns ∧ Below w.heap.size w w'
theorem worldRd_any (lv : Value) (xs : List Int) (most : Int) (w : World) (h : SliceRd tInt w (Lt w.heap.size) lv xs) (hm1 : 1 ≤ most) (hm2 : most ≤ 5) :
    Calls Tryz.prog 11 #[lv, .int .i64 most] w (WorldRd w) := by
  refine (world_any lv xs most w h hm1 hm2).mono ?_
  rintro e w' ⟨g, c, us, nf, rfl, hB, h2, h11, _, hb⟩
  obtain ⟨hu, hn⟩ := uni_made (_w := w) hB h2 h11
  have hl : (us.map (·.n)).length = us.length := List.length_map _
  refine ⟨g, c, us.map (·.n), by rw [hl], by rw [hl]; exact hu, hn, hb⟩
end Go.Proofs.YtilkhofgcgfnlaaGreat
end
