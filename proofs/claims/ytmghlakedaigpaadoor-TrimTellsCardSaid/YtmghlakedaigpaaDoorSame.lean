/- Contracts: linchpinref21.Same, linchpinref29.same, Same. -/
import Derived.Test.YtmghlakedaigpaaDoorRows
import Derived.Test.YtmghlakedaigpaaDoorMem
import Derived.Laws.StructEq
import Derived.Deep.RegionHeld3
import Derived.Deep.DeepCutAuto
import Derived.Deep.DrawnRows
namespace Go.Proofs.YtmghlakedaigpaaDoor
open Go Go.RowKit
attribute [local go_sem ↓] Go.wp_at_zero Go.wp_at_succ

theorem term_neq (s t : Term) (W : World) : (binOp .neq 38 (.agg #[.int .i64 s.unit, .int .i64 s.mask]) (.agg #[.int .i64 t.unit, .int .i64 t.mask])).run Tryd.prog W = .ok (.bool (!decide (s = t))) W := by
  have u3 := Tryd.underlying3
  have a3 := Tryd.isAgg3
  have z3 := Tryd.sizeOf3
  have hS : Tryd.prog.underlying 38 = some (.struct (Tryd.prog.fieldsOf 38)) := by kernel_rfl
  have hp : Tryd.prog.stoodInHeld 38 = false := by kernel_rfl
  rw [run_neq_struct, show (10000 : Nat) = 9999 + 1 from rfl, run_equalIn_agg W 9999 38 _ _ hS hp]
  simp only [Program.fieldsOf, Tryd.underlying38]
  go_simp
  obtain ⟨a, b⟩ := s
  obtain ⟨c, d⟩ := t
  by_cases h1 : a = c <;> by_cases h2 : b = d <;> simp [h1, h2]
theorem term_guard (op : BinOp) (a b : Operand) (s t : Term) (W : World) : (eqGuard op 38 a b (.agg #[.int .i64 s.unit, .int .i64 s.mask]) (.agg #[.int .i64 t.unit, .int .i64 t.mask])).run Tryd.prog W = .ok () W :=
  run_eqGuard_agg W op 38 a b _ _ (by kernel_rfl)

set_option maxRecDepth 100000 in
set_option maxHeartbeats 400000 in
theorem sameTerms_any (v v' : Value) (l l' : List Term) (w : World) (h : SliceRd tTerm w (Lt w.heap.size) v l) (h' : SliceRd tTerm w (Lt w.heap.size) v' l') :
    Calls Tryd.prog 14 #[v, v'] w fun e w' => e = .returned (.bool (decide (l = l'))) ∧ Below w.heap.size w w' := by
  obtain ⟨A, cap, rfl, hcap, hmax, hc⟩ := h.terms
  obtain ⟨A', cap', rfl, hcap', hmax', hc'⟩ := h'.terms
  unfold maxLen at hmax hmax'
  have HC := hid hc
  have HC' := hid hc'
  clear hc hc' h h'
  by_cases hl : l.length = l'.length
  · have hb1 : ((l.length : Int) != (l'.length : Int)) = false := by simp [hl]
    have HL := hid hl
    clear hl
    go_enter Tryd.func14, Tryd.ntmps14
    go_wp2
    go_loopw [5] (fun iv wr => ∃ k : Nat, k ≤ l.length ∧ iv = .int .i64 k ∧ Hid (l.take k = l'.take k) ∧ Below w.heap.size w wr) (fun iv _ => l.length - (intOf iv).toNat)
    case atStart => exact ⟨0, Nat.zero_le _, rfl, hid rfl, Below.refl _ _⟩
    case round =>
      obtain ⟨k, hk, rfl, ht, hb⟩ := hrel
      by_cases hlt : k < l.length
      · have hlt' : k < l'.length := by have := HL.out; omega
        obtain ⟨g, o, hA, hF, g0, g1, -, -⟩ := HC.out k hlt
        obtain ⟨g', o', hA', hF', g0', g1', -, -⟩ := HC'.out k hlt'
        subst hA hA'
        have c0 := cell_below hb hF g0
        have c1 := cell_below hb hF g1
        have d0 := cell_below hb hF' g0'
        have d1 := cell_below hb hF' g1'
        clear g0 g1 g0' g1'
        have i1 : (0 : Int) ≤ ↑k := by omega
        have i2 : (↑k : Int) < ↑l.length := by omega
        have i3 : (↑k : Int) < ↑l'.length := by omega
        have hn := fun W => term_neq l[k] l'[k] W
        have hgd := fun op a b W => term_guard op a b l[k] l'[k] W
        by_cases he : l[k] = l'[k]
        · have hd : decide (l[k] = l'[k]) = true := decide_eq_true he
          have HE := hid he
          clear he
          go_wp2
          go_quiet (fail)
          go_wp2
          exact ⟨⟨k + 1, by omega, by go_num, hid (by rw [List.take_succ_eq_append_getElem hlt, List.take_succ_eq_append_getElem hlt', ht.out, HE.out]), below_drewN hb _⟩, by simp [intOf]; omega⟩
        · have hd : decide (l[k] = l'[k]) = false := decide_eq_false he
          have HE := hid he
          clear he
          go_wp2
          go_quiet (fail)
          go_wp2
          go_ret
          exact ⟨by rw [decide_eq_false (p := l = l') (fun e => HE.out (by subst e; rfl))]; rfl, below_drewN hb _⟩
      · have HE : Hid (l = l') := hid (by
          have := ht.out
          rwa [List.take_of_length_le (by omega), List.take_of_length_le (by have := HL.out; omega)] at this)
        clear ht
        go_wp2
        go_ret
        exact ⟨by rw [decide_eq_true HE.out]; rfl, hb⟩
  · have hb1 : ((l.length : Int) != (l'.length : Int)) = true := by simp; omega
    have HL := hid hl
    clear hl
    go_enter Tryd.func14, Tryd.ntmps14
    go_wp2
    go_ret
    exact ⟨by rw [decide_eq_false (p := l = l') (fun e => HL.out (by rw [e]))]; rfl, Below.refl _ _⟩

theorem cells5 {B : Nat} {w w' : World} (hb : Below B w w') {g o : Nat} (hg : g < B) {x0 x1 x2 x3 x4 : Value} (h : w.cell? ⟨g, o, none⟩ = some x0 ∧ w.cell? ⟨g, o + 1, none⟩ = some x1 ∧ w.cell? ⟨g, o + 2, none⟩ = some x2 ∧ w.cell? ⟨g, o + 3, none⟩ = some x3 ∧ w.cell? ⟨g, o + 4, none⟩ = some x4) :
    w'.cell? ⟨g, o, none⟩ = some x0 ∧ w'.cell? ⟨g, o + 1, none⟩ = some x1 ∧ w'.cell? ⟨g, o + 2, none⟩ = some x2 ∧ w'.cell? ⟨g, o + 3, none⟩ = some x3 ∧ w'.cell? ⟨g, o + 4, none⟩ = some x4 :=
  ⟨cell_below hb hg h.1, cell_below hb hg h.2.1, cell_below hb hg h.2.2.1, cell_below hb hg h.2.2.2.1, cell_below hb hg h.2.2.2.2⟩
theorem row_ne {r r' : Row} (h : (r.kind == r'.kind) = false ∨ (r.unit == r'.unit) = false ∨ (r.a == r'.a) = false ∨ (r.b == r'.b) = false) : decide (r = r') = false := by
  refine decide_eq_false (fun e => ?_)
  subst e
  simp at h
theorem row_eq {r r' : Row} (h0 : (r.kind == r'.kind) = true) (h1 : (r.unit == r'.unit) = true) (h2 : (r.a == r'.a) = true) (h3 : (r.b == r'.b) = true) : decide (r.terms = r'.terms) = decide (r = r') := by
  obtain ⟨k, u, a, b, t⟩ := r
  obtain ⟨k', u', a', b', t'⟩ := r'
  simp at h0 h1 h2 h3
  subst h0; subst h1; subst h2; subst h3
  simp

set_option maxRecDepth 100000 in
set_option maxHeartbeats 1000000 in
theorem same29_any (tv tv' : Value) (r r' : Row) (w : World) (h : SliceRd tTerm w (Lt w.heap.size) tv r.terms) (h' : SliceRd tTerm w (Lt w.heap.size) tv' r'.terms) :
    Calls Tryd.prog 23 #[.agg #[.int .i64 r.kind, .int .i64 r.unit, .int .i64 r.a, .int .i64 r.b, tv], .agg #[.int .i64 r'.kind, .int .i64 r'.unit, .int .i64 r'.a, .int .i64 r'.b, tv']] w fun e w' => e = .returned (.bool (decide (r = r'))) ∧ Below w.heap.size w w' := by
  have HH := hid h
  have HH' := hid h'
  obtain ⟨A, cap, rfl, -, -, -⟩ := h.terms
  obtain ⟨A', cap', rfl, -, -, -⟩ := h'.terms
  clear h h'
  have hB : ∀ o o', Below w.heap.size w ((w.alloc o).alloc o') := fun o o' => ((Below.refl _ _).alloc (Nat.le_refl _) _).alloc (by simp) _
  rcases Bool.eq_false_or_eq_true (r.kind == r'.kind) with c1 | c1
  · rcases Bool.eq_false_or_eq_true (r.unit == r'.unit) with c2 | c2
    · rcases Bool.eq_false_or_eq_true (r.a == r'.a) with c3 | c3
      · rcases Bool.eq_false_or_eq_true (r.b == r'.b) with c4 | c4
        · have hd := hid (row_eq c1 c2 c3 c4)
          go_enter Tryd.func23, Tryd.ntmps23
          go_wp2_with (go_at_call 14; refine (sameTerms_any _ _ _ _ _ (HH.out.lift (hB _ _) (by simp; omega)) (HH'.out.lift (hB _ _) (by simp; omega))).mono ?_; rintro e w1 ⟨rfl, hb1⟩)
          go_ret
          exact ⟨by rw [← hd.out]; rfl, (hB _ _).trans (hb1.mono (by simp; omega))⟩
        · have hd := row_ne (r := r) (r' := r') (by simp only [c4]; simp)
          go_enter Tryd.func23, Tryd.ntmps23
          go_wp2
          go_ret
          exact ⟨by rw [hd]; rfl, hB _ _⟩
      · have hd := row_ne (r := r) (r' := r') (by simp only [c3]; simp)
        go_enter Tryd.func23, Tryd.ntmps23
        go_wp2
        go_ret
        exact ⟨by rw [hd]; rfl, hB _ _⟩
    · have hd := row_ne (r := r) (r' := r') (by simp only [c2]; simp)
      go_enter Tryd.func23, Tryd.ntmps23
      go_wp2
      go_ret
      exact ⟨by rw [hd]; rfl, hB _ _⟩
  · have hd := row_ne (r := r) (r' := r') (by simp only [c1]; simp)
    go_enter Tryd.func23, Tryd.ntmps23
    go_wp2
    go_ret
    exact ⟨by rw [hd]; rfl, hB _ _⟩

set_option maxRecDepth 100000 in
set_option maxHeartbeats 1000000 in
theorem sameRows_any (v v' : Value) (l l' : List Row) (w : World) (h : SliceRd tRow w (Lt w.heap.size) v l) (h' : SliceRd tRow w (Lt w.heap.size) v' l') :
    Calls Tryd.prog 11 #[v, v'] w fun e w' => e = .returned (.bool (decide (l = l'))) ∧ Below w.heap.size w w' := by
  obtain ⟨A, cap, rfl, hcap, hmax, hc⟩ := h.rows
  obtain ⟨A', cap', rfl, hcap', hmax', hc'⟩ := h'.rows
  unfold maxLen at hmax hmax'
  have HC := hid hc
  have HC' := hid hc'
  clear hc hc' h h'
  by_cases hl : l.length = l'.length
  · have hb1 : ((l.length : Int) != (l'.length : Int)) = false := by simp [hl]
    have HL := hid hl
    clear hl
    go_enter Tryd.func11, Tryd.ntmps11
    go_wp2
    go_loopw [5] (fun iv wr => ∃ k : Nat, k ≤ l.length ∧ iv = .int .i64 k ∧ Hid (l.take k = l'.take k) ∧ Below w.heap.size w wr) (fun iv _ => l.length - (intOf iv).toNat)
    case atStart => exact ⟨0, Nat.zero_le _, rfl, hid rfl, Below.refl _ _⟩
    case round =>
      obtain ⟨k, hk, rfl, ht, hb⟩ := hrel
      by_cases hlt : k < l.length
      · have hlt' : k < l'.length := by have := HL.out; omega
        obtain ⟨g, o, tv, hA, hF, g0, g1, g2, g3, g4, -, gt⟩ := HC.out k hlt
        obtain ⟨g', o', tv', hA', hF', g0', g1', g2', g3', g4', -, gt'⟩ := HC'.out k hlt'
        subst hA hA'
        have c0 := cell_below hb hF g0
        have c1 := cell_below hb hF g1
        have c2 := cell_below hb hF g2
        have c3 := cell_below hb hF g3
        have c4 := cell_below hb hF g4
        have d0 := cell_below hb hF' g0'
        have d1 := cell_below hb hF' g1'
        have d2 := cell_below hb hF' g2'
        have d3 := cell_below hb hF' g3'
        have d4 := cell_below hb hF' g4'
        have HT := hid (gt.lift hb hb.size)
        have hbb : g < wr.heap.size := Nat.lt_of_lt_of_le hF hb.size
        have hbb' : g' < wr.heap.size := Nat.lt_of_lt_of_le hF' hb.size
        have HT' := hid (gt'.lift hb hb.size)
        clear g0 g1 g0' g1' g2 g3 g4 g2' g3' g4' gt gt'
        have i1 : (0 : Int) ≤ ↑k := by omega
        have i2 : (↑k : Int) < ↑l.length := by omega
        have i3 : (↑k : Int) < ↑l'.length := by omega
        by_cases he : l[k] = l'[k]
        · have hd : decide (l[k] = l'[k]) = true := decide_eq_true he
          have HE := hid he
          clear he
          go_wp2
          go_region_held3 (fun w' => w'.cell? ⟨g, o + k * 5, none⟩ = some (.int .i64 l[k].kind) ∧ w'.cell? ⟨g, o + k * 5 + 1, none⟩ = some (.int .i64 l[k].unit) ∧ w'.cell? ⟨g, o + k * 5 + 2, none⟩ = some (.int .i64 l[k].a) ∧ w'.cell? ⟨g, o + k * 5 + 3, none⟩ = some (.int .i64 l[k].b) ∧ w'.cell? ⟨g, o + k * 5 + 4, none⟩ = some tv ∧
              w'.cell? ⟨g', o' + k * 5, none⟩ = some (.int .i64 l'[k].kind) ∧ w'.cell? ⟨g', o' + k * 5 + 1, none⟩ = some (.int .i64 l'[k].unit) ∧ w'.cell? ⟨g', o' + k * 5 + 2, none⟩ = some (.int .i64 l'[k].a) ∧ w'.cell? ⟨g', o' + k * 5 + 3, none⟩ = some (.int .i64 l'[k].b) ∧ w'.cell? ⟨g', o' + k * 5 + 4, none⟩ = some tv') (first | exact ⟨by assumption, by assumption, by assumption, by assumption, by assumption, by assumption, by assumption, by assumption, by assumption, by assumption⟩ | go_keep)
            ((go_at_call 23; refine (same29_any _ _ l[k] l'[k] _ (HT.out.lift ((Below.refl _ _).drew) (Nat.le_refl _)) (HT'.out.lift ((Below.refl _ _).drew) (Nat.le_refl _))).mono ?_; rintro e w1 ⟨rfl, hb1⟩; replace hb1 : Below wr.heap.size wr w1 := ((Below.refl _ _).drew).trans hb1
              obtain ⟨e0, e1, e2, e3, e4⟩ := cells5 hb1 hbb ⟨c0, c1, c2, c3, c4⟩; obtain ⟨f0, f1, f2, f3, f4⟩ := cells5 hb1 hbb' ⟨d0, d1, d2, d3, d4⟩))
          all_goals go_wp2
          exact ⟨⟨k + 1, by omega, by go_num, hid (by rw [List.take_succ_eq_append_getElem hlt, List.take_succ_eq_append_getElem hlt', ht.out, HE.out]), hb.trans (hb1.mono hb.size)⟩, by simp [intOf]; omega⟩
        · have hd : decide (l[k] = l'[k]) = false := decide_eq_false he
          have HE := hid he
          clear he
          go_wp2
          go_region_held3 (fun w' => w'.cell? ⟨g, o + k * 5, none⟩ = some (.int .i64 l[k].kind) ∧ w'.cell? ⟨g, o + k * 5 + 1, none⟩ = some (.int .i64 l[k].unit) ∧ w'.cell? ⟨g, o + k * 5 + 2, none⟩ = some (.int .i64 l[k].a) ∧ w'.cell? ⟨g, o + k * 5 + 3, none⟩ = some (.int .i64 l[k].b) ∧ w'.cell? ⟨g, o + k * 5 + 4, none⟩ = some tv ∧
              w'.cell? ⟨g', o' + k * 5, none⟩ = some (.int .i64 l'[k].kind) ∧ w'.cell? ⟨g', o' + k * 5 + 1, none⟩ = some (.int .i64 l'[k].unit) ∧ w'.cell? ⟨g', o' + k * 5 + 2, none⟩ = some (.int .i64 l'[k].a) ∧ w'.cell? ⟨g', o' + k * 5 + 3, none⟩ = some (.int .i64 l'[k].b) ∧ w'.cell? ⟨g', o' + k * 5 + 4, none⟩ = some tv') (first | exact ⟨by assumption, by assumption, by assumption, by assumption, by assumption, by assumption, by assumption, by assumption, by assumption, by assumption⟩ | go_keep)
            ((go_at_call 23; refine (same29_any _ _ l[k] l'[k] _ (HT.out.lift ((Below.refl _ _).drew) (Nat.le_refl _)) (HT'.out.lift ((Below.refl _ _).drew) (Nat.le_refl _))).mono ?_; rintro e w1 ⟨rfl, hb1⟩; replace hb1 : Below wr.heap.size wr w1 := ((Below.refl _ _).drew).trans hb1
              obtain ⟨e0, e1, e2, e3, e4⟩ := cells5 hb1 hbb ⟨c0, c1, c2, c3, c4⟩; obtain ⟨f0, f1, f2, f3, f4⟩ := cells5 hb1 hbb' ⟨d0, d1, d2, d3, d4⟩))
          all_goals go_wp2
          go_ret
          exact ⟨by rw [decide_eq_false (p := l = l') (fun e => HE.out (by subst e; rfl))]; rfl, hb.trans (hb1.mono hb.size)⟩
      · have HE : Hid (l = l') := hid (by
          have := ht.out
          rwa [List.take_of_length_le (by omega), List.take_of_length_le (by have := HL.out; omega)] at this)
        clear ht
        go_wp2
        go_ret
        exact ⟨by rw [decide_eq_true HE.out]; rfl, hb⟩
  · have hb1 : ((l.length : Int) != (l'.length : Int)) = true := by simp; omega
    have HL := hid hl
    clear hl
    go_enter Tryd.func11, Tryd.ntmps11
    go_wp2
    go_ret
    exact ⟨by rw [decide_eq_false (p := l = l') (fun e => HL.out (by rw [e]))]; rfl, Below.refl _ _⟩
end Go.Proofs.YtmghlakedaigpaaDoor
