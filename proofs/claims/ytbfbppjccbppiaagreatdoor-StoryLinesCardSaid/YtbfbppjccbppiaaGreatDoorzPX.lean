import Derived.Test.YtbfbppjccbppiaaGreatDoorzN
import Derived.Test.YtbfbppjccbppiaaGreatDoorzA8
import Derived.Test.YtbfbppjccbppiaaGreatDoorzA
import Derived.Test.YtbfbppjccbppiaaGreatDoorRows
import Derived.Test.YtbfbppjccbppiaaGreatDoorzA6
import Derived.Laws.StructEq
import Derived.Deep.RegionHeld3
import Derived.Deep.DeepCutAuto
import Derived.Deep.DrawnRows
namespace Go.Proofs.YtbfbppjccbppiaaGreatDoor
open Go Go.RowKit
section
/- Rows whose terms may be an incompatibility's, and what the prover's box holds. No program stands here. -/

def CanR (ns : List Nat) (r : Row) : Prop := (∃ M, IncOk ns M ∧ r.terms = canon ns M) ∧ (1 ≤ r.kind ∧ r.kind ≤ 5) ∧ (0 ≤ r.unit ∧ r.unit < ns.length) ∧ (r.kind ≠ 5 → r.a = 0 ∧ r.b = 0) ∧ (r.kind = 1 → r.unit = 0)
def IdxR (R : List Row) : Prop := ∀ i, (h : i < R.length) → R[i].kind = 5 → (0 ≤ R[i].a ∧ R[i].a < i) ∧ 0 ≤ R[i].b ∧ R[i].b < i
theorem IdxR.snoc {R : List Row} {r : Row} (h : IdxR R) (hr : r.kind = 5 → (0 ≤ r.a ∧ r.a < R.length) ∧ 0 ≤ r.b ∧ r.b < R.length) : IdxR (R ++ [r]) := by
 intro i hi hk
 rcases Nat.lt_or_ge i R.length with hlt | hge
 ·rw [List.getElem_append_left hlt] at hk ⊢
  exact h i hlt hk
 ·have : i = R.length := by simp at hi; omega
  subst this
  rw [List.getElem_append_right (Nat.le_refl _)] at hk ⊢
  simp only [Nat.sub_self, List.getElem_cons_zero] at hk ⊢
  exact hr hk
theorem IdxR.take {R : List Row} (h : IdxR R) (k : Nat) : IdxR (R.take k) := by
 intro i hi hk
 rw [List.getElem_take] at hk ⊢
 exact h i (by rw [List.length_take] at hi; omega) hk
def qs4 (ns : List Nat) : Ty Row where
 size := 5
 rd w F cs r := tRow.rd w F cs r ∧ CanR ns r
 len h := tRow.len h.1
 keep hk h := ⟨tRow.keep hk h.1, h.2⟩
 more hF h := ⟨tRow.more hF h.1, h.2⟩
theorem SliceRd.plainRows {ns : List Nat} {w : World} {F : Nat → Prop} {v : Value} {l : List Row} (h : SliceRd (qs4 ns) w F v l) : SliceRd tRow w F v l ∧ ∀ r ∈ l, CanR ns r := by
 obtain ⟨A, cap, hv, h1, h2, h3⟩ := h
 refine ⟨⟨A, cap, hv, h1, h2, fun k hk => ?_⟩, fun r hr => ?_⟩
 ·obtain ⟨g, o, cs, hA, hF, hl, hc, hr⟩ := h3 k hk
  exact ⟨g, o, cs, hA, hF, hl, hc, hr.1⟩
 ·obtain ⟨k, hk, rfl⟩ := List.getElem_of_mem hr
  obtain ⟨g, o, cs, hA, hF, hl, hc, hr⟩ := h3 k hk
  exact hr.2
end
section
/- Contracts: linchpinref29.same, Same. -/
attribute [local go_sem ↓] Go.wp_at_zero Go.wp_at_succ

theorem cells5 {B : Nat} {w w' : World} (hb : Below B w w') {g o : Nat} (hg : g < B) {x0 x1 x2 x3 x4 : Value} (h : w.cell? ⟨g, o, none⟩ = some x0 ∧ w.cell? ⟨g, o + 1, none⟩ = some x1 ∧ w.cell? ⟨g, o + 2, none⟩ = some x2 ∧ w.cell? ⟨g, o + 3, none⟩ = some x3 ∧ w.cell? ⟨g, o + 4, none⟩ = some x4) :
  w'.cell? ⟨g, o, none⟩ = some x0 ∧ w'.cell? ⟨g, o + 1, none⟩ = some x1 ∧ w'.cell? ⟨g, o + 2, none⟩ = some x2 ∧ w'.cell? ⟨g, o + 3, none⟩ = some x3 ∧ w'.cell? ⟨g, o + 4, none⟩ = some x4 :=
 ⟨cell_below hb hg h.1, cell_below hb hg h.2.1, cell_below hb hg h.2.2.1, cell_below hb hg h.2.2.2.1, cell_below hb hg h.2.2.2.2⟩
theorem row_ne {r r' : Row} (h : (r.kind == r'.kind) = false ∨ (r.unit == r'.unit) = false ∨ (r.a == r'.a) = false ∨ (r.b == r'.b) = false) : decide (r = r') = false := by
 refine decide_eq_false (fun e => ?_)
 subst e
 simp at h
theorem row_eq {r r' : Row} (h0 : (r.kind == r'.kind) = true) (h1 : (r.unit == r'.unit) = true) (h2 : (r.a == r'.a) = true) (h3 : (r.b == r'.b) = true) : decide (r.terms = r'.terms) = decide (r = r') := by
 obtain ⟨k, u, a, b, t⟩ := r
 obtain ⟨k', u', a', b', t'⟩ := r'
 simp at h0 h1 h2 h3
 subst h0; subst h1; subst h2; subst h3
 simp

set_option maxRecDepth 100000 in
set_option maxHeartbeats 1000000 in
theorem zo9 (tv tv' : Value) (r r' : Row) (w : World) (h : SliceRd qg1 w (Lt w.heap.size) tv r.terms) (h' : SliceRd qg1 w (Lt w.heap.size) tv' r'.terms) :
  Calls Tryz.prog 38 #[.agg #[.int .i64 r.kind, .int .i64 r.unit, .int .i64 r.a, .int .i64 r.b, tv], .agg #[.int .i64 r'.kind, .int .i64 r'.unit, .int .i64 r'.a, .int .i64 r'.b, tv']] w fun e w' => e = .returned (.bool (decide (r = r'))) ∧ Below w.heap.size w w' := by
 have HH := hid h
 have HH' := hid h'
 obtain ⟨A, cap, rfl, -, -, -⟩ := h.terms
 obtain ⟨A', cap', rfl, -, -, -⟩ := h'.terms
 clear h h'
 have hB : ∀ o o', Below w.heap.size w ((w.alloc o).alloc o') := fun o o' => ((Below.refl _ _).alloc (Nat.le_refl _) _).alloc (by simp) _
 rcases Bool.eq_false_or_eq_true (r.kind == r'.kind) with c1 | c1
 ·rcases Bool.eq_false_or_eq_true (r.unit == r'.unit) with c2 | c2
  ·rcases Bool.eq_false_or_eq_true (r.a == r'.a) with c3 | c3
   ·rcases Bool.eq_false_or_eq_true (r.b == r'.b) with c4 | c4
    ·have hd := hid (row_eq c1 c2 c3 c4)
     go_enter Tryz.func38, Tryz.ntmps38
     go_wp2_with (go_at_call 76; refine (za4 _ _ _ _ _ (HH.out.lift (hB _ _) (by simp; omega)) (HH'.out.lift (hB _ _) (by simp; omega))).mono ?_; rintro e w1 ⟨rfl, hb1⟩)
     go_ret
     exact ⟨by rw [← hd.out]; rfl, (hB _ _).trans (hb1.mono (by simp; omega))⟩
    ·have hd := row_ne (r := r) (r' := r') (by simp only [c4]; simp)
     go_enter Tryz.func38, Tryz.ntmps38
     go_wp2
     go_ret
     exact ⟨by rw [hd]; rfl, hB _ _⟩
   ·have hd := row_ne (r := r) (r' := r') (by simp only [c3]; simp)
    go_enter Tryz.func38, Tryz.ntmps38
    go_wp2
    go_ret
    exact ⟨by rw [hd]; rfl, hB _ _⟩
  ·have hd := row_ne (r := r) (r' := r') (by simp only [c2]; simp)
   go_enter Tryz.func38, Tryz.ntmps38
   go_wp2
   go_ret
   exact ⟨by rw [hd]; rfl, hB _ _⟩
 ·have hd := row_ne (r := r) (r' := r') (by simp only [c1]; simp)
  go_enter Tryz.func38, Tryz.ntmps38
  go_wp2
  go_ret
  exact ⟨by rw [hd]; rfl, hB _ _⟩

set_option maxRecDepth 100000 in
set_option maxHeartbeats 1000000 in
theorem sameRows_any (v v' : Value) (l l' : List Row) (w : World) (h : SliceRd tRow w (Lt w.heap.size) v l) (h' : SliceRd tRow w (Lt w.heap.size) v' l') :
  Calls Tryz.prog 14 #[v, v'] w fun e w' => e = .returned (.bool (decide (l = l'))) ∧ Below w.heap.size w w' := by
 obtain ⟨A, cap, rfl, hcap, hmax, hc⟩ := h.rows
 obtain ⟨A', cap', rfl, hcap', hmax', hc'⟩ := h'.rows
 unfold maxLen at hmax hmax'
 have HC := hid hc
 have HC' := hid hc'
 clear hc hc' h h'
 by_cases hl : l.length = l'.length
 ·have hb1 : ((l.length : Int) != (l'.length : Int)) = false := by simp [hl]
  have HL := hid hl
  clear hl
  go_enter Tryz.func14, Tryz.ntmps14
  go_wp2
  go_loopw [5] (fun iv wr => ∃ k : Nat, k ≤ l.length ∧ iv = .int .i64 k ∧ Hid (l.take k = l'.take k) ∧ Below w.heap.size w wr) (fun iv _ => l.length - (intOf iv).toNat)
  case atStart => exact ⟨0, Nat.zero_le _, rfl, hid rfl, Below.refl _ _⟩
  case round =>
   obtain ⟨k, hk, rfl, ht, hb⟩ := hrel
   by_cases hlt : k < l.length
   ·have hlt' : k < l'.length := by have := HL.out; omega
    obtain ⟨g, o, tv, hA, hF, g0, g1, g2, g3, g4, -, gt⟩ := HC.out k hlt
    obtain ⟨g', o', tv', hA', hF', g0', g1', g2', g3', g4', -, gt'⟩ := HC'.out k hlt'
    subst hA hA'
    have c0 := cell_below hb hF g0
    have c1 := cell_below hb hF g1
    have c2 := cell_below hb hF g2
    have c3 := cell_below hb hF g3
    have c4 := cell_below hb hF g4
    have d0 := cell_below hb hF' g0'
    have d1 := cell_below hb hF' g1'
    have d2 := cell_below hb hF' g2'
    have d3 := cell_below hb hF' g3'
    have d4 := cell_below hb hF' g4'
    have HT := hid (gt.lift hb hb.size)
    have hbb : g < wr.heap.size := Nat.lt_of_lt_of_le hF hb.size
    have hbb' : g' < wr.heap.size := Nat.lt_of_lt_of_le hF' hb.size
    have HT' := hid (gt'.lift hb hb.size)
    clear g0 g1 g0' g1' g2 g3 g4 g2' g3' g4' gt gt'
    have i1 : (0 : Int) ≤ ↑k := by omega
    have i2 : (↑k : Int) < ↑l.length := by omega
    have i3 : (↑k : Int) < ↑l'.length := by omega
    by_cases he : l[k] = l'[k]
    ·have hd : decide (l[k] = l'[k]) = true := decide_eq_true he
     have HE := hid he
     clear he
     go_wp2
     go_region_held3 (fun w' => w'.cell? ⟨g, o + k * 5, none⟩ = some (.int .i64 l[k].kind) ∧ w'.cell? ⟨g, o + k * 5 + 1, none⟩ = some (.int .i64 l[k].unit) ∧ w'.cell? ⟨g, o + k * 5 + 2, none⟩ = some (.int .i64 l[k].a) ∧ w'.cell? ⟨g, o + k * 5 + 3, none⟩ = some (.int .i64 l[k].b) ∧ w'.cell? ⟨g, o + k * 5 + 4, none⟩ = some tv ∧
       w'.cell? ⟨g', o' + k * 5, none⟩ = some (.int .i64 l'[k].kind) ∧ w'.cell? ⟨g', o' + k * 5 + 1, none⟩ = some (.int .i64 l'[k].unit) ∧ w'.cell? ⟨g', o' + k * 5 + 2, none⟩ = some (.int .i64 l'[k].a) ∧ w'.cell? ⟨g', o' + k * 5 + 3, none⟩ = some (.int .i64 l'[k].b) ∧ w'.cell? ⟨g', o' + k * 5 + 4, none⟩ = some tv') (first | exact ⟨by assumption, by assumption, by assumption, by assumption, by assumption, by assumption, by assumption, by assumption, by assumption, by assumption⟩ | go_keep)
      ((go_at_call 38; refine (zo9 _ _ l[k] l'[k] _ (HT.out.lift ((Below.refl _ _).drew) (Nat.le_refl _)) (HT'.out.lift ((Below.refl _ _).drew) (Nat.le_refl _))).mono ?_; rintro e w1 ⟨rfl, hb1⟩; replace hb1 : Below wr.heap.size wr w1 := ((Below.refl _ _).drew).trans hb1; obtain ⟨e0, e1, e2, e3, e4⟩ := cells5 hb1 hbb ⟨c0, c1, c2, c3, c4⟩; obtain ⟨f0, f1, f2, f3, f4⟩ := cells5 hb1 hbb' ⟨d0, d1, d2, d3, d4⟩))
     all_goals go_wp2
     exact ⟨⟨k + 1, by omega, by go_num, hid (by rw [List.take_succ_eq_append_getElem hlt, List.take_succ_eq_append_getElem hlt', ht.out, HE.out]), hb.trans (hb1.mono hb.size)⟩, by simp [intOf]; omega⟩
    ·have hd : decide (l[k] = l'[k]) = false := decide_eq_false he
     have HE := hid he
     clear he
     go_wp2
     go_region_held3 (fun w' => w'.cell? ⟨g, o + k * 5, none⟩ = some (.int .i64 l[k].kind) ∧ w'.cell? ⟨g, o + k * 5 + 1, none⟩ = some (.int .i64 l[k].unit) ∧ w'.cell? ⟨g, o + k * 5 + 2, none⟩ = some (.int .i64 l[k].a) ∧ w'.cell? ⟨g, o + k * 5 + 3, none⟩ = some (.int .i64 l[k].b) ∧ w'.cell? ⟨g, o + k * 5 + 4, none⟩ = some tv ∧
       w'.cell? ⟨g', o' + k * 5, none⟩ = some (.int .i64 l'[k].kind) ∧ w'.cell? ⟨g', o' + k * 5 + 1, none⟩ = some (.int .i64 l'[k].unit) ∧ w'.cell? ⟨g', o' + k * 5 + 2, none⟩ = some (.int .i64 l'[k].a) ∧ w'.cell? ⟨g', o' + k * 5 + 3, none⟩ = some (.int .i64 l'[k].b) ∧ w'.cell? ⟨g', o' + k * 5 + 4, none⟩ = some tv') (first | exact ⟨by assumption, by assumption, by assumption, by assumption, by assumption, by assumption, by assumption, by assumption, by assumption, by assumption⟩ | go_keep)
      ((go_at_call 38; refine (zo9 _ _ l[k] l'[k] _ (HT.out.lift ((Below.refl _ _).drew) (Nat.le_refl _)) (HT'.out.lift ((Below.refl _ _).drew) (Nat.le_refl _))).mono ?_; rintro e w1 ⟨rfl, hb1⟩; replace hb1 : Below wr.heap.size wr w1 := ((Below.refl _ _).drew).trans hb1; obtain ⟨e0, e1, e2, e3, e4⟩ := cells5 hb1 hbb ⟨c0, c1, c2, c3, c4⟩; obtain ⟨f0, f1, f2, f3, f4⟩ := cells5 hb1 hbb' ⟨d0, d1, d2, d3, d4⟩))
     all_goals go_wp2
     go_ret
     exact ⟨by rw [decide_eq_false (p := l = l') (fun e => HE.out (by subst e; rfl))]; rfl, hb.trans (hb1.mono hb.size)⟩
   ·have HE : Hid (l = l') := hid (by
     have := ht.out
     rwa [List.take_of_length_le (by omega), List.take_of_length_le (by have := HL.out; omega)] at this)
    clear ht
    go_wp2
    go_ret
    exact ⟨by rw [decide_eq_true HE.out]; rfl, hb⟩
 ·have hb1 : ((l.length : Int) != (l'.length : Int)) = true := by simp; omega
  have HL := hid hl
  clear hl
  go_enter Tryz.func14, Tryz.ntmps14
  go_wp2
  go_ret
  exact ⟨by rw [decide_eq_false (p := l = l') (fun e => HL.out (by rw [e]))]; rfl, Below.refl _ _⟩
end
section
/- Contract: prover.closed. -/

def PBox (w : World) (bp : Nat) (uv fv rv : Value) : Prop := w.heap[bp]? = some (.cells #[uv, fv, rv] 102 (0, 0))
theorem PBox.cells {w : World} {bp : Nat} {uv fv rv : Value} (h : PBox w bp uv fv rv) : w.cell? ⟨bp, 0, none⟩ = some uv ∧ w.cell? ⟨bp, 1, none⟩ = some fv ∧ w.cell? ⟨bp, 2, none⟩ = some rv := by
 unfold PBox at h
 refine ⟨?_, ?_, ?_⟩ <;> rw [cell_of_row w bp _ _ _ (0, 0) h] <;> rfl
theorem PBox.lt {w : World} {bp : Nat} {uv fv rv : Value} (h : PBox w bp uv fv rv) : bp < w.heap.size := (Array.getElem?_eq_some_iff.1 h).1

set_option maxRecDepth 100000 in
set_option maxHeartbeats 2000000 in
theorem closed_any (bp g cap0 : Nat) (fv rv cv : Value) (ns : List Nat) (fs : List Row) (c : List Int) (w : World) (hp : PBox w bp (.slice (some ⟨g, 0, none⟩) ns.length cap0) fv rv)
  (hU : qi7 w (Lt w.heap.size) (.agg #[.slice (some ⟨g, 0, none⟩) ns.length cap0]) ns) (ho : NsOk ns) (hf : SliceRd (qs4 ns) w (Lt w.heap.size) fv fs) (hl : fs.length ≤ 100000) (hcv : SliceRd tInt w (Lt w.heap.size) cv c) (hc : PreOk ns c) :
  Calls Tryz.prog 86 #[.pointer (some ⟨bp, 0, none⟩), cv] w fun e w' => ∃ r : Int, e = .returned (.int .i64 r) ∧ -1 ≤ r ∧ r < fs.length ∧ Below w.heap.size w w' := by
 obtain ⟨p0, p1, p2⟩ := hp.cells
 have hbp := hp.lt
 obtain ⟨hfr, hcan⟩ := hf.plainRows
 have HCAN := hid hcan
 obtain ⟨A, cap, rfl, hcap, hmax, hrow⟩ := hfr.rows
 have HROW := hid hrow
 obtain ⟨AC, capc, rfl, hcapc, hmaxc, -⟩ := hcv.ints
 have HCV := hid hcv
 have HUN := hid hU
 have HO := hid ho
 have HC := hid hc
 clear hf hfr hrow hcv hU ho hc hcan hp
 go_enter Tryz.func86, Tryz.ntmps86
 go_wp2_with fail
 go_loopw [5] (fun iv wr => ∃ k : Nat, k ≤ fs.length ∧ iv = .int .i64 k ∧ Hid (Below w.heap.size w wr)) (fun iv _ => fs.length - (intOf iv).toNat)
 case atStart => exact ⟨0, Nat.zero_le _, rfl, hid (Below.refl _ _)⟩
 case round =>
  obtain ⟨k, hk, rfl, hb⟩ := hrel
  have r0 := cell_below hb.out hbp p0
  have r1 := cell_below hb.out hbp p1
  have i1 : (0 : Int) ≤ ↑k := by omega
  by_cases hlt : k < fs.length
  ·obtain ⟨g1, o1, tv, hA, hF, g0, g1', g2, g3, g4, -, gt⟩ := HROW.out k hlt
   cases hA
   obtain ⟨c0, c1, c2, c3, c4⟩ := cells5 hb.out hF ⟨g0, g1', g2, g3, g4⟩
   obtain ⟨-, -, -, -, c4w⟩ := cells5 (Below.refl w.heap.size w) hF ⟨g0, g1', g2, g3, g4⟩
   obtain ⟨TA, tcap, rfl, htc, htm, hte⟩ := gt.terms
   have HTE := hid hte
   have i2 : (↑k : Int) < ↑fs.length := by omega
   obtain ⟨n, hn⟩ : ∃ n, n = fs[k].terms.length := ⟨_, rfl⟩
   rw [← hn] at c4 c4w htc
   have HN := hid hn
   unfold maxLen at htm
   clear hte gt g0 g1' g2 g3 g4 c0 c1 c2 c3 hn
   have HG := hid (show g1 < w.heap.size from hF)
   go_wp2_with fail
   go_loopw [6, 7] (fun ov jv wr => ∃ (b : Bool) (j : Nat), j ≤ n ∧ ov = .bool b ∧ jv = .int .i64 j ∧ Hid (Below w.heap.size w wr)) (fun _ jv _ => n - (intOf jv).toNat)
   case atStart => exact ⟨true, 0, Nat.zero_le _, rfl, rfl, hb⟩
   case round =>
    clear r0 r1 c4 hb
    obtain ⟨b, j, hj, rfl, rfl, hb⟩ := hrel
    have r0 := cell_below hb.out hbp p0
    have r1 := cell_below hb.out hbp p1
    have c4 : wr.cell? ⟨g1, o1 + k * 5 + 4, none⟩ = some (.slice TA n tcap) := cell_below hb.out HG.out c4w
    have j1 : (0 : Int) ≤ ↑j := by omega
    by_cases hjn : j < n
    ·have hjl : j < fs[k].terms.length := by rw [← HN.out]; exact hjn
     obtain ⟨gt, ot, rfl, hFt, t0, t1, -, -⟩ := HTE.out j hjl
     have t0' := cell_below hb.out hFt t0
     have t1' := cell_below hb.out hFt t1
     have hgt : gt < wr.heap.size := Nat.lt_of_lt_of_le hFt hb.out.size
     have j2 : (↑j : Int) < ↑n := by omega
     obtain ⟨t, ht⟩ : ∃ t, t = fs[k].terms[j] := ⟨_, rfl⟩
     rw [← ht] at t0' t1'
     have HT := hid ht
     clear t0 t1 ht
     have HTB : Hid (0 ≤ t.unit ∧ t.unit < ns.length) := hid (by
      obtain ⟨⟨M, -, hM⟩, -⟩ := HCAN.out _ (List.getElem_mem hlt)
      have hm : t ∈ canon ns M := by rw [HT.out, ← hM]; exact List.getElem_mem hjl
      obtain ⟨u, hu, -, rfl⟩ := qp7.1 hm
      exact ⟨by show (0 : Int) ≤ (u : Int); omega, by show (u : Int) < _; omega⟩)
     go_wp2_with fail
     obtain ⟨wb, hwb⟩ : ∃ wb : World, wb = wr.alloc (.cells #[.int .i64 t.unit, .int .i64 t.mask] 66) := ⟨_, rfl⟩
     have hbb : Below wr.heap.size wr wb := hwb ▸ qa0 (b0 wr) _
     have hzb : wr.heap.size < wb.heap.size := by rw [hwb]; simp
     have x0 : wb.cell? ⟨wr.heap.size, 0, none⟩ = some (.int .i64 t.unit) := by rw [hwb, qa6]; rfl
     have x1 : wb.cell? ⟨wr.heap.size, 1, none⟩ = some (.int .i64 t.mask) := by rw [hwb, qa6]; rfl
     have HBB := hid (hb.out.trans (hbb.mono hb.out.size))
     have l0 := qa2 hzb x0
     have l1 := qa2 hzb x1
     have lp := qa2 (Nat.lt_of_lt_of_le hbp HBB.out.size) (cell_below HBB.out hbp p0)
     rw [← hwb]
     obtain ⟨bz, hbz⟩ : ∃ bz, wr.heap.size = bz := ⟨_, rfl⟩
     rw [hbz] at l0 l1 ⊢
     clear r0 r1 c4 t0' t1' hwb hbb hzb x0 x1 hb hbz
     cases b with
     | false =>
      (refine qa3 (by kernel_rfl) (by kernel_rfl) ?_; (repeat (go_big_quiet_step ((fail)))); refine wpQuiet_nil ?_; rintro _ ⟨e1, rfl⟩)
      obtain ⟨w2, hw2⟩ : ∃ w2 : World, w2 = e1.w := ⟨_, rfl⟩
      have HB2 := hid (show Below w.heap.size w w2 from hw2 ▸ HBB.out.trans (e1.below.mono HBB.out.size))
      rw [← hw2]
      clear hw2 l0 l1 lp
      go_wp2_with fail
      exact ⟨⟨false, j + 1, by omega, rfl, by go_num, HB2⟩, by simp [intOf]; omega⟩
     | true =>
      have HUB := hid (HUN.out.below HBB.out)
      have HCB := hid (HCV.out.below HBB.out)
      rcases Bool.eq_false_or_eq_true (decide (t.unit < (c.length : Int))) with hd | hd
      ·have HDU := hid (of_decide_eq_true hd)
       have HHO := hid (fun e : Later wb => rholds_pre (.agg #[.slice (some ⟨g, 0, none⟩) ns.length cap0]) (.slice AC c.length capc) ns c t e.w (qn9 (HUB.out.more fun _ hk => Nat.lt_of_lt_of_le hk HBB.out.size) e) HO.out ((HCB.out.more fun _ hk => Nat.lt_of_lt_of_le hk HBB.out.size).lift e.below e.below.size) HC.out ⟨HTB.out.1, HDU.out⟩)
       (refine qa3 (by kernel_rfl) (by kernel_rfl) ?_; (repeat (go_big_quiet_step ((go_at_call 122; exact Calls.later (HHO.out _) rfl)))); refine wpQuiet_nil ?_; rintro _ ⟨e1, rfl⟩)
       obtain ⟨w2, hw2⟩ : ∃ w2 : World, w2 = e1.w := ⟨_, rfl⟩
       have HB2 := hid (show Below w.heap.size w w2 from hw2 ▸ HBB.out.trans (e1.below.mono HBB.out.size))
       rw [← hw2]
       clear hw2 l0 l1 lp
       go_wp2_with fail
       exact ⟨⟨holdT c t, j + 1, by omega, rfl, by go_num, HB2⟩, by simp [intOf]; omega⟩
      ·(refine qa3 (by kernel_rfl) (by kernel_rfl) ?_; (repeat (go_big_quiet_step ((fail)))); refine wpQuiet_nil ?_; rintro _ ⟨e1, rfl⟩)
       obtain ⟨w2, hw2⟩ : ∃ w2 : World, w2 = e1.w := ⟨_, rfl⟩
       have HB2 := hid (show Below w.heap.size w w2 from hw2 ▸ HBB.out.trans (e1.below.mono HBB.out.size))
       rw [← hw2]
       clear hw2 l0 l1 lp
       go_wp2_with fail
       exact ⟨⟨false, j + 1, by omega, rfl, by go_num, HB2⟩, by simp [intOf]; omega⟩
    ·obtain rfl : j = n := by omega
     cases b with
     | true =>
      go_wp2_with fail
      go_ret
      exact ⟨k, rfl, by omega, by omega, hb.out⟩
     | false =>
      go_wp2_with fail
      exact ⟨⟨k + 1, by omega, by go_num, hb⟩, by simp [intOf]; omega⟩
  ·obtain rfl : k = fs.length := by omega
   go_wp2_with fail
   go_ret
   exact ⟨-1, rfl, by omega, by omega, hb.out⟩
end
section
/- The prover's rows: whose cells are whose. No program stands here. -/

structure OwnG {α : Type} (t : Ty α) (e : TypeId) (w : World) (bp : Nat) (v : Value) (l : List α) (xs : List Value) : Prop where
 own : w.ownsRow (bp + 1) e t.size v l.length xs
 el : ∀ k, (hk : k < l.length) → ∃ cs, cs.length = t.size ∧ (∀ j, j < t.size → xs[k * t.size + j]? = cs[j]?) ∧ t.rd w (fun b => b ≠ bp ∧ b < w.heap.size ∧ v.ownBlock ≠ some b) cs l[k]
section
variable {α : Type} {t : Ty α} {e : TypeId} {w w' : World} {bp : Nat} {v v' : Value} {l : List α} {xs cs : List Value} {x : α}
theorem OwnG.nil (t : Ty α) (e : TypeId) (w : World) (bp : Nat) : OwnG t e w bp (.slice none 0 0) [] [] := ⟨⟨by simp, .inl ⟨rfl, rfl⟩⟩, fun k hk => absurd hk (by simp)⟩
theorem OwnG.later (h : OwnG t e w bp v l xs) (hb : Below w.heap.size w w') : OwnG t e w' bp v l xs :=
 ⟨qb3 h.own fun g hg => hb.block g (h.own.lt g hg).2, fun k hk => by
  obtain ⟨cs, h1, h2, h3⟩ := h.el k hk
  exact ⟨cs, h1, h2, t.more (fun b hb' => ⟨hb'.1, Nat.lt_of_lt_of_le hb'.2.1 hb.size, hb'.2.2⟩) (t.keep (fun b hb' => hb.block b hb'.2.1) h3)⟩⟩
theorem OwnG.setBox (h : OwnG t e w bp v l xs) {p : Addr} (hp : p.block = bp) (u : Value) : OwnG t e (w.setCell p u) bp v l xs :=
 ⟨qb3 h.own fun g hg => heap_setCell_other _ _ _ _ (by have := (h.own.lt g hg).1; show g ≠ p.block; omega), fun k hk => by
  obtain ⟨cs, h1, h2, h3⟩ := h.el k hk
  exact ⟨cs, h1, h2, t.more (fun b hb' => ⟨hb'.1, by have := hb'.2.1; simpa using this, hb'.2.2⟩) (t.keep (fun b hb' => heap_setCell_other _ _ _ _ (by have := hb'.1; omega)) h3)⟩⟩
theorem OwnG.snoc (h : OwnG t e w bp v l xs) (hl : cs.length = t.size) (hx : t.rd w (fun b => b ≠ bp ∧ b < w.heap.size ∧ v.ownBlock ≠ some b) cs x)
  (ho : w'.ownsRow (bp + 1) e t.size v' (l.length + 1) (xs ++ cs)) (hg : w.grownBy w' v.ownBlock) (hnew : v'.ownBlock = v.ownBlock ∨ v'.ownBlock = some w.heap.size) : OwnG t e w' bp v' (l ++ [x]) (xs ++ cs) := by
 have hk : ∀ {cs : List Value} {y : α}, t.rd w (fun b => b ≠ bp ∧ b < w.heap.size ∧ v.ownBlock ≠ some b) cs y → t.rd w' (fun b => b ≠ bp ∧ b < w'.heap.size ∧ v'.ownBlock ≠ some b) cs y := fun {cs y} hs =>
  t.more (fun b hb => ⟨hb.1, Nat.lt_of_lt_of_le hb.2.1 hg.size, fun e => by
   rcases hnew with e2 | e2
   ·exact hb.2.2 (e2.symm.trans e)
   ·rw [e2] at e; injection e with e; have := hb.2.1; omega⟩) (t.keep (fun b hb => hg.block b hb.2.1 (fun e => hb.2.2 e.symm)) hs)
 have hlen : xs.length = l.length * t.size := h.own.1
 refine ⟨by rw [List.length_append]; exact ho, fun k hk' => ?_⟩
 rw [List.length_append, List.length_singleton] at hk'
 by_cases hlt : k < l.length
 ·obtain ⟨c, h1, h2, h3⟩ := h.el k hlt
  rw [List.getElem_append_left hlt]
  refine ⟨c, h1, fun j hj => ?_, hk h3⟩
  have : (k + 1) * t.size ≤ l.length * t.size := Nat.mul_le_mul_right _ hlt
  rw [Nat.add_mul, Nat.one_mul] at this
  rw [List.getElem?_append_left (by omega)]
  exact h2 j hj
 ·have hk2 : k = l.length := by omega
  subst hk2
  rw [List.getElem_append_right (Nat.le_refl _)]
  simp only [Nat.sub_self, List.getElem_cons_zero]
  refine ⟨cs, hl, fun j hj => ?_, hk hx⟩
  rw [List.getElem?_append_right (by omega), hlen]
  congr 1
  omega
theorem OwnG.rdF (h : OwnG t e w bp v l xs) : SliceRd t w (fun b => b ≠ bp ∧ b < w.heap.size) v l := by
 rcases h.own.2 with ⟨rfl, h0⟩ | ⟨g, cap, cur, rfl, hbase, hg, q1, q2, q3, q4⟩
 ·have : l = [] := List.length_eq_zero_iff.1 h0
  subst this
  exact SliceRd.nil _ _ _
 ·refine ⟨_, cap, rfl, q1, q2, fun k hk => ?_⟩
  obtain ⟨cs, h1, h2, h3⟩ := h.el k hk
  refine ⟨g, 0, cs, rfl, ⟨by omega, (Array.getElem?_eq_some_iff.1 hg).1⟩, h1, fun j hj => ?_, t.more (fun b hb => ⟨hb.1, hb.2.1⟩) h3⟩
  rw [cell_of_row _ _ _ _ _ _ hg, ← h2 j hj]
  show cur[0 + k * t.size + j]? = _
  have : (k + 1) * t.size ≤ l.length * t.size := Nat.mul_le_mul_right _ hk
  rw [Nat.add_mul, Nat.one_mul] at this
  rw [Nat.zero_add, ← Array.getElem?_toList, ← q4, List.getElem?_take_of_lt (by omega)]
theorem OwnG.rd (h : OwnG t e w bp v l xs) : SliceRd t w (Lt w.heap.size) v l := h.rdF.more fun _ hb => hb.2
end

structure PFrame (bp : Nat) (v : Value) (w w' : World) (v' : Value) : Prop where
 below : Below bp w w'
 keep : ∀ k, k < w.heap.size → k ≠ bp → v.ownBlock ≠ some k → w'.heap[k]? = w.heap[k]?
 own : ∀ k, v'.ownBlock = some k → v.ownBlock = some k ∨ w.heap.size ≤ k
section
variable {bp : Nat} {v v1 v2 : Value} {w w1 w2 : World}
theorem PFrame.refl (bp : Nat) (v : Value) (w : World) : PFrame bp v w w v := ⟨Below.refl _ _, fun _ _ _ _ => rfl, fun _ h => .inl h⟩
theorem PFrame.trans (h : PFrame bp v w w1 v1) (h2 : PFrame bp v1 w1 w2 v2) : PFrame bp v w w2 v2 := by
 refine ⟨h.below.trans h2.below, fun k hk hn ho => ?_, fun k hk => ?_⟩
 ·rw [h2.keep k (Nat.lt_of_lt_of_le hk h.below.size) hn fun e => by
   rcases h.own k e with h3 | h3
   ·exact ho h3
   ·omega]
  exact h.keep k hk hn ho
 ·rcases h2.own k hk with h3 | h3
  ·exact h.own k h3
  ·exact .inr (Nat.le_trans h.below.size h3)
theorem PFrame.of_below (hb : Below w.heap.size w w1) (hbp : bp ≤ w.heap.size) (v : Value) : PFrame bp v w w1 v := ⟨hb.mono hbp, fun k hk _ _ => hb.block k hk, fun _ h => .inl h⟩
theorem PFrame.later (h : PFrame bp v w w1 v1) (hbp : bp ≤ w.heap.size) (hb : Below w1.heap.size w1 w2) : PFrame bp v w w2 v1 := h.trans (.of_below hb (Nat.le_trans hbp h.below.size) v1)
theorem PFrame.grown (hg : w.grownBy w1 v.ownBlock) (hbp : bp ≤ w.heap.size) (ho : ∀ k, v.ownBlock = some k → bp + 1 ≤ k) (hnew : v1.ownBlock = v.ownBlock ∨ v1.ownBlock = some w.heap.size) : PFrame bp v w w1 v1 :=
 ⟨(Below.refl bp w).grown hg hbp fun k hk => Nat.le_of_succ_le (ho k hk), fun k hk _ hn => hg.block k hk (fun e => hn e.symm), fun k hk => by
  rcases hnew with e | e
  ·exact .inl (e ▸ hk)
  ·rw [e] at hk; injection hk with hk; exact .inr (by omega)⟩
theorem PFrame.setBox (v : Value) (w : World) {p : Addr} (hp : p.block = bp) (u : Value) : PFrame bp v w (w.setCell p u) v :=
 ⟨(Below.refl bp w).setCell (by omega) u, fun k _ hn _ => heap_setCell_other _ _ _ _ (by omega), fun _ h => .inl h⟩
theorem PFrame.cell (h : PFrame bp v w w1 v1) {g o : Nat} {x : Value} (hg : g < w.heap.size) (hn : g ≠ bp) (ho : v.ownBlock ≠ some g) (hc : w.cell? ⟨g, o, none⟩ = some x) : w1.cell? ⟨g, o, none⟩ = some x := by
 rw [← hc]
 exact World.cell?_of_block (h.keep g hg hn ho)
def CF (bp : Nat) (rv : Value) (w : World) : Nat → Prop := fun b => b ≠ bp ∧ b < w.heap.size ∧ rv.ownBlock ≠ some b
theorem PFrame.cf {α : Type} {t : Ty α} {x : Value} {l : List α} (h : PFrame bp v w w1 v1) (hc : SliceRd t w (CF bp v w) x l) : SliceRd t w1 (CF bp v1 w1) x l :=
 (hc.keep fun k hk => h.keep k hk.2.1 hk.1 hk.2.2).more fun k hk => ⟨hk.1, Nat.lt_of_lt_of_le hk.2.1 h.below.size, fun e => by
  rcases h.own k e with h3 | h3
  ·exact hk.2.2 h3
  ·have := hk.2.1; omega⟩
theorem cf_lt {α : Type} {t : Ty α} {x : Value} {l : List α} (hc : SliceRd t w (CF bp v w) x l) : SliceRd t w (Lt w.heap.size) x l := hc.more fun _ hk => hk.2.1
end
theorem PBox.set {w : World} {bp : Nat} {uv fv rv rv' : Value} (h : PBox w bp uv fv rv) : PBox (w.setCell ⟨bp, 2, none⟩ rv') bp uv fv rv' := by
 unfold PBox at h ⊢
 rw [heap_setCell_same w bp _ _ _ _ h]
 rfl
theorem PBox.keep {w w' : World} {bp : Nat} {uv fv rv : Value} (h : PBox w bp uv fv rv) (hk : w'.heap[bp]? = w.heap[bp]?) : PBox w' bp uv fv rv := hk.trans h
def capR (n d : Nat) : Nat := if 3000 < n then n + 1 else 3001 + 10 * d
theorem capR_leaf (n d : Nat) : n + 1 ≤ capR n d := by unfold capR; split <;> omega
theorem capR_self (n d : Nat) : n ≤ capR n d := Nat.le_of_succ_le (capR_leaf n d)
end
end Go.Proofs.YtbfbppjccbppiaaGreatDoor
