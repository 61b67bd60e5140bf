/- Contract: linchpinref29.Trim. -/
import Derived.Test.YtmghlakedaigpaaDoorRUs
import Derived.Test.YtmghlakedaigpaaDoorTrim
import Derived.Test.YtmghlakedaigpaaDoorOwnF
import Derived.Test.YtmghlakedaigpaaDoorSame
import Derived.Deep.RegionLaw
import Derived.Deep.DeepMust
namespace Go.Proofs.YtmghlakedaigpaaDoor
open Go Go.RowKit
attribute [local go_sem ↓] Go.wp_at_zero Go.wp_at_succ

def toVals (l : List Row) (k : Nat) : List Value := (List.range l.length).map fun i => .int .i64 (((trimSt l k).1 i : Nat) : Int)
theorem toVals_len (l : List Row) (k : Nat) : (toVals l k).length = l.length := by simp [toVals]
theorem toVals_zero (l : List Row) : List.replicate l.length (Value.int .i64 0) = toVals l 0 := by
  apply List.ext_getElem
  · simp [toVals]
  · intro i h1 h2
    simp [toVals, trimSt]
theorem toVals_get {l : List Row} {k i : Nat} (hi : i < l.length) : (toVals l k)[i]? = some (.int .i64 (((trimSt l k).1 i : Nat) : Int)) := by simp [toVals, hi]
theorem toVals_skip {l : List Row} {k : Nat} (hk : k < l.length) (hu : usedF l k = false) : toVals l (k + 1) = toVals l k := by
  unfold toVals
  rw [trimSt_succ hk, trimStep, if_neg (by rw [hu]; simp)]
theorem toVals_set {l : List Row} {k : Nat} (hk : k < l.length) (hu : usedF l k = true) : (toVals l k).set k (.int .i64 (((putRow (trimSt l k).2 (turn (trimSt l k).1 l[k])).1 : Nat) : Int)) = toVals l (k + 1) := by
  apply List.ext_getElem
  · simp [toVals]
  · intro i h1 h2
    rw [List.getElem_set]
    simp only [toVals, List.getElem_map, List.getElem_range]
    rw [trimSt_succ hk, trimStep, if_pos hu]
    by_cases h : k = i
    · subst h; rw [if_pos rfl]; simp
    · rw [if_neg h]; simp only; rw [if_neg (Ne.symm h)]
theorem row_ab {r : Row} (h : r.a = 0) (h' : r.b = 0) : ({ r with a := 0, b := 0 } : Row) = r := by cases r; simp_all
theorem toVals_cell {w : World} {b : Nat} {l : List Row} {k i : Nat} (h : Arr 3 w b (toVals l k)) (hi : i < l.length) : w.cell? ⟨b, i, none⟩ = some (.int .i64 (((trimSt l k).1 i : Nat) : Int)) := by
  rw [h.cell (by rw [toVals_len]; exact hi), ← toVals_get hi, List.getElem?_eq_getElem]
theorem trim2_skip {l : List Row} {k : Nat} (hk : k < l.length) (hu : usedF l k = false) : (trimSt l (k + 1)).2 = (trimSt l k).2 := by rw [trimSt_succ hk, trimStep, if_neg (by rw [hu]; simp)]
theorem trim2_put {l : List Row} {k : Nat} (hk : k < l.length) (hu : usedF l k = true) : (trimSt l (k + 1)).2 = (putRow (trimSt l k).2 (turn (trimSt l k).1 l[k])).2 := by rw [trimSt_succ hk, trimStep, if_pos hu]
theorem put_idx (out : List Row) (q : Row) : (putRow out q).1 = out.idxOf q := by
  unfold putRow
  split
  · rfl
  · next h => exact (List.idxOf_eq_length h).symm
/-- The first place of a row among those from j on. -/
def idxFrom (out : List Row) (q : Row) (j : Nat) : Nat := j + (out.drop j).idxOf q
theorem idxFrom_len (out : List Row) (q : Row) : idxFrom out q out.length = out.length := by simp [idxFrom]
theorem idxFrom_zero (out : List Row) (q : Row) : idxFrom out q 0 = out.idxOf q := by simp [idxFrom]
theorem idxFrom_eq {out : List Row} {q : Row} {j : Nat} (hj : j < out.length) (h : out[j] = q) : idxFrom out q j = j := by
  unfold idxFrom
  rw [List.drop_eq_getElem_cons hj, List.idxOf_cons, h]
  simp
theorem idxFrom_ne {out : List Row} {q : Row} {j : Nat} (hj : j < out.length) (h : out[j] ≠ q) : idxFrom out q j = idxFrom out q (j + 1) := by
  unfold idxFrom
  rw [List.drop_eq_getElem_cons hj, List.idxOf_cons]
  have : (out[j] == q) = false := by simpa using h
  rw [this]
  simp
  omega

theorem five_other {w : World} {b g o : Nat} {u x0 x1 x2 x3 x4 : Value} (h : g ≠ b) (hc : w.cell? ⟨g, o, none⟩ = some u) : (((((w.setCell ⟨b, 0, none⟩ x0).setCell ⟨b, 1, none⟩ x1).setCell ⟨b, 2, none⟩ x2).setCell ⟨b, 3, none⟩ x3).setCell ⟨b, 4, none⟩ x4).cell? ⟨g, o, none⟩ = some u := by
  rw [World.cell?_of_block (heap_setCell_other _ _ _ _ h), World.cell?_of_block (heap_setCell_other _ _ _ _ h), World.cell?_of_block (heap_setCell_other _ _ _ _ h), World.cell?_of_block (heap_setCell_other _ _ _ _ h), World.cell?_of_block (heap_setCell_other _ _ _ _ h)]
  exact hc
/-- What a round holds behind the making of its row. -/
structure Tin (w : World) (bt bu bx : Nat) (ov V : Value) (L : List Row) (tvs : List Value) (q : Row) (us ts : List Value) (wx : World) : Prop where
  cop : Copied 40 38 wx w.heap.size ov L tvs
  box : Box 40 wx bx q V
  own : wx.ownsRow w.heap.size 38 2 V q.terms.length (termCells q.terms)
  apart : ∀ k', (hk' : k' < tvs.length) → ∀ g, tvs[k'].ownBlock = some g → V.ownBlock ≠ some g
  far : ∀ g, ov.ownBlock = some g → g ≠ bx
  rto : Arr 3 wx bt ts
  use : Arr 4 wx bu us
  bel : Below w.heap.size w wx
  hbt : w.heap.size ≤ bt
  hbx : w.heap.size ≤ bx
theorem own_arr {w : World} {B b n s g : Nat} {e e' : TypeId} {v : Value} {xs ys : List Value} (h : w.ownsRow B e s v n xs) (h' : Arr e' w b ys) (hne : e ≠ e') (hg : v.ownBlock = some g) : g ≠ b := by
  rintro rfl
  rcases h.2 with ⟨rfl, _⟩ | ⟨a, cap, cur, rfl, _, hh, _⟩
  · cases hg
  · obtain rfl : a = g := Option.some.inj hg
    unfold Arr at h'
    rw [hh] at h'
    injection h' with h'
    injection h' with _ h2
    exact hne h2
theorem arr_ne {w : World} {b b' : Nat} {e e' : TypeId} {xs ys : List Value} (h : Arr e w b xs) (h' : Arr e' w b' ys) (hne : e ≠ e') : b ≠ b' := by
  rintro rfl
  unfold Arr at h h'
  rw [h] at h'
  injection h' with h'
  injection h' with _ h2
  exact hne h2
section
variable {w wx w' : World} {bt bu bx : Nat} {ov V : Value} {L : List Row} {tvs us ts : List Value} {q : Row}
theorem Tin.box_arr (h : Tin w bt bu bx ov V L tvs q us ts wx) : Arr 40 wx bx (rowCells q V) := h.box
theorem Tin.put (h : Tin w bt bu bx ov V L tvs q us ts wx) (i : Nat) (x : Value) : Tin w bt bu bx ov V L tvs q us (ts.set i x) (wx.setCell ⟨bt, i, none⟩ x) :=
  ⟨h.cop.keep (fun g hg => heap_setCell_other _ _ _ _ (own_arr h.cop.own h.rto (by decide) hg)) (fun k hk g hg => heap_setCell_other _ _ _ _ (own_arr (h.cop.terms k (by rw [← h.cop.len]; exact hk) hk) h.rto (by decide) hg)),
   h.box.keep (heap_setCell_other _ _ _ _ (arr_ne h.box_arr h.rto (by decide))), ownsRow_keep h.own (fun g hg => heap_setCell_other _ _ _ _ (own_arr h.own h.rto (by decide) hg)), h.apart, h.far,
   h.rto.set i x, h.use.other (arr_ne h.use h.rto (by decide)) x, h.bel.setCell h.hbt x, h.hbt, h.hbx⟩
theorem Tin.below (h : Tin w bt bu bx ov V L tvs q us ts wx) (hb : Below wx.heap.size wx w') : Tin w bt bu bx ov V L tvs q us ts w' :=
  ⟨h.cop.below hb (Nat.le_refl _), h.box.keep (hb.block _ h.box.lt), ownsRow_below h.own hb (fun g hg => (h.own.lt g hg).2), h.apart, h.far, h.rto.below hb h.rto.lt, h.use.below hb h.use.lt, h.bel.trans (hb.mono h.bel.size), h.hbt, h.hbx⟩
theorem Tin.ab (h : Tin w bt bu bx ov V L tvs q us ts wx) (x y : Int) : Tin w bt bu bx ov V L tvs { q with a := x, b := y } us ts ((wx.setCell ⟨bx, 2, none⟩ (.int .i64 x)).setCell ⟨bx, 3, none⟩ (.int .i64 y)) := by
  have hk : ∀ g, g ≠ bx → ((wx.setCell ⟨bx, 2, none⟩ (.int .i64 x)).setCell ⟨bx, 3, none⟩ (.int .i64 y)).heap[g]? = wx.heap[g]? := fun g hg => (heap_setCell_other _ _ _ _ hg).trans (heap_setCell_other _ _ _ _ hg)
  exact ⟨h.cop.keep (fun g hg => hk g (h.far g hg)) (fun k hk' g hg => hk g (own_arr (h.cop.terms k (by rw [← h.cop.len]; exact hk') hk') h.box_arr (by decide) hg)),
   (h.box.set.2.2.1 x).set.2.2.2.1 y, ownsRow_keep h.own (fun g hg => hk g (own_arr h.own h.box_arr (by decide) hg)), h.apart, h.far,
   h.rto.keep (hk _ (arr_ne h.rto h.box_arr (by decide))), h.use.keep (hk _ (arr_ne h.use h.box_arr (by decide))), (h.bel.setCell (p := ⟨bx, 2, none⟩) h.hbx _).setCell (p := ⟨bx, 3, none⟩) h.hbx _, h.hbt, h.hbx⟩
theorem Tin.congr {q' : Row} {ts' : List Value} (h : Tin w bt bu bx ov V L tvs q us ts wx) (hq : q = q') (ht : ts = ts') : Tin w bt bu bx ov V L tvs q' us ts' wx := hq ▸ ht ▸ h
end
theorem five_heap {w : World} {b g : Nat} {x0 x1 x2 x3 x4 : Value} (h : g ≠ b) : (((((w.setCell ⟨b, 0, none⟩ x0).setCell ⟨b, 1, none⟩ x1).setCell ⟨b, 2, none⟩ x2).setCell ⟨b, 3, none⟩ x3).setCell ⟨b, 4, none⟩ x4).heap[g]? = w.heap[g]? := by
  rw [heap_setCell_other _ _ _ _ h, heap_setCell_other _ _ _ _ h, heap_setCell_other _ _ _ _ h, heap_setCell_other _ _ _ _ h, heap_setCell_other _ _ _ _ h]
theorem five_box {eR : TypeId} {w : World} {b : Nat} {tv0 tv : Value} {k u x y : Int} {ts : List Term} (h : Box eR w b ⟨0, 0, 0, 0, []⟩ tv0) : Box eR (((((w.setCell ⟨b, 0, none⟩ (.int .i64 k)).setCell ⟨b, 1, none⟩ (.int .i64 u)).setCell ⟨b, 2, none⟩ (.int .i64 x)).setCell ⟨b, 3, none⟩ (.int .i64 y)).setCell ⟨b, 4, none⟩ tv) b ⟨k, u, x, y, ts⟩ tv :=
  (((((h.set.1 k).set.2.1 u).set.2.2.1 x).set.2.2.2.1 y).set.2.2.2.2 tv ts)
theorem five_below {w0 w : World} {x0 x1 x2 x3 x4 : Value} (h : Below w0.heap.size w0 w) : Below w0.heap.size w0 (((((w.setCell ⟨w0.heap.size, 0, none⟩ x0).setCell ⟨w0.heap.size, 1, none⟩ x1).setCell ⟨w0.heap.size, 2, none⟩ x2).setCell ⟨w0.heap.size, 3, none⟩ x3).setCell ⟨w0.heap.size, 4, none⟩ x4) :=
  ((((h.setCell (p := ⟨_, 0, none⟩) (Nat.le_refl _) _).setCell (p := ⟨_, 1, none⟩) (Nat.le_refl _) _).setCell (p := ⟨_, 2, none⟩) (Nat.le_refl _) _).setCell (p := ⟨_, 3, none⟩) (Nat.le_refl _) _).setCell (p := ⟨_, 4, none⟩) (Nat.le_refl _) _
theorem own_lenT {w : World} {B n m s : Nat} {e : TypeId} {v : Value} {xs : List Value} (hn : n = m) (h : w.ownsRow B e s v n xs) : w.ownsRow B e s v m xs := hn ▸ h
theorem own_none0 (w : World) (B : Nat) (e : TypeId) (s : Nat) : w.ownsRow B e s (.slice none 0 0) 0 [] := ⟨by simp, .inl ⟨rfl, rfl⟩⟩

set_option maxRecDepth 100000 in
set_option maxHeartbeats 4000000 in
theorem rtrim_any (v : Value) (l : List Row) (w : World) (h : SliceRd tRow w (Lt w.heap.size) v l) (hm : MayP l) :
    Calls Tryd.prog 13 #[v] w (TrimPost (trimF l) w) := by
  have HH := hid h
  have HM := hid hm
  obtain ⟨A, cap, rfl, hcap, hmax, hc⟩ := h.rows
  have HC := hid hc
  have hl : l.length ≤ 20000 := hm.2.1
  have hl1 : 1 ≤ l.length := hm.1
  unfold maxLen at hmax
  clear h hc hm
  have HUS := hid (rused_any _ l w HH.out HM.out)
  unfold UsedPost at HUS
  obtain ⟨n, hn⟩ : ∃ n, n = l.length := ⟨_, rfl⟩
  have HTZ := hid (toVals_zero l)
  rw [← hn] at hcap hl hl1 HUS HTZ
  rw [← hn]
  replace hn := hid hn
  obtain ⟨ir, hir⟩ := info_parts row_info
  have HIR := hid hir
  clear hir
  obtain ⟨it, hit⟩ := info_parts term_info
  have HIT := hid hit
  clear hit
  obtain ⟨ii, hii⟩ := info_parts int_info
  have hmk := run_make_arr (P := Tryd.prog) Tryd.underlying22 hii.1 hii.2.1 hii.2.2.1 hii.2.2.2 rfl n (by omega) (by omega)
  clear hii
  go_enter Tryd.func13, Tryd.ntmps13
  go_wp2_with (first
    | (go_at_call 10; refine HUS.out.mono ?_; rintro e w1 ⟨bu, rfl, har, hgu, hb1⟩))
  clear hmk
  have hge : w.heap.size ≤ w1.heap.size := hb1.size
  have HAR0 := hid (har.alloc (.cells (zeros n (.int .i64 0)) 3))
  have HTO0 : Hid (Arr 3 (w1.alloc (.cells (zeros n (.int .i64 0)) 3)) w1.heap.size (toVals l 0)) := hid ((Arr.zeros 3 w1 n (.int .i64 0)).congr HTZ.out)
  have hbm : Below w.heap.size w (w1.alloc (.cells (zeros n (.int .i64 0)) 3)) := hb1.alloc hge _
  have hbut : bu ≠ w1.heap.size := by have := har.lt; omega
  obtain ⟨bt, hbt⟩ : ∃ bt, bt = w1.heap.size := ⟨_, rfl⟩
  rw [← hbt] at HTO0 hbut hge ⊢
  generalize w1.alloc (.cells (zeros n (.int .i64 0)) 3) = wm at HAR0 HTO0 hbm ⊢
  clear hb1 har hbt
  go_loopw [5, 6] (fun ov iv wr => ∃ k : Nat, k ≤ n ∧ iv = .int .i64 k ∧ Hid (∃ tvs, Copied 40 38 wr w.heap.size ov (trimSt l k).2 tvs) ∧ Hid (Arr 3 wr bt (toVals l k)) ∧ Hid (Arr 4 wr bu (boolCells (usedL l))) ∧ Hid (Below w.heap.size w wr)) (fun _ iv _ => n - (intOf iv).toNat)
  case atStart => exact ⟨0, Nat.zero_le _, rfl, hid ⟨[], Copied.nil (by decide) _ _⟩, HTO0, HAR0, hid hbm⟩
  case round =>
    clear HTO0 HAR0 hbm HTZ
    obtain ⟨k, hk, rfl, hcop, hto, har, hb⟩ := hrel
    obtain ⟨tvs, hcop'⟩ := hcop.out
    have HCOP := hid hcop'
    obtain ⟨A5, c5, rfl⟩ := own_form hcop'.own
    clear hcop hcop'
    have q1 : (0 : Int) ≤ ↑k := by omega
    by_cases hlt : k < n
    · have hkl : k < l.length := by rw [← hn.out]; exact hlt
      have hcu := har.out.cell (i := k) (by simp [boolCells, usedL]; exact hkl)
      simp only [boolCells, usedL, List.getElem_map, List.getElem_range] at hcu
      have hbul := har.out.lt
      have hbtl := hto.out.lt
      have q2 : (↑k : Int) < ↑n := by omega
      cases hu : usedF l k with
      | false =>
        rw [hu] at hcu
        have HU := hid hu
        clear hu
        go_wp2_with fail
        exact ⟨⟨k + 1, by omega, by go_num, hid ⟨tvs, by rw [trim2_skip hkl HU.out]; exact HCOP.out⟩, hid (by rw [toVals_skip hkl HU.out]; exact hto.out), har, hb⟩, by simp [intOf]; omega⟩
      | true =>
        rw [hu] at hcu
        have HU := hid hu
        clear hu
        obtain ⟨g, o, tv, hA, hF, g0, g1, g2, g3, g4, ⟨i0, i1, i2, i3⟩, gt⟩ := HC.out k hkl
        cases hA
        obtain ⟨c0, c1, c2, c3, c4⟩ := cells5 hb.out hF ⟨g0, g1, g2, g3, g4⟩
        have HT := hid (gt.lift hb.out hb.out.size)
        obtain ⟨TA, tcap, rfl, -, -, -⟩ := gt.terms
        have htl := (terms_le (HM.out.2.2 k hkl).1.2.2.2.2.1).1
        clear g0 g1 g2 g3 g4 gt
        go_upto_region 8 with (fail)
        have HSR := hid (show Src wr.drew TA l[k].terms.length 2 (fTerm.all l[k].terms) from (SliceRd.srcF (f := fTerm) HT.out).2.1)
        go_cut [7] (fun s7 wx => ∃ (bx : Nat) (V : Value), s7 = .pointer (some ⟨bx, 0, none⟩) ∧ wr.heap.size ≤ bx ∧ Hid (Box 40 wx bx { l[k] with a := 0, b := 0 } V) ∧ Hid (wx.ownsRow wr.heap.size 38 2 V l[k].terms.length (termCells l[k].terms)) ∧ Hid (Below wr.heap.size wr wx))
        case first =>
          have HSA := hid (show Src ((wr.alloc (.cells #[.int .i64 0, .int .i64 0, .int .i64 0, .int .i64 0, .slice none 0 0] 40)).drew) TA l[k].terms.length 2 (fTerm.all l[k].terms) from (SliceRd.srcF (f := fTerm) (HT.out.lift (B' := wr.heap.size) (((b0 wr).alloc (Nat.le_refl _) _).drew) (Nat.le_refl _))).2.1)
          have hgl : g < wr.heap.size := Nat.lt_of_lt_of_le hF hb.out.size
          have hgn : g ≠ wr.heap.size := by omega
          have HSK := hid (And.intro (show wr.drew.cell? ⟨g, o + k * 5, none⟩ = some (.int .i64 l[k].kind) ∧ wr.drew.cell? ⟨g, o + k * 5 + 1, none⟩ = some (.int .i64 l[k].unit) ∧ wr.drew.cell? ⟨g, o + k * 5 + 4, none⟩ = some (.slice TA l[k].terms.length tcap) from ⟨c0, c1, c4⟩) (show ((wr.alloc (.cells #[.int .i64 0, .int .i64 0, .int .i64 0, .int .i64 0, .slice none 0 0] 40)).drew).cell? ⟨g, o + k * 5, none⟩ = some (.int .i64 l[k].kind) ∧ ((wr.alloc (.cells #[.int .i64 0, .int .i64 0, .int .i64 0, .int .i64 0, .slice none 0 0] 40)).drew).cell? ⟨g, o + k * 5 + 1, none⟩ = some (.int .i64 l[k].unit) ∧ ((wr.alloc (.cells #[.int .i64 0, .int .i64 0, .int .i64 0, .int .i64 0, .slice none 0 0] 40)).drew).cell? ⟨g, o + k * 5 + 4, none⟩ = some (.slice TA l[k].terms.length tcap) from by
            have hA := ((b0 wr).alloc (Nat.le_refl _) (.cells #[.int .i64 0, .int .i64 0, .int .i64 0, .int .i64 0, .slice none 0 0] 40)).drew
            exact ⟨cell_below hA hgl c0, cell_below hA hgl c1, cell_below hA hgl c4⟩))
          have HSKW := hid True.intro
          go_region_held3 (fun w' => w'.cell? ⟨g, o + k * 5, none⟩ = some (.int .i64 l[k].kind) ∧ w'.cell? ⟨g, o + k * 5 + 1, none⟩ = some (.int .i64 l[k].unit) ∧ w'.cell? ⟨g, o + k * 5 + 4, none⟩ = some (.slice TA l[k].terms.length tcap)) (first | exact ⟨by with_reducible assumption, by with_reducible assumption, by with_reducible assumption⟩ | with_reducible exact HSK.out.1 | with_reducible exact HSK.out.2 | with_reducible exact HSKW.out _ | with_reducible exact HSKW.out (_, _, _, _, _) | go_keep) ((first
            | (refine step_guard (.const (.slice none 0 0)) (.tmp 39) 33 rfl ?_
               refine step_append_src _ rfl (.const (.slice none 0 0)) (.tmp 39) 33 rfl wr.heap.size 38 it _ 2 16 Tryd.underlying33 HIT.out.1 HIT.out.2.1 HIT.out.2.2.1 HIT.out.2.2.2 rfl (by omega) (.slice none 0 0) 0 [] (by rfl) (own_none0 _ _ _ _) _ _ _ (fTerm.all l[k].terms) (by rfl) (by with_reducible exact HSR.out) (fTerm.all_one _) (by unfold maxLen; omega) (by omega) (by exact Nat.le_refl _) ?_
               intro v7 w7 hown7 hg7 hat7
               rw [Nat.zero_add, List.nil_append, fTerm_all] at hown7
               obtain ⟨A7, c7, rfl⟩ := own_form hown7
               have hK7 : Below wr.heap.size wr w7 := ((b0 wr).drew).grown hg7 (Nat.le_refl _) (fun q hq => by cases hq)
               obtain ⟨e0, e1, e2, e3, e4⟩ := cells5 hK7 hgl ⟨c0, c1, c2, c3, c4⟩
               have hgl7 : g < w7.heap.size := Nat.lt_of_lt_of_le hgl hK7.size
               have hgn7 : g ≠ w7.heap.size := by omega
               clear HSKW
               have HSKW := hid (show ∀ x, ((w7.alloc x).cell? ⟨g, o + k * 5, none⟩ = some (.int .i64 l[k].kind) ∧ (w7.alloc x).cell? ⟨g, o + k * 5 + 1, none⟩ = some (.int .i64 l[k].unit) ∧ (w7.alloc x).cell? ⟨g, o + k * 5 + 4, none⟩ = some (.slice TA l[k].terms.length tcap)) from fun x => by
                 have hA := (b0 w7).alloc (Nat.le_refl _) x
                 exact ⟨cell_below hA hgl7 e0, cell_below hA hgl7 e1, cell_below hA hgl7 e4⟩)
               have HO7 := hid hown7
               have HK7 := hid hK7
               clear hown7 hg7 hat7 hK7)
            | (refine step_guard (.const (.slice none 0 0)) (.tmp 39) 33 rfl ?_
               refine step_append_src _ rfl (.const (.slice none 0 0)) (.tmp 39) 33 rfl (wr.heap.size + 1) 38 it _ 2 16 Tryd.underlying33 HIT.out.1 HIT.out.2.1 HIT.out.2.2.1 HIT.out.2.2.2 rfl (by omega) (.slice none 0 0) 0 [] (by rfl) (own_none0 _ _ _ _) _ _ _ (fTerm.all l[k].terms) (by rfl) (by with_reducible exact HSA.out) (fTerm.all_one _) (by unfold maxLen; omega) (by omega) (by simp) ?_
               intro v7 w7 hown7 hg7 hat7
               rw [Nat.zero_add, List.nil_append, fTerm_all] at hown7
               obtain ⟨A7, c7, rfl⟩ := own_form hown7
               have hK7 : Below wr.heap.size wr w7 := (((b0 wr).alloc (Nat.le_refl _) _).drew).grown hg7 (by simp) (fun q hq => by cases hq)
               have hbx7 : Box 40 w7 wr.heap.size ⟨0, 0, 0, 0, []⟩ (.slice none 0 0) := (hg7.block wr.heap.size (by simp) (fun e => by cases e)).trans (heap_alloc_new wr _)
               obtain ⟨⟨z0, z1, z2, z3, z4⟩, zf⟩ := hbx7.cells
               obtain ⟨e0, e1, e2, e3, e4⟩ := cells5 hK7 hgl ⟨c0, c1, c2, c3, c4⟩
               have hgl7 : g < w7.heap.size := Nat.lt_of_lt_of_le hgl hK7.size
               have hgn7 : g ≠ w7.heap.size := by omega
               clear HSKW
               have HSKW := hid (fun (x : Value × Value × Value × Value × Value) => And.intro (five_other hgn e0 (x0 := x.1) (x1 := x.2.1) (x2 := x.2.2.1) (x3 := x.2.2.2.1) (x4 := x.2.2.2.2)) (And.intro (five_other hgn e1 (x0 := x.1) (x1 := x.2.1) (x2 := x.2.2.1) (x3 := x.2.2.2.1) (x4 := x.2.2.2.2)) (five_other hgn e4 (x0 := x.1) (x1 := x.2.1) (x2 := x.2.2.1) (x3 := x.2.2.2.1) (x4 := x.2.2.2.2))))
               have HO7 := hid hown7
               have HK7 := hid hK7
               have HBX7 := hid hbx7
               clear hown7 hg7 hat7 hK7 hbx7)))
          all_goals try go_simp
          all_goals go_wp2
          all_goals go_meet
          · refine ⟨w7.heap.size, .slice A7 l[k].terms.length c7, rfl, HK7.out.size, hid (Box.new 40 w7 { l[k] with a := 0, b := 0 } _), hid ?_, hid ?_⟩
            · exact HO7.out.alloc _
            · exact HK7.out.alloc HK7.out.size _
          · refine ⟨wr.heap.size, .slice A7 l[k].terms.length c7, rfl, Nat.le_refl _, hid (five_box HBX7.out), hid ?_, hid (five_below HK7.out)⟩
            exact ownsRow_base (B := wr.heap.size) (ownsRow_keep HO7.out (fun g hg => five_heap (by have := (HO7.out.lt g hg).1; omega))) (Nat.le_succ _)
        case rest =>
          obtain ⟨bx, V, rfl, hbxw, hbx, hov, hbw⟩ := hcut
          have hgl : g < wr.heap.size := Nat.lt_of_lt_of_le hF hb.out.size
          obtain ⟨e0, e1, e2, e3, e4⟩ := cells5 hbw.out hgl ⟨c0, c1, c2, c3, c4⟩
          have hwr := hb.out.size
          have hT0 : Tin w bt bu bx (.slice A5 (trimSt l k).2.length c5) V (trimSt l k).2 tvs { l[k] with a := 0, b := 0 } (boolCells (usedL l)) (toVals l k) wc :=
            ⟨HCOP.out.below hbw.out (Nat.le_refl _), hbx.out, ownsRow_base hov.out hwr, fun k' hk' g hg hV => by
              have h1 := (HCOP.out.lt.2 k' hk' g hg).2
              have h2 := (hov.out.lt g hV).1
              omega, fun g hg => by have := (HCOP.out.lt.1 g hg).2; omega, hto.out.below hbw.out hbtl, har.out.below hbw.out hbul, hb.out.trans (hbw.out.mono hwr), hge, by omega⟩
          have HT0 := hid hT0
          have hgx : g ≠ bx := by omega
          have htx : bt ≠ bx := by omega
          have hTI := HT.out.terms
          have HQI := hid (rowI_turn HM.out hkl HU.out ⟨i0, i1, i2, i3, by
            obtain ⟨_, _, hv, _, _, _⟩ := hTI
            cases hv
            exact HT.out.src.2.2⟩)
          clear c0 c1 c2 c3 c4 hcu HSR HT e1 e4 hto har hb HCOP hov hTI
          have b0' : wc.cell? ⟨bx, 0, none⟩ = some (.int .i64 l[k].kind) := hbx.out.cells.1.1
          have hbxl := hbx.out.lt
          clear hbx hT0
          go_upto_if 44 with (fail)
          go_cut [] (fun wx => Hid (Tin w bt bu bx (.slice A5 (trimSt l k).2.length c5) V (trimSt l k).2 tvs (turn (trimSt l k).1 l[k]) (boolCells (usedL l)) (toVals l k) wx))
          case first =>
            by_cases h5 : l[k].kind = 5
            · have k5 : (l[k].kind == 5) = true := by simpa using h5
              obtain ⟨⟨_, _, _, _, _, h6, _⟩, _⟩ := HM.out.2.2 k hkl
              obtain ⟨a0, a1, a2, a3⟩ := h6 h5
              have HTR := hid (show turn (trimSt l k).1 l[k] = { l[k] with a := (((trimSt l k).1 l[k].a.toNat : Nat) : Int), b := (((trimSt l k).1 l[k].b.toNat : Nat) : Int) } by unfold turn; rw [if_pos h5])
              have xa : l[k].a < ↑n := by omega
              have xb : l[k].b < ↑n := by omega
              have ta := toVals_cell HT0.out.rto (i := l[k].a.toNat) (by omega)
              have tb := toVals_cell HT0.out.rto (i := l[k].b.toNat) (by omega)
              generalize (trimSt l k).1 l[k].a.toNat = na at ta HTR
              generalize (trimSt l k).1 l[k].b.toNat = nb at tb HTR
              have z2 : wc.cell? ⟨bx, 2, none⟩ = some (.int .i64 0) := HT0.out.box.cells.1.2.2.1
              have z3 : wc.cell? ⟨bx, 3, none⟩ = some (.int .i64 0) := HT0.out.box.cells.1.2.2.2.1
              have z3' : ∀ y : Int, (wc.setCell ⟨bx, 2, none⟩ (.int .i64 y)).cell? ⟨bx, 3, none⟩ = some (.int .i64 0) := fun y => (HT0.out.box.set.2.2.1 y).cells.1.2.2.2.1
              have bf := HT0.out.box.cells.2
              have HSW := hid (fun (W : World) (hW : ∀ b, b ≠ bx → W.heap[b]? = wc.heap[b]?) => show W.cell? ⟨g, o + k * 5 + 2, none⟩ = some (.int .i64 l[k].a) ∧ W.cell? ⟨g, o + k * 5 + 3, none⟩ = some (.int .i64 l[k].b) ∧ W.cell? ⟨bt, l[k].a.toNat, none⟩ = some (.int .i64 na) ∧ W.cell? ⟨bt, l[k].b.toNat, none⟩ = some (.int .i64 nb) from
                ⟨(World.cell?_of_block (hW _ hgx)).trans e2, (World.cell?_of_block (hW _ hgx)).trans e3, (World.cell?_of_block (hW _ htx)).trans ta, (World.cell?_of_block (hW _ htx)).trans tb⟩)
              clear h6
              go_wp2_with fail
              go_region_held3 (fun w' => w'.cell? ⟨g, o + k * 5 + 2, none⟩ = some (.int .i64 l[k].a) ∧ w'.cell? ⟨g, o + k * 5 + 3, none⟩ = some (.int .i64 l[k].b) ∧ w'.cell? ⟨bt, l[k].a.toNat, none⟩ = some (.int .i64 na) ∧ w'.cell? ⟨bt, l[k].b.toNat, none⟩ = some (.int .i64 nb)) (first | (go_keep; done) | exact HSW.out _ (fun b hb => heap_setCell_other _ _ _ _ hb) | exact HSW.out _ (fun b hb => (heap_setCell_other _ _ _ _ hb).trans (heap_setCell_other _ _ _ _ hb)) | go_keep) (fail)
              all_goals (go_wp2_with fail; go_meet)
              all_goals exact hid (((HT0.out.ab na nb).below ((Below.refl _ _).drew)).congr HTR.out.symm rfl)
            · have k5 : (l[k].kind == 5) = false := by simpa using h5
              obtain ⟨⟨_, _, _, _, _, _, h7, _⟩, _⟩ := HM.out.2.2 k hkl
              obtain ⟨a0, a1⟩ := h7 h5
              have HTR := hid (show { l[k] with a := 0, b := 0 } = turn (trimSt l k).1 l[k] by unfold turn; rw [if_neg h5]; exact row_ab a0 a1)
              clear h5 h7 a0 a1
              go_wp2_with fail
              go_meet
              exact hid (HT0.out.congr HTR.out rfl)
          case rest =>
            clear e0 e2 e3 b0' HT0
            have hout : (trimSt l k).2.length ≤ 20000 := by
              have := (trim_inv HM.out k (by omega)).count
              have h2 := List.length_filter_le (usedF l) (List.range k)
              rw [List.length_range] at h2
              omega
            have HST := hid (trim2_put hkl HU.out)
            have HVAL := hid (toVals_set hkl HU.out)
            obtain ⟨q, hq⟩ : ∃ q, q = turn (trimSt l k).1 l[k] := ⟨_, rfl⟩
            obtain ⟨L, hL⟩ : ∃ L, L = (trimSt l k).2 := ⟨_, rfl⟩
            obtain ⟨m, hm⟩ : ∃ m, m = L.length := ⟨_, rfl⟩
            rw [← hq] at hcut HST HVAL HQI
            rw [← hL] at hcut HST HVAL hout ⊢
            rw [← hm] at hcut hout ⊢
            rw [put_idx] at HVAL
            replace hm := hid hm
            have HKX := hid (show k < (toVals l k).length by rw [toVals_len]; exact hkl)
            have cT := hcut.out.rto.cell HKX.out
            have cF := hcut.out.rto.free
            have hbt1 := hcut.out.rto.lt
            have HT1 := hid ((hcut.out.put k (.int .i64 m)).congr rfl (show _ = (toVals l k).set k (.int .i64 (idxFrom L q m : Nat)) by rw [hm.out, idxFrom_len]))
            clear hcut hq hL
            have i5 : IntKind.i64.wrap ((m : Int) - 1) = (m : Int) - 1 := IntWalk.i64_in _ (by omega)
            go_wp2_with fail
            generalize wc.setCell ⟨bt, k, none⟩ (.int .i64 m) = wt at HT1 ⊢
            clear cT cF hbt1
            go_loopw [8] (fun jv wx => ∃ (j : Nat) (i : Int), j ≤ m ∧ jv = .int .i64 i ∧ i + 1 ≤ j ∧ j ≤ i + 1 ∧ Hid (Tin w bt bu bx (.slice A5 m c5) V L tvs q (boolCells (usedL l)) ((toVals l k).set k (.int .i64 (idxFrom L q j : Nat))) wx)) (fun jv _ => (intOf jv + 1).toNat)
            case atStart => exact ⟨m, _, Nat.le_refl _, rfl, by omega, by omega, HT1⟩
            case round =>
              clear HT1
              obtain ⟨j, i, hj, rfl, hji, hij, HT⟩ := hrel
              by_cases h0 : 0 ≤ i
              · obtain ⟨p, rfl⟩ : ∃ p, j = p + 1 := ⟨j - 1, by omega⟩
                obtain rfl : i = p := by omega
                have hpL : p < L.length := by rw [← hm.out]; omega
                obtain ⟨A', cap', hv, hc1, hc2, hcc⟩ := (HT.out.cop.rd (F := Lt wr.heap.size) (fun g _ h => h)).rows
                obtain ⟨g', o', tv', hA', hF', d0, d1, d2, d3, d4, -, gt'⟩ := hcc p hpL
                injection hv with v1 v2 v3
                subst v1
                subst hA'
                clear v2 v3 hc1 hc2 hcc
                have HR1 := hid gt'
                have HR2 := hid (rd_of_own HT.out.own HQI.out.terms (fun g hg => (HT.out.own.lt g hg).2) : SliceRd tTerm wr (Lt wr.heap.size) V q.terms)
                obtain ⟨⟨b0, b1, b2, b3, b4⟩, bf⟩ := HT.out.box.cells
                have hbxl := HT.out.box.lt
                have i1 : (0 : Int) ≤ ↑p := by omega
                have i2 : (↑p : Int) < ↑m := by omega
                have i7 : IntKind.i64.wrap ((p : Int) - 1) = (p : Int) - 1 := IntWalk.i64_in _ (by omega)
                clear gt' bf
                by_cases he : L[p] = q
                · have hd : decide (L[p] = q) = true := decide_eq_true he
                  have HE := hid he
                  clear he
                  go_wp2
                  go_region_held3 (fun w' => w'.cell? ⟨g', o' + p * 5, none⟩ = some (.int .i64 L[p].kind) ∧ w'.cell? ⟨g', o' + p * 5 + 1, none⟩ = some (.int .i64 L[p].unit) ∧ w'.cell? ⟨g', o' + p * 5 + 2, none⟩ = some (.int .i64 L[p].a) ∧ w'.cell? ⟨g', o' + p * 5 + 3, none⟩ = some (.int .i64 L[p].b) ∧ w'.cell? ⟨g', o' + p * 5 + 4, none⟩ = some tv' ∧ w'.cell? ⟨bx, 0, none⟩ = some (.int .i64 q.kind) ∧ w'.cell? ⟨bx, 1, none⟩ = some (.int .i64 q.unit) ∧ w'.cell? ⟨bx, 2, none⟩ = some (.int .i64 q.a) ∧ w'.cell? ⟨bx, 3, none⟩ = some (.int .i64 q.b) ∧ w'.cell? ⟨bx, 4, none⟩ = some V) (first | exact ⟨by assumption, by assumption, by assumption, by assumption, by assumption, by assumption, by assumption, by assumption, by assumption, by assumption⟩ | go_keep)
                    ((go_at_call 23; refine (same29_any tv' V L[p] q _ (HR1.out.lift ((Below.refl _ _).drew) (Nat.le_refl _)) (HR2.out.lift ((Below.refl _ _).drew) (Nat.le_refl _))).mono ?_; rintro e w1 ⟨rfl, hb1⟩; replace hb1 : Below wr.heap.size wr w1 := ((Below.refl _ _).drew).trans hb1
                      obtain ⟨e0, e1, e2, e3, e4⟩ := cells5 hb1 hF' ⟨d0, d1, d2, d3, d4⟩
                      obtain ⟨⟨f0, f1, f2, f3, f4⟩, ff⟩ := (HT.out.below hb1).box.cells
                      have HT1 := hid (HT.out.below hb1)
                      have cT := HT1.out.rto.cell (i := k) (by rw [List.length_set]; exact HKX.out)
                      have cF := HT1.out.rto.free
                      have hbt1 := HT1.out.rto.lt))
                  all_goals go_wp2
                  exact ⟨⟨p, p - 1, by omega, rfl, by omega, by omega, hid ((HT1.out.put k (.int .i64 p)).congr rfl (by rw [List.set_set, idxFrom_eq hpL HE.out]))⟩, by simp [intOf]⟩
                · have hd : decide (L[p] = q) = false := decide_eq_false he
                  have HE := hid he
                  clear he
                  go_wp2
                  go_region_held3 (fun w' => w'.cell? ⟨g', o' + p * 5, none⟩ = some (.int .i64 L[p].kind) ∧ w'.cell? ⟨g', o' + p * 5 + 1, none⟩ = some (.int .i64 L[p].unit) ∧ w'.cell? ⟨g', o' + p * 5 + 2, none⟩ = some (.int .i64 L[p].a) ∧ w'.cell? ⟨g', o' + p * 5 + 3, none⟩ = some (.int .i64 L[p].b) ∧ w'.cell? ⟨g', o' + p * 5 + 4, none⟩ = some tv' ∧ w'.cell? ⟨bx, 0, none⟩ = some (.int .i64 q.kind) ∧ w'.cell? ⟨bx, 1, none⟩ = some (.int .i64 q.unit) ∧ w'.cell? ⟨bx, 2, none⟩ = some (.int .i64 q.a) ∧ w'.cell? ⟨bx, 3, none⟩ = some (.int .i64 q.b) ∧ w'.cell? ⟨bx, 4, none⟩ = some V) (first | exact ⟨by assumption, by assumption, by assumption, by assumption, by assumption, by assumption, by assumption, by assumption, by assumption, by assumption⟩ | go_keep)
                    ((go_at_call 23; refine (same29_any tv' V L[p] q _ (HR1.out.lift ((Below.refl _ _).drew) (Nat.le_refl _)) (HR2.out.lift ((Below.refl _ _).drew) (Nat.le_refl _))).mono ?_; rintro e w1 ⟨rfl, hb1⟩; replace hb1 : Below wr.heap.size wr w1 := ((Below.refl _ _).drew).trans hb1
                      obtain ⟨e0, e1, e2, e3, e4⟩ := cells5 hb1 hF' ⟨d0, d1, d2, d3, d4⟩
                      obtain ⟨⟨f0, f1, f2, f3, f4⟩, ff⟩ := (HT.out.below hb1).box.cells
                      have HT1 := hid (HT.out.below hb1)
                      have cT := HT1.out.rto.cell (i := k) (by rw [List.length_set]; exact HKX.out)
                      have cF := HT1.out.rto.free
                      have hbt1 := HT1.out.rto.lt))
                  all_goals go_wp2
                  exact ⟨⟨p, p - 1, by omega, rfl, by omega, by omega, hid (HT1.out.congr rfl (by rw [idxFrom_ne hpL HE.out]))⟩, by simp [intOf]⟩
              · obtain rfl : j = 0 := by omega
                obtain rfl : i = -1 := by omega
                have cT : wr.cell? ⟨bt, k, none⟩ = some (.int .i64 (L.idxOf q : Nat)) := by
                  rw [HT.out.rto.cell (i := k) (by rw [List.length_set]; exact HKX.out), List.getElem_set_self, idxFrom_zero]
                have hbt1 := HT.out.rto.lt
                have HR := hid (HT.out.rto.congr (show _ = toVals l (k + 1) by rw [idxFrom_zero, HVAL.out]))
                by_cases hin : q ∈ L
                · have hx : L.idxOf q < m := by rw [hm.out]; exact List.idxOf_lt_length_iff.2 hin
                  have HPR := hid (show (putRow L q).2 = L by unfold putRow; rw [if_pos hin])
                  obtain ⟨x, hxx⟩ : ∃ x, x = L.idxOf q := ⟨_, rfl⟩
                  rw [← hxx] at cT hx
                  clear hxx hin
                  have hne : ((x : Int) == (m : Int)) = false := by simp; omega
                  go_wp2_with fail
                  exact ⟨⟨k + 1, by omega, by go_num, hid ⟨tvs, by rw [HST.out, HPR.out]; exact HT.out.cop⟩, HR, hid HT.out.use, hid HT.out.bel⟩, by simp [intOf]; omega⟩
                · have hx : L.idxOf q = m := by rw [hm.out]; exact List.idxOf_eq_length hin
                  have HPR := hid (show (putRow L q).2 = L ++ [q] by unfold putRow; rw [if_neg hin])
                  rw [hx] at cT
                  clear hx hin
                  have hne : ((m : Int) == (m : Int)) = true := by simp
                  obtain ⟨⟨b0, b1, b2, b3, b4⟩, bf⟩ := HT.out.box.cells
                  have hbxl := HT.out.box.lt
                  obtain ⟨AV, cV, hV⟩ := own_form HT.out.own
                  have HV := hid hV
                  clear bf hV
                  go_wp2_with (first
                    | (at_builtin
                       go_must (refine wpList_append_src _ rfl (.tmp 92) (.tmp 94) _ rfl w.heap.size 40 ir _ 5 56 Tryd.underlying24 HIR.out.1 HIR.out.2.1 HIR.out.2.2.1 HIR.out.2.2.2 rfl (by omega) (.slice A5 m c5) m (rowsCells L tvs) rfl (by exact own_lenT hm.out.symm (HT.out.cop.own.alloc _)) (some ⟨wr.heap.size, 0, none⟩) 1 1 (rowCells q V) rfl (by exact src_new _ _ rfl 5 _ rfl rfl) (by rw [HV.out]; simp [rowCells, Value.oneCell']) (by unfold maxLen; omega) (by omega) (by exact ((HT.out.bel.alloc HT.out.bel.size _).size)) ?_)
                       intro v6 w6 hown6 hg6 _
                       replace hown6 := own_lenT (congrArg (· + 1) hm.out) hown6
                       have HC6 := hid ((HT.out.cop.below ((Below.refl _ _).alloc (Nat.le_refl _) _) (Nat.le_refl _)).snoc hown6 hg6 HQI.out (HT.out.own.alloc _) HT.out.apart)
                       have HR6 := hid ((HR.out.alloc _).by_own (by decide) (HT.out.cop.own.alloc _) hg6)
                       have HU6 := hid ((HT.out.use.alloc _).by_own (by decide) (HT.out.cop.own.alloc _) hg6)
                       have HB6 := hid ((HT.out.bel.alloc HT.out.bel.size _).grown hg6 (by exact (HT.out.bel.alloc HT.out.bel.size _).size) (by intro k' h'; exact (HT.out.cop.own.lt k' h').1))
                       clear hown6 hg6))
                  exact ⟨⟨k + 1, by omega, by go_num, hid ⟨tvs ++ [V], by rw [HST.out, HPR.out]; exact HC6.out⟩, HR6, HU6, HB6⟩, by simp [intOf]; omega⟩
    · obtain rfl : k = n := by omega
      go_wp2_with fail
      go_ret
      have hkl := hn.out
      exact ⟨_, tvs, rfl, by show Copied _ _ _ _ _ (trimSt l l.length).2 _; rw [← hkl]; exact HCOP.out, hb.out⟩
end Go.Proofs.YtmghlakedaigpaaDoor
