/- Contracts: slices.Clone of terms; trim.text. -/
import Derived.Test.YtmghlakedaigpaaGreatDoorzU
import Derived.Test.YtmghlakedaigpaaGreatDoorzT
namespace Go.Proofs.YtmghlakedaigpaaGreatDoor
open Go Go.RowKit

/-- A fresh copy of terms. -/
def ClonePost (l : List Term) (w : World) (e : Ending) (w' : World) : Prop := ∃ v', e = .returned v' ∧ w'.ownsRow w.heap.size 35 2 v' l.length (termCells l) ∧ Below w.heap.size w w'
theorem own_empty {w : World} (e : TypeId) (s : Nat) : (w.alloc (.cells #[] e)).ownsRow w.heap.size e s (.slice (some ⟨w.heap.size, 0, none⟩) 0 0) 0 [] :=
  ⟨by simp, .inr ⟨w.heap.size, 0, #[], rfl, Nat.le_refl _, heap_alloc_new w _, Nat.le_refl _, by unfold maxLen; omega, by simp, by simp⟩⟩
set_option maxRecDepth 100000 in
set_option maxHeartbeats 400000 in
theorem clone_any (v : Value) (l : List Term) (w : World) (h : SliceRd tTerm w (Lt w.heap.size) v l) (hl : l.length ≤ 1000000) :
    Calls Tryz.prog 17 #[v] w (ClonePost l w) := by
  obtain ⟨A, cap, rfl, hcap, hmax, hc⟩ := h.terms
  have HH := hid h
  unfold maxLen at hmax
  obtain ⟨it, hit⟩ := info_parts term_info
  have HIT := hid hit
  clear hit
  cases A with
  | none =>
    have hl0 : l = [] := by
      cases l with
      | nil => rfl
      | cons x l => obtain ⟨_, _, h0, _⟩ := hc 0 (by simp); cases h0
    subst hl0
    clear hc h HH
    have hnil := Lib.run_eql_slice_nil (P := Tryz.prog)
    go_enter Tryz.func17, Tryz.ntmps17
    go_wp2
    go_ret
    exact ⟨_, rfl, ⟨rfl, .inl ⟨rfl, rfl⟩⟩, Below.refl _ _⟩
  | some A =>
    have HSRC : Hid (∀ W', Below w.heap.size w W' → Src W' (some A) l.length 2 (termCells l)) := hid (fun W' hW => ((HH.out.below hW).src).2.1)
    clear hc h
    have hnil := Lib.run_eql_slice_nil (P := Tryz.prog)
    go_enter Tryz.func17, Tryz.ntmps17
    go_wp2_with (first
      | (at_builtin
         refine wpList_append_src _ rfl (.tmp 5) (.tmp 6) _ rfl w.heap.size 35 it _ 2 16 Tryz.underlying36 HIT.out.1 HIT.out.2.1 HIT.out.2.2.1 HIT.out.2.2.2 rfl (by omega) (.slice (some ⟨w.heap.size, 0, none⟩) 0 0) 0 [] rfl (by exact own_empty _ _) (some A) l.length cap (termCells l) rfl (HSRC.out _ (by exact (Below.refl _ _).alloc (Nat.le_refl _) _)) termCells_one (by unfold maxLen; omega) (by omega) (by simp) ?_
         intro v1 w1 hown1 hg1 hat1
         have HO := hid hown1
         have HB := hid (((Below.refl w.heap.size w).alloc (Nat.le_refl _) (.cells #[] 35)).grown hg1 (by simp) (by intro k h; simp only [Value.ownBlock, Option.some.injEq] at h; omega))
         clear hown1 hg1 hat1))
    go_ret
    exact ⟨_, rfl, by simpa using HO.out, HB.out⟩

/-- All that a row is, as a text. -/
def numF (n : Int) : List UInt8 := 32 :: Lib.itoa n
def nums (r : Row) : List Int := [r.kind, r.unit, r.a, r.b]
def textF (r : Row) : List UInt8 := (nums r).flatMap numF ++ r.terms.flatMap termF
theorem numF_take {l : List Int} {k : Nat} (h : k < l.length) : (l.take (k + 1)).flatMap numF = (l.take k).flatMap numF ++ numF l[k] := by
  rw [List.take_succ_eq_append_getElem h]
  simp only [List.flatMap_append, List.flatMap_cons, List.flatMap_nil, List.append_nil]
theorem nums_i64 {r : Row} (h : RowI r) : ∀ j, (hj : j < (nums r).length) → I64 (nums r)[j] := by
  intro j hj
  have h4 : j < 4 := hj
  match j, h4 with
  | 0, _ => exact h.kind
  | 1, _ => exact h.unit
  | 2, _ => exact h.a
  | 3, _ => exact h.b

set_option maxRecDepth 100000 in
set_option maxHeartbeats 1000000 in
theorem text_any (r : Row) (tv : Value) (w : World) (ht : SliceRd tTerm w (Lt w.heap.size) tv r.terms) (hr : RowI r) (hl : r.terms.length ≤ 1000)
    (htab : Lib.TabBelow Tryz.prog w.heap.size w "internal/strconv.uint64pow10" .u64 Lib.pow10Tab) :
    Calls Tryz.prog 18 #[.agg #[.int .i64 r.kind, .int .i64 r.unit, .int .i64 r.a, .int .i64 r.b, tv]] w fun e w' => e = .returned (.string ⟨(textF r).toArray⟩) ∧ Below w.heap.size w w' := by
  obtain ⟨TA, tcap, rfl, htcap, htmax, htc⟩ := ht.terms
  unfold maxLen at htmax
  have HC := hid htc
  have HR := hid hr
  have HTAB := hid htab
  have HN := hid (nums_i64 hr)
  clear ht htc hr htab
  obtain ⟨ib, hib⟩ := info_parts byte_info
  have HIB := hid hib
  clear hib
  go_enter Tryz.func18, Tryz.ntmps18
  go_wp2_with fail
  obtain ⟨w0, hw0⟩ : ∃ w0 : World, w0 = (w.alloc (.cells #[.int .i64 r.kind, .int .i64 r.unit, .int .i64 r.a, .int .i64 r.b, .slice TA r.terms.length tcap] 38)).alloc (.cells #[.int .i64 r.kind, .int .i64 r.unit, .int .i64 r.a, .int .i64 r.b] 3) := ⟨_, rfl⟩
  have HBX0 : Hid (Box 38 w0 w.heap.size r (.slice TA r.terms.length tcap)) := hid (by rw [hw0]; exact (Box.new _ w r _).keep (Below.heap_alloc _ _ _ (by simp)))
  have HNU0 : Hid (Arr 3 w0 (w.heap.size + 1) ((nums r).map (Value.int .i64))) := hid (by rw [hw0]; have := Arr.new 3 (w.alloc (.cells #[.int .i64 r.kind, .int .i64 r.unit, .int .i64 r.a, .int .i64 r.b, .slice TA r.terms.length tcap] 38)) ((nums r).map (Value.int .i64)); rw [show (w.alloc (.cells #[.int .i64 r.kind, .int .i64 r.unit, .int .i64 r.a, .int .i64 r.b, .slice TA r.terms.length tcap] 38)).heap.size = w.heap.size + 1 by simp] at this; exact this)
  have HB0 : Hid (Below w.heap.size w w0) := hid (by rw [hw0]; exact ((Below.refl _ _).alloc (Nat.le_refl _) _).alloc (by simp) _)
  rw [← hw0]
  clear hw0
  go_loopw [3, 18] (fun bv iv wr => ∃ j : Nat, j ≤ 4 ∧ iv = .int .i64 j ∧ Hid (Grew 5 w.heap.size w0 [] (((nums r).take j).flatMap numF) (22 * j) bv wr)) (fun _ iv _ => 4 - (intOf iv).toNat)
  case atStart => exact ⟨0, by omega, rfl, hid ⟨[], none, 0, rfl, rfl, by simp, Wr.start HB0.out.size⟩⟩
  case round =>
    obtain ⟨j, hj, rfl, hgr⟩ := hrel
    obtain ⟨S5, A5, c5, rfl, hS5, hs5, hw5⟩ := hgr.out
    have HS5 := hid hS5
    have HW5 := hid hw5
    clear hS5 hw5 hgr
    simp only [List.length_nil, Nat.zero_add] at hs5
    by_cases hj4 : j < 4
    · have hnj := HN.out j hj4
      have hnu : Arr 3 wr (w.heap.size + 1) ((nums r).map (Value.int .i64)) := HW5.out.obj HNU0.out (by intro c fz h; cases h)
      have hcj := hnu.cell (i := j) (by rw [List.length_map]; exact hj4)
      rw [List.getElem_map] at hcj
      have hul := Lib.itoa_length_le (nums r)[j] hnj.1 hnj.2
      have q1 : (0 : Int) ≤ ↑j := by omega
      have q2 : (↑j : Int) < 4 := by omega
      have HNJ := hid (numF_take (l := nums r) hj4)
      clear hnu
      generalize (nums r)[j] = nj at hnj hcj hul HNJ
      go_wp2_with (first
        | (at_builtin
           refine wpList_append_src _ rfl (.tmp 22) (.tmp 23) _ rfl w.heap.size 5 ib _ 1 1 Tryz.underlying89 HIB.out.1 HIB.out.2.1 HIB.out.2.2.1 HIB.out.2.2.2 rfl (by omega) (.slice A5 S5.length c5) S5.length (Lib.byteCells S5) rfl (by exact (HW5.out.alloc _).own) (some ⟨wr.heap.size, 0, none⟩) 1 1 (Lib.byteCells [32]) rfl (by exact own_lit 32 rfl) (byteCells_one _) (by unfold maxLen; omega) (by omega) (by exact (HW5.out.alloc _).size.2) ?_
           intro v6 w6 hown6 hg6 _
           obtain ⟨S6, A6, c6, rfl, hS6, hs6, hw6⟩ := ((HW5.out.alloc _).grown (t := [32]) hg6 hown6).next
           simp only [List.length_cons, List.length_nil] at hs6
           clear hown6 hg6)
        | (go_at_call 34
           refine (Tryz.strconv_AppendInt_10 w.heap.size S6.length nj hnj.1 hnj.2 _ (Lib.byteCells S6) _ (by exact hw6.out.own) (by exact hw6.out.size.2) (by omega) (by exact fun w' h' => HTAB.out w' ((HB0.out.trans hw6.out.below).trans h'))).mono ?_
           rintro e7 w7 ⟨v7, rfl, hown7, hb7, hk7⟩
           obtain ⟨S7, A7, c7, rfl, hS7, hs7, hw7⟩ := (hw6.out.call (t := Lib.itoa nj) hb7 hk7 hown7).next
           clear hown7 hb7 hk7))
      exact ⟨⟨j + 1, by omega, by go_num, hid ⟨S7, _, _, rfl, by rw [hS7.out, hS6.out, HS5.out, HNJ.out]; simp [numF], by simp only [List.length_nil]; omega, hw7.out⟩⟩, by simp [intOf]; omega⟩
    · have HS5' : Hid (S5 = (nums r).flatMap numF) := hid (by rw [HS5.out, List.take_of_length_le (by show 4 ≤ j; omega)]; rfl)
      clear HS5
      have hbx : Box 38 wr w.heap.size r (.slice TA r.terms.length tcap) := HW5.out.obj HBX0.out (by intro c fz h; cases h)
      obtain ⟨⟨f0, f1, f2, f3, f4⟩, ff⟩ := hbx.cells
      have hblt := hbx.lt
      have hq5 : S5.length ≤ 88 := by omega
      clear hbx
      go_wp2_with fail
      clear f0 f1 f2 f3 f4 ff
      obtain ⟨wo, rfl⟩ : ∃ wo : World, wo = wr := ⟨_, rfl⟩
      go_loopw [3, 31] (fun bv iv wx => ∃ j : Nat, j ≤ r.terms.length ∧ iv = .int .i64 j ∧ Hid (Grew 5 w.heap.size w0 S5 ((r.terms.take j).flatMap termF) (44 * j) bv wx)) (fun _ iv _ => r.terms.length - (intOf iv).toNat)
      case atStart => exact ⟨0, Nat.zero_le _, rfl, hid ⟨S5, _, _, rfl, by simp, by omega, HW5.out⟩⟩
      case round =>
        obtain ⟨j, hj, rfl, hgr⟩ := hrel
        obtain ⟨S6, A6, c6, rfl, hS6, hs6, hw6⟩ := hgr.out
        have HS6 := hid hS6
        have HW6 := hid hw6
        clear hS6 hw6 hgr
        by_cases hjt : j < r.terms.length
        · obtain ⟨tg, tof, hTA, htF, t0, t1, u1, u2⟩ := HC.out j hjt
          subst hTA
          have hbt : Below w.heap.size w wr := HB0.out.trans HW6.out.below
          have s0 := cell_below hbt htF t0
          have s1 := cell_below hbt htF t1
          clear t0 t1
          have hiu := Lib.itoa_length_le r.terms[j].unit u1.1 u1.2
          have him := Lib.itoa_length_le r.terms[j].mask u2.1 u2.2
          go_upto_region 10 with (fail)
          obtain ⟨wt, hwt⟩ : ∃ wt : World, wt = wr.alloc (.cells #[.int .i64 r.terms[j].unit, .int .i64 r.terms[j].mask] 35) := ⟨_, rfl⟩
          have HWT := hid hwt
          have HT0 : Hid (wt.heap[wr.heap.size]? = some (.cells #[.int .i64 r.terms[j].unit, .int .i64 r.terms[j].mask] 35 (0, 0))) := hid (by rw [hwt]; exact heap_alloc_new wr _)
          have HBT : Hid (Below w.heap.size w wt) := hid (by rw [hwt]; exact hbt.alloc hbt.size _)
          have HWW : Hid (Wr 5 w.heap.size wt wt (.slice A6 S6.length c6) S6) := hid ⟨Below.refl _ _, Lib.OthersKept.refl _ _ _, by rw [hwt]; exact HW6.out.own.alloc _, HBT.out.size⟩
          rw [← hwt]
          have hzt : wr.heap.size < wt.heap.size := (Array.getElem?_eq_some_iff.1 HT0.out).1
          obtain ⟨p0, p1, pf⟩ := two_cells HT0.out
          clear hwt
          go_cut [3] (fun s5 wx => Grew 5 w.heap.size wt S6 (32 :: Lib.itoa r.terms[j].unit) 22 s5 wx)
          case first =>
            go_region_law ((first
              | (refine step_guard (.tmp 35) (.tmp 36) _ rfl ?_
                 refine step_append_src _ rfl (.tmp 35) (.tmp 36) _ rfl w.heap.size 5 ib _ 1 1 Tryz.underlying89 HIB.out.1 HIB.out.2.1 HIB.out.2.2.1 HIB.out.2.2.2 rfl (by omega) (.slice A6 S6.length c6) S6.length (Lib.byteCells S6) rfl (by exact (HWW.out.drew.alloc _).own) _ 1 1 (Lib.byteCells [32]) rfl (by exact own_lit 32 rfl) (byteCells_one _) (by unfold maxLen; omega) (by omega) (by exact (HWW.out.drew.alloc _).size.2) ?_
                 intro v7 w7 hown7 hg7 _
                 obtain ⟨S7, A7, c7, rfl, hS7, hs7, hw7⟩ := ((HWW.out.drew.alloc _).grown (t := [32]) hg7 hown7).next
                 simp only [List.length_cons, List.length_nil] at hs7
                 obtain ⟨x0, x1, xf⟩ := two_cells (hw7.out.obj HT0.out (by intro c fz h; cases h))
                 clear hown7 hg7)
              | (go_simp
                 go_at_call 34
                 refine (Tryz.strconv_AppendInt_10 w.heap.size S7.length r.terms[j].unit u1.1 u1.2 _ (Lib.byteCells S7) _ (by exact hw7.out.own) (by exact hw7.out.size.2) (by omega) (by exact fun w' h' => HTAB.out w' ((HBT.out.trans hw7.out.below).trans h'))).mono ?_
                 rintro e8 w8 ⟨v8, rfl, hown8, hb8, hk8⟩
                 obtain ⟨S8, A8, c8, rfl, hS8, hs8, hw8⟩ := (hw7.out.call (t := Lib.itoa r.terms[j].unit) hb8 hk8 hown8).next)))
            all_goals (go_wp2_with fail)
            all_goals (go_meet; exact ⟨S8, _, _, rfl, by rw [hS8.out, hS7.out]; simp, by omega, hw8.out⟩)
          case rest =>
            obtain ⟨S7, A7, c7, rfl, hS7, hs7, hw7⟩ := hcut
            have HW7 := hid hw7
            have HS7 := hid hS7
            obtain ⟨r0, r1, rf⟩ := two_cells (hw7.obj HT0.out (by intro c fz h; cases h))
            have hz7 : wr.heap.size < wc.heap.size := Nat.lt_of_lt_of_le hzt hw7.size.1
            clear hw7 hS7
            go_wp2_with fail
            go_region_law ((first
              | (refine step_guard (.tmp 41) (.tmp 42) _ rfl ?_
                 refine step_append_src _ rfl (.tmp 41) (.tmp 42) _ rfl w.heap.size 5 ib _ 1 1 Tryz.underlying89 HIB.out.1 HIB.out.2.1 HIB.out.2.2.1 HIB.out.2.2.2 rfl (by omega) (.slice A7 S7.length c7) S7.length (Lib.byteCells S7) rfl (by exact (HW7.out.drew.alloc _).own) _ 1 1 (Lib.byteCells [58]) rfl (by exact own_lit 58 rfl) (byteCells_one _) (by unfold maxLen; omega) (by omega) (by exact (HW7.out.drew.alloc _).size.2) ?_
                 intro v8 w8 hown8 hg8 _
                 obtain ⟨S8, A8, c8, rfl, hS8, hs8, hw8⟩ := ((HW7.out.drew.alloc _).grown (t := [58]) hg8 hown8).next
                 simp only [List.length_cons, List.length_nil] at hs8
                 obtain ⟨x0, x1, xf⟩ := two_cells (hw8.out.obj HT0.out (by intro c fz h; cases h))
                 clear hown8 hg8)
              | (go_simp
                 go_at_call 34
                 refine (Tryz.strconv_AppendInt_10 w.heap.size S8.length r.terms[j].mask u2.1 u2.2 _ (Lib.byteCells S8) _ (by exact hw8.out.own) (by exact hw8.out.size.2) (by omega) (by exact fun w' h' => HTAB.out w' ((HBT.out.trans hw8.out.below).trans h'))).mono ?_
                 rintro e9 w9 ⟨v9, rfl, hown9, hb9, hk9⟩
                 obtain ⟨S9, A9, c9, rfl, hS9, hs9, hw9⟩ := (hw8.out.call (t := Lib.itoa r.terms[j].mask) hb9 hk9 hown9).next)))
            all_goals (go_wp2_with fail)
            all_goals exact ⟨⟨j + 1, by omega, by go_num, hid ⟨S9, _, _, rfl, by rw [hS9.out, hS8.out, HS7.out, HS6.out, termF_take hjt]; simp [termF], by omega, HW6.out.comp hw9.out HWT.out⟩⟩, by simp [intOf]; omega⟩
        · have hj' : j = r.terms.length := by omega
          have HW : Hid (Wr 5 w.heap.size w0 wr (.slice A6 S6.length c6) (textF r)) := hid (by
            have e : S6 = textF r := by rw [HS6.out, hj', List.take_length, HS5'.out]; rfl
            rw [← e]; exact HW6.out)
          have hcv := conv_own (P := Tryz.prog) (src := 89) (dst := 9) Tryz.underlying89 Tryz.underlying5 Tryz.underlying9 HW.out.own
          clear hj'
          go_wp2_with fail
          go_ret
          exact ⟨rfl, HB0.out.trans HW.out.below⟩
end Go.Proofs.YtmghlakedaigpaaGreatDoor
