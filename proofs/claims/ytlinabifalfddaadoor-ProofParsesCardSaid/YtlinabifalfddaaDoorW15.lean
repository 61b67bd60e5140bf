/- Contract: proof.Print. -/
import Derived.Test.YtlinabifalfddaaDoorShelf
import Derived.Test.YtlinabifalfddaaDoorW12
import Derived.Test.YtlinabifalfddaaDoorUpd
import Derived.Test.YtlinabifalfddaaDoorPr
import Derived.Deep.RegionHeld3
import Derived.Deep.DeepCutAuto
import Derived.Deep.RegionLaw
namespace Go.Proofs.YtlinabifalfddaaDoor
open Go Go.RowKit

theorem byte_info : (Tryd.prog.info? 5).map (fun i => (i.zero, i.size, i.bytes)) = some (some (.int .u8 0), 1, 1) := by kernel_rfl

set_option maxRecDepth 100000 in
set_option maxHeartbeats 1000000 in
theorem print_any (v : Value) (l : List Row) (w : World) (h : SliceRd tRow w (Lt w.heap.size) v l) (hm : MayP l) (htab : Lib.TabBelow Tryd.prog w.heap.size w "internal/strconv.uint64pow10" .u64 Lib.pow10Tab) (hlen : (printF l).length ≤ 1048576) :
    Calls Tryd.prog 15 #[v] w fun e w' => e = .returned (.tuple #[.string ⟨(printF l).toArray⟩, .int .i64 0]) ∧ Below w.heap.size w w' := by
  have HH := hid h
  have HM := hid hm
  obtain ⟨A, cap, rfl, hcap, hmax, hc⟩ := h.rows
  have HC := hid hc
  have HTAB := hid htab
  have HLEN := hid hlen
  have hl : l.length ≤ 20000 := hm.2.1
  unfold maxLen at hmax
  clear h hc hm htab hlen
  obtain ⟨ib, hib⟩ := info_parts byte_info
  have HIB := hid hib
  clear hib
  go_enter Tryd.func15, Tryd.ntmps15
  go_wp2_with fail
  refine (may_any _ l _ HH.out).mono ?_
  rintro e w1 ⟨rfl, hb1⟩
  rw [decide_eq_true HM.out]
  have hmm := @run_makeMap Tryd.prog
  have hi1 : ∀ w : World, (Instr.mapUpdate 58 (.map (some w.heap.size)) (.int .i64 1) (.string ⟨#[114, 111, 111, 116]⟩)).run Tryd.prog (w.alloc (.map #[] 0)) = .ok () (w.alloc (.map kindEs1 1)) := fun w => run_insert_new Tryd.underlying58 Tryd.underlying3 #[] 0 (.int .i64 1) (.string ⟨#[114, 111, 111, 116]⟩) rfl (by rfl)
  have hi2 : ∀ w : World, (Instr.mapUpdate 58 (.map (some w.heap.size)) (.int .i64 2) (.string ⟨#[110, 101, 101, 100]⟩)).run Tryd.prog (w.alloc (.map kindEs1 1)) = .ok () (w.alloc (.map kindEs2 2)) := fun w => run_insert_new Tryd.underlying58 Tryd.underlying3 kindEs1 1 (.int .i64 2) (.string ⟨#[110, 101, 101, 100]⟩) rfl (by rfl)
  have hi3 : ∀ w : World, (Instr.mapUpdate 58 (.map (some w.heap.size)) (.int .i64 3) (.string ⟨#[98, 97, 114]⟩)).run Tryd.prog (w.alloc (.map kindEs2 2)) = .ok () (w.alloc (.map kindEs3 3)) := fun w => run_insert_new Tryd.underlying58 Tryd.underlying3 kindEs2 2 (.int .i64 3) (.string ⟨#[98, 97, 114]⟩) rfl (by rfl)
  have hi4 : ∀ w : World, (Instr.mapUpdate 58 (.map (some w.heap.size)) (.int .i64 4) (.string ⟨#[97, 115, 107]⟩)).run Tryd.prog (w.alloc (.map kindEs3 3)) = .ok () (w.alloc (.map kindEs4 4)) := fun w => run_insert_new Tryd.underlying58 Tryd.underlying3 kindEs3 3 (.int .i64 4) (.string ⟨#[97, 115, 107]⟩) rfl (by rfl)
  have hi5 : ∀ w : World, (Instr.mapUpdate 58 (.map (some w.heap.size)) (.int .i64 5) (.string ⟨#[98, 111, 116, 104]⟩)).run Tryd.prog (w.alloc (.map kindEs4 4)) = .ok () (w.alloc (.map kindEs5 5)) := fun w => run_insert_new Tryd.underlying58 Tryd.underlying3 kindEs4 4 (.int .i64 5) (.string ⟨#[98, 111, 116, 104]⟩) rfl (by rfl)
  go_wp2_with fail
  clear hmm hi1 hi2 hi3 hi4 hi5
  have hm0 : (w1.alloc (.map kindEs5 5)).heap[w1.heap.size]? = some (.map kindEs5 5) := heap_alloc_new w1 _
  have hbm : Below w.heap.size w (w1.alloc (.map kindEs5 5)) := hb1.alloc hb1.size _
  have hms : w.heap.size ≤ (w1.alloc (.map kindEs5 5)).heap.size := hbm.size
  generalize w1.heap.size = mb at hm0 ⊢
  generalize w1.alloc (.map kindEs5 5) = wm at hm0 hbm hms ⊢
  clear hb1
  go_loopw [5, 17] (fun bv iv wr => ∃ k : Nat, k ≤ l.length ∧ iv = .int .i64 k ∧ Hid (Wr 5 w.heap.size wm wr bv (printF (l.take k)))) (fun _ iv _ => l.length - (intOf iv).toNat)
  case atStart => exact ⟨0, Nat.zero_le _, rfl, hid (by rw [List.take_zero]; exact Wr.start hms)⟩
  case round =>
    obtain ⟨k, hk, rfl, hwr⟩ := hrel
    by_cases hlt : k < l.length
    · obtain ⟨g, o, tv, hA, hF, g0, g1, g2, g3, g4, ⟨i0, i1, i2, i3⟩, ht⟩ := HC.out k hlt
      cases hA
      have hb : Below w.heap.size w wr := hbm.trans hwr.out.below
      have c0 := cell_below hb hF g0
      have c1 := cell_below hb hF g1
      have c2 := cell_below hb hF g2
      have c3 := cell_below hb hF g3
      have c4 := cell_below hb hF g4
      have HT := hid ht
      clear g0 g1 g2 g3 g4 ht
      obtain ⟨TA, tcap, rfl, htcap, htmax, -⟩ := HT.out.terms
      have hfit := HM.out.2.2 k hlt
      obtain ⟨htl, htt⟩ := terms_le hfit.1.2.2.2.2.1
      have HTT := hid htt
      have hk1 := hfit.1.1
      have hk5 := hfit.1.2.1
      have hmb : wr.heap[mb]? = some (.map kindEs5 5) := hwr.out.obj hm0 (by intro c fz h; cases h)
      have hmlt : mb < wr.heap.size := (Array.getElem?_eq_some_iff.1 hmb).1
      obtain ⟨ki, hki⟩ := kind_hit hk1 hk5
      have hlk : ∀ ob, (Instr.lookup 58 (.map (some mb)) (.int .i64 l[k].kind) false).run Tryd.prog (wr.alloc ob) = .ok (.string ⟨(kindWord l[k].kind).toArray⟩) (wr.alloc ob) := fun ob => run_lookup_hit Tryd.underlying58 Tryd.underlying3 ((Below.heap_alloc wr ob mb hmlt).trans hmb) (.int .i64 l[k].kind) rfl hki
      clear htt hfit
      obtain ⟨S, hS⟩ : ∃ S, S = printF (l.take k) := ⟨_, rfl⟩
      rw [← hS] at hwr
      have hSl : S.length ≤ 46000000 := by
        rw [hS]
        refine Nat.le_trans (printF_len (n := 20000) (fun r hr => ?_) (by rw [List.length_take]; omega)) (by omega)
        obtain ⟨j, hj, rfl⟩ := List.getElem_of_mem (List.mem_of_mem_take hr)
        obtain ⟨_, _, _, _, _, _, _, _, _, _, ⟨_, j1, j2, j3⟩, jt⟩ := HC.out j hj
        obtain ⟨_, _, rfl, _, _, _⟩ := jt.terms
        exact ⟨j1, j2, j3, jt.src.2.2, (terms_le (HM.out.2.2 j hj).1.2.2.2.2.1).1⟩
      have HK : Hid (k + 1 ≤ l.length ∧ S = printF (l.take k)) := hid ⟨hlt, hS⟩
      clear hS
      obtain ⟨A5, c5, rfl⟩ := own_form hwr.out.own
      have hwb : ∀ ob, Hid (Wr 5 w.heap.size (wr.alloc ob) (wr.alloc ob) (.slice A5 S.length c5) S) := fun ob => hid ⟨Below.refl _ _, Lib.OthersKept.refl _ _ _, hwr.out.own.alloc ob, (hwr.out.alloc ob).size.2⟩
      have hkw := kindWord_len l[k].kind
      have hui := Lib.itoa_length_le l[k].unit i1.1 i1.2
      go_upto_if 35 with (first
        | (at_builtin
           refine Lib.wpList_append_own_string _ rfl (.tmp 21) (.tmp 25) _ _ rfl w.heap.size 5 ib Tryd.underlying42 Tryd.underlying9 HIB.out.1 HIB.out.2.1 HIB.out.2.2.1 HIB.out.2.2.2 (.slice A5 S.length c5) S.length (Lib.byteCells S) rfl (by exact (hwb _).out.own) ⟨(kindWord l[k].kind).toArray⟩ rfl (by show S.length + (kindWord l[k].kind).toArray.size ≤ maxLen; rw [List.size_toArray]; unfold maxLen; omega) (by show S.length + (kindWord l[k].kind).toArray.size ≤ _; rw [List.size_toArray]; omega) (by exact (hwb _).out.base) ?_
           intro v1 w1 hown1 hg1 _
           rw [strCells_of] at hown1
           obtain ⟨S1, A6, c6, rfl, hS1, hs1, hw1⟩ := ((hwb _).out.grown (t := kindWord l[k].kind) hg1 hown1).next
           clear hown1 hg1)
        | (at_builtin
           refine wpList_append_src _ rfl (.tmp 26) (.tmp 27) _ rfl w.heap.size 5 ib _ 1 1 Tryd.underlying42 HIB.out.1 HIB.out.2.1 HIB.out.2.2.1 HIB.out.2.2.2 rfl (by omega) (.slice A6 S1.length c6) S1.length (Lib.byteCells S1) rfl (by exact (hw1.out.alloc _).own) (some ⟨w1.heap.size, 0, none⟩) 1 1 (Lib.byteCells [32]) rfl (by exact own_lit 32 rfl) (byteCells_one _) (by unfold maxLen; omega) (by omega) (by exact (hw1.out.alloc _).size.2) ?_
           intro v2 w2 hown2 hg2 _
           obtain ⟨S2, A7, c7, rfl, hS2, hs2, hw2⟩ := ((hw1.out.alloc _).grown (t := [32]) hg2 hown2).next
           simp only [List.length_cons, List.length_nil] at hs2
           clear hown2 hg2
           have hbx : Box 27 w2 wr.heap.size l[k] (.slice TA l[k].terms.length tcap) := hw2.out.obj (heap_alloc_new wr _) (by intro c fz h; cases h)
           obtain ⟨⟨b0, b1, b2, b3, b4⟩, bf⟩ := hbx.cells
           have HBX := hid hbx
           clear hbx)
        | (go_at_call 35
           refine (Tryd.strconv_AppendInt_10 w.heap.size S2.length l[k].unit i1.1 i1.2 _ (Lib.byteCells S2) _ (by exact hw2.out.own) (by exact hw2.out.size.2) (by omega) (by exact fun w' h' => HTAB.out w' (((hb.alloc hb.size _).trans hw2.out.below).trans h'))).mono ?_
           rintro e3 w3 ⟨v3, rfl, hown3, hb3, hk3⟩
           obtain ⟨S3, A8, c8, rfl, hS3, hs3, hw3⟩ := (hw2.out.call (t := Lib.itoa l[k].unit) hb3 hk3 hown3).next
           have hbx : Box 27 w3 wr.heap.size l[k] (.slice TA l[k].terms.length tcap) := hw3.out.obj (heap_alloc_new wr _) (by intro c fz h; cases h)
           obtain ⟨⟨d0, d1, d2, d3, d4⟩, df⟩ := hbx.cells
           have HBX3 := hid hbx
           clear hbx hown3 hb3 hk3))
      have hia := Lib.itoa_length_le l[k].a i2.1 i2.2
      have hib := Lib.itoa_length_le l[k].b i3.1 i3.2
      have hz3 : wr.heap.size < w3.heap.size := HBX3.out.lt
      have HP3 : Hid (S3 = S ++ headF l[k]) := hid (by rw [hS3.out, hS2.out, hS1.out]; simp [headF])
      have hq3 : S3.length ≤ 46001000 := by omega
      obtain ⟨wb, hwbx⟩ : ∃ wb : World, wb = wr.alloc (.cells #[.int .i64 l[k].kind, .int .i64 l[k].unit, .int .i64 l[k].a, .int .i64 l[k].b, .slice TA l[k].terms.length tcap] 27) := ⟨_, rfl⟩
      have HWB := hid hwbx
      have hbx0 : wb.heap[wr.heap.size]? = some (.cells #[.int .i64 l[k].kind, .int .i64 l[k].unit, .int .i64 l[k].a, .int .i64 l[k].b, .slice TA l[k].terms.length tcap] 27 (0, 0)) := by rw [hwbx]; exact heap_alloc_new wr _
      have hbb0 : Below w.heap.size w wb := by rw [hwbx]; exact hb.alloc hb.size _
      rw [← hwbx] at hw3
      have HB0 := hid hbx0
      clear hbx0 hwbx hS1 hS2 hS3 hs1 hs2 hs3 hw1 hw2 HBX b0 b1 b2 b3 b4 bf hlk hki
      go_cut [5] (fun s5 wx => Grew 5 w.heap.size wb S3 (bothF l[k]) 44 s5 wx)
      case first =>
        by_cases h5 : l[k].kind = 5
        · have hbf : bothF l[k] = (32 :: Lib.itoa l[k].a) ++ (32 :: Lib.itoa l[k].b) := by simp [bothF, h5]
          go_wp2_with fail
          go_cut [5] (fun s5 wx => Grew 5 w.heap.size wb S3 (32 :: Lib.itoa l[k].a) 22 s5 wx)
          case first =>
            go_region_law ((first
              | (refine step_guard (.tmp 36) (.tmp 37) _ rfl ?_
                 refine step_append_src _ rfl (.tmp 36) (.tmp 37) _ rfl w.heap.size 5 ib _ 1 1 Tryd.underlying42 HIB.out.1 HIB.out.2.1 HIB.out.2.2.1 HIB.out.2.2.2 rfl (by omega) (.slice A8 S3.length c8) S3.length (Lib.byteCells S3) rfl (by exact (hw3.out.drew.alloc _).own) (some ⟨w3.heap.size, 0, none⟩) 1 1 (Lib.byteCells [32]) rfl (by exact own_lit 32 rfl) (byteCells_one _) (by unfold maxLen; omega) (by omega) (by exact (hw3.out.drew.alloc _).size.2) ?_
                 intro v4 w4 hown4 hg4 _
                 obtain ⟨S5, A10, c10, rfl, hS5, hs5, hw5⟩ := ((hw3.out.drew.alloc _).grown (t := [32]) hg4 hown4).next
                 simp only [List.length_cons, List.length_nil] at hs5
                 have hbx : Box 27 w4 wr.heap.size l[k] (.slice TA l[k].terms.length tcap) := hw5.out.obj HB0.out (by intro c fz h; cases h)
                 obtain ⟨⟨e0, e1, e2, e3, e4⟩, ef⟩ := hbx.cells
                 clear hbx hown4 hg4)
              | (go_simp
                 go_at_call 35
                 refine (Tryd.strconv_AppendInt_10 w.heap.size S5.length l[k].a i2.1 i2.2 _ (Lib.byteCells S5) _ (by exact hw5.out.own) (by exact hw5.out.size.2) (by omega) (by exact fun w' h' => HTAB.out w' ((hbb0.trans hw5.out.below).trans h'))).mono ?_
                 rintro e6 w6 ⟨v6, rfl, hown6, hb6, hk6⟩
                 obtain ⟨S6, A11, c11, rfl, hS6, hs6, hw6⟩ := (hw5.out.call (t := Lib.itoa l[k].a) hb6 hk6 hown6).next)))
            all_goals (go_wp2_with fail)
            all_goals (go_meet; exact ⟨S6, _, _, rfl, by rw [hS6.out, hS5.out]; simp, by omega, hw6.out⟩)
          case rest =>
            obtain ⟨S7, A12, c12, rfl, hS7, hs7, hw7⟩ := hcut
            have hbx : Box 27 wc wr.heap.size l[k] (.slice TA l[k].terms.length tcap) := hw7.obj HB0.out (by intro c fz h; cases h)
            have hz7 : wr.heap.size < wc.heap.size := hbx.lt
            obtain ⟨⟨f0, f1, f2, f3, f4⟩, ff⟩ := hbx.cells
            have HW7 := hid hw7
            have HS7 := hid hS7
            clear hbx hw7 hS7
            go_wp2_with fail
            go_region_law ((first
              | (refine step_guard (.tmp 42) (.tmp 43) _ rfl ?_
                 refine step_append_src _ rfl (.tmp 42) (.tmp 43) _ rfl w.heap.size 5 ib _ 1 1 Tryd.underlying42 HIB.out.1 HIB.out.2.1 HIB.out.2.2.1 HIB.out.2.2.2 rfl (by omega) (.slice A12 S7.length c12) S7.length (Lib.byteCells S7) rfl (by exact (HW7.out.drew.alloc _).own) _ 1 1 (Lib.byteCells [32]) rfl (by exact own_lit 32 rfl) (byteCells_one _) (by unfold maxLen; omega) (by omega) (by exact (HW7.out.drew.alloc _).size.2) ?_
                 intro v8 w8 hown8 hg8 _
                 obtain ⟨S8, A8, c8, rfl, hS8, hs8, hw8⟩ := ((HW7.out.drew.alloc _).grown (t := [32]) hg8 hown8).next
                 simp only [List.length_cons, List.length_nil] at hs8
                 have hbx : Box 27 w8 wr.heap.size l[k] (.slice TA l[k].terms.length tcap) := hw8.out.obj HB0.out (by intro c fz h; cases h)
                 obtain ⟨⟨e0, e1, e2, e3, e4⟩, ef⟩ := hbx.cells
                 clear hbx
                 clear hown8 hg8)
              | (go_simp
                 go_at_call 35
                 refine (Tryd.strconv_AppendInt_10 w.heap.size S8.length l[k].b i3.1 i3.2 _ (Lib.byteCells S8) _ (by exact hw8.out.own) (by exact hw8.out.size.2) (by omega) (by exact fun w' h' => HTAB.out w' ((hbb0.trans hw8.out.below).trans h'))).mono ?_
                 rintro e8' w8' ⟨v8', rfl, hown8', hb8', hk8'⟩
                 obtain ⟨S8', A8', c8', rfl, hS8', hs8', hw8'⟩ := (hw8.out.call (t := Lib.itoa l[k].b) hb8' hk8' hown8').next)))
            all_goals (go_wp2_with fail)
            all_goals (go_meet; exact ⟨S8', _, _, rfl, by rw [hS8'.out, hS8.out, HS7.out, hbf]; simp, by omega, hw8'.out⟩)
        · go_wp2_with fail
          go_meet
          exact ⟨S3, _, _, rfl, by simp [bothF, h5], by omega, hw3.out⟩
      case rest =>
        obtain ⟨S4, A9, c9, rfl, hS4, hs4, hw4⟩ := hcut
        have HP4 : Hid (S4 = S ++ (headF l[k] ++ bothF l[k])) := hid (by rw [hS4, HP3.out]; simp)
        have hbx : Box 27 wc wr.heap.size l[k] (.slice TA l[k].terms.length tcap) := hw4.obj HB0.out (by intro c fz h; cases h)
        have hz4 : wr.heap.size < wc.heap.size := hbx.lt
        obtain ⟨⟨f0, f1, f2, f3, f4⟩, ff⟩ := hbx.cells
        have HW4 := hid hw4
        have hq4 : S4.length ≤ 46002000 := by omega
        clear hbx hw4 hS4 hw3 HP3 HBX3 d0 d1 d2 d3 d4 df hs4 hq3
        go_wp2_with fail
        obtain ⟨wo, rfl⟩ : ∃ wo : World, wo = wc := ⟨_, rfl⟩
        obtain ⟨wq, rfl⟩ : ∃ wq : World, wq = wr := ⟨_, rfl⟩
        go_loopw [5, 51] (fun bv iv wx => ∃ j : Nat, j ≤ l[k].terms.length ∧ iv = .int .i64 j ∧ Hid (Grew 5 w.heap.size wb S4 ((l[k].terms.take j).flatMap termF) (44 * j) bv wx)) (fun _ iv _ => l[k].terms.length - (intOf iv).toNat)
        case atStart => exact ⟨0, Nat.zero_le _, rfl, hid ⟨S4, _, _, rfl, by simp, by omega, HW4.out⟩⟩
        case round =>
          obtain ⟨j, hj, rfl, hgr⟩ := hrel
          obtain ⟨S5, A5, c5, rfl, hS5, hs5, hw5⟩ := hgr.out
          have HS5 := hid hS5
          have HW5 := hid hw5
          clear hS5 hw5 hgr
          by_cases hjt : j < l[k].terms.length
          · obtain ⟨TA', tcap', hv, -, -, hcells⟩ := HT.out.terms
            injection hv with e1 e2 e3
            subst e1 e3
            obtain ⟨tg, tof, hTA, htF, t0, t1, u1, u2⟩ := hcells j hjt
            subst hTA
            have hbt : Below w.heap.size w wr := hbb0.trans HW5.out.below
            have s0 := cell_below hbt htF t0
            have s1 := cell_below hbt htF t1
            clear hcells t0 t1
            have hiu := Lib.itoa_length_le l[k].terms[j].unit u1.1 u1.2
            have him := Lib.itoa_length_le l[k].terms[j].mask u2.1 u2.2
            go_upto_region 16 with (fail)
            obtain ⟨wt, hwt⟩ : ∃ wt : World, wt = wr.alloc (.cells #[.int .i64 l[k].terms[j].unit, .int .i64 l[k].terms[j].mask] 52) := ⟨_, rfl⟩
            have HWT := hid hwt
            have HT0 : Hid (wt.heap[wr.heap.size]? = some (.cells #[.int .i64 l[k].terms[j].unit, .int .i64 l[k].terms[j].mask] 52 (0, 0))) := hid (by rw [hwt]; exact heap_alloc_new wr _)
            have HBT : Hid (Below w.heap.size w wt) := hid (by rw [hwt]; exact hbt.alloc hbt.size _)
            have HWW : Hid (Wr 5 w.heap.size wt wt (.slice A5 S5.length c5) S5) := hid ⟨Below.refl _ _, Lib.OthersKept.refl _ _ _, by rw [hwt]; exact HW5.out.own.alloc _, HBT.out.size⟩
            rw [← hwt]
            have hzt : wr.heap.size < wt.heap.size := (Array.getElem?_eq_some_iff.1 HT0.out).1
            obtain ⟨q0, q1, qf⟩ := two_cells HT0.out
            clear hwt
            go_cut [5] (fun s5 wx => Grew 5 w.heap.size wt S5 (32 :: Lib.itoa l[k].terms[j].unit) 22 s5 wx)
            case first =>
              go_region_law ((first
                | (refine step_guard (.tmp 55) (.tmp 56) _ rfl ?_
                   refine step_append_src _ rfl (.tmp 55) (.tmp 56) _ rfl w.heap.size 5 ib _ 1 1 Tryd.underlying42 HIB.out.1 HIB.out.2.1 HIB.out.2.2.1 HIB.out.2.2.2 rfl (by omega) (.slice A5 S5.length c5) S5.length (Lib.byteCells S5) rfl (by exact (HWW.out.drew.alloc _).own) _ 1 1 (Lib.byteCells [32]) rfl (by exact own_lit 32 rfl) (byteCells_one _) (by unfold maxLen; omega) (by omega) (by exact (HWW.out.drew.alloc _).size.2) ?_
                   intro v6 w6 hown6 hg6 _
                   obtain ⟨S6, A6, c6, rfl, hS6, hs6, hw6⟩ := ((HWW.out.drew.alloc _).grown (t := [32]) hg6 hown6).next
                   simp only [List.length_cons, List.length_nil] at hs6
                   obtain ⟨p0, p1, pf⟩ := two_cells (hw6.out.obj HT0.out (by intro c fz h; cases h))
                   clear hown6 hg6)
                | (go_simp
                   go_at_call 35
                   refine (Tryd.strconv_AppendInt_10 w.heap.size S6.length l[k].terms[j].unit u1.1 u1.2 _ (Lib.byteCells S6) _ (by exact hw6.out.own) (by exact hw6.out.size.2) (by omega) (by exact fun w' h' => HTAB.out w' ((HBT.out.trans hw6.out.below).trans h'))).mono ?_
                   rintro e6' w6' ⟨v6', rfl, hown6', hb6', hk6'⟩
                   obtain ⟨S6', A6', c6', rfl, hS6', hs6', hw6'⟩ := (hw6.out.call (t := Lib.itoa l[k].terms[j].unit) hb6' hk6' hown6').next)))
              all_goals (go_wp2_with fail)
              all_goals (go_meet; exact ⟨S6', _, _, rfl, by rw [hS6'.out, hS6.out]; simp, by omega, hw6'.out⟩)
            case rest =>
              obtain ⟨S7, A7, c7, rfl, hS7, hs7, hw7⟩ := hcut
              have HW7 := hid hw7
              have HS7 := hid hS7
              obtain ⟨r0, r1, rf⟩ := two_cells (hw7.obj HT0.out (by intro c fz h; cases h))
              have hz7 : wr.heap.size < wc.heap.size := Nat.lt_of_lt_of_le hzt hw7.size.1
              clear hw7 hS7
              go_wp2_with fail
              go_region_law ((first
                | (refine step_guard (.tmp 61) (.tmp 62) _ rfl ?_
                   refine step_append_src _ rfl (.tmp 61) (.tmp 62) _ rfl w.heap.size 5 ib _ 1 1 Tryd.underlying42 HIB.out.1 HIB.out.2.1 HIB.out.2.2.1 HIB.out.2.2.2 rfl (by omega) (.slice A7 S7.length c7) S7.length (Lib.byteCells S7) rfl (by exact (HW7.out.drew.alloc _).own) _ 1 1 (Lib.byteCells [58]) rfl (by exact own_lit 58 rfl) (byteCells_one _) (by unfold maxLen; omega) (by omega) (by exact (HW7.out.drew.alloc _).size.2) ?_
                   intro v8 w8 hown8 hg8 _
                   obtain ⟨S8, A8, c8, rfl, hS8, hs8, hw8⟩ := ((HW7.out.drew.alloc _).grown (t := [58]) hg8 hown8).next
                   simp only [List.length_cons, List.length_nil] at hs8
                   obtain ⟨p0, p1, pf⟩ := two_cells (hw8.out.obj HT0.out (by intro c fz h; cases h))
                   clear hown8 hg8)
                | (go_simp
                   go_at_call 35
                   refine (Tryd.strconv_AppendInt_10 w.heap.size S8.length l[k].terms[j].mask u2.1 u2.2 _ (Lib.byteCells S8) _ (by exact hw8.out.own) (by exact hw8.out.size.2) (by omega) (by exact fun w' h' => HTAB.out w' ((HBT.out.trans hw8.out.below).trans h'))).mono ?_
                   rintro e8' w8' ⟨v8', rfl, hown8', hb8', hk8'⟩
                   obtain ⟨S8', A8', c8', rfl, hS8', hs8', hw8'⟩ := (hw8.out.call (t := Lib.itoa l[k].terms[j].mask) hb8' hk8' hown8').next)))
              all_goals (go_wp2_with fail)
              all_goals exact ⟨⟨j + 1, by omega, by go_num, hid ⟨S8', _, _, rfl, by rw [hS8'.out, hS8.out, HS7.out, HS5.out, termF_take hjt]; simp [termF], by omega, HW5.out.comp hw8'.out HWT.out⟩⟩, by simp [intOf]; omega⟩
          · have hj' : j = l[k].terms.length := by omega
            have HS5' : Hid (S5 = S4 ++ l[k].terms.flatMap termF) := hid (by rw [HS5.out, hj', List.take_length])
            have hle := HK.out.1
            clear HS5
            go_wp2_with (first
              | (at_builtin
                 refine wpList_append_src _ rfl (.tmp 68) (.tmp 69) _ rfl w.heap.size 5 ib _ 1 1 Tryd.underlying42 HIB.out.1 HIB.out.2.1 HIB.out.2.2.1 HIB.out.2.2.2 rfl (by omega) (.slice A5 S5.length c5) S5.length (Lib.byteCells S5) rfl (by exact (HW5.out.alloc _).own) _ 1 1 (Lib.byteCells [10]) rfl (by exact own_lit 10 rfl) (byteCells_one _) (by unfold maxLen; omega) (by omega) (by exact (HW5.out.alloc _).size.2) ?_
                 intro v6 w6 hown6 hg6 _
                 have hw6 := (HW5.out.alloc _).grown (t := [10]) hg6 hown6
                 obtain ⟨A6, c6, rfl⟩ := own_form hw6.own
                 have HW6 := hid hw6
                 clear hown6 hg6 hw6))
            exact ⟨⟨k + 1, by omega, by go_num, hid (by
              have e : S5 ++ [10] = printF (l.take (k + 1)) := by
                rw [printF_take hlt, HS5'.out, HP4.out, HK.out.2]
                simp [lineF]
              rw [← e]
              have := hwr.out.comp HW6.out HWB.out
              simpa using this)⟩, by simp [intOf]; omega⟩
    · have hk' : k = l.length := by omega
      have HW := hid hwr.out
      rw [hk', List.take_length] at HW
      clear hwr
      obtain ⟨A2, cap2, rfl⟩ := own_form HW.out.own
      have hcv := conv_own (P := Tryd.prog) (src := 42) (dst := 9) Tryd.underlying42 Tryd.underlying5 Tryd.underlying9 HW.out.own
      have hle := HLEN.out
      go_wp2_with fail
      go_ret2
      exact ⟨rfl, hbm.trans HW.out.below⟩
end Go.Proofs.YtlinabifalfddaaDoor
