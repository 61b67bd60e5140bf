/- Contract: linchpinref29.Deep. -/
import Derived.Test.YtmghlakedaigpaaDoorDeep
import Derived.Test.YtmghlakedaigpaaDoorW34
import Derived.StillTailTactics
namespace Go.Proofs.YtmghlakedaigpaaDoor
open Go Go.RowKit
attribute [local go_sem ↓] Go.wp_at_zero Go.wp_at_succ

set_option maxRecDepth 100000 in
set_option maxHeartbeats 1000000 in
theorem rdeep_any (v : Value) (l : List Row) (w : World) (h : SliceRd tRow w (Lt w.heap.size) v l) (hm : MayP l) :
    Calls Tryd.prog 18 #[v] w fun e w' => e = .returned (.int .i64 ((deeps l).getD (l.length - 1) 0 : Nat)) ∧ Below w.heap.size w w' := by
  have HH := hid h
  have HM := hid hm
  obtain ⟨A, cap, rfl, hcap, hmax, hc⟩ := h.rows
  have HC := hid hc
  have hl : l.length ≤ 20000 := hm.2.1
  have hl1 : 1 ≤ l.length := hm.1
  unfold maxLen at hmax
  clear h hc hm
  obtain ⟨ii, hii⟩ := info_parts int_info
  have hmk := run_make_arr (P := Tryd.prog) Tryd.underlying22 hii.1 hii.2.1 hii.2.2.1 hii.2.2.2 rfl l.length (by omega) (by omega)
  clear hii
  go_enter Tryd.func18, Tryd.ntmps18
  go_wp2_with fail
  refine (rmay_any _ l _ HH.out).mono ?_
  rintro e w1 ⟨rfl, hb1⟩
  rw [decide_eq_true HM.out]
  go_wp2_with fail
  clear hmk
  have ha0 := hid ((Arr.zeros 3 w1 l.length (.int .i64 0)).congr (show _ = deepRow l 0 by simp [deepRow, natCells, deeps]))
  have hbm : Below w.heap.size w (w1.alloc (.cells (zeros l.length (.int .i64 0)) 3)) := hb1.alloc hb1.size _
  have hge : w.heap.size ≤ w1.heap.size := hb1.size
  generalize w1.heap.size = b at ha0 hge ⊢
  generalize w1.alloc (.cells (zeros l.length (.int .i64 0)) 3) = wm at ha0 hbm ⊢
  clear hb1
  go_loopw [4] (fun iv wr => ∃ k : Nat, k ≤ l.length ∧ iv = .int .i64 k ∧ Hid (Arr 3 wr b (deepRow l k)) ∧ Hid (Below w.heap.size w wr)) (fun iv _ => l.length - (intOf iv).toNat)
  case atStart => exact ⟨0, Nat.zero_le _, rfl, ha0, hid hbm⟩
  case round =>
    obtain ⟨k, hk, rfl, har, hb⟩ := hrel
    by_cases hlt : k < l.length
    · obtain ⟨g, o, tv, hA, hF, g0, g1, g2, g3, g4, -, gt⟩ := HC.out k hlt
      cases hA
      obtain ⟨TA, tcap, rfl, -, -, -⟩ := gt.terms
      clear gt
      obtain ⟨c0, c1, c2, c3, c4⟩ := cells5 hb.out hF ⟨g0, g1, g2, g3, g4⟩
      clear g0 g1 g2 g3 g4
      have hbl := har.out.lt
      have hfr := har.out.free
      have hck := har.out.cell (i := k) (by rw [deepRow_length hk]; exact hlt)
      have i1 : (0 : Int) ≤ ↑k := by omega
      have i2 : (↑k : Int) < ↑l.length := by omega
      have hgb : g ≠ b := by have : g < w.heap.size := hF; omega
      go_upto_region 8 with (fail)
      obtain ⟨wt, hwt⟩ : ∃ wt : World, wt = wr.setCell ⟨b, k, none⟩ (.int .i64 1) := ⟨_, rfl⟩
      have hart : Arr 3 wt b ((deepRow l k).set k (.int .i64 1)) := by rw [hwt]; exact har.out.set k _
      have hbt : Below w.heap.size w wt := by rw [hwt]; exact hb.out.setCell (p := ⟨b, k, none⟩) hge _
      have hx : ∀ j, wt.cell? ⟨g, o + k * 5 + j, none⟩ = wr.cell? ⟨g, o + k * 5 + j, none⟩ := fun j => by rw [hwt]; exact World.cell?_of_block (heap_setCell_other _ _ _ _ hgb)
      have b0 : wt.cell? ⟨g, o + k * 5, none⟩ = some (.int .i64 l[k].kind) := (hx 0).trans c0
      have b2 : wt.cell? ⟨g, o + k * 5 + 2, none⟩ = some (.int .i64 l[k].a) := (hx 2).trans c2
      have b3 : wt.cell? ⟨g, o + k * 5 + 3, none⟩ = some (.int .i64 l[k].b) := (hx 3).trans c3
      rw [← hwt]
      clear hwt hck hfr c0 c1 c2 c3 c4 hx
      have hart' := hid hart
      have hbt' := hid hbt
      have hfr := hart.free
      have hbl2 := hart.lt
      have hset := hid (deepRow_set hlt)
      by_cases h5 : l[k].kind = 5
      · have k5 : (l[k].kind == 5) = true := by simpa using h5
        obtain ⟨⟨_, _, _, _, _, h6, _⟩, _⟩ := HM.out.2.2 k hlt
        obtain ⟨a0, a1, a2, a3⟩ := h6 h5
        have xa : (↑l[k].a.toNat : Int) = l[k].a := by omega
        have xb : (↑l[k].b.toNat : Int) = l[k].b := by omega
        have gla : l[k].a < ↑l.length := by omega
        have glb : l[k].b < ↑l.length := by omega
        have da := deepRow_get (l := l) (i := l[k].a.toNat) (k := k) (by omega) hk
        have db := deepRow_get (l := l) (i := l[k].b.toNat) (k := k) (by omega) hk
        have la := deeps_le l l[k].a.toNat
        have lb := deeps_le l l[k].b.toNat
        have hdo := hid (show deepOf (deeps (l.take k)) l[k] = 1 + max ((deeps l).getD l[k].a.toNat 0) ((deeps l).getD l[k].b.toNat 0) by
          rw [deepOf, if_pos h5, ← deeps_get (by omega) hk, ← deeps_get (by omega) hk])
        generalize (deeps l).getD l[k].a.toNat 0 = na at da la hdo
        generalize (deeps l).getD l[k].b.toNat 0 = nb at db lb hdo
        have ca : wt.cell? ⟨b, l[k].a.toNat, none⟩ = some (.int .i64 na) := by
          rw [hart.cell (by rw [List.length_set, deepRow_length hk]; omega), ← List.getElem?_eq_getElem, List.getElem?_set_ne (by omega), da]
        have cb : wt.cell? ⟨b, l[k].b.toNat, none⟩ = some (.int .i64 nb) := by
          rw [hart.cell (by rw [List.length_set, deepRow_length hk]; omega), ← List.getElem?_eq_getElem, List.getElem?_set_ne (by omega), db]
        have hsa : ∀ x, (wt.setCell ⟨b, k, none⟩ x).cell? ⟨b, l[k].a.toNat, none⟩ = some (.int .i64 na) := fun x => by
          rw [(hart.set k x).cell (by rw [List.length_set, List.length_set, deepRow_length hk]; omega), ← List.getElem?_eq_getElem, List.getElem?_set_ne (by omega), List.getElem?_set_ne (by omega), da]
        have hsb : ∀ x, (wt.setCell ⟨b, k, none⟩ x).cell? ⟨b, l[k].b.toNat, none⟩ = some (.int .i64 nb) := fun x => by
          rw [(hart.set k x).cell (by rw [List.length_set, List.length_set, deepRow_length hk]; omega), ← List.getElem?_eq_getElem, List.getElem?_set_ne (by omega), List.getElem?_set_ne (by omega), db]
        have ck : ∃ u, wt.cell? ⟨b, k, none⟩ = some u := ⟨_, hart.cell (by rw [List.length_set, deepRow_length hk]; omega)⟩
        obtain ⟨u, ck⟩ := ck
        have HGA := hid (fun x => show (wt.setCell ⟨b, k, none⟩ x).cell? ⟨g, o + k * 5 + 2, none⟩ = some (.int .i64 l[k].a) from (World.cell?_of_block (heap_setCell_other _ _ _ _ hgb)).trans b2)
        have HGB := hid (fun x => show (wt.setCell ⟨b, k, none⟩ x).cell? ⟨g, o + k * 5 + 3, none⟩ = some (.int .i64 l[k].b) from (World.cell?_of_block (heap_setCell_other _ _ _ _ hgb)).trans b3)
        have HSA := hid hsa
        have HSB := hid hsb
        clear da db h6 xa xb hart hbt hset h5 hsa hsb
        go_wp2_with fail
        go_region_held3 (fun w' => w'.cell? ⟨g, o + k * 5 + 2, none⟩ = some (.int .i64 l[k].a) ∧ w'.cell? ⟨g, o + k * 5 + 3, none⟩ = some (.int .i64 l[k].b) ∧ w'.cell? ⟨b, l[k].a.toNat, none⟩ = some (.int .i64 na) ∧ w'.cell? ⟨b, l[k].b.toNat, none⟩ = some (.int .i64 nb)) (first | (go_keep; done) | exact ⟨(drew_cell _ _).trans (HGA.out _), (drew_cell _ _).trans (HGB.out _), (drew_cell _ _).trans (HSA.out _), (drew_cell _ _).trans (HSB.out _)⟩) (fail)
        all_goals (go_wp2_with fail)
        all_goals
          refine ⟨⟨k + 1, by omega, by go_num, hid ?_, hid ((hbt'.out.setCell (p := ⟨b, k, none⟩) hge _).drew)⟩, by simp [intOf]; omega⟩
          refine ((hart'.out.set k _).congr ?_)
          rw [← (deepRow_set hlt).1, hdo.out]
          congr 2
          split
          · omega
          · omega
      · have k5 : (l[k].kind == 5) = false := by simpa using h5
        have hdo := hid (show deepOf (deeps (l.take k)) l[k] = 1 by rw [deepOf, if_neg h5])
        clear hart hbt h5
        go_wp2
        exact ⟨⟨k + 1, by omega, by go_num, hid (hart'.out.congr (hset.out.2 hdo.out)), hbt'⟩, by simp [intOf]; omega⟩
    · have hk' : k = l.length := by omega
      subst hk'
      have hcl := har.out.cell (i := l.length - 1) (by rw [deepRow_length hk]; omega)
      have hd : (deepRow l l.length)[l.length - 1]'(by rw [deepRow_length hk]; omega) = .int .i64 ((deeps l).getD (l.length - 1) 0 : Nat) := by
        have := deepRow_get (l := l) (i := l.length - 1) (k := l.length) (by omega) hk
        rw [List.getElem?_eq_getElem (by rw [deepRow_length hk]; omega)] at this
        exact Option.some.inj this
      rw [hd] at hcl
      clear hd
      have i3 : (0 : Int) ≤ ↑l.length - 1 := by omega
      have i4 : (1 : Int) ≤ ↑l.length := by omega
      have i5 : ((↑l.length : Int) - 1).toNat = l.length - 1 := by omega
      have hbl := har.out.lt
      go_wp2
      go_ret
      exact ⟨rfl, hb.out⟩

theorem rdeep_bad (v : Value) (l : List Row) (w : World) (h : SliceRd tRow w (Lt w.heap.size) v l) (hm : ¬ MayP l) :
    Calls Tryd.prog 18 #[v] w fun e w' => e = .returned (.int .i64 0) ∧ Below w.heap.size w w' := by
  have HH := hid h
  have HM := hid hm
  obtain ⟨A, cap, rfl, hcap, hmax, hc⟩ := h.rows
  clear h hc hm
  go_enter Tryd.func18, Tryd.ntmps18
  go_wp2_with fail
  refine (rmay_any _ l _ HH.out).mono ?_
  rintro e w1 ⟨rfl, hb1⟩
  rw [decide_eq_false HM.out]
  go_wp2_with fail
  go_ret
  exact ⟨rfl, hb1⟩
end Go.Proofs.YtmghlakedaigpaaDoor
