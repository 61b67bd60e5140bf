/- Contract: trim.Deep. -/
import Derived.Test.YtmghlakedaigpaaDoorTrimF
import Derived.Test.YtmghlakedaigpaaDoorArr
import Derived.Test.YtmghlakedaigpaaDoorSame
import Derived.StillTailTactics
namespace Go.Proofs.YtmghlakedaigpaaDoor
open Go Go.RowKit
attribute [local go_sem ↓] Go.wp_at_zero Go.wp_at_succ

def natCells (xs : List Nat) : List Value := xs.map fun (d : Nat) => Value.int .i64 (d : Int)
/-- The depths up to k, zeros behind. -/
def deepRow (l : List Row) (k : Nat) : List Value := natCells (deeps (l.take k)) ++ List.replicate (l.length - k) (.int .i64 0)
theorem deepRow_length {l : List Row} {k : Nat} (hk : k ≤ l.length) : (deepRow l k).length = l.length := by
  simp [deepRow, natCells, deeps_length]; omega
theorem deepRow_get {l : List Row} {k i : Nat} (hi : i < k) (hk : k ≤ l.length) : (deepRow l k)[i]? = some (.int .i64 ((deeps l).getD i 0 : Nat)) := by
  have hlen : i < (deeps (l.take k)).length := by rw [deeps_length]; simp; omega
  rw [deepRow, List.getElem?_append_left (by simp [natCells]; exact hlen), deeps_get hi hk]
  simp [natCells, List.getD_eq_getElem?_getD, List.getElem?_eq_getElem hlen]
theorem deepRow_set {l : List Row} {k : Nat} (hk : k < l.length) : ((deepRow l k).set k (.int .i64 1)).set k (.int .i64 (deepOf (deeps (l.take k)) l[k] : Nat)) = deepRow l (k + 1) ∧ (deepOf (deeps (l.take k)) l[k] = 1 → (deepRow l k).set k (.int .i64 1) = deepRow l (k + 1)) := by
  have e1 : (natCells (deeps (l.take k))).length = k := by simp [natCells, deeps_length]; omega
  have e2 : List.replicate (l.length - k) (Value.int .i64 0) = .int .i64 0 :: List.replicate (l.length - (k + 1)) (.int .i64 0) := by
    rw [show l.length - k = (l.length - (k + 1)) + 1 by omega, List.replicate_succ]
  have hs : ∀ x : Value, (deepRow l k).set k x = natCells (deeps (l.take k)) ++ x :: List.replicate (l.length - (k + 1)) (.int .i64 0) := by
    intro x
    rw [deepRow, e2, List.set_append_right _ _ (by omega), e1]
    simp
  have hn : deepRow l (k + 1) = natCells (deeps (l.take k)) ++ .int .i64 (deepOf (deeps (l.take k)) l[k] : Nat) :: List.replicate (l.length - (k + 1)) (.int .i64 0) := by
    rw [deepRow, deeps_take hk]
    simp [natCells]
  refine ⟨?_, fun h => ?_⟩
  · rw [List.set_set, hs, hn]
  · rw [hs, hn, h]; rfl
theorem drew_cell (w : World) (p : Addr) : w.drew.cell? p = w.cell? p := rfl
theorem int_info : (Tryd.prog.info? 3).map (fun i => (i.zero, i.size, i.bytes)) = some (some (.int .i64 0), 1, 8) := by kernel_rfl

set_option maxRecDepth 100000 in
set_option maxHeartbeats 1000000 in
theorem deep_any (v : Value) (l : List Row) (w : World) (h : SliceRd tRow w (Lt w.heap.size) v l) (hm : MayP l) :
    Calls Tryd.prog 17 #[v] w fun e w' => e = .returned (.int .i64 ((deeps l).getD (l.length - 1) 0 : Nat)) ∧ Below w.heap.size w w' := by
  have HH := hid h
  have HM := hid hm
  obtain ⟨A, cap, rfl, hcap, hmax, hc⟩ := h.rows
  have HC := hid hc
  have hl : l.length ≤ 20000 := hm.2.1
  have hl1 : 1 ≤ l.length := hm.1
  unfold maxLen at hmax
  clear h hc hm
  obtain ⟨ii, hii⟩ := info_parts int_info
  have hmk := run_make_arr (P := Tryd.prog) Tryd.underlying22 hii.1 hii.2.1 hii.2.2.1 hii.2.2.2 rfl l.length (by omega) (by omega)
  clear hii
  go_enter Tryd.func17, Tryd.ntmps17
  go_wp2_with fail
  refine (may_any _ l _ HH.out).mono ?_
  rintro e w1 ⟨rfl, hb1⟩
  rw [decide_eq_true HM.out]
  go_wp2_with fail
  clear hmk
  have ha0 := hid ((Arr.zeros 3 w1 l.length (.int .i64 0)).congr (show _ = deepRow l 0 by simp [deepRow, natCells, deeps]))
  have hbm : Below w.heap.size w (w1.alloc (.cells (zeros l.length (.int .i64 0)) 3)) := hb1.alloc hb1.size _
  have hge : w.heap.size ≤ w1.heap.size := hb1.size
  generalize w1.heap.size = b at ha0 hge ⊢
  generalize w1.alloc (.cells (zeros l.length (.int .i64 0)) 3) = wm at ha0 hbm ⊢
  clear hb1
  go_loopw [14] (fun iv wr => ∃ k : Nat, k ≤ l.length ∧ iv = .int .i64 k ∧ Hid (Arr 3 wr b (deepRow l k)) ∧ Hid (Below w.heap.size w wr)) (fun iv _ => l.length - (intOf iv).toNat)
  case atStart => exact ⟨0, Nat.zero_le _, rfl, ha0, hid hbm⟩
  case round =>
    obtain ⟨k, hk, rfl, har, hb⟩ := hrel
    by_cases hlt : k < l.length
    · obtain ⟨g, o, tv, hA, hF, g0, g1, g2, g3, g4, -, gt⟩ := HC.out k hlt
      cases hA
      obtain ⟨TA, tcap, rfl, -, -, -⟩ := gt.terms
      clear gt
      obtain ⟨c0, c1, c2, c3, c4⟩ := cells5 hb.out hF ⟨g0, g1, g2, g3, g4⟩
      clear g0 g1 g2 g3 g4
      have hbl := har.out.lt
      have hfr := har.out.free
      have hck := har.out.cell (i := k) (by rw [deepRow_length hk]; exact hlt)
      have hne : b ≠ wr.heap.size := by omega
      have i1 : (0 : Int) ≤ ↑k := by omega
      have i2 : (↑k : Int) < ↑l.length := by omega
      go_upto_if 24 with (fail)
      obtain ⟨wt, hwt⟩ : ∃ wt : World, wt = (wr.setCell ⟨b, k, none⟩ (.int .i64 1)).alloc (.cells #[.int .i64 l[k].kind, .int .i64 l[k].unit, .int .i64 l[k].a, .int .i64 l[k].b, .slice TA l[k].terms.length tcap] 40) := ⟨_, rfl⟩
      have hart : Arr 3 wt b ((deepRow l k).set k (.int .i64 1)) := by rw [hwt]; exact (har.out.set k _).alloc _
      have hbox : Box 40 wt wr.heap.size l[k] (.slice TA l[k].terms.length tcap) := by
        have := Box.new 40 (wr.setCell ⟨b, k, none⟩ (.int .i64 1)) l[k] (.slice TA l[k].terms.length tcap)
        rw [hwt]
        simpa using this
      have hbt : Below w.heap.size w wt := by rw [hwt]; exact (hb.out.setCell (p := ⟨b, k, none⟩) hge _).alloc (by simpa using hb.out.size) _
      rw [← hwt]
      clear hwt hck hfr c0 c1 c2 c3 c4
      have hart' := hid hart
      have hbt' := hid hbt
      obtain ⟨⟨b0, b1, b2, b3, b4⟩, bf⟩ := hbox.cells
      have hfr := hart.free
      have hbl2 := hart.lt
      have hset := hid (deepRow_set hlt)
      by_cases h5 : l[k].kind = 5
      · have k5 : (l[k].kind == 5) = true := by simpa using h5
        obtain ⟨⟨_, _, _, _, _, h6, _⟩, _⟩ := HM.out.2.2 k hlt
        obtain ⟨a0, a1, a2, a3⟩ := h6 h5
        have xa : (↑l[k].a.toNat : Int) = l[k].a := by omega
        have xb : (↑l[k].b.toNat : Int) = l[k].b := by omega
        have gla : l[k].a < ↑l.length := by omega
        have glb : l[k].b < ↑l.length := by omega
        have da := deepRow_get (l := l) (i := l[k].a.toNat) (k := k) (by omega) hk
        have db := deepRow_get (l := l) (i := l[k].b.toNat) (k := k) (by omega) hk
        have la := deeps_le l l[k].a.toNat
        have lb := deeps_le l l[k].b.toNat
        have hdo := hid (show deepOf (deeps (l.take k)) l[k] = 1 + max ((deeps l).getD l[k].a.toNat 0) ((deeps l).getD l[k].b.toNat 0) by
          rw [deepOf, if_pos h5, ← deeps_get (by omega) hk, ← deeps_get (by omega) hk])
        generalize (deeps l).getD l[k].a.toNat 0 = na at da la hdo
        generalize (deeps l).getD l[k].b.toNat 0 = nb at db lb hdo
        have ca : wt.cell? ⟨b, l[k].a.toNat, none⟩ = some (.int .i64 na) := by
          rw [hart.cell (by rw [List.length_set, deepRow_length hk]; omega), ← List.getElem?_eq_getElem, List.getElem?_set_ne (by omega), da]
        have cb : wt.cell? ⟨b, l[k].b.toNat, none⟩ = some (.int .i64 nb) := by
          rw [hart.cell (by rw [List.length_set, deepRow_length hk]; omega), ← List.getElem?_eq_getElem, List.getElem?_set_ne (by omega), db]
        have hsa : ∀ x, (wt.setCell ⟨b, k, none⟩ x).cell? ⟨b, l[k].a.toNat, none⟩ = some (.int .i64 na) := fun x => by
          rw [(hart.set k x).cell (by rw [List.length_set, List.length_set, deepRow_length hk]; omega), ← List.getElem?_eq_getElem, List.getElem?_set_ne (by omega), List.getElem?_set_ne (by omega), da]
        have hsb : ∀ x, (wt.setCell ⟨b, k, none⟩ x).cell? ⟨b, l[k].b.toNat, none⟩ = some (.int .i64 nb) := fun x => by
          rw [(hart.set k x).cell (by rw [List.length_set, List.length_set, deepRow_length hk]; omega), ← List.getElem?_eq_getElem, List.getElem?_set_ne (by omega), List.getElem?_set_ne (by omega), db]
        have ck : ∃ u, wt.cell? ⟨b, k, none⟩ = some u := ⟨_, hart.cell (by rw [List.length_set, deepRow_length hk]; omega)⟩
        obtain ⟨u, ck⟩ := ck
        have HSA := hid hsa
        have HSB := hid hsb
        clear da db h6 xa xb hart hbt hset h5 hbox hsa hsb
        go_wp2_with fail
        go_region_held3 (fun w' => w'.cell? ⟨wr.heap.size, 2, none⟩ = some (.int .i64 l[k].a) ∧ w'.cell? ⟨wr.heap.size, 3, none⟩ = some (.int .i64 l[k].b) ∧ w'.cell? ⟨b, l[k].a.toNat, none⟩ = some (.int .i64 na) ∧ w'.cell? ⟨b, l[k].b.toNat, none⟩ = some (.int .i64 nb)) (first | (go_keep; done) | (refine ⟨?_, ?_, (drew_cell _ _).trans (HSA.out _), (drew_cell _ _).trans (HSB.out _)⟩ <;> go_keep)) (fail)
        all_goals (go_wp2_with fail)
        all_goals
          refine ⟨⟨k + 1, by omega, by go_num, hid ?_, hid ((hbt'.out.setCell (p := ⟨b, k, none⟩) hge _).drew)⟩, by simp [intOf]; omega⟩
          refine ((hart'.out.set k _).congr ?_)
          rw [← (deepRow_set hlt).1, hdo.out]
          congr 2
          split
          · omega
          · omega
      · have k5 : (l[k].kind == 5) = false := by simpa using h5
        have hdo := hid (show deepOf (deeps (l.take k)) l[k] = 1 by rw [deepOf, if_neg h5])
        clear hart hbt h5 hbox
        go_wp2
        exact ⟨⟨k + 1, by omega, by go_num, hid (hart'.out.congr (hset.out.2 hdo.out)), hbt'⟩, by simp [intOf]; omega⟩
    · have hk' : k = l.length := by omega
      subst hk'
      have hcl := har.out.cell (i := l.length - 1) (by rw [deepRow_length hk]; omega)
      have hd : (deepRow l l.length)[l.length - 1]'(by rw [deepRow_length hk]; omega) = .int .i64 ((deeps l).getD (l.length - 1) 0 : Nat) := by
        have := deepRow_get (l := l) (i := l.length - 1) (k := l.length) (by omega) hk
        rw [List.getElem?_eq_getElem (by rw [deepRow_length hk]; omega)] at this
        exact Option.some.inj this
      rw [hd] at hcl
      clear hd
      have i3 : (0 : Int) ≤ ↑l.length - 1 := by omega
      have i4 : (1 : Int) ≤ ↑l.length := by omega
      have i5 : ((↑l.length : Int) - 1).toNat = l.length - 1 := by omega
      have hbl := har.out.lt
      go_wp2
      go_ret
      exact ⟨rfl, hb.out⟩

theorem deep_bad (v : Value) (l : List Row) (w : World) (h : SliceRd tRow w (Lt w.heap.size) v l) (hm : ¬ MayP l) :
    Calls Tryd.prog 17 #[v] w fun e w' => e = .returned (.int .i64 0) ∧ Below w.heap.size w w' := by
  have HH := hid h
  have HM := hid hm
  obtain ⟨A, cap, rfl, hcap, hmax, hc⟩ := h.rows
  clear h hc hm
  go_enter Tryd.func17, Tryd.ntmps17
  go_wp2_with fail
  refine (may_any _ l _ HH.out).mono ?_
  rintro e w1 ⟨rfl, hb1⟩
  rw [decide_eq_false HM.out]
  go_wp2_with fail
  go_ret
  exact ⟨rfl, hb1⟩
end Go.Proofs.YtmghlakedaigpaaDoor
