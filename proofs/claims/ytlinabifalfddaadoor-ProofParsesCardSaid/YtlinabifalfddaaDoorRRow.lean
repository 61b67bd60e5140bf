/- Contract: linchpinref29.row. -/
import Derived.Test.YtlinabifalfddaaDoorRTerm
import Derived.Test.YtlinabifalfddaaDoorL
namespace Go.Proofs.YtlinabifalfddaaDoor
open Go Go.RowKit

/-- The walk's memory: the answer's cell, the words, the row that is filled. -/
structure RSt (w : World) (WB : List ByteArray) (WA : Option Addr) (wc br : Nat) (r : Row) (tv : Value) (wx : World) : Prop where
  below : Below w.heap.size w wx
  lt : w.heap.size < br
  res : Box 27 wx w.heap.size ⟨0, 0, 0, 0, []⟩ (.slice none 0 0)
  words : wx.ownsRow (w.heap.size + 1) 9 1 (.slice WA WB.length wc) WB.length (WB.map Value.string)
  wlt : ∀ g, (Value.slice WA WB.length wc).ownBlock = some g → g < br
  box : Box 27 wx br r tv
section
variable {w wx wy : World} {WB : List ByteArray} {WA : Option Addr} {wc br : Nat} {r : Row} {tv : Value}
theorem RSt.keep (h : RSt w WB WA wc br r tv wx) (hb : Below (br + 1) wx wy) : RSt w WB WA wc br r tv wy :=
  ⟨h.below.trans (hb.mono (by have := h.lt; omega)), h.lt, h.res.keep (hb.block _ (by have := h.lt; omega)), ownsRow_below h.words hb (fun g hg => by have := h.wlt g hg; omega), h.wlt, h.box.keep (hb.block _ (by omega))⟩
theorem RSt.keep' (h : RSt w WB WA wc br r tv wx) (hb : Below wx.heap.size wx wy) : RSt w WB WA wc br r tv wy := h.keep (hb.mono h.box.lt)
theorem RSt.word (h : RSt w WB WA wc br r tv wx) {i : Nat} (hi : i < WB.length) : ∃ g, WA = some ⟨g, 0, none⟩ ∧ wx.cell? ⟨g, i, none⟩ = some (.string WB[i]) := by
  obtain ⟨g, cap, hv, _, _, _, _, _, hc, _⟩ := own_addr h.words (by omega)
  injection hv with hv _ _
  refine ⟨g, hv, ?_⟩
  rw [hc i (by omega)]
  simp [hi]
/-- A number of the row stored. -/
theorem RSt.put (h : RSt w WB WA wc br r tv wx) {r' : Row} {o : Nat} {v tv' : Value} (hb : Box 27 (wx.setCell ⟨br, o, none⟩ v) br r' tv') : RSt w WB WA wc br r' tv' (wx.setCell ⟨br, o, none⟩ v) :=
  ⟨h.below.setCell (p := ⟨br, o, none⟩) (by have := h.lt; show _ ≤ br; omega) _, h.lt, h.res.keep (heap_setCell_other _ _ _ _ (by have := h.lt; show _ ≠ br; omega)), ownsRow_keep h.words (fun g hg => heap_setCell_other _ _ _ _ (by have := h.wlt g hg; show _ ≠ br; omega)), h.wlt, hb⟩
end
/-- The kind that is found among those below k. -/
def kindTo (w0 : List UInt8) (k : Nat) : Nat := if kindNum w0 < k then kindNum w0 else 0
theorem kindTo_step {w0 : List UInt8} {k : Nat} (h1 : 1 ≤ k) (h5 : k ≤ 5) : (kindWord (k : Int) = w0 ↔ kindNum w0 = k) ∧ (kindNum w0 = k → kindTo w0 (k + 1) = k) ∧ (kindNum w0 ≠ k → kindTo w0 (k + 1) = kindTo w0 k) := by
  refine ⟨⟨fun h => ?_, fun h => ?_⟩, fun h => ?_, fun h => ?_⟩
  · have := kind_num (k := (k : Int)) (by omega) (by omega)
    rw [h] at this
    omega
  · have := (kind_back (w := w0) (by omega)).1
    rw [h] at this
    exact this
  · unfold kindTo; rw [if_pos (by omega), h]
  · unfold kindTo
    by_cases hl : kindNum w0 < k
    · rw [if_pos hl, if_pos (by omega)]
    · rw [if_neg hl, if_neg (by omega)]
theorem kindTo_end (w0 : List UInt8) : kindTo w0 6 = kindNum w0 := by
  unfold kindTo
  rw [if_pos (by have := kind_le5 w0; omega)]
theorem row_result2 {wx : World} {b : Nat} {r : Row} {tv : Value} {ok : Bool} {tmps : Array Value} (h : Box 27 wx b r tv) (h2 : tmps.getD 2 undef = .pointer (some ⟨b, 0, none⟩)) (h3 : tmps.getD 3 undef = .bool ok) :
    (results Tryd.f43 tmps).run Tryd.prog wx = .ok (.tuple #[.agg #[.int .i64 r.kind, .int .i64 r.unit, .int .i64 r.a, .int .i64 r.b, tv], .bool ok]) wx := by
  rw [results_cell_tmp rfl, h2, h3]
  have := run_loadVar_row (P := Tryd.prog) wx b 27 27 _ (0, 0) _ h Tryd.underlying27 rfl (by kernel_rfl)
  simp [asAddr, Result.andThen, this]

set_option maxRecDepth 100000 in
set_option maxHeartbeats 2000000 in
theorem rrow_any (s : ByteArray) (w : World) (hs : s.size ≤ 2000000) :
    Calls Tryd.prog 43 #[.string s] w (RowPost (rowR s.data.toList) s.size w) := by
  go_enter Tryd.func43, Tryd.ntmps43
  go_upto_region 3 with (first
    | (go_at_call 42
       refine (rsplit_any s 32 _ hs).mono ?_
       rintro e w1 ⟨WB, WA, wcap, rfl, hown, hsp, hb1⟩
       have hz0 : (w.alloc (.cells #[.int .i64 0, .int .i64 0, .int .i64 0, .int .i64 0, .slice none 0 0] 27)).heap.size = w.heap.size + 1 := by simp
       rw [hz0] at hown hb1
       have hwl : 0 < WB.length := by
         rw [← List.length_map (f := fun x : ByteArray => x.data.toList), hsp]
         exact List.length_pos_iff.2 (split_ne _ _)
       have hWL : WB.length ≤ s.size + 1 := by
         have h1 := (split_small 32 _ s.data.toList (Nat.lt_succ_self _)).1
         have h2 : s.data.toList.length = s.size := by simp
         rw [← List.length_map (f := fun x : ByteArray => x.data.toList), hsp]
         omega
       have HSM := hid (show ∀ x ∈ WB, x.size ≤ 2000000 by
         intro x hx
         have h1 := (split_small 32 _ s.data.toList (Nat.lt_succ_self _)).2 x.data.toList (by rw [← hsp]; exact List.mem_map_of_mem hx)
         have h2 : x.data.toList.length = x.size := by simp
         have h3 : s.data.toList.length = s.size := by simp
         omega)
       have hst0 := hid (show RSt w WB WA wcap w1.heap.size ⟨0, 0, 0, 0, []⟩ (.slice none 0 0) (w1.alloc (.cells #[.int .i64 0, .int .i64 0, .int .i64 0, .int .i64 0, .slice none 0 0] 27)) from
         ⟨(((Below.refl w.heap.size w).alloc (Nat.le_refl _) _).trans (hb1.mono (by omega))).alloc (by have := hb1.size; rw [hz0] at this; omega) _, by have := hb1.size; rw [hz0] at this; omega,
           ((Box.new 27 w ⟨0, 0, 0, 0, []⟩ (.slice none 0 0)).keep (hb1.block _ (by omega))).keep (Below.heap_alloc _ _ _ (by have := hb1.size; rw [hz0] at this; omega)),
           hown.alloc _, fun g hg => (hown.lt g hg).2, Box.new 27 w1 ⟨0, 0, 0, 0, []⟩ (.slice none 0 0)⟩)
       have HWB := hid hsp
       clear hown hb1 hsp hz0))
  generalize w1.heap.size = br at hst0 ⊢
  generalize w1.alloc (.cells #[.int .i64 0, .int .i64 0, .int .i64 0, .int .i64 0, .slice none 0 0] 27) = w2 at hst0 ⊢
  go_wp2_with fail
  go_loopw [6] (fun iv wr => ∃ k : Nat, 1 ≤ k ∧ k ≤ 6 ∧ iv = .int .i64 k ∧ Hid (RSt w WB WA wcap br ⟨(kindTo WB[0].data.toList k : Nat), 0, 0, 0, []⟩ (.slice none 0 0) wr)) (fun iv _ => 6 - (intOf iv).toNat)
  case atStart => exact ⟨1, by omega, by omega, rfl, hid (by
    have : kindTo WB[0].data.toList 1 = 0 := by unfold kindTo; split <;> omega
    rw [this]; exact hst0.out)⟩
  case round =>
    obtain ⟨k, hk1, hk6, rfl, hst⟩ := hrel
    obtain ⟨g, hWA, hcw⟩ := hst.out.word hwl
    by_cases hk5 : k ≤ 5
    · have hkk := hid (kindTo_step (w0 := WB[0].data.toList) hk1 hk5)
      have i1 : (↑k : Int) ≤ 5 := by omega
      subst hWA
      go_upto_region 6 with (fail)
      go_cut [25] (fun s25 wx => s25 = .bool (decide (kindNum WB[0].data.toList = k)) ∧ Hid (RSt w WB (some ⟨g, 0, none⟩) wcap br ⟨(kindTo WB[0].data.toList k : Nat), 0, 0, 0, []⟩ (.slice none 0 0) wx))
      case first =>
        go_region_held3 (fun w' => w'.cell? ⟨g, 0, none⟩ = some (.string WB[0])) (go_keep)
          ((go_at_call 52; refine (kind_any _ _).mono ?_; rintro e w' ⟨rfl, rfl⟩))
        all_goals (go_wp2_with fail; go_meet)
        all_goals
          refine ⟨?_, hid (hst.out.keep' (Below.refl _ _).drew)⟩
          congr 1
          rw [ByteArray.toList_eq, Bool.eq_iff_iff, beq_iff_eq, decide_eq_true_iff, ← hkk.out.1]
          exact eq_comm
      case rest =>
        obtain ⟨rfl, hst1⟩ := hcut
        obtain ⟨⟨b0, -, -, -, -⟩, bf⟩ := hst1.out.box.cells
        by_cases hkn : kindNum WB[0].data.toList = k
        · have HKT := hid (hkk.out.2.1 hkn)
          rw [decide_eq_true hkn]
          clear hkn
          go_wp2_with fail
          exact ⟨⟨k + 1, by omega, by omega, by go_num, hid (by rw [HKT.out]; exact hst1.out.put (hst1.out.box.set.1 (k : Int)))⟩, by simp [intOf]; omega⟩
        · have HKT := hid (hkk.out.2.2 hkn)
          rw [decide_eq_false hkn]
          clear hkn
          go_wp2_with fail
          exact ⟨⟨k + 1, by omega, by omega, by go_num, hid (by rw [HKT.out]; exact hst1.out)⟩, by simp [intOf]; omega⟩
    · have hk' : k = 6 := by omega
      subst hk'
      rw [kindTo_end] at hst
      have HKN5 := hid (kind_le5 WB[0].data.toList)
      have hrow := hid (show rowR s.data.toList = rowK (kindNum WB[0].data.toList) (WB.map fun x => x.data.toList) by
        unfold rowR rowW
        rw [← HWB.out]
        congr 1
        congr 1
        match WB, hwl with
        | x :: l, _ => rfl)
      generalize kindNum WB[0].data.toList = kn at hst HKN5 hrow
      replace hst : Hid (RSt w WB WA wcap br (rowOf kn [] []) (.slice none 0 0) wr) := hst
      have b0 : wr.cell? ⟨br, 0, none⟩ = some (.int .i64 (kn : Int)) := hst.out.box.cells.1.1
      subst hWA
      go_upto_if 30 with (fail)
      go_cut [7] (fun s7 wx => s7 = .int .i64 (needs kn : Nat) ∧ wx = wr)
      case first =>
        by_cases h5 : kn = 5
        · have k5 : ((kn : Int) == 5) = true := by simp [h5]
          have hnd := hid (show needs kn = 4 by simp [needs, h5])
          go_wp2_with fail
          go_meet
          exact ⟨by rw [hnd.out]; rfl, rfl⟩
        · have k5 : ((kn : Int) == 5) = false := by simp; omega
          have hnd := hid (show needs kn = 2 by simp [needs, h5])
          go_wp2_with fail
          go_meet
          exact ⟨by rw [hnd.out]; rfl, rfl⟩
      case rest =>
        obtain ⟨rfl, rfl⟩ := hcut
        have hnd : ∃ nT, needs kn = nT + 1 ∧ 1 ≤ nT ∧ nT ≤ 3 := by
          unfold needs
          split
          · exact ⟨3, rfl, by omega, by omega⟩
          · exact ⟨1, rfl, by omega, by omega⟩
        obtain ⟨nT, hnT, hn1, hn3⟩ := hnd
        have HNT := hid hnT
        rw [hnT]
        clear hnT
        obtain ⟨⟨r0, r1, r2, r3, r4⟩, rf⟩ := hst.out.res.cells
        by_cases h0 : kn = 0
        · have HR := hid (show rowR s.data.toList = none by rw [hrow.out, rowK, if_pos (.inl h0)])
          subst h0
          go_wp2_with fail
          rw [HR.out]
          exact bodyPost_ret (row_result2 (hst.out.res.fill 0 0 0 0 [] _) rfl rfl) rfl ⟨rfl, Box.keeps hst.out.below (Nat.le_refl _) _ _ _ _ _⟩
        · have k0 : ((kn : Int) == 0) = false := by simp; omega
          by_cases hl : WB.length < nT + 1
          · have HR := hid (show rowR s.data.toList = none by
              rw [hrow.out, rowK, if_pos (.inr (by rw [HNT.out, List.length_map]; exact hl))])
            have e1 : (WB.length : Int) < ((nT + 1 : Nat) : Int) := by omega
            clear h0 hl
            go_wp2_with fail
            rw [HR.out]
            exact bodyPost_ret (row_result2 (hst.out.res.fill 0 0 0 0 [] _) rfl rfl) rfl ⟨rfl, Box.keeps hst.out.below (Nat.le_refl _) _ _ _ _ _⟩
          · have e1 : ¬ (WB.length : Int) < ((nT + 1 : Nat) : Int) := by omega
            have HK := hid (show rowR s.data.toList = match allF numberF (((WB.map fun x => x.data.toList).drop 1).take nT), allF termR ((WB.map fun x => x.data.toList).drop (nT + 1)) with
              | some ns, some ts => some (rowOf kn ns ts)
              | _, _ => none by
              rw [hrow.out, rowK, HNT.out, if_neg (by rw [List.length_map]; omega)]
              rfl)
            have hlen : nT + 1 ≤ WB.length := by omega
            clear hl h0 hrow
            go_wp2_with fail
            clear r0 r1 r2 r3 r4 rf b0 k0
            go_loopw [8] (fun iv wr => ∃ (k : Nat) (ns : List Nat), k ≤ nT ∧ iv = .int .i64 ((k + 1 : Nat) : Int) ∧ ns.length = k ∧ Hid (allF numberF (((WB.map fun x => x.data.toList).drop 1).take k) = some ns) ∧ Hid (RSt w WB (some ⟨g, 0, none⟩) wcap br (rowOf kn ns []) (.slice none 0 0) wr)) (fun iv _ => nT + 1 - (intOf iv).toNat)
            case atStart => exact ⟨0, [], Nat.zero_le _, rfl, rfl, hid rfl, hst⟩
            case round =>
              obtain ⟨k, ns, hk, rfl, hns, hall, hst⟩ := hrel
              by_cases hkn : k < nT
              · have hk3 : k = 0 ∨ k = 1 ∨ k = 2 := by omega
                rcases hk3 with rfl | rfl | rfl
                · have hlt : 0 < nT := by omega
                  have hw1 : 1 < WB.length := by omega
                  obtain ⟨g', hg', hcw⟩ := hst.out.word hw1
                  cases hg'
                  have hsz := HSM.out _ (List.getElem_mem hw1)
                  have i1 : ((1 : Nat) : Int) < ((nT + 1 : Nat) : Int) := by omega
                  have i2 : (1 : Int) < ↑nT + 1 := by omega
                  have i3 : (1 : Int) < ↑WB.length := by omega
                  have HTK := hid (show ((WB.map fun x => x.data.toList).drop 1).take (0 + 1) = ((WB.map fun x => x.data.toList).drop 1).take 0 ++ [WB[1].data.toList] by
                    have hh : 0 < ((WB.map fun x => x.data.toList).drop 1).length := by simp; omega
                    rw [List.take_succ_eq_append_getElem hh]
                    simp)
                  have HMEM := hid (show WB[1].data.toList ∈ ((WB.map fun x => x.data.toList).drop 1).take nT from List.mem_iff_getElem.2 ⟨0, by simp; omega, by simp⟩)
                  obtain rfl : ns = [] := List.eq_nil_of_length_eq_zero hns
                  generalize WB[1] = W at hcw hsz HTK HMEM
                  cases hx : numberF W.data.toList with
                  | none =>
                    have HNR := hid (show numRes W.data.toList = .tuple #[.int .i64 0, .bool false] by unfold numRes; rw [hx])
                    have HR := hid (show rowR s.data.toList = none by rw [HK.out, allF_none HMEM.out hx])
                    clear hx
                    obtain ⟨⟨r0, r1, r2, r3, r4⟩, rf⟩ := hst.out.res.cells
                    go_wp2_with (first
                      | (go_at_call 57
                         refine (rnumber_any W _ hsz).mono ?_
                         rintro e w1 ⟨rfl, hw1'⟩
                         rw [HNR.out, hw1']
                         clear hw1'))
                    rw [HR.out]
                    exact bodyPost_ret (row_result2 (hst.out.res.fill 0 0 0 0 [] _) rfl rfl) rfl ⟨rfl, Box.keeps hst.out.below (Nat.le_refl _) _ _ _ _ _⟩
                  | some n =>
                    have HNR := hid (show numRes W.data.toList = .tuple #[.int .i64 (n : Int), .bool true] by unfold numRes; rw [hx])
                    have HX := hid hx
                    clear hx
                    obtain ⟨⟨-, b1, -, -, -⟩, bf⟩ := hst.out.box.cells
                    go_wp2_with (first
                      | (go_at_call 57
                         refine (rnumber_any W _ hsz).mono ?_
                         rintro e w1 ⟨rfl, hw1'⟩
                         rw [HNR.out, hw1']
                         clear hw1'))
                    exact ⟨⟨1, [] ++ [n], by omega, by go_num, rfl, hid (by rw [HTK.out, allF_snoc _ _ hall.out, HX.out]; rfl), hid (hst.out.put (hst.out.box.set.2.1 (n : Int)))⟩, by simp [intOf]; omega⟩
                · have hlt : 1 < nT := by omega
                  have hw1 : 2 < WB.length := by omega
                  obtain ⟨g', hg', hcw⟩ := hst.out.word hw1
                  cases hg'
                  have hsz := HSM.out _ (List.getElem_mem hw1)
                  have i1 : ((2 : Nat) : Int) < ((nT + 1 : Nat) : Int) := by omega
                  have i2 : (2 : Int) < ↑nT + 1 := by omega
                  have i3 : (2 : Int) < ↑WB.length := by omega
                  have HTK := hid (show ((WB.map fun x => x.data.toList).drop 1).take (1 + 1) = ((WB.map fun x => x.data.toList).drop 1).take 1 ++ [WB[2].data.toList] by
                    have hh : 1 < ((WB.map fun x => x.data.toList).drop 1).length := by simp; omega
                    rw [List.take_succ_eq_append_getElem hh]
                    simp)
                  have HMEM := hid (show WB[2].data.toList ∈ ((WB.map fun x => x.data.toList).drop 1).take nT from List.mem_iff_getElem.2 ⟨1, by simp; omega, by simp⟩)
                  obtain ⟨x1, rfl⟩ : ∃ x, ns = [x] := by
                    match ns, hns with
                    | [x], _ => exact ⟨x, rfl⟩
                  generalize WB[2] = W at hcw hsz HTK HMEM
                  cases hx : numberF W.data.toList with
                  | none =>
                    have HNR := hid (show numRes W.data.toList = .tuple #[.int .i64 0, .bool false] by unfold numRes; rw [hx])
                    have HR := hid (show rowR s.data.toList = none by rw [HK.out, allF_none HMEM.out hx])
                    clear hx
                    obtain ⟨⟨r0, r1, r2, r3, r4⟩, rf⟩ := hst.out.res.cells
                    go_wp2_with (first
                      | (go_at_call 57
                         refine (rnumber_any W _ hsz).mono ?_
                         rintro e w1 ⟨rfl, hw1'⟩
                         rw [HNR.out, hw1']
                         clear hw1'))
                    rw [HR.out]
                    exact bodyPost_ret (row_result2 (hst.out.res.fill 0 0 0 0 [] _) rfl rfl) rfl ⟨rfl, Box.keeps hst.out.below (Nat.le_refl _) _ _ _ _ _⟩
                  | some n =>
                    have HNR := hid (show numRes W.data.toList = .tuple #[.int .i64 (n : Int), .bool true] by unfold numRes; rw [hx])
                    have HX := hid hx
                    clear hx
                    obtain ⟨⟨-, -, b1, -, -⟩, bf⟩ := hst.out.box.cells
                    go_wp2_with (first
                      | (go_at_call 57
                         refine (rnumber_any W _ hsz).mono ?_
                         rintro e w1 ⟨rfl, hw1'⟩
                         rw [HNR.out, hw1']
                         clear hw1'))
                    exact ⟨⟨2, [x1] ++ [n], by omega, by go_num, rfl, hid (by rw [HTK.out, allF_snoc _ _ hall.out, HX.out]; rfl), hid (hst.out.put (hst.out.box.set.2.2.1 (n : Int)))⟩, by simp [intOf]; omega⟩
                · have hlt : 2 < nT := by omega
                  have hw1 : 3 < WB.length := by omega
                  obtain ⟨g', hg', hcw⟩ := hst.out.word hw1
                  cases hg'
                  have hsz := HSM.out _ (List.getElem_mem hw1)
                  have i1 : ((3 : Nat) : Int) < ((nT + 1 : Nat) : Int) := by omega
                  have i2 : (3 : Int) < ↑nT + 1 := by omega
                  have i3 : (3 : Int) < ↑WB.length := by omega
                  have HTK := hid (show ((WB.map fun x => x.data.toList).drop 1).take (2 + 1) = ((WB.map fun x => x.data.toList).drop 1).take 2 ++ [WB[3].data.toList] by
                    have hh : 2 < ((WB.map fun x => x.data.toList).drop 1).length := by simp; omega
                    rw [List.take_succ_eq_append_getElem hh]
                    simp)
                  have HMEM := hid (show WB[3].data.toList ∈ ((WB.map fun x => x.data.toList).drop 1).take nT from List.mem_iff_getElem.2 ⟨2, by simp; omega, by simp⟩)
                  obtain ⟨x1, x2, rfl⟩ : ∃ x y, ns = [x, y] := by
                    match ns, hns with
                    | [x, y], _ => exact ⟨x, y, rfl⟩
                  generalize WB[3] = W at hcw hsz HTK HMEM
                  cases hx : numberF W.data.toList with
                  | none =>
                    have HNR := hid (show numRes W.data.toList = .tuple #[.int .i64 0, .bool false] by unfold numRes; rw [hx])
                    have HR := hid (show rowR s.data.toList = none by rw [HK.out, allF_none HMEM.out hx])
                    clear hx
                    obtain ⟨⟨r0, r1, r2, r3, r4⟩, rf⟩ := hst.out.res.cells
                    go_wp2_with (first
                      | (go_at_call 57
                         refine (rnumber_any W _ hsz).mono ?_
                         rintro e w1 ⟨rfl, hw1'⟩
                         rw [HNR.out, hw1']
                         clear hw1'))
                    rw [HR.out]
                    exact bodyPost_ret (row_result2 (hst.out.res.fill 0 0 0 0 [] _) rfl rfl) rfl ⟨rfl, Box.keeps hst.out.below (Nat.le_refl _) _ _ _ _ _⟩
                  | some n =>
                    have HNR := hid (show numRes W.data.toList = .tuple #[.int .i64 (n : Int), .bool true] by unfold numRes; rw [hx])
                    have HX := hid hx
                    clear hx
                    obtain ⟨⟨-, -, -, b1, -⟩, bf⟩ := hst.out.box.cells
                    go_wp2_with (first
                      | (go_at_call 57
                         refine (rnumber_any W _ hsz).mono ?_
                         rintro e w1 ⟨rfl, hw1'⟩
                         rw [HNR.out, hw1']
                         clear hw1'))
                    exact ⟨⟨3, [x1, x2] ++ [n], by omega, by go_num, rfl, hid (by rw [HTK.out, allF_snoc _ _ hall.out, HX.out]; rfl), hid (hst.out.put (hst.out.box.set.2.2.2.1 (n : Int)))⟩, by simp [intOf]; omega⟩
              · have hk' : k = nT := by omega
                subst hk'
                have HFULL := hid (show ∀ ts, allF termR ((WB.map fun x => x.data.toList).drop (k + 1)) = some ts → rowR s.data.toList = some (rowOf kn ns ts) from fun ts h => by rw [HK.out, hall.out, h])
                have e1' := hid e1
                clear e1
                obtain ⟨it, hit⟩ := info_parts rterm_info
                have HIT := hid hit
                clear hit
                have i0 : ¬ (((k + 1 : Nat) : Int) < ((k + 1 : Nat) : Int)) := by omega
                have i00 : ¬ ((↑k : Int) + 1 < ↑k + 1) := by omega
                go_wp2_with fail
                go_loopw [11] (fun iv wq => ∃ (j : Nat) (ts : List Term) (tv : Value), 1 + k + j ≤ WB.length ∧ iv = .int .i64 ((k + 1 + j : Nat) : Int) ∧ ts.length = j ∧ Hid (allF termR (((WB.map fun x => x.data.toList).drop (k + 1)).take j) = some ts) ∧ Hid (RSt w WB (some ⟨g, 0, none⟩) wcap br (rowOf kn ns ts) tv wq) ∧ Hid (wq.ownsRow (br + 1) 52 2 tv ts.length (termCells ts))) (fun iv _ => WB.length - (intOf iv).toNat)
                case atStart => exact ⟨0, [], _, by omega, rfl, rfl, hid rfl, hst, hid ⟨rfl, .inl ⟨rfl, rfl⟩⟩⟩
                case round =>
                  obtain ⟨j, ts, tv, hj, rfl, hts, hall2, hst2, how2⟩ := hrel
                  obtain ⟨TA, tcap, rfl⟩ := own_form how2.out
                  by_cases hjm : 1 + k + j < WB.length
                  · have hjm2 : k + 1 + j < WB.length := by omega
                    obtain ⟨g', hg', hcw⟩ := hst2.out.word hjm2
                    cases hg'
                    have hsz := HSM.out _ (List.getElem_mem hjm2)
                    have x1 : ((k + 1 + j : Nat) : Int) < ↑WB.length := by omega
                    have x2 : (↑k : Int) + 1 + ↑j < ↑WB.length := by omega
                    have x3 : (0 : Int) ≤ ↑k + 1 + ↑j := by omega
                    have x4 : ((↑k : Int) + 1 + ↑j).toNat = k + 1 + j := by omega
                    have HTK := hid (show ((WB.map fun x => x.data.toList).drop (k + 1)).take (j + 1) = ((WB.map fun x => x.data.toList).drop (k + 1)).take j ++ [WB[k + 1 + j].data.toList] by
                      have hh : j < ((WB.map fun x => x.data.toList).drop (k + 1)).length := by simp; omega
                      rw [List.take_succ_eq_append_getElem hh]
                      simp)
                    have HMEM := hid (show WB[k + 1 + j].data.toList ∈ (WB.map fun x => x.data.toList).drop (k + 1) from List.mem_iff_getElem.2 ⟨j, by simp; omega, by simp⟩)
                    have HNONE := hid (show termR WB[k + 1 + j].data.toList = none → rowR s.data.toList = none from fun h => by
                      rw [HK.out, hall.out, allF_none HMEM.out h])
                    generalize WB[k + 1 + j] = W at hcw hsz HTK HMEM HNONE
                    have HTS := hid hts
                    have hTL : ts.length ≤ 2000001 := by omega
                    clear hts
                    cases hT : termR W.data.toList with
                    | none =>
                      have HR := hid (HNONE.out hT)
                      have HT := hid hT
                      clear hT
                      go_upto_region 30 with (first
                        | (go_at_call 58
                           refine (rterm_any W _ hsz).mono ?_
                           rintro e w1 ⟨u1, m1, ok1, rfl, hok, hb1⟩
                           rw [HT.out] at hok
                           obtain rfl : ok1 = false := hok
                           have hst3 := hid (hst2.out.keep' hb1)
                           clear hb1))
                      have hst4 := hid (hst3.out.keep' ((Below.refl _ _).alloc (Nat.le_refl _) (.cells #[.int .i64 u1, .int .i64 m1] 52)))
                      generalize w1.alloc (.cells #[.int .i64 u1, .int .i64 m1] 52) = w4 at hst4 ⊢
                      obtain ⟨⟨r0, r1, r2, r3, r4⟩, rf⟩ := hst4.out.res.cells
                      go_wp2_with fail
                      rw [HR.out]
                      exact bodyPost_ret (row_result2 (hst4.out.res.fill 0 0 0 0 [] _) rfl rfl) rfl ⟨rfl, Box.keeps hst4.out.below (Nat.le_refl _) _ _ _ _ _⟩
                    | some t =>
                      have HT := hid hT
                      clear hT
                      go_upto_region 32 with (first
                        | (go_at_call 58
                           refine (rterm_any W _ hsz).mono ?_
                           rintro e w1 ⟨u1, m1, ok1, rfl, hok, hb1⟩
                           rw [HT.out] at hok
                           obtain ⟨rfl, rfl, rfl⟩ := hok
                           have hst3 := hid (hst2.out.keep' hb1)
                           have how3 := hid (ownsRow_below how2.out hb1 (fun g hg => (how2.out.lt g hg).2))
                           clear hb1))
                      obtain ⟨w4, hw4⟩ : ∃ w4 : World, w4 = w1.alloc (.cells #[.int .i64 t.unit, .int .i64 t.mask] 52) := ⟨_, rfl⟩
                      rw [← hw4]
                      have hb4 : Below w1.heap.size w1 w4 := by rw [hw4]; exact (Below.refl _ _).alloc (Nat.le_refl _) _
                      have hst4 := hid (hst3.out.keep' hb4)
                      have how4 := hid (ownsRow_below how3.out hb4 (fun g hg => (how3.out.lt g hg).2))
                      have HAR := hid (show Arr 52 w4 w1.heap.size [.int .i64 t.unit, .int .i64 t.mask] by rw [hw4]; exact Arr.new _ _ _)
                      have t0 := HAR.out.cell (i := 0) (by simp)
                      have t1 := HAR.out.cell (i := 1) (by simp)
                      have hz4 : br + 1 ≤ w4.heap.size := hst4.out.box.lt
                      obtain ⟨⟨-, -, -, -, b4⟩, bf⟩ := hst4.out.box.cells
                      clear hw4 hb4 hcw hsz
                      go_wp2_with (first
                        | (at_builtin
                           refine wpList_append_src _ rfl (.tmp 89) (.tmp 91) _ rfl (br + 1) 52 it _ 2 16 Tryd.underlying25 HIT.out.1 HIT.out.2.1 HIT.out.2.2.1 HIT.out.2.2.2 rfl (by omega) (.slice TA ts.length tcap) ts.length (termCells ts) rfl (by exact how4.out.alloc _) (some ⟨w4.heap.size, 0, none⟩) 1 1 (termCells [t]) rfl (by exact src_new _ _ rfl 2 _ rfl rfl) termCells_one (by unfold maxLen; omega) (by omega) (by simp; omega) ?_
                           intro v5 w5 hown5 hg5 _
                           have hB5 : Below (br + 1) w4 w5 := Below.grown ((Below.refl _ _).alloc hz4 _) hg5 (by simp; omega) (fun k hk => (how4.out.lt k hk).1)
                           have hst5 := hid (hst4.out.keep hB5)
                           obtain ⟨A5, c5, rfl⟩ := own_form hown5
                           obtain ⟨⟨-, -, -, -, x5⟩, bf5⟩ := hst5.out.box.cells
                           have how5 := hid hown5
                           clear hown5 hg5 hB5))
                      have n1 := hst5.out.put (hst5.out.box.set.2.2.2.2 (.slice A5 (ts.length + 1) c5) (ts ++ [t]))
                      have n2 : (w5.setCell ⟨br, 4, none⟩ (.slice A5 (ts.length + 1) c5)).ownsRow (br + 1) 52 2 (.slice A5 (ts.length + 1) c5) (ts ++ [t]).length (termCells (ts ++ [t])) := by
                        rw [termCells_append, List.length_append]
                        exact ownsRow_keep how5.out (fun g' hg' => heap_setCell_other _ _ _ _ (by
                          have := (how5.out.lt g' hg').1
                          show g' ≠ br
                          omega))
                      exact ⟨⟨j + 1, ts ++ [t], _, by omega, by go_num, by simp [HTS.out], hid (by rw [HTK.out, allF_snoc _ _ hall2.out, HT.out]; rfl), hid n1, hid n2⟩, by simp [intOf]; omega⟩
                  · have x1 : ¬ ((k + 1 + j : Nat) : Int) < ↑WB.length := by omega
                    have x2 : ¬ (↑k : Int) + 1 + ↑j < ↑WB.length := by omega
                    have HT := hid (show allF termR ((WB.map fun x => x.data.toList).drop (k + 1)) = some ts by
                      rw [← hall2.out, List.take_of_length_le (by simp; omega)])
                    have HJ := hid (show ts.length ≤ s.size + 1 by omega)
                    clear hjm hj hts
                    obtain ⟨⟨r0, r1, r2, r3, r4⟩, rf⟩ := hst2.out.res.cells
                    obtain ⟨⟨b0, b1, b2, b3, b4⟩, bf⟩ := hst2.out.box.cells
                    have hlt2 := hst2.out.lt
                    go_wp2_with fail
                    rw [HFULL.out ts HT.out]
                    refine bodyPost_ret (row_result2 (hst2.out.res.fill _ _ _ _ ts _) rfl rfl) rfl ⟨_, _, rfl, ?_, rowI_of HKN5.out hall.out HT.out, HJ.out, Box.keeps hst2.out.below (Nat.le_refl _) _ _ _ _ _⟩
                    exact ownsRow_low (ownsRow_keep how2.out (fun g' hg' => Box.apart (by have := (how2.out.lt g' hg').1; omega) _ _ _ _ _)) (by omega)
end Go.Proofs.YtlinabifalfddaaDoor
