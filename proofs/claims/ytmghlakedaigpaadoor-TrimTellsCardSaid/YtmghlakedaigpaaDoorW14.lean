/- Contract: linchpinmade.CopyRows. -/
import Derived.Test.YtmghlakedaigpaaDoorRows
import Derived.Test.YtmghlakedaigpaaDoorCopied
namespace Go.Proofs.YtmghlakedaigpaaDoor
open Go Go.RowKit

theorem row_info : (Tryd.prog.info? 40).map (fun i => (i.zero, i.size, i.bytes)) = some (some (.agg #[.int .i64 0, .int .i64 0, .int .i64 0, .int .i64 0, .slice none 0 0]), 5, 56) := by kernel_rfl
theorem term_info : (Tryd.prog.info? 38).map (fun i => (i.zero, i.size, i.bytes)) = some (some (.agg #[.int .i64 0, .int .i64 0]), 2, 16) := by kernel_rfl

set_option maxHeartbeats 1000000 in
theorem copyRows_any (v : Value) (l : List Row) (w : World) (h : SliceRd tRow w (Lt w.heap.size) v l) (hl : l.length ≤ 1000000) (hlt : ∀ r ∈ l, r.terms.length ≤ 1000000) :
    Calls Tryd.prog 7 #[v] w fun e w' => ∃ v' tvs, e = .returned v' ∧ Copied 40 38 w' w.heap.size v' l tvs ∧ Below w.heap.size w w' := by
  obtain ⟨A, cap, rfl, hcap, hmax, hc⟩ := h.rows
  have HC := hid hc
  unfold maxLen at hmax
  clear h hc
  obtain ⟨ir, hir⟩ := info_parts row_info
  have HIR := hid hir
  obtain ⟨it, hit⟩ := info_parts term_info
  have HIT := hid hit
  clear hir hit
  have HL := hid hlt
  clear hlt
  go_enter Tryd.func7, Tryd.ntmps7
  go_wp2
  go_loopw [3, 4] (fun u v wr => ∃ k : Nat, k ≤ l.length ∧ v = .int .i64 k ∧ Below w.heap.size w wr ∧ Hid (∃ tvs, Copied 40 38 wr w.heap.size u (l.take k) tvs)) (fun _ v _ => l.length - (intOf v).toNat)
  case atStart => exact ⟨0, Nat.zero_le _, rfl, Below.refl _ _, hid ⟨[], Copied.nil (by decide) _ _⟩⟩
  case round =>
    obtain ⟨k, hk, rfl, hb, hcop⟩ := hrel
    by_cases hlt : k < l.length
    · obtain ⟨g, o, tv, hA, hF, g0, g1, g2, g3, g4, ⟨i0, i1, i2, i3⟩, ht⟩ := HC.out k hlt
      cases hA
      have c0 := cell_below hb hF g0
      have c1 := cell_below hb hF g1
      have c2 := cell_below hb hF g2
      have c3 := cell_below hb hF g3
      have c4 := cell_below hb hF g4
      have HT := hid ht
      clear g0 g1 g2 g3 g4 ht
      have hbb : g < wr.heap.size := Nat.lt_of_lt_of_le hF hb.size
      obtain ⟨TA, tcap, rfl, htcap, htmax, -⟩ := HT.out.terms
      have HSRC : Hid (∀ W', Below w.heap.size w W' → Src W' TA l[k].terms.length 2 (termCells l[k].terms)) := hid (fun W' hW => ((HT.out.below hW).src).2.1)
      have hlk : l[k].terms.length ≤ 1000000 := HL.out _ (List.getElem_mem hlt)
      have hsz : w.heap.size ≤ wr.heap.size := hb.size
      obtain ⟨tvs, hcop'⟩ := hcop.out
      have HCOP := hid hcop'
      have HRI : Hid (RowI l[k]) := hid ⟨i0, i1, i2, i3, HT.out.src.2.2⟩
      clear hcop'
      go_wp2_with (first
        | (at_builtin
           refine wpList_append_src _ rfl (.const (.slice none 0 0)) (.tmp 17) _ rfl w.heap.size 38 it _ 2 16 Tryd.underlying33 HIT.out.1 HIT.out.2.1 HIT.out.2.2.1 HIT.out.2.2.2 rfl (by omega) (.slice none 0 0) 0 [] rfl ⟨rfl, .inl ⟨rfl, rfl⟩⟩ TA l[k].terms.length tcap (termCells l[k].terms) rfl (HSRC.out _ (by exact hb.alloc hb.size _)) termCells_one (by unfold maxLen; omega) (by omega) (by simp; omega) ?_
           intro v1 w1 hown1 hg1 hat1
           have hB1 := (Below.refl _ _).grown hg1 (Nat.le_refl _) (by intro k h; cases h)
           obtain ⟨hbc1, hbf1⟩ := bcell hB1
           have hz1 : wr.heap.size < w1.heap.size := by have := hB1.size; simp at this; omega
           obtain ⟨A1, c1, rfl⟩ := own_form hown1)
        | (at_builtin
           obtain ⟨hBw, hstep⟩ := copied_step HCOP.out hsz HRI.out hg1 hown1 hat1 4 (.slice A1 l[k].terms.length c1) (.cells #[.int .i64 l[k].kind, .int .i64 l[k].unit, .int .i64 l[k].a, .int .i64 l[k].b, .slice A1 l[k].terms.length c1] 40)
           refine wpList_append_src _ rfl (.tmp 20) (.tmp 22) _ rfl w.heap.size 40 ir _ 5 56 Tryd.underlying24 HIR.out.1 HIR.out.2.1 HIR.out.2.2.1 HIR.out.2.2.2 rfl (by omega) u3 (l.take k).length (rowsCells (l.take k) tvs) rfl (by exact (HCOP.out.below hBw (Nat.le_refl _)).own) (some ⟨w1.heap.size, 0, none⟩) 1 1 (rowCells l[k] (.slice A1 l[k].terms.length c1)) rfl (by exact src_new _ _ (by simp) 5 _ rfl rfl) (by simp [rowCells, Value.oneCell']) (by rw [List.length_take]; unfold maxLen; omega) (by rw [List.length_take]; omega) (by exact Nat.le_trans hsz hBw.size) ?_
           intro v2 w2 hown2 hg2 hat2
           have HC2 := hid (hstep _ _ hg2 hown2)
           have hB2 := (hb.trans (hBw.mono hsz)).grown hg2 (by exact Nat.le_trans hsz hBw.size) (by intro k' h'; exact ((HCOP.out.lt).1 k' h').1)
           clear hown1 hat1 hg1 hown2 hat2 hstep hg2))
      refine ⟨⟨k + 1, by omega, by go_num, hB2, hid ⟨tvs ++ [.slice A1 l[k].terms.length c1], ?_⟩⟩, by simp [intOf]; omega⟩
      rw [List.take_succ_eq_append_getElem hlt]
      exact HC2.out
    · obtain ⟨tvs, hc'⟩ := hcop.out
      rw [List.take_of_length_le (by omega)] at hc'
      have HF := hid hc'
      clear hc' hcop
      go_wp2
      go_ret
      exact ⟨u3, tvs, rfl, HF.out, hb⟩
end Go.Proofs.YtmghlakedaigpaaDoor
