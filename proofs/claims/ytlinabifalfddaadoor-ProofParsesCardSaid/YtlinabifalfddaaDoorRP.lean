/- Contracts: linchpinref29.Print. -/
import Derived.Test.YtlinabifalfddaaDoorL
import Derived.Test.YtlinabifalfddaaDoorUpd
import Derived.Test.YtlinabifalfddaaDoorW15b
import Derived.Test.YtlinabifalfddaaDoorSame
namespace Go.Proofs.YtlinabifalfddaaDoor
open Go Go.RowKit

theorem kept_below {e : TypeId} {w w' : World} (hb : Below w.heap.size w w') : Lib.OthersKept e none w w' := fun k _ h _ _ => (hb.block k (Array.getElem?_eq_some_iff.1 h).1).trans h
/-- Behind a call that only makes memory. -/
theorem Wr.later {e : TypeId} {B : Nat} {w0 w w' : World} {v : Value} {s : List UInt8} (h : Wr e B w0 w v s) (hb : Below w.heap.size w w') : Wr e B w0 w' v s :=
  ⟨h.below.trans (hb.mono h.size.2), h.kept.trans (kept_below hb), ownsRow_below h.own hb (fun g hg => (h.own.lt g hg).2), h.base⟩
theorem lineOk_of {r : Row} {n len : Nat} (h : FitsP r n len) (hn : n ≤ 20000) : LineOk r := by
  obtain ⟨⟨h1, h2, h3, h4, h5, h6, h7, h8, h9⟩, _⟩ := h
  obtain ⟨ht, htt⟩ := terms_le h5
  refine ⟨⟨h3, by omega⟩, fun e => ?_, ht, fun t htm => ?_⟩
  · have := h6 e; omega
  · have := htt t htm; omega

set_option maxRecDepth 100000 in
set_option maxHeartbeats 1000000 in
theorem rprint_any (v : Value) (l : List Row) (w : World) (h : SliceRd tRow w (Lt w.heap.size) v l) (hm : MayP l) (hlen : (printF l).length ≤ 1048576) :
    Calls Tryd.prog 16 #[v] w fun e w' => e = .returned (.tuple #[.string ⟨(printF l).toArray⟩, .int .i64 0]) ∧ Below w.heap.size w w' := by
  have HH := hid h
  have HM := hid hm
  obtain ⟨A, cap, rfl, hcap, hmax, hc⟩ := h.rows
  have HC := hid hc
  have HLEN := hid hlen
  have hl : l.length ≤ 20000 := hm.2.1
  unfold maxLen at hmax
  clear h hc hm hlen
  obtain ⟨ib, hib⟩ := info_parts byte_info
  have HIB := hid hib
  clear hib
  go_enter Tryd.func16, Tryd.ntmps16
  go_wp2_with fail
  refine (rmay_any _ l _ HH.out).mono ?_
  rintro e w1 ⟨rfl, hb1⟩
  rw [decide_eq_true HM.out]
  go_wp2_with fail
  have hms : w.heap.size ≤ w1.heap.size := hb1.size
  go_loopw [4, 5] (fun bv iv wr => ∃ k : Nat, k ≤ l.length ∧ iv = .int .i64 k ∧ Hid (Wr 5 w.heap.size w1 wr bv (printF (l.take k)))) (fun _ iv _ => l.length - (intOf iv).toNat)
  case atStart => exact ⟨0, Nat.zero_le _, rfl, hid (by rw [List.take_zero]; exact Wr.start hms)⟩
  case round =>
    obtain ⟨k, hk, rfl, hwr⟩ := hrel
    by_cases hlt : k < l.length
    · obtain ⟨g, o, tv, hA, hF, g0, g1, g2, g3, g4, ⟨i0, i1, i2, i3⟩, ht⟩ := HC.out k hlt
      cases hA
      have hb : Below w.heap.size w wr := hb1.trans hwr.out.below
      obtain ⟨c0, c1, c2, c3, c4⟩ := cells5 hb hF ⟨g0, g1, g2, g3, g4⟩
      have HT := hid (ht.lift hb hb.size)
      have HO := hid (lineOk_of (HM.out.2.2 k hlt) (by omega))
      clear g0 g1 g2 g3 g4 ht
      obtain ⟨S, hS⟩ : ∃ S, S = printF (l.take k) := ⟨_, rfl⟩
      rw [← hS] at hwr
      have hSl : S.length ≤ 46000000 := by
        rw [hS]
        refine Nat.le_trans (printF_len (n := 20000) (fun r hr => ?_) (by rw [List.length_take]; omega)) (by omega)
        obtain ⟨j, hj, rfl⟩ := List.getElem_of_mem (List.mem_of_mem_take hr)
        obtain ⟨_, _, _, _, _, _, _, _, _, _, ⟨_, j1, j2, j3⟩, jt⟩ := HC.out j hj
        obtain ⟨_, _, rfl, _, _, _⟩ := jt.terms
        exact ⟨j1, j2, j3, jt.src.2.2, (terms_le (HM.out.2.2 j hj).1.2.2.2.2.1).1⟩
      have hLl : (lineF l[k]).length ≤ 2299 := by
        obtain ⟨_, _, rfl, _, _, _⟩ := HT.out.terms
        exact lineF_len ⟨i1, i2, i3, HT.out.src.2.2, (terms_le (HM.out.2.2 k hlt).1.2.2.2.2.1).1⟩
      have HK := hid hS
      clear hS
      obtain ⟨A5, c5, rfl⟩ := own_form hwr.out.own
      go_wp2_with (first
        | (go_at_call 36
           refine (line_any l[k] _ _ HT.out HO.out).mono ?_
           rintro e w2 ⟨rfl, hb2⟩
           have hw2 := hid (hwr.out.later hb2))
        | (at_builtin
           refine Lib.wpList_append_own_string _ rfl (.tmp 15) (.tmp 20) _ _ rfl w.heap.size 5 ib Tryd.underlying42 Tryd.underlying9 HIB.out.1 HIB.out.2.1 HIB.out.2.2.1 HIB.out.2.2.2 (.slice A5 S.length c5) S.length (Lib.byteCells S) rfl (by exact hw2.out.own) ⟨(lineF l[k]).toArray⟩ rfl (by show S.length + (lineF l[k]).toArray.size ≤ maxLen; rw [List.size_toArray]; unfold maxLen; omega) (by show S.length + (lineF l[k]).toArray.size ≤ _; rw [List.size_toArray]; omega) (by exact hw2.out.size.2) ?_
           intro v3 w3 hown3 hg3 _
           rw [strCells_of] at hown3
           obtain ⟨S1, A6, c6, rfl, hS1, hs1, hw3⟩ := (hw2.out.grown (t := lineF l[k]) hg3 hown3).next
           clear hown3 hg3)
        | (at_builtin
           refine wpList_append_src _ rfl (.tmp 21) (.tmp 22) _ rfl w.heap.size 5 ib _ 1 1 Tryd.underlying42 HIB.out.1 HIB.out.2.1 HIB.out.2.2.1 HIB.out.2.2.2 rfl (by omega) (.slice A6 S1.length c6) S1.length (Lib.byteCells S1) rfl (by exact (hw3.out.alloc _).own) (some ⟨w3.heap.size, 0, none⟩) 1 1 (Lib.byteCells [10]) rfl (by exact own_lit 10 rfl) (byteCells_one _) (by unfold maxLen; omega) (by omega) (by exact (hw3.out.alloc _).size.2) ?_
           intro v4 w4 hown4 hg4 _
           have hw4 := hid ((hw3.out.alloc _).grown (t := [10]) hg4 hown4)
           obtain ⟨A7, c7, rfl⟩ := own_form hw4.out.own
           clear hown4 hg4))
      exact ⟨⟨k + 1, by omega, by go_num, hid (by
        have e : S1 ++ [10] = printF (l.take (k + 1)) := by rw [printF_take hlt, hS1.out, HK.out]
        have := hw4.out
        rw [← e]
        simpa using this)⟩, by simp [intOf]; omega⟩
    · have hk' : k = l.length := by omega
      have HW := hid hwr.out
      rw [hk', List.take_length] at HW
      clear hwr
      obtain ⟨A2, cap2, rfl⟩ := own_form HW.out.own
      have hcv := conv_own (P := Tryd.prog) (src := 42) (dst := 9) Tryd.underlying42 Tryd.underlying5 Tryd.underlying9 HW.out.own
      have hle := HLEN.out
      go_wp2_with fail
      go_ret2
      exact ⟨rfl, hb1.trans HW.out.below⟩
theorem rprint_bad (v : Value) (l : List Row) (w : World) (h : SliceRd tRow w (Lt w.heap.size) v l) (hm : ¬ MayP l) :
    Calls Tryd.prog 16 #[v] w fun e w' => e = .returned (.tuple #[.string ⟨#[]⟩, .int .i64 33]) ∧ Below w.heap.size w w' := by
  have HH := hid h
  have HM := hid hm
  obtain ⟨A, cap, rfl, hcap, hmax, hc⟩ := h.rows
  clear h hc hm
  go_enter Tryd.func16, Tryd.ntmps16
  go_wp2_with fail
  refine (rmay_any _ l _ HH.out).mono ?_
  rintro e w1 ⟨rfl, hb1⟩
  rw [decide_eq_false HM.out]
  go_wp2_with fail
  go_ret2
  exact ⟨rfl, hb1⟩
end Go.Proofs.YtlinabifalfddaaDoor
