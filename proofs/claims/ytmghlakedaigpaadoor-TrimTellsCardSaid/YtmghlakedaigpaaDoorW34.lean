/- Contracts: linchpinref29.rowMay, May. -/
import Derived.Test.YtmghlakedaigpaaDoorW12
namespace Go.Proofs.YtmghlakedaigpaaDoor
open Go Go.RowKit

set_option maxHeartbeats 1000000 in
theorem rowMay_any (tv : Value) (r : Row) (k : Nat) (w : World) (ht : SliceRd tTerm w (Lt w.heap.size) tv r.terms) :
    Calls Tryd.prog 32 #[.agg #[.int .i64 r.kind, .int .i64 r.unit, .int .i64 r.a, .int .i64 r.b, tv], .int .i64 k] w fun e w' => e = .returned (.bool (decide (RowOk r k))) ∧ Below w.heap.size w w' := by
  obtain ⟨TA, tcap, rfl, htcap, htmax, htc⟩ := ht.terms
  have HT := hid ht
  have HC := hid htc
  clear ht htc
  go_enter Tryd.func32, Tryd.ntmps32
  go_wp2_with (go_at_call 38; refine (termsMay_any _ _ _ (by exact HT.out.lift (by go_grown) (by simp))).mono ?_; rintro e w1 ⟨rfl, hb1⟩; obtain ⟨hbc, hbf⟩ := bcell hb1; have hz : w.heap.size < w1.heap.size := by have := hb1.size; simp at this; omega)
  all_goals try go_ret
  all_goals try (refine ⟨ret_bool (Bool.eq_iff_iff.2 ?_), ?_⟩)
  all_goals try first
    | (with_reducible exact (Below.refl _ _).alloc (Nat.le_refl _) _)
    | (exact ((Below.refl _ _).alloc (Nat.le_refl _) _).trans (hb1.mono (by simp)))
    | (clear HT HC; (try clear hbc hbf hb1); grind [RowOk])
  all_goals
    rcases Bool.eq_false_or_eq_true (r.kind != 4) with c3 | c3
    · go_quiet (fail)
      go_wp2
      go_ret
      refine ⟨ret_bool (Bool.eq_iff_iff.2 ?_), below_drewN (((Below.refl _ _).alloc (Nat.le_refl _) _).trans (hb1.mono (by simp))) _⟩
      clear HT HC hbc hbf hb1
      grind [RowOk]
    · rcases Bool.eq_false_or_eq_true ((r.terms.length : Int) == 0) with c2 | c2
      · go_quiet (fail)
        go_wp2
        go_ret
        refine ⟨ret_bool (Bool.eq_iff_iff.2 ?_), below_drewN (((Below.refl _ _).alloc (Nat.le_refl _) _).trans (hb1.mono (by simp))) _⟩
        clear HT HC hbc hbf hb1
        grind [RowOk]
      · rcases Bool.eq_false_or_eq_true ((r.terms.length : Int) == 1) with c1 | c1
        · have h0l : 0 < r.terms.length := by have : ((r.terms.length : Int) == 1) = true := by assumption
                                              simp at this; omega
          obtain ⟨gt, ot, hTA, hFt, t0, t1, _, _⟩ := HC.out 0 h0l
          cases hTA
          have HL : Hid (r.terms.length = 1) := by have : ((r.terms.length : Int) == 1) = true := by assumption
                                                   simp at this; exact hid (by omega)
          have HH := hid (headD_unit HL.out)
          have hgt : gt < w.heap.size := hFt
          simp only [Nat.zero_mul, Nat.add_zero] at t0
          go_quiet (fail)
          go_wp2
          go_ret
          refine ⟨ret_bool (Bool.eq_iff_iff.2 ?_), below_drewN (((Below.refl _ _).alloc (Nat.le_refl _) _).trans (hb1.mono (by simp))) _⟩
          have e1 := HH.out
          have e2 := HL.out
          clear HT HC hbc hbf hb1
          grind [RowOk]
        · go_quiet (fail)
          go_wp2
          go_ret
          refine ⟨ret_bool (Bool.eq_iff_iff.2 ?_), below_drewN (((Below.refl _ _).alloc (Nat.le_refl _) _).trans (hb1.mono (by simp))) _⟩
          clear HT HC hbc hbf hb1
          grind [RowOk]

set_option maxHeartbeats 400000 in
theorem rmay_any (v : Value) (l : List Row) (w : World) (h : SliceRd tRow w (Lt w.heap.size) v l) :
    Calls Tryd.prog 22 #[v] w fun e w' => e = .returned (.bool (decide (MayP l))) ∧ Below w.heap.size w w' := by
  have HH := hid h
  obtain ⟨A, cap, rfl, hcap, hmax, hc⟩ := h.rows
  have HC := hid hc
  unfold maxLen at hmax
  clear h hc
  go_enter Tryd.func22, Tryd.ntmps22
  by_cases h1 : l.length < 1
  · go_wp2
    go_ret
    exact ⟨ret_bool (decide_eq_false (fun hm => by have := hm.1; omega)).symm, Below.refl _ _⟩
  · by_cases h2 : 20000 < l.length
    · go_wp2
      go_ret
      exact ⟨ret_bool (decide_eq_false (fun hm => by have := hm.2.1; omega)).symm, Below.refl _ _⟩
    · go_wp2
      go_loopw [3] (fun v wr => ∃ k : Nat, k ≤ l.length ∧ v = .int .i64 k ∧ Below w.heap.size w wr ∧ Hid (∀ i, (h : i < l.length) → i < k → FitsP l[i] i l.length)) (fun v _ => l.length - (intOf v).toNat)
      case atStart => exact ⟨0, Nat.zero_le _, rfl, Below.refl _ _, hid (fun i _ h => absurd h (by omega))⟩
      case round =>
        obtain ⟨k, hk, rfl, hb, hgood⟩ := hrel
        by_cases hlt : k < l.length
        · obtain ⟨g, o, tv, hA, hF, g0, g1, g2, g3, g4, ⟨i0, i1, i2, i3⟩, ht⟩ := HC.out k hlt
          cases hA
          have c0 := cell_below hb hF g0
          have c1 := cell_below hb hF g1
          have c2 := cell_below hb hF g2
          have c3 := cell_below hb hF g3
          have c4 := cell_below hb hF g4
          have HT := hid ht
          clear g0 g1 g2 g3 g4 ht
          have hbb : g < wr.heap.size := Nat.lt_of_lt_of_le hF hb.size
          obtain ⟨TA, tcap, rfl, htcap, htmax, -⟩ := HT.out.terms
          have HRO : Hid (SliceRd tTerm wr (Lt wr.heap.size) (.slice TA l[k].terms.length tcap) l[k].terms) := hid (HT.out.lift hb hb.size)
          go_wp2_with (go_at_call 32; refine (rowMay_any _ l[k] k _ HRO.out).mono ?_; rintro e w1 ⟨rfl, hb1⟩; obtain ⟨hbc, hbf⟩ := bcell hb1)
          all_goals have hB := hb.trans (hb1.mono hb.size)
          all_goals first
            | (go_ret
               refine ⟨ret_bool (decide_eq_false (fun hm => ?_)).symm, hB⟩
               have h2 := hm.2.2 k hlt
               clear hm hgood HC HT HRO hbc hbf HH
               unfold FitsP at h2
               grind)
            | (go_roundw
               case rel => exact ⟨k + 1, by omega, by go_num, hB, hid (fun i hi hik => if e : i = k then by subst e; clear hgood HC HT HRO hbc hbf HH; unfold FitsP; grind else hgood.out i hi (by omega))⟩
               case measure => simp [intOf]; omega)
        · have H : Hid (∀ i, (h : i < l.length) → FitsP l[i] i l.length) := hid (fun i hi => hgood.out i hi (by omega))
          go_wp2
          go_ret
          refine ⟨ret_bool (Bool.eq_iff_iff.2 ?_), hb⟩
          have h2 := H.out
          clear H hgood HH
          simp only [MayP]
          grind
end Go.Proofs.YtmghlakedaigpaaDoor
