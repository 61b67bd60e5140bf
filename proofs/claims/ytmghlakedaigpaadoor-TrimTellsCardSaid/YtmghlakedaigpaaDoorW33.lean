/- Contracts: proof.fits. -/
import Derived.Test.YtmghlakedaigpaaDoorW49
import Derived.Test.YtmghlakedaigpaaDoorW1
namespace Go.Proofs.YtmghlakedaigpaaDoor
open Go Go.RowKit

/-- May a row be at a place? -/
def RowOk (r : Row) (n : Nat) : Prop :=
  1 ≤ r.kind ∧ r.kind ≤ 5 ∧ 0 ≤ r.unit ∧ r.unit < 48 ∧ termsMayF r.terms = true ∧
  (r.kind = 5 → 0 ≤ r.a ∧ r.a < n ∧ 0 ≤ r.b ∧ r.b < n) ∧ (r.kind ≠ 5 → r.a = 0 ∧ r.b = 0) ∧ (r.kind = 1 → r.unit = 0) ∧
  (r.kind = 4 → r.terms.length = 0 ∨ (r.terms.length = 1 ∧ (r.terms.headD default).unit = r.unit))
instance (r : Row) (n : Nat) : Decidable (RowOk r n) := by unfold RowOk; infer_instance
def FitsP (r : Row) (n : Nat) (len : Nat) : Prop := RowOk r n ∧ (r.terms.length = 0 ↔ n + 1 = len)
instance (r : Row) (n len : Nat) : Decidable (FitsP r n len) := by unfold FitsP; infer_instance

theorem headD_unit {l : List Term} (h : l.length = 1) : (l.headD default).unit = (l[0]'(by omega)).unit := by
  match l, h with
  | [x], _ => rfl

set_option maxHeartbeats 1000000 in
theorem fits_any (v : Value) (l : List Row) (k : Nat) (w : World) (h : SliceRd tRow w (Lt w.heap.size) v l) (hk : k < l.length) :
    Calls Tryd.prog 31 #[v, .int .i64 k] w fun e w' => e = .returned (.bool (decide (FitsP l[k] k l.length))) ∧ Below w.heap.size w w' := by
  obtain ⟨A, cap, rfl, hcap, hmax, hc⟩ := h.rows
  unfold maxLen at hmax
  obtain ⟨g, o, tv, hA, hF, g0, g1, g2, g3, g4, ⟨i0, i1, i2, i3⟩, ht⟩ := hc k hk
  cases hA
  clear hc h
  obtain ⟨TA, tcap, rfl, htcap, htmax, htc⟩ := ht.terms
  have HT := hid ht
  have HC := hid htc
  clear ht htc
  have hgl : g < w.heap.size := hF
  generalize l[k] = r at *
  go_enter Tryd.func31, Tryd.ntmps31
  go_wp2_with (go_at_call 37; refine (terms_any _ _ _ (by exact HT.out.lift (by go_grown) (by simp))).mono ?_; rintro e w1 ⟨rfl, hb1⟩; obtain ⟨hbc, hbf⟩ := bcell hb1; have hz : w.heap.size < w1.heap.size := by have := hb1.size; simp at this; omega)
  all_goals try go_ret
  all_goals try (refine ⟨ret_bool (Bool.eq_iff_iff.2 ?_), ?_⟩)
  all_goals try first
    | (with_reducible exact (Below.refl _ _).alloc (Nat.le_refl _) _)
    | (exact ((Below.refl _ _).alloc (Nat.le_refl _) _).trans (hb1.mono (by simp)))
    | (clear HT HC g0 g1 g2 g3 g4; (try clear hbc hbf hb1); grind [FitsP, RowOk])
  rcases Bool.eq_false_or_eq_true (r.a == 0) with c3 | c3
  · rcases Bool.eq_false_or_eq_true (r.b == 0) with c4 | c4
    · rcases Bool.eq_false_or_eq_true ((r.terms.length : Int) == 0) with c2 | c2
      · go_quiet (fail)
        go_wp2
        go_ret
        refine ⟨ret_bool (Bool.eq_iff_iff.2 ?_), below_drewN (((Below.refl _ _).alloc (Nat.le_refl _) _).trans (hb1.mono (by simp))) _⟩
        clear HT HC g0 g1 g2 g3 g4 hbc hbf hb1
        grind [FitsP, RowOk]
      · rcases Bool.eq_false_or_eq_true ((r.terms.length : Int) == 1) with c1 | c1
        · have h0l : 0 < r.terms.length := by have : ((r.terms.length : Int) == 1) = true := by assumption
                                              simp at this; omega
          obtain ⟨gt, ot, hTA, hFt, t0, t1, _, _⟩ := HC.out 0 h0l
          cases hTA
          have HL : Hid (r.terms.length = 1) := by have : ((r.terms.length : Int) == 1) = true := by assumption
                                                   simp at this; exact hid (by omega)
          have HH := hid (headD_unit HL.out)
          have hgt : gt < w.heap.size := hFt
          simp only [Nat.zero_mul, Nat.add_zero] at t0
          go_quiet (fail)
          go_wp2
          go_ret
          refine ⟨ret_bool (Bool.eq_iff_iff.2 ?_), below_drewN (((Below.refl _ _).alloc (Nat.le_refl _) _).trans (hb1.mono (by simp))) _⟩
          have e1 := HH.out
          have e2 := HL.out
          clear HT HC g0 g1 g2 g3 g4 hbc hbf hb1
          grind [FitsP, RowOk]
        · go_quiet (fail)
          go_wp2
          go_ret
          refine ⟨ret_bool (Bool.eq_iff_iff.2 ?_), below_drewN (((Below.refl _ _).alloc (Nat.le_refl _) _).trans (hb1.mono (by simp))) _⟩
          clear HT HC g0 g1 g2 g3 g4 hbc hbf hb1
          grind [FitsP, RowOk]
    · go_quiet (fail)
      go_wp2
      go_ret
      refine ⟨ret_bool (Bool.eq_iff_iff.2 ?_), below_drewN (((Below.refl _ _).alloc (Nat.le_refl _) _).trans (hb1.mono (by simp))) _⟩
      clear HT HC g0 g1 g2 g3 g4 hbc hbf hb1
      grind [FitsP, RowOk]
  · go_quiet (fail)
    go_wp2
    go_ret
    refine ⟨ret_bool (Bool.eq_iff_iff.2 ?_), below_drewN (((Below.refl _ _).alloc (Nat.le_refl _) _).trans (hb1.mono (by simp))) _⟩
    clear HT HC g0 g1 g2 g3 g4 hbc hbf hb1
    grind [FitsP, RowOk]
end Go.Proofs.YtmghlakedaigpaaDoor
