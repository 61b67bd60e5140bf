/- Contracts: proof.May. -/
import Derived.Test.YtmghlakedaigpaaDoorW33
namespace Go.Proofs.YtmghlakedaigpaaDoor
open Go Go.RowKit

/-- May rows be? -/
def MayP (l : List Row) : Prop := 1 ≤ l.length ∧ l.length ≤ 20000 ∧ ∀ i, (h : i < l.length) → FitsP l[i] i l.length
instance (l : List Row) : Decidable (MayP l) := by unfold MayP; infer_instance

set_option maxHeartbeats 400000 in
theorem may_any (v : Value) (l : List Row) (w : World) (h : SliceRd tRow w (Lt w.heap.size) v l) :
    Calls Tryd.prog 21 #[v] w fun e w' => e = .returned (.bool (decide (MayP l))) ∧ Below w.heap.size w w' := by
  have HH := hid h
  obtain ⟨A, cap, rfl, hcap, hmax, -⟩ := h.rows
  unfold maxLen at hmax
  clear h
  go_enter Tryd.func21, Tryd.ntmps21
  go_wp2
  go_loopw [6] (fun v wr => ∃ k : Nat, k ≤ l.length ∧ v = .int .i64 k ∧ Below w.heap.size w wr ∧ Hid (∀ i, (h : i < l.length) → i < k → FitsP l[i] i l.length)) (fun v _ => l.length - (intOf v).toNat)
  case atStart => exact ⟨0, Nat.zero_le _, rfl, Below.refl _ _, hid (fun i _ h => absurd h (by omega))⟩
  case round =>
    obtain ⟨k, hk, rfl, hb, hgood⟩ := hrel
    by_cases hlt : k < l.length
    · go_wp2_with (go_at_call 31; refine (fits_any _ l k _ (HH.out.lift hb hb.size) hlt).mono ?_; rintro e w1 ⟨rfl, hb1⟩)
      · go_ret
        refine ⟨ret_bool ?_, hb.trans (hb1.mono hb.size)⟩
        symm
        refine decide_eq_false (fun hm => ?_)
        exact absurd (hm.2.2 k hlt) (not_dec_t (by assumption))
      · go_roundw
        case rel => exact ⟨k + 1, by omega, by go_num, hb.trans (hb1.mono hb.size), hid (fun i hi hik => if e : i = k then by subst e; exact not_dec_f (by assumption) else hgood.out i hi (by omega))⟩
        case measure => simp [intOf]; omega
    · have H : Hid (∀ i, (h : i < l.length) → FitsP l[i] i l.length) := hid (fun i hi => hgood.out i hi (by omega))
      go_wp2
      all_goals
        go_ret
        refine ⟨ret_bool (Bool.eq_iff_iff.2 ?_), hb⟩
        have h2 := H.out
        clear H hgood HH
        simp only [decide_eq_true_eq, MayP]
        grind
end Go.Proofs.YtmghlakedaigpaaDoor
