/- ProofMay returns true at every input: the given card, proved. No condition. -/
import Derived.Test.YtlinabifalfddaaDoorProofs
import Derived.Test.YtlinabifalfddaaDoorCards
import Derived.Test.YtlinabifalfddaaDoorTie
namespace Go.Proofs.YtlinabifalfddaaDoor
open Go Go.ChangeShapes Go.WideShapes Go.ChangeAt Go.RowKit

theorem proofMay_row : Rows.ProofMaySaid :=
  OpenClaim.holds_of_wide 3 Tryd.f3 rfl rfl rfl rfl rfl rfl rfl ⟨rfl, rfl, rfl, rfl, rfl⟩ rfl rfl rfl rfl rfl (by kernel_rfl) Tryd.func3 (by kernel_rfl)
    (of_decide_eq_true (by kernel_rfl)) (by unfold Func.isWrapper; first | (rw [if_pos (by decide +kernel)]; kernel_rfl) | (rw [if_neg (by decide +kernel)]; exact ⟨rfl, rfl⟩))
    (fun os started H enc _ => proofMay_lifted os started H enc)
theorem proofMay_card : Rows.ProofMayCardSaid :=
  Claim7.holds_tied_plain_at .later [] [.data, .data, .data] true Rows.proofMayCard.stood.harness false
    proofMay_row (fun _ h => by cases h) (by kernel_rfl) (fun _ h => by cases h) proofMay_row_tie rfl ⟨rfl, rfl⟩ (by kernel_rfl) rfl
    (fun f fn hf hfn => by
      obtain rfl : f = 3 := Option.some.inj ((show Tryd.prog.funcNamed "linchpin/linchpinlaw29.ProofMay" = some 3 by kernel_rfl).symm.trans hf) |>.symm
      obtain rfl : fn = Tryd.f3 := (Option.some.inj (Tryd.func3.symm.trans hfn)).symm
      refine ⟨by kernel_rfl, fun j t ht => ?_⟩
      have hall : (Tryd.f3.params.toList.all fun t => !Tryd.prog.wantsStandIn t) = true := by kernel_rfl
      have h := List.all_eq_true.1 hall t (Array.mem_toList_iff.2 (Array.mem_of_getElem? ht))
      exact (by simpa using h : Tryd.prog.wantsStandIn t = false))
    (by kernel_rfl)
#print axioms proofMay_card
end Go.Proofs.YtlinabifalfddaaDoor
