/- FeatureItems returns true at every input: the given statement, proved. No condition. -/
import Derived.Test.YtdcdpkpomhjilaaSb
import Derived.Test.YtdcdpkpomhjilaaPf11
namespace Go.Proofs.Ytdcdpkpomhjilaa
open Go Go.ChangeShapes Go.WideShapes Go.ChangeAt Go.RowKit Go.ChangeMaps

set_option maxRecDepth 100000 in
theorem featureItems_lifted (os : Os) (started : os.Started) (H : Type) (enc : TypeId × Value → H) :
    ReturnsInHanded {} Try.checked os 3 .any (Rows.featureItemsSpec.pre6 enc Try.prog Try.f3 Rows.featureItemsRow.domain false) (Rows.featureItemsSpec.post enc Try.prog Try.f3 false true false false) := by
  refine returnsInHanded_of_change_sized (C := Try.checked) prog_own started (by kernel_rfl) Try.func3
    (ChangeSpec.witness6 (enc := enc) (C := Try.checked) false ⟨#[], #[.string ⟨#[]⟩], []⟩ 8 (by kernel_rfl) (by kernel_rfl) (by kernel_rfl) (by kernel_rfl)) ?_
  intro W base args ds gs before hval0 hW _ _ _
  have hval : ∀ (j : Nat) t v, Try.f3.params[j]? = some t → args[j]? = some v → Value.okWide Try.prog W .any base t v := hval0
  have hW' := hW
  obtain ⟨p, q, hA0, hV0, rfl, _, _⟩ := hW
  have hA : DataW.TrodAll enc Try.prog W 0 (fun _ => true) true Try.f3.params.toList args.toList ds p := hA0
  rw [Try.params3] at hA hval
  obtain ⟨v0, vs0, d0, ds0, p0, q0, ha, rfl, rfl, h0, hA1⟩ := trodAll_cons hA
  obtain ⟨rfl, rfl⟩ := trodVars_none hV0
  obtain ⟨rfl, rfl, rfl⟩ := trodAll_nil hA1
  obtain ⟨n0, rfl, rfl, rfl, wn0⟩ := open_string Try.underlying9 (hval 0 9 v0 rfl (by rw [← Array.getElem?_toList, ha]; rfl)) h0
  have hargs : args = #[.string n0] := by cases args; simp_all
  subst hargs
  simp only [List.append_nil] at hW'
  refine (featureItems_any n0 W wn0).mono ?_
  rintro e W' ⟨rfl, bel⟩
  refine ⟨_, rfl, _, _, _, [], ([] ++ []), [], by simpa using hW', ?_, ?_, ?_, bel.frame _, fun h => by cases h⟩
  · exact trodAll_mk1 (shut_bool Try.underlying4 true)
  · exact (trodAll_cons_mk (shut_string Try.underlying9 wn0) trodAll_mk0)
  · rfl
theorem featureItems_said : Rows.FeatureItemsSaid :=
  OpenClaim.holds_of_wide 3 Try.f3 rfl rfl rfl rfl rfl rfl rfl ⟨rfl, rfl, rfl, rfl, rfl⟩ rfl rfl rfl rfl rfl (by kernel_rfl) Try.func3 (by kernel_rfl)
    (of_decide_eq_true (by kernel_rfl)) (by unfold Func.isWrapper; first | (rw [if_pos (by decide +kernel)]; kernel_rfl) | (rw [if_neg (by decide +kernel)]; exact ⟨rfl, rfl⟩))
    (fun os started H enc _ => featureItems_lifted os started H enc)
#print axioms featureItems_said
end Go.Proofs.Ytdcdpkpomhjilaa
