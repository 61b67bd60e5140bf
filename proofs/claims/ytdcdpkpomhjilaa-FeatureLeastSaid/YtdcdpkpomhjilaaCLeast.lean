/- FeatureLeast returns true at every input: the given statement, proved. No condition. -/
import Derived.Test.YtdcdpkpomhjilaaR15
import Derived.Test.YtdcdpkpomhjilaaPf11
namespace Go.Proofs.Ytdcdpkpomhjilaa
open Go Go.ChangeShapes Go.WideShapes Go.ChangeAt Go.RowKit Go.ChangeMaps

set_option maxRecDepth 100000 in
theorem featureLeast_lifted (os : Os) (started : os.Started) (H : Type) (enc : TypeId × Value → H) :
    ReturnsInHanded {} Try.checked os 8 .any (Rows.featureLeastSpec.pre6 enc Try.prog Try.f8 Rows.featureLeastRow.domain false) (Rows.featureLeastSpec.post enc Try.prog Try.f8 false true false false) := by
  refine returnsInHanded_of_change_sized (C := Try.checked) prog_own started (by kernel_rfl) Try.func8
    (ChangeSpec.witness6 (enc := enc) (C := Try.checked) false ⟨#[], #[.slice none 0 0, .int .i64 0], []⟩ 8 (by kernel_rfl) (by kernel_rfl) (by kernel_rfl) (by kernel_rfl)) ?_
  intro W base args ds gs before hval0 hW _ _ _
  have hval : ∀ (j : Nat) t v, Try.f8.params[j]? = some t → args[j]? = some v → Value.okWide Try.prog W .any base t v := hval0
  have hW' := hW
  obtain ⟨p, q, hA0, hV0, rfl, _, _⟩ := hW
  have hA : DataW.TrodAll enc Try.prog W 0 (fun _ => true) true Try.f8.params.toList args.toList ds p := hA0
  rw [Try.params8] at hA hval
  obtain ⟨v0, vs0, d0, ds0, p0, q0, ha, rfl, rfl, h0, hA1⟩ := trodAll_cons hA
  obtain ⟨v1, vs1, d1, ds1, p1, q1, rfl, rfl, rfl, h1, hA2⟩ := trodAll_cons hA1
  obtain ⟨rfl, rfl⟩ := trodVars_none hV0
  obtain ⟨a0, l0, c0, rfl⟩ := okWide_slice Try.underlying36 (hval 0 36 v0 rfl (by rw [← Array.getElem?_toList, ha]; rfl))
  have h0k := h0
  obtain ⟨fuel0, hf0⟩ := h0
  obtain ⟨x0, vl0, hv0, hl0⟩ := opens_ints _ _ _ hf0
  obtain ⟨rfl, rfl, rfl⟩ := trodAll_nil hA2
  obtain ⟨n1, rfl, rfl, rfl, wn1⟩ := open_int Try.underlying3 (hval 1 3 v1 rfl (by rw [← Array.getElem?_toList, ha]; rfl)) h1
  have hargs : args = #[.slice a0 l0 c0, .int .i64 n1] := by cases args; simp_all
  subst hargs
  obtain rfl : Value.slice a0 l0 c0 = vl0 := by simpa [Value.cells] using hv0
  simp only [List.append_nil] at hW'
  have hlt : ∀ x ∈ p0, x.block < W.heap.size := fun x hx => by simpa using hW'.lt x (by simpa using hx)
  refine (featureLeast_any _ x0 n1 W hl0 (wf_i64 wn1)).mono ?_
  rintro e W' ⟨rfl, bel⟩
  have t0 := Below.trod prog_laidOut (by kernel_rfl) (of_decide_eq_true (by kernel_rfl)) h0k bel (fun x hx => hlt x (by simp [hx]))
  refine ⟨_, rfl, _, _, _, [], (p0 ++ ([] ++ [])), [], by simpa using hW', ?_, ?_, ?_, bel.frame _, fun h => by cases h⟩
  · exact trodAll_mk1 (shut_bool Try.underlying4 true)
  · exact (trodAll_cons_mk t0 (trodAll_cons_mk (shut_int Try.underlying3 wn1) trodAll_mk0))
  · rfl
theorem featureLeast_said : Rows.FeatureLeastSaid :=
  OpenClaim.holds_of_wide 8 Try.f8 rfl rfl rfl rfl rfl rfl rfl ⟨rfl, rfl, rfl, rfl, rfl⟩ rfl rfl rfl rfl rfl (by kernel_rfl) Try.func8 (by kernel_rfl)
    (of_decide_eq_true (by kernel_rfl)) (by unfold Func.isWrapper; first | (rw [if_pos (by decide +kernel)]; kernel_rfl) | (rw [if_neg (by decide +kernel)]; exact ⟨rfl, rfl⟩))
    (fun os started H enc _ => featureLeast_lifted os started H enc)
#print axioms featureLeast_said
end Go.Proofs.Ytdcdpkpomhjilaa
