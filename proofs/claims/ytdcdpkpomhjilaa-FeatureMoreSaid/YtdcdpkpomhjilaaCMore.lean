/- FeatureMore returns true at every input: the given statement, proved. No condition. -/
import Derived.Test.YtdcdpkpomhjilaaR14
import Derived.Test.YtdcdpkpomhjilaaPf11
namespace Go.Proofs.Ytdcdpkpomhjilaa
open Go Go.ChangeShapes Go.WideShapes Go.ChangeAt Go.RowKit Go.ChangeMaps

set_option maxRecDepth 100000 in
theorem featureMore_lifted (os : Os) (started : os.Started) (H : Type) (enc : TypeId × Value → H) :
    ReturnsInHanded {} Try.checked os 7 .any (Rows.featureMoreSpec.pre6 enc Try.prog Try.f7 Rows.featureMoreRow.domain false) (Rows.featureMoreSpec.post enc Try.prog Try.f7 false true false false) := by
  refine returnsInHanded_of_change_sized (C := Try.checked) prog_own started (by kernel_rfl) Try.func7
    (ChangeSpec.witness6 (enc := enc) (C := Try.checked) false ⟨#[], #[.slice none 0 0, .int .i64 0, .int .i64 0], []⟩ 8 (by kernel_rfl) (by kernel_rfl) (by kernel_rfl) (by kernel_rfl)) ?_
  intro W base args ds gs before hval0 hW _ _ _
  have hval : ∀ (j : Nat) t v, Try.f7.params[j]? = some t → args[j]? = some v → Value.okWide Try.prog W .any base t v := hval0
  have hW' := hW
  obtain ⟨p, q, hA0, hV0, rfl, _, _⟩ := hW
  have hA : DataW.TrodAll enc Try.prog W 0 (fun _ => true) true Try.f7.params.toList args.toList ds p := hA0
  rw [Try.params7] at hA hval
  obtain ⟨v0, vs0, d0, ds0, p0, q0, ha, rfl, rfl, h0, hA1⟩ := trodAll_cons hA
  obtain ⟨v1, vs1, d1, ds1, p1, q1, rfl, rfl, rfl, h1, hA2⟩ := trodAll_cons hA1
  obtain ⟨v2, vs2, d2, ds2, p2, q2, rfl, rfl, rfl, h2, hA3⟩ := trodAll_cons hA2
  obtain ⟨rfl, rfl⟩ := trodVars_none hV0
  obtain ⟨a0, l0, c0, rfl⟩ := okWide_slice Try.underlying36 (hval 0 36 v0 rfl (by rw [← Array.getElem?_toList, ha]; rfl))
  have h0k := h0
  obtain ⟨fuel0, hf0⟩ := h0
  obtain ⟨x0, vl0, hv0, hl0⟩ := opens_ints _ _ _ hf0
  obtain ⟨rfl, rfl, rfl⟩ := trodAll_nil hA3
  obtain ⟨n1, rfl, rfl, rfl, wn1⟩ := open_int Try.underlying3 (hval 1 3 v1 rfl (by rw [← Array.getElem?_toList, ha]; rfl)) h1
  obtain ⟨n2, rfl, rfl, rfl, wn2⟩ := open_int Try.underlying3 (hval 2 3 v2 rfl (by rw [← Array.getElem?_toList, ha]; rfl)) h2
  have hargs : args = #[.slice a0 l0 c0, .int .i64 n1, .int .i64 n2] := by cases args; simp_all
  subst hargs
  obtain rfl : Value.slice a0 l0 c0 = vl0 := by simpa [Value.cells] using hv0
  simp only [List.append_nil] at hW'
  have hlt : ∀ x ∈ p0, x.block < W.heap.size := fun x hx => by simpa using hW'.lt x (by simpa using hx)
  refine (featureMore_any _ x0 n1 n2 W hl0 (wf_i64 wn1) (wf_i64 wn2)).mono ?_
  rintro e W' ⟨rfl, bel⟩
  have t0 := Below.trod prog_laidOut (by kernel_rfl) (of_decide_eq_true (by kernel_rfl)) h0k bel (fun x hx => hlt x (by simp [hx]))
  refine ⟨_, rfl, _, _, _, [], (p0 ++ ([] ++ ([] ++ []))), [], by simpa using hW', ?_, ?_, ?_, bel.frame _, fun h => by cases h⟩
  · exact trodAll_mk1 (shut_bool Try.underlying4 true)
  · exact (trodAll_cons_mk t0 (trodAll_cons_mk (shut_int Try.underlying3 wn1) (trodAll_cons_mk (shut_int Try.underlying3 wn2) trodAll_mk0)))
  · rfl
theorem featureMore_said : Rows.FeatureMoreSaid :=
  OpenClaim.holds_of_wide 7 Try.f7 rfl rfl rfl rfl rfl rfl rfl ⟨rfl, rfl, rfl, rfl, rfl⟩ rfl rfl rfl rfl rfl (by kernel_rfl) Try.func7 (by kernel_rfl)
    (of_decide_eq_true (by kernel_rfl)) (by unfold Func.isWrapper; first | (rw [if_pos (by decide +kernel)]; kernel_rfl) | (rw [if_neg (by decide +kernel)]; exact ⟨rfl, rfl⟩))
    (fun os started H enc _ => featureMore_lifted os started H enc)
#print axioms featureMore_said
end Go.Proofs.Ytdcdpkpomhjilaa
