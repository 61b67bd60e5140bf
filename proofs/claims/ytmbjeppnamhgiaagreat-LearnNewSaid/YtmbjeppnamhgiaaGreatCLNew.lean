/- LearnNew returns true at every input: the given statement, proved. No condition. -/
import Derived.Test.YtmbjeppnamhgiaaGreatM3
import Derived.Test.YtmbjeppnamhgiaaGreatzPf
namespace Go.Proofs.YtmbjeppnamhgiaaGreat
open Go Go.ChangeShapes Go.WideShapes Go.ChangeAt Go.RowKit Go.ChangeMaps

set_option maxRecDepth 100000 in
theorem learnNew_lifted (os : Os) (started : os.Started) (H : Type) (enc : TypeId × Value → H) :
    ReturnsInHanded {} Tryz.checked os 8 .any (Rows.learnNewSpec.pre6 enc Tryz.prog Tryz.f8 Rows.learnNewRow.domain false) (Rows.learnNewSpec.post enc Tryz.prog Tryz.f8 false true false false) := by
  refine returnsInHanded_of_change_sized (C := Tryz.checked) prog_own started (by kernel_rfl) Tryz.func8
    (ChangeSpec.witness6 (enc := enc) (C := Tryz.checked) false ⟨#[], #[.slice none 0 0, .slice none 0 0, .slice none 0 0], []⟩ 8 (by kernel_rfl) (by kernel_rfl) (by kernel_rfl) (by kernel_rfl)) ?_
  intro W base args ds gs before hval0 hW _ _ _
  have hval : ∀ (j : Nat) t v, Tryz.f8.params[j]? = some t → args[j]? = some v → Value.okWide Tryz.prog W .any base t v := hval0
  have hW' := hW
  obtain ⟨p, q, hA0, hV0, rfl, _, _⟩ := hW
  have hA : DataW.TrodAll enc Tryz.prog W 0 (fun _ => true) true Tryz.f8.params.toList args.toList ds p := hA0
  rw [Tryz.params8] at hA hval
  obtain ⟨v0, vs0, d0, ds0, p0, q0, ha, rfl, rfl, h0, hA1⟩ := trodAll_cons hA
  obtain ⟨v1, vs1, d1, ds1, p1, q1, rfl, rfl, rfl, h1, hA2⟩ := trodAll_cons hA1
  obtain ⟨v2, vs2, d2, ds2, p2, q2, rfl, rfl, rfl, h2, hA3⟩ := trodAll_cons hA2
  obtain ⟨rfl, rfl⟩ := trodVars_none hV0
  obtain ⟨a0, l0, c0, rfl⟩ := okWide_slice Tryz.underlying22 (hval 0 22 v0 rfl (by rw [← Array.getElem?_toList, ha]; rfl))
  have h0k := h0
  obtain ⟨fuel0, hf0⟩ := h0
  obtain ⟨x0, vl0, hv0, hl0⟩ := opens_ints _ _ _ hf0
  obtain ⟨a1, l1, c1, rfl⟩ := okWide_slice Tryz.underlying22 (hval 1 22 v1 rfl (by rw [← Array.getElem?_toList, ha]; rfl))
  have h1k := h1
  obtain ⟨fuel1, hf1⟩ := h1
  obtain ⟨x1, vl1, hv1, hl1⟩ := opens_ints _ _ _ hf1
  obtain ⟨a2, l2, c2, rfl⟩ := okWide_slice Tryz.underlying22 (hval 2 22 v2 rfl (by rw [← Array.getElem?_toList, ha]; rfl))
  have h2k := h2
  obtain ⟨fuel2, hf2⟩ := h2
  obtain ⟨x2, vl2, hv2, hl2⟩ := opens_ints _ _ _ hf2
  obtain ⟨rfl, rfl, rfl⟩ := trodAll_nil hA3
  have hargs : args = #[.slice a0 l0 c0, .slice a1 l1 c1, .slice a2 l2 c2] := by cases args; simp_all
  subst hargs
  obtain rfl : Value.slice a0 l0 c0 = vl0 := by simpa [Value.cells] using hv0
  obtain rfl : Value.slice a1 l1 c1 = vl1 := by simpa [Value.cells] using hv1
  obtain rfl : Value.slice a2 l2 c2 = vl2 := by simpa [Value.cells] using hv2
  simp only [List.append_nil] at hW'
  have hlt : ∀ x ∈ p0 ++ p1 ++ p2, x.block < W.heap.size := fun x hx => by simpa using hW'.lt x (by simpa using hx)
  refine (learnNew_any _ _ _ x0 x1 x2 W hl0 hl1 hl2).mono ?_
  rintro e W' ⟨rfl, bel⟩
  have t0 := Below.trod prog_laidOut (by kernel_rfl) (of_decide_eq_true (by kernel_rfl)) h0k bel (fun x hx => hlt x (by simp [hx]))
  have t1 := Below.trod prog_laidOut (by kernel_rfl) (of_decide_eq_true (by kernel_rfl)) h1k bel (fun x hx => hlt x (by simp [hx]))
  have t2 := Below.trod prog_laidOut (by kernel_rfl) (of_decide_eq_true (by kernel_rfl)) h2k bel (fun x hx => hlt x (by simp [hx]))
  refine ⟨_, rfl, _, _, _, [], (p0 ++ (p1 ++ (p2 ++ []))), [], by simpa using hW', ?_, ?_, ?_, bel.frame _, fun h => by cases h⟩
  · exact trodAll_mk1 (shut_bool Tryz.underlying4 true)
  · exact (trodAll_cons_mk t0 (trodAll_cons_mk t1 (trodAll_cons_mk t2 trodAll_mk0)))
  · rfl
theorem learnNew_said : Rows.LearnNewSaid :=
  OpenClaim.holds_of_wide 8 Tryz.f8 rfl rfl rfl rfl rfl rfl rfl ⟨rfl, rfl, rfl, rfl, rfl⟩ rfl rfl rfl rfl rfl (by kernel_rfl) Tryz.func8 (by kernel_rfl)
    (of_decide_eq_true (by kernel_rfl)) (by unfold Func.isWrapper; first | (rw [if_pos (by decide +kernel)]; kernel_rfl) | (rw [if_neg (by decide +kernel)]; exact ⟨rfl, rfl⟩))
    (fun os started H enc _ => learnNew_lifted os started H enc)
#print axioms learnNew_said
end Go.Proofs.YtmbjeppnamhgiaaGreat
