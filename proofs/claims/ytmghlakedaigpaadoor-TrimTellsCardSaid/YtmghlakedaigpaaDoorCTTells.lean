/- TrimTells returns true at every input: the given card, proved. No condition. -/
import Derived.Test.YtmghlakedaigpaaDoorRTl
import Derived.Test.YtmghlakedaigpaaDoorPf31
import Derived.Test.YtmghlakedaigpaaDoorCards
import Derived.Test.YtmghlakedaigpaaDoorTie
namespace Go.Proofs.YtmghlakedaigpaaDoor
open Go Go.ChangeShapes Go.WideShapes Go.ChangeAt Go.RowKit

set_option maxRecDepth 100000 in
theorem trimTells_lifted (os : Os) (started : os.Started) (H : Type) (enc : TypeId × Value → H) :
    ReturnsInHanded {} Tryd.checked os 3 .any (fun w args => (Rows.trimTellsSpec.pre enc Tryd.prog Tryd.f3 [] false w args ∧ laidMet Tryd.prog Rows.trimTellsRow.laid w) ∧ sizedMet enc Tryd.prog Tryd.f3 (OpenSpec.ofChange Rows.trimTellsSpec) false w args)
      (Rows.trimTellsSpec.post enc Tryd.prog Tryd.f3 false true false false) := by
  refine returnsInHanded_of_change_and (C := Tryd.checked) (X := fun w _ => laidMet Tryd.prog Rows.trimTellsRow.laid w) (fun _ _ _ hh h => h.of_heap hh) Tryd.own started (by kernel_rfl) Tryd.func3
    (ChangeSpec.witness_at (enc := enc) (C := Tryd.checked) (os := os) (X := fun w _ => laidMet Tryd.prog Rows.trimTellsRow.laid w) false (laidWorld os) #[.slice none 0 0, .int .i64 0, .int .i64 0, .int .i64 0] 8 rfl (by kernel_rfl) (by kernel_rfl) (by kernel_rfl) (by kernel_rfl) (by kernel_rfl) (laid_met os _)) ?_
  intro W base args ds gs before hval0 hW _ _ hL _
  have hval : ∀ (j : Nat) t v, Tryd.f3.params[j]? = some t → args[j]? = some v → Value.okWide Tryd.prog W .any base t v := hval0
  have hW' := hW
  obtain ⟨p, q, hA0, hV0, rfl, hfz, hnd⟩ := hW
  have hA : DataW.TrodAll enc Tryd.prog W 0 (fun _ => true) true Tryd.f3.params.toList args.toList ds p := hA0
  rw [Tryd.params3] at hA hval
  obtain ⟨v0, vs0, d0, ds0, p0, q0, ha, rfl, rfl, h0, hA1⟩ := trodAll_cons hA
  obtain ⟨v1, vs1, d1, ds1, p1, q1, rfl, rfl, rfl, h1, hA2⟩ := trodAll_cons hA1
  obtain ⟨v2, vs2, d2, ds2, p2, q2, rfl, rfl, rfl, h2, hA3⟩ := trodAll_cons hA2
  obtain ⟨v3, vs3, d3, ds3, p3, q3, rfl, rfl, rfl, h3, hA4⟩ := trodAll_cons hA3
  obtain ⟨rfl, rfl⟩ := trodVars_none hV0
  obtain ⟨a0, l0, c0, rfl⟩ := okWide_slice Tryd.underlying22 (hval 0 22 v0 rfl (by rw [← Array.getElem?_toList, ha]; rfl))
  have h0k := h0
  obtain ⟨fuel0, hf0⟩ := h0
  obtain ⟨x0, vl0, hv0, hl0⟩ := opens_ints _ _ _ hf0
  obtain ⟨rfl, rfl, rfl⟩ := trodAll_nil hA4
  obtain ⟨n1, rfl, rfl, rfl, wn1⟩ := open_int Tryd.underlying3 (hval 1 3 v1 rfl (by rw [← Array.getElem?_toList, ha]; rfl)) h1
  obtain ⟨n2, rfl, rfl, rfl, wn2⟩ := open_int Tryd.underlying3 (hval 2 3 v2 rfl (by rw [← Array.getElem?_toList, ha]; rfl)) h2
  obtain ⟨n3, rfl, rfl, rfl, wn3⟩ := open_int Tryd.underlying3 (hval 3 3 v3 rfl (by rw [← Array.getElem?_toList, ha]; rfl)) h3
  have hargs : args = #[.slice a0 l0 c0, .int .i64 n1, .int .i64 n2, .int .i64 n3] := by cases args; simp_all
  subst hargs
  obtain rfl : Value.slice a0 l0 c0 = vl0 := by simpa [Value.cells] using hv0
  simp only [List.append_nil] at hW'
  have hlt : ∀ x ∈ p0, x.block < W.heap.size := fun x hx => by simpa using hW'.lt x (by simpa using hx)
  refine (trimTells_any _ x0 n1 n2 n3 W hl0 (wf_i64 wn1) (wf_i64 wn2) (wf_i64 wn3) (Lib.tabBelow_of_tabIs (pow_tab hL))).mono ?_
  rintro e W' ⟨rfl, bel⟩
  have t0 := Below.trod Tryd.laidOut (by kernel_rfl) (of_decide_eq_true (by kernel_rfl)) h0k bel (fun x hx => hlt x (by simp [hx]))
  refine ⟨_, rfl, _, _, _, [], (p0 ++ ([] ++ ([] ++ ([] ++ [])))), [], by simpa using hW', ?_, ?_, ?_, bel.frame _, fun h => by cases h⟩
  · exact trodAll_mk1 (shut_bool Tryd.underlying4 true)
  · exact (trodAll_cons_mk t0 (trodAll_cons_mk (shut_int Tryd.underlying3 wn1) (trodAll_cons_mk (shut_int Tryd.underlying3 wn2) (trodAll_cons_mk (shut_int Tryd.underlying3 wn3) trodAll_mk0))))
  · rfl
theorem trimTells_row : Rows.TrimTellsSaid :=
  OpenClaim.holds_of_wide 3 Tryd.f3 rfl rfl rfl rfl rfl rfl rfl ⟨rfl, rfl, rfl, rfl, rfl⟩ rfl rfl rfl rfl rfl (by kernel_rfl) Tryd.func3 (by kernel_rfl)
    (of_decide_eq_true (by kernel_rfl)) (by unfold Func.isWrapper; first | (rw [if_pos (by decide +kernel)]; kernel_rfl) | (rw [if_neg (by decide +kernel)]; exact ⟨rfl, rfl⟩))
    (fun os started H enc _ => trimTells_lifted os started H enc)
theorem trimTells_card : Rows.TrimTellsCardSaid :=
  Claim7.holds_tied_plain_at .later [] [.data, .data, .data] true Rows.trimTellsCard.stood.harness false
    trimTells_row (fun _ h => by cases h) (by kernel_rfl) (fun _ h => by cases h) trimTells_row_tie rfl ⟨rfl, rfl⟩ (by kernel_rfl) rfl
    (fun f fn hf hfn => by
      obtain rfl : f = 3 := Option.some.inj ((show Tryd.prog.funcNamed "linchpin/linchpinlaw31.TrimTells" = some 3 by kernel_rfl).symm.trans hf) |>.symm
      obtain rfl : fn = Tryd.f3 := (Option.some.inj (Tryd.func3.symm.trans hfn)).symm
      refine ⟨by kernel_rfl, fun j t ht => ?_⟩
      have hall : (Tryd.f3.params.toList.all fun t => !Tryd.prog.wantsStandIn t) = true := by kernel_rfl
      have h := List.all_eq_true.1 hall t (Array.mem_toList_iff.2 (Array.mem_of_getElem? ht))
      exact (by simpa using h : Tryd.prog.wantsStandIn t = false))
    (by kernel_rfl)
#print axioms trimTells_card
end Go.Proofs.YtmghlakedaigpaaDoor
