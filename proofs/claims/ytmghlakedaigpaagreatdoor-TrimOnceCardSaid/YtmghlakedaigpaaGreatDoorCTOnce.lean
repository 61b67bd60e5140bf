/- TrimOnce returns true at every input: the given card, proved. No condition. -/
import Derived.Test.YtmghlakedaigpaaGreatDoorPT
import Derived.Test.YtmghlakedaigpaaGreatDoorPf31
import Derived.Test.YtmghlakedaigpaaGreatDoorCards
import Derived.Test.YtmghlakedaigpaaGreatDoorTie
namespace Go.Proofs.YtmghlakedaigpaaGreatDoor
open Go Go.ChangeShapes Go.WideShapes Go.ChangeAt Go.RowKit

set_option maxRecDepth 100000 in
theorem trimOnce_lifted (os : Os) (started : os.Started) (H : Type) (enc : TypeId × Value → H) :
    ReturnsInHanded {} Tryz.checked os 3 .any (fun w args => (Rows.trimOnceSpec.pre enc Tryz.prog Tryz.f3 [] false w args ∧ laidMet Tryz.prog Rows.trimOnceRow.laid w) ∧ sizedMet enc Tryz.prog Tryz.f3 (OpenSpec.ofChange Rows.trimOnceSpec) false w args)
      (Rows.trimOnceSpec.post enc Tryz.prog Tryz.f3 false true false false) := by
  refine returnsInHanded_of_change_and (C := Tryz.checked) (X := fun w _ => laidMet Tryz.prog Rows.trimOnceRow.laid w) (fun _ _ _ hh h => h.of_heap hh) Tryz.own started (by kernel_rfl) Tryz.func3
    (ChangeSpec.witness_at (enc := enc) (C := Tryz.checked) (os := os) (X := fun w _ => laidMet Tryz.prog Rows.trimOnceRow.laid w) false (laidWorld os) #[.slice none 0 0, .slice none 0 0, .int .i64 0] 8 rfl (by kernel_rfl) (by kernel_rfl) (by kernel_rfl) (by kernel_rfl) (by kernel_rfl) (laid_met os _)) ?_
  intro W base args ds gs before hval0 hW _ _ hL _
  have hval : ∀ (j : Nat) t v, Tryz.f3.params[j]? = some t → args[j]? = some v → Value.okWide Tryz.prog W .any base t v := hval0
  have hW' := hW
  obtain ⟨p, q, hA0, hV0, rfl, hfz, hnd⟩ := hW
  have hA : DataW.TrodAll enc Tryz.prog W 0 (fun _ => true) true Tryz.f3.params.toList args.toList ds p := hA0
  rw [Tryz.params3] at hA hval
  obtain ⟨v0, vs0, d0, ds0, p0, q0, ha, rfl, rfl, h0, hA1⟩ := trodAll_cons hA
  obtain ⟨v1, vs1, d1, ds1, p1, q1, rfl, rfl, rfl, h1, hA2⟩ := trodAll_cons hA1
  obtain ⟨v2, vs2, d2, ds2, p2, q2, rfl, rfl, rfl, h2, hA3⟩ := trodAll_cons hA2
  obtain ⟨rfl, rfl⟩ := trodVars_none hV0
  obtain ⟨a0, l0, c0, rfl⟩ := okWide_slice Tryz.underlying22 (hval 0 22 v0 rfl (by rw [← Array.getElem?_toList, ha]; rfl))
  have h0k := h0
  obtain ⟨fuel0, hf0⟩ := h0
  obtain ⟨x0, vl0, hv0, hl0⟩ := opens_ints _ _ _ hf0
  obtain ⟨a1, l1, c1, rfl⟩ := okWide_slice Tryz.underlying22 (hval 1 22 v1 rfl (by rw [← Array.getElem?_toList, ha]; rfl))
  have h1k := h1
  obtain ⟨fuel1, hf1⟩ := h1
  obtain ⟨x1, vl1, hv1, hl1⟩ := opens_ints _ _ _ hf1
  obtain ⟨rfl, rfl, rfl⟩ := trodAll_nil hA3
  obtain ⟨n2, rfl, rfl, rfl, wn2⟩ := open_int Tryz.underlying3 (hval 2 3 v2 rfl (by rw [← Array.getElem?_toList, ha]; rfl)) h2
  have hargs : args = #[.slice a0 l0 c0, .slice a1 l1 c1, .int .i64 n2] := by cases args; simp_all
  subst hargs
  obtain rfl : Value.slice a0 l0 c0 = vl0 := by simpa [Value.cells] using hv0
  obtain rfl : Value.slice a1 l1 c1 = vl1 := by simpa [Value.cells] using hv1
  simp only [List.append_nil] at hW'
  have hlt : ∀ x ∈ p0 ++ p1, x.block < W.heap.size := fun x hx => by simpa using hW'.lt x (by simpa using hx)
  refine (trimOnce_any _ _ x0 x1 n2 W hl0 hl1 (wf_i64 wn2) (Lib.tabBelow_of_tabIs (pow_tab hL))).mono ?_
  rintro e W' ⟨rfl, bel⟩
  have t0 := Below.trod Tryz.laidOut (by kernel_rfl) (of_decide_eq_true (by kernel_rfl)) h0k bel (fun x hx => hlt x (by simp [hx]))
  have t1 := Below.trod Tryz.laidOut (by kernel_rfl) (of_decide_eq_true (by kernel_rfl)) h1k bel (fun x hx => hlt x (by simp [hx]))
  refine ⟨_, rfl, _, _, _, [], (p0 ++ (p1 ++ ([] ++ []))), [], by simpa using hW', ?_, ?_, ?_, bel.frame _, fun h => by cases h⟩
  · exact trodAll_mk1 (shut_bool Tryz.underlying4 true)
  · exact (trodAll_cons_mk t0 (trodAll_cons_mk t1 (trodAll_cons_mk (shut_int Tryz.underlying3 wn2) trodAll_mk0)))
  · rfl
theorem trimOnce_row : Rows.TrimOnceSaid :=
  OpenClaim.holds_of_wide 3 Tryz.f3 rfl rfl rfl rfl rfl rfl rfl ⟨rfl, rfl, rfl, rfl, rfl⟩ rfl rfl rfl rfl rfl (by kernel_rfl) Tryz.func3 (by kernel_rfl)
    (of_decide_eq_true (by kernel_rfl)) (by unfold Func.isWrapper; first | (rw [if_pos (by decide +kernel)]; kernel_rfl) | (rw [if_neg (by decide +kernel)]; exact ⟨rfl, rfl⟩))
    (fun os started H enc _ => trimOnce_lifted os started H enc)
theorem trimOnce_card : Rows.TrimOnceCardSaid :=
  Claim7.holds_tied_plain_at .later [] [.data, .data, .data] true Rows.trimOnceCard.stood.harness false
    trimOnce_row (fun _ h => by cases h) (by kernel_rfl) (fun _ h => by cases h) trimOnce_row_tie rfl ⟨rfl, rfl⟩ (by kernel_rfl) rfl
    (fun f fn hf hfn => by
      obtain rfl : f = 3 := Option.some.inj ((show Tryz.prog.funcNamed "linchpin/linchpinlaw31.TrimOnce" = some 3 by kernel_rfl).symm.trans hf) |>.symm
      obtain rfl : fn = Tryz.f3 := (Option.some.inj (Tryz.func3.symm.trans hfn)).symm
      refine ⟨by kernel_rfl, fun j t ht => ?_⟩
      have hall : (Tryz.f3.params.toList.all fun t => !Tryz.prog.wantsStandIn t) = true := by kernel_rfl
      have h := List.all_eq_true.1 hall t (Array.mem_toList_iff.2 (Array.mem_of_getElem? ht))
      exact (by simpa using h : Tryz.prog.wantsStandIn t = false))
    (by kernel_rfl)
#print axioms trimOnce_card
end Go.Proofs.YtmghlakedaigpaaGreatDoor
