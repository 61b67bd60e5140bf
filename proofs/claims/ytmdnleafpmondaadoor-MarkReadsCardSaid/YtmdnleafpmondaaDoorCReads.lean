/- MarkReads returns true at every input: the given card, proved. No condition. -/
import Derived.Test.YtmdnleafpmondaaDoorU27
import Derived.Test.YtmdnleafpmondaaDoorCm
import Derived.Test.YtmdnleafpmondaaDoorCards
import Derived.Test.YtmdnleafpmondaaDoorTie
import Derived.Deep.DeepHandedRow
import Derived.JoinedCond
import Derived.ChangeMaps5
namespace Go.Proofs.YtmdnleafpmondaaDoor
open Go Go.ChangeShapes Go.WideShapes Go.ChangeAt Go.RowKit Go.ChangeMaps

theorem laid_metC (os : Os) (args : Array Value) : laidMet Tryd.prog Rows.markReadsRow.laid ((laidW os).forCall (fun _ _ => 0) ⟨#[], args, []⟩).memory :=
  (LaidIn.of_run [1, 2] 8 (by kernel_rfl) (by kernel_rfl) (by kernel_rfl) (by kernel_rfl)).met
theorem witness_c (os : Os) {H : Type} (enc : TypeId × Value → H) :
    (OpenSpec.ofChange Rows.markReadsSpec).preRow enc Tryd.prog Tryd.f3 Rows.markReadsRow.domain false Rows.markReadsRow.laid ((laidW os).forCall (fun _ _ => 0) ⟨#[], #[.string ⟨#[]⟩], []⟩).memory #[.string ⟨#[]⟩] := by
  have hw : (DataW.whole enc Tryd.prog ((laidW os).forCall (fun _ _ => 0) ⟨#[], #[.string ⟨#[]⟩], []⟩).memory Tryd.f3.params.toList (OpenSpec.ofChange Rows.markReadsSpec).vars false #[Value.string ⟨#[]⟩].toList 8).map (fun x => (x.1, x.2.1)) =
      some ([.lit (.string [])], []) := by kernel_rfl
  obtain ⟨⟨x1, x2, x3⟩, hx, hx1⟩ := Option.map_eq_some_iff.1 hw
  simp only [Prod.mk.injEq] at hx1
  obtain ⟨rfl, rfl⟩ := hx1
  exact OpenSpec.preRow_of_cond 8 hx (by kernel_rfl) (fun k hk => by cases hk) (by kernel_rfl) (laid_metC os _)
set_option maxRecDepth 100000 in
theorem markReads_lifted (os : Os) (started : os.Started) (H : Type) (enc : TypeId × Value → H) (F : Stop.Interp) :
    ReturnsInHanded {} Tryd.checked os 3 .any ((OpenSpec.ofChange Rows.markReadsSpec).preRow enc Tryd.prog Tryd.f3 Rows.markReadsRow.domain false Rows.markReadsRow.laid)
      (((OpenSpec.ofChange Rows.markReadsSpec).at F).post enc Tryd.prog Tryd.f3 false true false false) := by
  refine returnsInHanded_of_row (C := Tryd.checked) (s := OpenSpec.ofChange Rows.markReadsSpec) prog_own started (by kernel_rfl) Tryd.func3
    (witness_row_at (enc := enc) (C := Tryd.checked) false (laidW os) #[.string ⟨#[]⟩] rfl (by kernel_rfl) (by kernel_rfl) (by kernel_rfl) (witness_c os enc)) ?_
  intro W base args ds gs before hval0 hW _ _ _ hL hsh _
  have hval : ∀ (j : Nat) t v, Tryd.f3.params[j]? = some t → args[j]? = some v → Value.okWide Tryd.prog W .any base t v := hval0
  have hW' := hW
  obtain ⟨p, q, hA0, hV0, rfl, hfz, hnd⟩ := hW
  have hA : DataW.TrodAll enc Tryd.prog W 0 (fun _ => true) true Tryd.f3.params.toList args.toList ds p := hA0
  rw [Tryd.params3] at hA hval
  obtain ⟨v0, vs0, d0, ds0, p0, q0, ha, rfl, rfl, h0, hA1⟩ := trodAll_cons hA
  obtain ⟨rfl, rfl⟩ := trodVars_none hV0
  obtain ⟨rfl, rfl, rfl⟩ := trodAll_nil hA1
  obtain ⟨s0, rfl, rfl, rfl, ws0⟩ := open_string Tryd.underlying9 (hval 0 9 v0 rfl (by rw [← Array.getElem?_toList, ha]; rfl)) h0
  have hargs : args = #[.string s0] := by cases args; simp_all
  subst hargs
  simp only [List.append_nil] at hW'
  refine (markReads_any  s0 W  (max_ok hsh)).mono ?_
  rintro e W' ⟨rfl, bel⟩
  refine ⟨_, rfl, _, _, _, [], ([] ++ []), [], by first | exact hW' | simpa using hW', ?_, ?_, ?_, bel.frame _, fun h => by cases h⟩
  · exact trodAll_mk1 (shut_bool Tryd.underlying4 true)
  · exact (trodAll_cons_mk (shut_string Tryd.underlying9 ws0) trodAll_mk0)
  · rfl
theorem markReads_row : Rows.MarkReadsSaid :=
  OpenClaim.holds_of_cond 3 Tryd.f3 rfl rfl rfl rfl rfl rfl rfl ⟨rfl, rfl, rfl, rfl, rfl⟩ rfl rfl rfl rfl rfl (by kernel_rfl) Tryd.func3 (by kernel_rfl)
    (of_decide_eq_true (by kernel_rfl)) (by unfold Func.isWrapper; first | (rw [if_pos (by decide +kernel)]; kernel_rfl) | (rw [if_neg (by decide +kernel)]; exact ⟨rfl, rfl⟩))
    (fun os started H enc _ F => by rw [OpenClaim.pre_eq_preRow]; exact markReads_lifted os started H enc F)
theorem markReads_card : Rows.MarkReadsCardSaid :=
  Claim7.holds_tied_plain_at .later [] [.data, .pinned] true Rows.markReadsCard.stood.harness false
    markReads_row (fun _ h => by cases h) (by kernel_rfl) (fun _ h => by cases h) markReads_row_tie rfl ⟨rfl, rfl⟩ (by kernel_rfl) rfl
    (fun f fn hf hfn => by
      obtain rfl : f = 3 := Option.some.inj ((show Tryd.prog.funcNamed "linchpin/linchpinlaw10.MarkReads" = some 3 by kernel_rfl).symm.trans hf) |>.symm
      obtain rfl : fn = Tryd.f3 := (Option.some.inj (Tryd.func3.symm.trans hfn)).symm
      refine ⟨by kernel_rfl, fun j t ht => ?_⟩
      have hall : (Tryd.f3.params.toList.all fun t => !Tryd.prog.wantsStandIn t) = true := by kernel_rfl
      have h := List.all_eq_true.1 hall t (Array.mem_toList_iff.2 (Array.mem_of_getElem? ht))
      exact (by simpa using h : Tryd.prog.wantsStandIn t = false))
    (by kernel_rfl)
#print axioms markReads_card
end Go.Proofs.YtmdnleafpmondaaDoor
