/- StoryLines returns true at every input: the given card, proved. No condition. -/
import Derived.Test.YtbfbppjccbppiaaGreatDoorK8
import Derived.Test.YtbfbppjccbppiaaGreatDoorPf32
import Derived.Test.YtbfbppjccbppiaaGreatDoorCards
import Derived.Test.YtbfbppjccbppiaaGreatDoorTie
import Derived.Deep.DeepHandedRow
import Derived.JoinedCond
import Derived.ChangeMaps5
namespace Go.Proofs.YtbfbppjccbppiaaGreatDoor
open Go Go.ChangeShapes Go.WideShapes Go.ChangeAt Go.RowKit Go.ChangeMaps

theorem laid_metC (os : Os) (args : Array Value) : laidMet Tryz.prog Rows.storyLinesRow.laid ((laidW os).forCall (fun _ _ => 0) ⟨#[], args, []⟩).memory :=
 (LaidIn.of_run [1, 2, 3, 4, 5, 6, 7, lowN, lowN + 1] 8 (by kernel_rfl) (by kernel_rfl) (by kernel_rfl) (by kernel_rfl)).met
theorem witness_c (os : Os) {H : Type} (enc : TypeId × Value → H) :
  (OpenSpec.ofChange Rows.storyLinesSpec).preRow enc Tryz.prog Tryz.f6 Rows.storyLinesRow.domain false Rows.storyLinesRow.laid ((laidW os).forCall (fun _ _ => 0) ⟨#[], #[.slice none 0 0, .slice none 0 0, .int .i64 0, .int .i64 0], []⟩).memory #[.slice none 0 0, .slice none 0 0, .int .i64 0, .int .i64 0] := by
 have hw : (DataW.whole enc Tryz.prog ((laidW os).forCall (fun _ _ => 0) ⟨#[], #[.slice none 0 0, .slice none 0 0, .int .i64 0, .int .i64 0], []⟩).memory Tryz.f6.params.toList (OpenSpec.ofChange Rows.storyLinesSpec).vars false #[Value.slice none 0 0, .slice none 0 0, .int .i64 0, .int .i64 0].toList 8).map (fun x => (x.1, x.2.1)) =
   some ([.nil, .nil, .lit (.int .i64 0), .lit (.int .i64 0)], []) := by kernel_rfl
 obtain ⟨⟨x1, x2, x3⟩, hx, hx1⟩ := Option.map_eq_some_iff.1 hw
 simp only [Prod.mk.injEq] at hx1
 obtain ⟨rfl, rfl⟩ := hx1
 exact OpenSpec.preRow_of_cond 8 hx (by kernel_rfl) (fun k hk => by cases hk) (by kernel_rfl) (laid_metC os _)
set_option maxRecDepth 100000 in
theorem storyLines_lifted (os : Os) (started : os.Started) (H : Type) (enc : TypeId × Value → H) (F : Stop.Interp) :
  ReturnsInHanded {} Tryz.checked os 6 .any ((OpenSpec.ofChange Rows.storyLinesSpec).preRow enc Tryz.prog Tryz.f6 Rows.storyLinesRow.domain false Rows.storyLinesRow.laid)
   (((OpenSpec.ofChange Rows.storyLinesSpec).at F).post enc Tryz.prog Tryz.f6 false true false false) := by
 refine returnsInHanded_of_row (C := Tryz.checked) (s := OpenSpec.ofChange Rows.storyLinesSpec) prog_own started (by kernel_rfl) Tryz.func6
  (witness_row_at (enc := enc) (C := Tryz.checked) false (laidW os) #[.slice none 0 0, .slice none 0 0, .int .i64 0, .int .i64 0] rfl (by kernel_rfl) (by kernel_rfl) (by kernel_rfl) (witness_c os enc)) ?_
 intro W base args ds gs before hval0 hW _ _ _ hL hsh _
 have hval : ∀ (j : Nat) t v, Tryz.f6.params[j]? = some t → args[j]? = some v → Value.okWide Tryz.prog W .any base t v := hval0
 have hW' := hW
 obtain ⟨p, q, hA0, hV0, rfl, hfz, hnd⟩ := hW
 have hA : DataW.TrodAll enc Tryz.prog W 0 (fun _ => true) true Tryz.f6.params.toList args.toList ds p := hA0
 rw [Tryz.params6] at hA hval
 obtain ⟨v0, vs0, d0, ds0, p0, q0, ha, rfl, rfl, h0, hA1⟩ := trodAll_cons hA
 obtain ⟨v1, vs1, d1, ds1, p1, q1, rfl, rfl, rfl, h1, hA2⟩ := trodAll_cons hA1
 obtain ⟨v2, vs2, d2, ds2, p2, q2, rfl, rfl, rfl, h2, hA3⟩ := trodAll_cons hA2
 obtain ⟨v3, vs3, d3, ds3, p3, q3, rfl, rfl, rfl, h3, hA4⟩ := trodAll_cons hA3
 obtain ⟨rfl, rfl⟩ := trodVars_none hV0
 obtain ⟨a0, l0, c0, rfl⟩ := okWide_slice Tryz.underlying22 (hval 0 22 v0 rfl (by rw [← Array.getElem?_toList, ha]; rfl))
 have h0k := h0
 obtain ⟨fuel0, hf0⟩ := h0
 obtain ⟨x0, vl0, hv0, hl0⟩ := opens_ints _ _ _ hf0
 obtain ⟨a1, l1, c1, rfl⟩ := okWide_slice Tryz.underlying22 (hval 1 22 v1 rfl (by rw [← Array.getElem?_toList, ha]; rfl))
 have h1k := h1
 obtain ⟨fuel1, hf1⟩ := h1
 obtain ⟨x1, vl1, hv1, hl1⟩ := opens_ints _ _ _ hf1
 obtain ⟨rfl, rfl, rfl⟩ := trodAll_nil hA4
 obtain ⟨n2, rfl, rfl, rfl, wn2⟩ := open_int Tryz.underlying3 (hval 2 3 v2 rfl (by rw [← Array.getElem?_toList, ha]; rfl)) h2
 obtain ⟨n3, rfl, rfl, rfl, wn3⟩ := open_int Tryz.underlying3 (hval 3 3 v3 rfl (by rw [← Array.getElem?_toList, ha]; rfl)) h3
 have hargs : args = #[.slice a0 l0 c0, .slice a1 l1 c1, .int .i64 n2, .int .i64 n3] := by cases args; simp_all
 subst hargs
 obtain rfl : Value.slice a0 l0 c0 = vl0 := by simpa [Value.cells] using hv0
 obtain rfl : Value.slice a1 l1 c1 = vl1 := by simpa [Value.cells] using hv1
 simp only [List.append_nil] at hW'
 have hlt : ∀ x ∈ p0 ++ p1, x.block < W.heap.size := fun x hx => by simpa using hW'.lt x (by simpa using hx)
 refine (storyLines_any _ _ x0 x1 n2 n3 W hl0 hl1 (wf_i64 wn2) (wf_i64 wn3) (glob_ok rfl hL hsh)).mono ?_
 rintro e W' ⟨rfl, bel⟩
 have t0 := Below.trod prog_laidOut (by kernel_rfl) (of_decide_eq_true (by kernel_rfl)) h0k bel (fun x hx => hlt x (by simp [hx]))
 have t1 := Below.trod prog_laidOut (by kernel_rfl) (of_decide_eq_true (by kernel_rfl)) h1k bel (fun x hx => hlt x (by simp [hx]))
 refine ⟨_, rfl, _, _, _, [], (p0 ++ (p1 ++ ([] ++ ([] ++ [])))), [], by first | exact hW' | simpa using hW', ?_, ?_, ?_, bel.frame _, fun h => by cases h⟩
 ·exact trodAll_mk1 (shut_bool Tryz.underlying4 true)
 ·exact (trodAll_cons_mk t0 (trodAll_cons_mk t1 (trodAll_cons_mk (shut_int Tryz.underlying3 wn2) (trodAll_cons_mk (shut_int Tryz.underlying3 wn3) trodAll_mk0))))
 ·rfl
theorem storyLines_row : Rows.StoryLinesSaid :=
 OpenClaim.holds_of_cond 6 Tryz.f6 rfl rfl rfl rfl rfl rfl rfl ⟨rfl, rfl, rfl, rfl, rfl⟩ rfl rfl rfl rfl rfl (by kernel_rfl) Tryz.func6 (by kernel_rfl)
  (of_decide_eq_true (by kernel_rfl)) (by unfold Func.isWrapper; first | (rw [if_pos (by decide +kernel)]; kernel_rfl) | (rw [if_neg (by decide +kernel)]; exact ⟨rfl, rfl⟩))
  (fun os started H enc _ F => by rw [OpenClaim.pre_eq_preRow]; exact storyLines_lifted os started H enc F)
theorem storyLines_card : Rows.StoryLinesCardSaid :=
 Claim7.holds_tied_plain_at .later [] [.data, .data, .data, .data, .sentinel, .sentinel, .pinned] true Rows.storyLinesCard.stood.harness true
  storyLines_row (fun _ h => by cases h) (by kernel_rfl) (fun _ h => by cases h) storyLines_row_tie rfl ⟨rfl, rfl⟩ (by kernel_rfl) rfl
  (fun f fn hf hfn => by
   obtain rfl : f = 6 := Option.some.inj ((show Tryz.prog.funcNamed "linchpin/linchpinlaw32.StoryLines" = some 6 by kernel_rfl).symm.trans hf) |>.symm
   obtain rfl : fn = Tryz.f6 := (Option.some.inj (Tryz.func6.symm.trans hfn)).symm
   refine ⟨by kernel_rfl, fun j t ht => ?_⟩
   have hall : (Tryz.f6.params.toList.all fun t => !Tryz.prog.wantsStandIn t) = true := by kernel_rfl
   have h := List.all_eq_true.1 hall t (Array.mem_toList_iff.2 (Array.mem_of_getElem? ht))
   exact (by simpa using h : Tryz.prog.wantsStandIn t = false))
  (by kernel_rfl)
#print axioms storyLines_card
end Go.Proofs.YtbfbppjccbppiaaGreatDoor
