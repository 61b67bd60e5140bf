/- StoryTurned returns true at every input: the given card, proved. No condition. -/
import Derived.Test.YtbfbppjccbppiaaGreatDoorK7
import Derived.Test.YtbfbppjccbppiaaGreatDoorPf32
import Derived.Test.YtbfbppjccbppiaaGreatDoorCards
import Derived.Test.YtbfbppjccbppiaaGreatDoorTie
import Derived.Deep.DeepHandedRow
import Derived.JoinedCond
import Derived.ChangeMaps5
namespace Go.Proofs.YtbfbppjccbppiaaGreatDoor
open Go Go.ChangeShapes Go.WideShapes Go.ChangeAt Go.RowKit Go.ChangeMaps

theorem laid_metC (os : Os) (args : Array Value) : laidMet Tryz.prog Rows.storyTurnedRow.laid ((laidW os).forCall (fun _ _ => 0) ⟨#[], args, []⟩).memory :=
 (LaidIn.of_run [1, 2, 3, 4, 5, 6, 7, lowN, lowN + 1] 8 (by kernel_rfl) (by kernel_rfl) (by kernel_rfl) (by kernel_rfl)).met
theorem witness_c (os : Os) {H : Type} (enc : TypeId × Value → H) :
  (OpenSpec.ofChange Rows.storyTurnedSpec).preRow enc Tryz.prog Tryz.f5 Rows.storyTurnedRow.domain false Rows.storyTurnedRow.laid ((laidW os).forCall (fun _ _ => 0) ⟨#[], #[.slice none 0 0, .slice none 0 0, .slice none 0 0, .int .i64 0, .int .u8 0, .int .i64 0, .string ⟨#[]⟩], []⟩).memory #[.slice none 0 0, .slice none 0 0, .slice none 0 0, .int .i64 0, .int .u8 0, .int .i64 0, .string ⟨#[]⟩] := by
 have hw : (DataW.whole enc Tryz.prog ((laidW os).forCall (fun _ _ => 0) ⟨#[], #[.slice none 0 0, .slice none 0 0, .slice none 0 0, .int .i64 0, .int .u8 0, .int .i64 0, .string ⟨#[]⟩], []⟩).memory Tryz.f5.params.toList (OpenSpec.ofChange Rows.storyTurnedSpec).vars false #[Value.slice none 0 0, .slice none 0 0, .slice none 0 0, .int .i64 0, .int .u8 0, .int .i64 0, .string ⟨#[]⟩].toList 8).map (fun x => (x.1, x.2.1)) =
   some ([.nil, .nil, .nil, .lit (.int .i64 0), .lit (.int .u8 0), .lit (.int .i64 0), .lit (.string [])], []) := by kernel_rfl
 obtain ⟨⟨x1, x2, x3⟩, hx, hx1⟩ := Option.map_eq_some_iff.1 hw
 simp only [Prod.mk.injEq] at hx1
 obtain ⟨rfl, rfl⟩ := hx1
 exact OpenSpec.preRow_of_cond 8 hx (by kernel_rfl) (fun k hk => by cases hk) (by kernel_rfl) (laid_metC os _)
set_option maxRecDepth 100000 in
theorem storyTurned_lifted (os : Os) (started : os.Started) (H : Type) (enc : TypeId × Value → H) (F : Stop.Interp) :
  ReturnsInHanded {} Tryz.checked os 5 .any ((OpenSpec.ofChange Rows.storyTurnedSpec).preRow enc Tryz.prog Tryz.f5 Rows.storyTurnedRow.domain false Rows.storyTurnedRow.laid)
   (((OpenSpec.ofChange Rows.storyTurnedSpec).at F).post enc Tryz.prog Tryz.f5 false true false false) := by
 refine returnsInHanded_of_row (C := Tryz.checked) (s := OpenSpec.ofChange Rows.storyTurnedSpec) prog_own started (by kernel_rfl) Tryz.func5
  (witness_row_at (enc := enc) (C := Tryz.checked) false (laidW os) #[.slice none 0 0, .slice none 0 0, .slice none 0 0, .int .i64 0, .int .u8 0, .int .i64 0, .string ⟨#[]⟩] rfl (by kernel_rfl) (by kernel_rfl) (by kernel_rfl) (witness_c os enc)) ?_
 intro W base args ds gs before hval0 hW _ _ _ hL hsh _
 have hval : ∀ (j : Nat) t v, Tryz.f5.params[j]? = some t → args[j]? = some v → Value.okWide Tryz.prog W .any base t v := hval0
 have hW' := hW
 obtain ⟨p, q, hA0, hV0, rfl, hfz, hnd⟩ := hW
 have hA : DataW.TrodAll enc Tryz.prog W 0 (fun _ => true) true Tryz.f5.params.toList args.toList ds p := hA0
 rw [Tryz.params5] at hA hval
 obtain ⟨v0, vs0, d0, ds0, p0, q0, ha, rfl, rfl, h0, hA1⟩ := trodAll_cons hA
 obtain ⟨v1, vs1, d1, ds1, p1, q1, rfl, rfl, rfl, h1, hA2⟩ := trodAll_cons hA1
 obtain ⟨v2, vs2, d2, ds2, p2, q2, rfl, rfl, rfl, h2, hA3⟩ := trodAll_cons hA2
 obtain ⟨v3, vs3, d3, ds3, p3, q3, rfl, rfl, rfl, h3, hA4⟩ := trodAll_cons hA3
 obtain ⟨v4, vs4, d4, ds4, p4, q4, rfl, rfl, rfl, h4, hA5⟩ := trodAll_cons hA4
 obtain ⟨v5, vs5, d5, ds5, p5, q5, rfl, rfl, rfl, h5, hA6⟩ := trodAll_cons hA5
 obtain ⟨v6, vs6, d6, ds6, p6, q6, rfl, rfl, rfl, h6, hA7⟩ := trodAll_cons hA6
 obtain ⟨rfl, rfl⟩ := trodVars_none hV0
 obtain ⟨a0, l0, c0, rfl⟩ := okWide_slice Tryz.underlying22 (hval 0 22 v0 rfl (by rw [← Array.getElem?_toList, ha]; rfl))
 have h0k := h0
 obtain ⟨fuel0, hf0⟩ := h0
 obtain ⟨x0, vl0, hv0, hl0⟩ := opens_ints _ _ _ hf0
 obtain ⟨a1, l1, c1, rfl⟩ := okWide_slice Tryz.underlying22 (hval 1 22 v1 rfl (by rw [← Array.getElem?_toList, ha]; rfl))
 have h1k := h1
 obtain ⟨fuel1, hf1⟩ := h1
 obtain ⟨x1, vl1, hv1, hl1⟩ := opens_ints _ _ _ hf1
 obtain ⟨a2, l2, c2, rfl⟩ := okWide_slice Tryz.underlying22 (hval 2 22 v2 rfl (by rw [← Array.getElem?_toList, ha]; rfl))
 have h2k := h2
 obtain ⟨fuel2, hf2⟩ := h2
 obtain ⟨x2, vl2, hv2, hl2⟩ := opens_ints _ _ _ hf2
 obtain ⟨rfl, rfl, rfl⟩ := trodAll_nil hA7
 obtain ⟨n3, rfl, rfl, rfl, wn3⟩ := open_int Tryz.underlying3 (hval 3 3 v3 rfl (by rw [← Array.getElem?_toList, ha]; rfl)) h3
 obtain ⟨n4, rfl, rfl, rfl, wn4⟩ := open_int Tryz.underlying5 (hval 4 5 v4 rfl (by rw [← Array.getElem?_toList, ha]; rfl)) h4
 obtain ⟨n5, rfl, rfl, rfl, wn5⟩ := open_int Tryz.underlying3 (hval 5 3 v5 rfl (by rw [← Array.getElem?_toList, ha]; rfl)) h5
 obtain ⟨s6, rfl, rfl, rfl, ws6⟩ := open_string Tryz.underlying9 (hval 6 9 v6 rfl (by rw [← Array.getElem?_toList, ha]; rfl)) h6
 have hargs : args = #[.slice a0 l0 c0, .slice a1 l1 c1, .slice a2 l2 c2, .int .i64 n3, .int .u8 n4, .int .i64 n5, .string s6] := by cases args; simp_all
 subst hargs
 obtain rfl : Value.slice a0 l0 c0 = vl0 := by simpa [Value.cells] using hv0
 obtain rfl : Value.slice a1 l1 c1 = vl1 := by simpa [Value.cells] using hv1
 obtain rfl : Value.slice a2 l2 c2 = vl2 := by simpa [Value.cells] using hv2
 simp only [List.append_nil] at hW'
 have hlt : ∀ x ∈ p0 ++ p1 ++ p2, x.block < W.heap.size := fun x hx => by simpa using hW'.lt x (by simpa using hx)
 refine (storyTurned_any _ _ _ x0 x1 x2 n3 n4 n5 s6 W hl0 hl1 hl2 (wf_i64 wn3) (wf_i64 wn5) (glob_ok rfl hL hsh)).mono ?_
 rintro e W' ⟨rfl, bel⟩
 have t0 := Below.trod prog_laidOut (by kernel_rfl) (of_decide_eq_true (by kernel_rfl)) h0k bel (fun x hx => hlt x (by simp [hx]))
 have t1 := Below.trod prog_laidOut (by kernel_rfl) (of_decide_eq_true (by kernel_rfl)) h1k bel (fun x hx => hlt x (by simp [hx]))
 have t2 := Below.trod prog_laidOut (by kernel_rfl) (of_decide_eq_true (by kernel_rfl)) h2k bel (fun x hx => hlt x (by simp [hx]))
 refine ⟨_, rfl, _, _, _, [], (p0 ++ (p1 ++ (p2 ++ ([] ++ ([] ++ ([] ++ ([] ++ []))))))), [], by first | exact hW' | simpa using hW', ?_, ?_, ?_, bel.frame _, fun h => by cases h⟩
 ·exact trodAll_mk1 (shut_bool Tryz.underlying4 true)
 ·exact (trodAll_cons_mk t0 (trodAll_cons_mk t1 (trodAll_cons_mk t2 (trodAll_cons_mk (shut_int Tryz.underlying3 wn3) (trodAll_cons_mk (shut_int Tryz.underlying5 wn4) (trodAll_cons_mk (shut_int Tryz.underlying3 wn5) (trodAll_cons_mk (shut_string Tryz.underlying9 ws6) trodAll_mk0)))))))
 ·rfl
theorem storyTurned_row : Rows.StoryTurnedSaid :=
 OpenClaim.holds_of_cond 5 Tryz.f5 rfl rfl rfl rfl rfl rfl rfl ⟨rfl, rfl, rfl, rfl, rfl⟩ rfl rfl rfl rfl rfl (by kernel_rfl) Tryz.func5 (by kernel_rfl)
  (of_decide_eq_true (by kernel_rfl)) (by unfold Func.isWrapper; first | (rw [if_pos (by decide +kernel)]; kernel_rfl) | (rw [if_neg (by decide +kernel)]; exact ⟨rfl, rfl⟩))
  (fun os started H enc _ F => by rw [OpenClaim.pre_eq_preRow]; exact storyTurned_lifted os started H enc F)
theorem storyTurned_card : Rows.StoryTurnedCardSaid :=
 Claim7.holds_tied_plain_at .later [] [.data, .data, .data, .data, .sentinel, .sentinel, .pinned] true Rows.storyTurnedCard.stood.harness true
  storyTurned_row (fun _ h => by cases h) (by kernel_rfl) (fun _ h => by cases h) storyTurned_row_tie rfl ⟨rfl, rfl⟩ (by kernel_rfl) rfl
  (fun f fn hf hfn => by
   obtain rfl : f = 5 := Option.some.inj ((show Tryz.prog.funcNamed "linchpin/linchpinlaw32.StoryTurned" = some 5 by kernel_rfl).symm.trans hf) |>.symm
   obtain rfl : fn = Tryz.f5 := (Option.some.inj (Tryz.func5.symm.trans hfn)).symm
   refine ⟨by kernel_rfl, fun j t ht => ?_⟩
   have hall : (Tryz.f5.params.toList.all fun t => !Tryz.prog.wantsStandIn t) = true := by kernel_rfl
   have h := List.all_eq_true.1 hall t (Array.mem_toList_iff.2 (Array.mem_of_getElem? ht))
   exact (by simpa using h : Tryz.prog.wantsStandIn t = false))
  (by kernel_rfl)
#print axioms storyTurned_card
end Go.Proofs.YtbfbppjccbppiaaGreatDoor
