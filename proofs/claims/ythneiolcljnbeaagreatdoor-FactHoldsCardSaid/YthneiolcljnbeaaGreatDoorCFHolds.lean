import Derived.Test.YthneiolcljnbeaaGreatDoorM10w
import Derived.Test.YthneiolcljnbeaaGreatDoorZp
import Derived.Test.YthneiolcljnbeaaGreatDoorCards
import Derived.Test.YthneiolcljnbeaaGreatDoorTie
import Derived.Deep.DeepHandedRow
import Derived.JoinedCond
import Derived.ChangeMaps5
namespace Go.Proofs.YthneiolcljnbeaaGreatDoor
open Go Go.ChangeShapes Go.WideShapes Go.ChangeAt Go.RowKit Go.ChangeMaps
def tabC : DataW Unit → Array Value
 | .agg l => (l.map fun | .lit (.int k n) => Value.int k n | .lit (.string s) => Value.string ⟨s.toArray⟩ | _ => .bool false).toArray
 | _ => #[]
theorem opens_ints {H : Type} {enc : TypeId × Value → H} {w : World} {spare : Nat → Bool} {held : Bool} : Opens enc Tryz.prog w spare held 22 (tSlice tInt) :=
 opens_slice Tryz.underlying22 (by kernel_rfl) (by decide) (opens_int Tryz.underlying3)
noncomputable def laidW (os : Os) : World :=
 let w0 := World.holding Tryz.prog os ⟨#[], #[], []⟩
 let put (h : Array Obj) (g : Nat) (cs : Array Value) : Array Obj := h.modify g fun
  | .cells _ t frozen => .cells cs t frozen
  | o => o
 { w0 with heap := put (put (put (put w0.heap 0 (tabC Rows.laid_linchpin_set_first)) 1 (tabC Rows.laid_internal_strconv_uint64pow10)) 2 (tabC Rows.laid_math_bits_deBruijn32tab)) 3 (tabC Rows.laid_math_bits_deBruijn64tab) }
theorem laid_metC (os : Os) (args : Array Value) : laidMet Tryz.prog Rows.factHoldsRow.laid ((laidW os).forCall (fun _ _ => 0) ⟨#[], args, []⟩).memory :=
 (LaidIn.of_run [0, 1, 2, 3] 8 (by kernel_rfl) (by kernel_rfl) (by kernel_rfl) (by kernel_rfl)).met
theorem witness_c (os : Os) {H : Type} (enc : TypeId × Value → H) :
  (OpenSpec.ofChange Rows.factHoldsSpec).preRow enc Tryz.prog Tryz.f3 Rows.factHoldsRow.domain false Rows.factHoldsRow.laid ((laidW os).forCall (fun _ _ => 0) ⟨#[], #[.slice none 0 0], []⟩).memory #[.slice none 0 0] := by
 have hw : (DataW.whole enc Tryz.prog ((laidW os).forCall (fun _ _ => 0) ⟨#[], #[.slice none 0 0], []⟩).memory Tryz.f3.params.toList (OpenSpec.ofChange Rows.factHoldsSpec).vars false #[Value.slice none 0 0].toList 8).map (fun x => (x.1, x.2.1)) =
   some ([.nil], []) := by kernel_rfl
 obtain ⟨⟨x1, x2, x3⟩, hx, hx1⟩ := Option.map_eq_some_iff.1 hw
 simp only [Prod.mk.injEq] at hx1
 obtain ⟨rfl, rfl⟩ := hx1
 exact OpenSpec.preRow_of_cond 8 hx (by kernel_rfl) (fun k hk => by cases hk) (by kernel_rfl) (laid_metC os _)
set_option maxRecDepth 100000 in
theorem factHolds_lifted (os : Os) (started : os.Started) (H : Type) (enc : TypeId × Value → H) (F : Stop.Interp) :
  ReturnsInHanded {} Tryz.checked os 3 .any ((OpenSpec.ofChange Rows.factHoldsSpec).preRow enc Tryz.prog Tryz.f3 Rows.factHoldsRow.domain false Rows.factHoldsRow.laid)
   (((OpenSpec.ofChange Rows.factHoldsSpec).at F).post enc Tryz.prog Tryz.f3 false true false false) := by
 refine returnsInHanded_of_row (C := Tryz.checked) (s := OpenSpec.ofChange Rows.factHoldsSpec) own23 started (by kernel_rfl) Tryz.func3
  (witness_row_at (enc := enc) (C := Tryz.checked) false (laidW os) #[.slice none 0 0] rfl (by kernel_rfl) (by kernel_rfl) (by kernel_rfl) (witness_c os enc)) ?_
 intro W base args ds gs before hval0 hW _ _ _ hL hsh _
 have hval : ∀ (j : Nat) t v, Tryz.f3.params[j]? = some t → args[j]? = some v → Value.okWide Tryz.prog W .any base t v := hval0
 have hW' := hW
 obtain ⟨p, q, hA0, hV0, rfl, hfz, hnd⟩ := hW
 have hA : DataW.TrodAll enc Tryz.prog W 0 (fun _ => true) true Tryz.f3.params.toList args.toList ds p := hA0
 rw [Tryz.params3] at hA hval
 obtain ⟨v0, vs0, d0, ds0, p0, q0, ha, rfl, rfl, h0, hA1⟩ := trodAll_cons hA
 obtain ⟨rfl, rfl⟩ := trodVars_none hV0
 obtain ⟨a0, l0, c0, rfl⟩ := okWide_slice Tryz.underlying22 (hval 0 22 v0 rfl (by rw [← Array.getElem?_toList, ha]; rfl))
 have h0k := h0
 obtain ⟨fuel0, hf0⟩ := h0
 obtain ⟨x0, vl0, hv0, hl0⟩ := opens_ints _ _ _ hf0
 obtain ⟨rfl, rfl, rfl⟩ := trodAll_nil hA1
 have hargs : args = #[.slice a0 l0 c0] := by cases args; simp_all
 subst hargs
 obtain rfl : Value.slice a0 l0 c0 = vl0 := by simpa [Value.cells] using hv0
 simp only [List.append_nil] at hW'
 have hlt : ∀ x ∈ p0, x.block < W.heap.size := fun x hx => by simpa using hW'.lt x (by simpa using hx)
 refine (factHolds_any _ x0 W hl0  (first_is hL) (tab_is hL)).mono ?_
 rintro e W' ⟨rfl, bel⟩
 have t0 := Below.trod laidOut23 (by kernel_rfl) (of_decide_eq_true (by kernel_rfl)) h0k bel (fun x hx => hlt x (by simp [hx]))
 refine ⟨_, rfl, _, _, _, [], (p0 ++ []), [], hW', ?_, ?_, ?_, bel.frame _, fun h => by cases h⟩
 ·exact trodAll_mk1 (shut_bool Tryz.underlying4 true)
 ·exact (trodAll_cons_mk t0 trodAll_mk0)
 ·rfl
theorem factHolds_row : Rows.FactHoldsSaid :=
 OpenClaim.holds_of_cond 3 Tryz.f3 rfl rfl rfl rfl rfl rfl rfl ⟨rfl, rfl, rfl, rfl, rfl⟩ rfl rfl rfl rfl rfl (by kernel_rfl) Tryz.func3 (by kernel_rfl)
  (of_decide_eq_true (by kernel_rfl)) (by unfold Func.isWrapper; first | (rw [if_pos (by decide +kernel)]; kernel_rfl) | (rw [if_neg (by decide +kernel)]; exact ⟨rfl, rfl⟩))
  (fun os started H enc _ F => by rw [OpenClaim.pre_eq_preRow]; exact factHolds_lifted os started H enc F)
theorem factHolds_card : Rows.FactHoldsCardSaid :=
 Claim7.holds_tied_plain_at .later [] [.data, .data, .data, .data] true Rows.factHoldsCard.stood.harness false
  factHolds_row (fun _ h => by cases h) (by kernel_rfl) (fun _ h => by cases h) factHolds_row_tie rfl ⟨rfl, rfl⟩ (by kernel_rfl) rfl
  (fun f fn hf hfn => by
   obtain rfl : f = 3 := Option.some.inj ((show Tryz.prog.funcNamed "linchpin/linchpinlaw23.FactHolds" = some 3 by kernel_rfl).symm.trans hf) |>.symm
   obtain rfl : fn = Tryz.f3 := (Option.some.inj (Tryz.func3.symm.trans hfn)).symm
   refine ⟨by kernel_rfl, fun j t ht => ?_⟩
   have hall : (Tryz.f3.params.toList.all fun t => !Tryz.prog.wantsStandIn t) = true := by kernel_rfl
   have h := List.all_eq_true.1 hall t (Array.mem_toList_iff.2 (Array.mem_of_getElem? ht))
   exact (by simpa using h : Tryz.prog.wantsStandIn t = false))
  (by kernel_rfl)
#print axioms factHolds_card
end Go.Proofs.YthneiolcljnbeaaGreatDoor
