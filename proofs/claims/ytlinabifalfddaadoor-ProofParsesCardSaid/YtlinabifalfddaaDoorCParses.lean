/- ProofParses returns true at every input: the given card, proved. No condition. -/
import Derived.Test.YtlinabifalfddaaDoorW6
import Derived.Test.YtlinabifalfddaaDoorProofs
import Derived.Test.YtlinabifalfddaaDoorCards
import Derived.Test.YtlinabifalfddaaDoorTie
import Derived.Deep.DeepHandedRow
import Derived.JoinedCond
import Derived.ChangeMaps5
namespace Go.Proofs.YtlinabifalfddaaDoor
open Go Go.ChangeShapes Go.WideShapes Go.ChangeAt Go.RowKit

def tabCells2 : DataW Unit → Array Value
  | .agg l => (l.flatMap fun | .lit (.int k n) => [Value.int k n] | .agg l2 => l2.map (fun | .lit (.int k n) => Value.int k n | _ => .bool false) | _ => [.bool false]).toArray
  | _ => #[]
theorem Tryd.gfirst : Tryd.prog.globalNamed "unicode/utf8.first" = some 4 := by kernel_rfl
theorem Tryd.gacc : Tryd.prog.globalNamed "unicode/utf8.acceptRanges" = some 5 := by kernel_rfl
/-- A start whose five tables hold what the text lays. -/
noncomputable def laidWorld2 (os : Os) : World :=
  let w0 := World.holding Tryd.prog os ⟨#[], #[], []⟩
  let put (h : Array Obj) (g : Nat) (cs : Array Value) : Array Obj := h.modify g fun
    | .cells _ t frozen => .cells cs t frozen
    | o => o
  { w0 with heap := put (put (put (put (put w0.heap 1 (tabCells Rows.laid_internal_strconv_uint64pow10)) 2 (tabCells Rows.laid_math_bits_deBruijn32tab)) 3 (tabCells Rows.laid_math_bits_deBruijn64tab)) 4 (tabCells Rows.laid_unicode_utf8_first)) 5 (tabCells2 Rows.laid_unicode_utf8_acceptRanges) }
theorem laid_met2 (os : Os) (args : Array Value) : laidMet Tryd.prog Rows.proofParsesRow.laid ((laidWorld2 os).forCall (fun _ _ => 0) ⟨#[], args, []⟩).memory :=
  (LaidIn.of_run [1, 2, 3, 4, 5] 8 (by kernel_rfl) (by kernel_rfl) (by kernel_rfl) (by kernel_rfl)).met
/-- The laid condition gives the table. -/
theorem pow_tab2 {W : World} (hL : laidMet Tryd.prog Rows.proofParsesRow.laid W) : Lib.TabIs Tryd.prog W "internal/strconv.uint64pow10" .u64 Lib.pow10Tab := by
  obtain ⟨g', t', cs, fuel, p, hg', ht', hvar, hd⟩ := Lib.laidMet.reads hL (.tail _ (.tail _ (.head _)))
  obtain rfl := Option.some.inj (Tryd.gpow.symm.trans hg')
  obtain rfl := Option.some.inj (pow_type.symm.trans ht')
  have e : (Rows.laid_internal_strconv_uint64pow10 : DataW Unit) = Lib.tabData .u64 Lib.pow10Tab := by kernel_rfl
  rw [e] at hd
  unfold Lib.TabIs
  rw [hvar, ← Lib.cells_of_tab Tryd.underlying114 Tryd.underlying87 (by kernel_rfl) (by kernel_rfl) hd]
theorem witness_parses (os : Os) {H : Type} (enc : TypeId × Value → H) :
    (OpenSpec.ofChange Rows.proofParsesSpec).preRow enc Tryd.prog Tryd.f6 Rows.proofParsesRow.domain false Rows.proofParsesRow.laid ((laidWorld2 os).forCall (fun _ _ => 0) ⟨#[], #[.string ⟨#[]⟩, .slice none 0 0, .int .i64 0, .int .u8 0, .int .i64 0], []⟩).memory #[.string ⟨#[]⟩, .slice none 0 0, .int .i64 0, .int .u8 0, .int .i64 0] := by
  have hw : (DataW.whole enc Tryd.prog ((laidWorld2 os).forCall (fun _ _ => 0) ⟨#[], #[.string ⟨#[]⟩, .slice none 0 0, .int .i64 0, .int .u8 0, .int .i64 0], []⟩).memory Tryd.f6.params.toList (OpenSpec.ofChange Rows.proofParsesSpec).vars false #[Value.string ⟨#[]⟩, .slice none 0 0, .int .i64 0, .int .u8 0, .int .i64 0].toList 8).map (fun x => (x.1, x.2.1)) =
      some ([.lit (.string []), .nil, .lit (.int .i64 0), .lit (.int .u8 0), .lit (.int .i64 0)], []) := by kernel_rfl
  obtain ⟨⟨x1, x2, x3⟩, hx, hx1⟩ := Option.map_eq_some_iff.1 hw
  simp only [Prod.mk.injEq] at hx1
  obtain ⟨rfl, rfl⟩ := hx1
  exact OpenSpec.preRow_of_cond 8 hx (by kernel_rfl) (fun k hk => by cases hk) (by kernel_rfl) (laid_met2 os _)
set_option maxRecDepth 100000 in
theorem proofParses_lifted (os : Os) (started : os.Started) (H : Type) (enc : TypeId × Value → H) (F : Stop.Interp) :
    ReturnsInHanded {} Tryd.checked os 6 .any ((OpenSpec.ofChange Rows.proofParsesSpec).preRow enc Tryd.prog Tryd.f6 Rows.proofParsesRow.domain false Rows.proofParsesRow.laid)
      (((OpenSpec.ofChange Rows.proofParsesSpec).at F).post enc Tryd.prog Tryd.f6 false true false false) := by
  refine returnsInHanded_of_row (C := Tryd.checked) (s := OpenSpec.ofChange Rows.proofParsesSpec) Tryd.own started (by kernel_rfl) Tryd.func6
    (witness_row_at (enc := enc) (C := Tryd.checked) false (laidWorld2 os) #[.string ⟨#[]⟩, .slice none 0 0, .int .i64 0, .int .u8 0, .int .i64 0] rfl (by kernel_rfl) (by kernel_rfl) (by kernel_rfl) (witness_parses os enc)) ?_
  intro W base args ds gs before hval0 hW _ _ _ hL hsh _
  have hval : ∀ (j : Nat) t v, Tryd.f6.params[j]? = some t → args[j]? = some v → Value.okWide Tryd.prog W .any base t v := hval0
  have hW' := hW
  obtain ⟨p, q, hA0, hV0, rfl, hfz, hnd⟩ := hW
  have hA : DataW.TrodAll enc Tryd.prog W 0 (fun _ => true) true Tryd.f6.params.toList args.toList ds p := hA0
  rw [Tryd.params6] at hA hval
  obtain ⟨v0, vs0, d0, ds0, p0, q0, ha, rfl, rfl, h0, hA1⟩ := trodAll_cons hA
  obtain ⟨v1, vs1, d1, ds1, p1, q1, rfl, rfl, rfl, h1, hA2⟩ := trodAll_cons hA1
  obtain ⟨v2, vs2, d2, ds2, p2, q2, rfl, rfl, rfl, h2, hA3⟩ := trodAll_cons hA2
  obtain ⟨v3, vs3, d3, ds3, p3, q3, rfl, rfl, rfl, h3, hA4⟩ := trodAll_cons hA3
  obtain ⟨v4, vs4, d4, ds4, p4, q4, rfl, rfl, rfl, h4, hA5⟩ := trodAll_cons hA4
  obtain ⟨rfl, rfl⟩ := trodVars_none hV0
  obtain ⟨a1, l1, c1, rfl⟩ := okWide_slice Tryd.underlying23 (hval 1 23 v1 rfl (by rw [← Array.getElem?_toList, ha]; rfl))
  have h1k := h1
  obtain ⟨fuel1, hf1⟩ := h1
  obtain ⟨x1, vl1, hv1, hl1⟩ := opens_ints _ _ _ hf1
  obtain ⟨rfl, rfl, rfl⟩ := trodAll_nil hA5
  obtain ⟨s0, rfl, rfl, rfl, ws0⟩ := Go.ChangeMaps.open_string Tryd.underlying9 (hval 0 9 v0 rfl (by rw [← Array.getElem?_toList, ha]; rfl)) h0
  obtain ⟨n2, rfl, rfl, rfl, wn2⟩ := open_int Tryd.underlying3 (hval 2 3 v2 rfl (by rw [← Array.getElem?_toList, ha]; rfl)) h2
  obtain ⟨n3, rfl, rfl, rfl, wn3⟩ := open_int Tryd.underlying5 (hval 3 5 v3 rfl (by rw [← Array.getElem?_toList, ha]; rfl)) h3
  obtain ⟨n4, rfl, rfl, rfl, wn4⟩ := open_int Tryd.underlying3 (hval 4 3 v4 rfl (by rw [← Array.getElem?_toList, ha]; rfl)) h4
  have hargs : args = #[.string s0, .slice a1 l1 c1, .int .i64 n2, .int .u8 n3, .int .i64 n4] := by cases args; simp_all
  subst hargs
  obtain rfl : Value.slice a1 l1 c1 = vl1 := by simpa [Value.cells] using hv1
  simp only [List.append_nil, List.nil_append] at hW'
  have hlt : ∀ x ∈ p1, x.block < W.heap.size := fun x hx => by simpa using hW'.lt x (by simpa using hx)
  refine (proofParses_any _ x1 s0 n2 n4 n3 W hl1 ws0 (wf_i64 wn2) (wf_i64 wn4) (Tryd.laysM143.s1_3 W hsh) (Lib.tabBelow_of_tabIs (pow_tab2 hL))).mono ?_
  rintro e W' ⟨rfl, bel⟩
  have t1 := Below.trod Tryd.laidOut (by kernel_rfl) (of_decide_eq_true (by kernel_rfl)) h1k bel (fun x hx => hlt x (by simp [hx]))
  refine ⟨_, rfl, _, _, _, [], ([] ++ (p1 ++ ([] ++ ([] ++ ([] ++ []))))), [], hW', ?_, ?_, ?_, bel.frame _, fun h => by cases h⟩
  · exact trodAll_mk1 (shut_bool Tryd.underlying4 true)
  · exact (trodAll_cons_mk (Go.ChangeMaps.shut_string Tryd.underlying9 ws0) (trodAll_cons_mk t1 (trodAll_cons_mk (shut_int Tryd.underlying3 wn2) (trodAll_cons_mk (shut_int Tryd.underlying5 wn3) (trodAll_cons_mk (shut_int Tryd.underlying3 wn4) trodAll_mk0)))))
  · rfl
theorem proofParses_row : Rows.ProofParsesSaid :=
  OpenClaim.holds_of_cond 6 Tryd.f6 rfl rfl rfl rfl rfl rfl rfl ⟨rfl, rfl, rfl, rfl, rfl⟩ rfl rfl rfl rfl rfl (by kernel_rfl) Tryd.func6 (by kernel_rfl)
    (of_decide_eq_true (by kernel_rfl)) (by unfold Func.isWrapper; first | (rw [if_pos (by decide +kernel)]; kernel_rfl) | (rw [if_neg (by decide +kernel)]; exact ⟨rfl, rfl⟩))
    (fun os started H enc _ F => by rw [OpenClaim.pre_eq_preRow]; exact proofParses_lifted os started H enc F)
theorem proofParses_card : Rows.ProofParsesCardSaid :=
  Claim7.holds_tied_plain_at .later [] [.data, .data, .data, .data, .pinned] true Rows.proofParsesCard.stood.harness false
    proofParses_row (fun _ h => by cases h) (by kernel_rfl) (fun _ h => by cases h) proofParses_row_tie rfl ⟨rfl, rfl⟩ (by kernel_rfl) rfl
    (fun f fn hf hfn => by
      obtain rfl : f = 6 := Option.some.inj ((show Tryd.prog.funcNamed "linchpin/linchpinlaw29.ProofParses" = some 6 by kernel_rfl).symm.trans hf) |>.symm
      obtain rfl : fn = Tryd.f6 := (Option.some.inj (Tryd.func6.symm.trans hfn)).symm
      refine ⟨by kernel_rfl, fun j t ht => ?_⟩
      have hall : (Tryd.f6.params.toList.all fun t => !Tryd.prog.wantsStandIn t) = true := by kernel_rfl
      have h := List.all_eq_true.1 hall t (Array.mem_toList_iff.2 (Array.mem_of_getElem? ht))
      exact (by simpa using h : Tryd.prog.wantsStandIn t = false))
    (by kernel_rfl)
#print axioms proofParses_card
end Go.Proofs.YtlinabifalfddaaDoor
