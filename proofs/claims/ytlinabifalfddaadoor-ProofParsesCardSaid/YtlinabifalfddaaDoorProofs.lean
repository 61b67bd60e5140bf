/- The row of ProofMay, proved. -/
import Derived.Test.YtlinabifalfddaaDoorRows
import Derived.Test.YtlinabifalfddaaDoorW3
import Derived.Test.YtlinabifalfddaaDoorOpen
import Derived.Lib.LaidCaseMet
import Derived.Lib.LaidU8
import Derived.Lib.LaidIn
import Derived.ProofKit
namespace Go.Proofs.YtlinabifalfddaaDoor
open Go Go.ChangeShapes Go.WideShapes Go.ChangeAt Go.RowKit

theorem Tryd.own : ownKnob Tryd.prog.godebug = none := by kernel_rfl
theorem Tryd.laidOut : laidOutB Tryd.prog = true := by kernel_rfl
theorem Tryd.g32 : Tryd.prog.globalNamed "math/bits.deBruijn32tab" = some 2 := by kernel_rfl
theorem Tryd.g64 : Tryd.prog.globalNamed "math/bits.deBruijn64tab" = some 3 := by kernel_rfl
theorem Tryd.gpow : Tryd.prog.globalNamed "internal/strconv.uint64pow10" = some 1 := by kernel_rfl

/-- Rows among the arguments. -/
theorem opens_rows {H : Type} {enc : TypeId × Value → H} {w : World} {spare : Nat → Bool} {held : Bool} : Opens enc Tryd.prog w spare held 22 (tSlice tRow) :=
  opens_slice Tryd.underlying22 (by kernel_rfl) (by decide) (opens_row Tryd.underlying27 (by kernel_rfl) rfl rfl rfl rfl rfl (by kernel_rfl) (by kernel_rfl) (by kernel_rfl) (by kernel_rfl) (by kernel_rfl) Tryd.underlying3 Tryd.underlying3 Tryd.underlying3 Tryd.underlying3
    (opens_slice Tryd.underlying25 (by kernel_rfl) (by decide) (opens_term Tryd.underlying52 (by kernel_rfl) rfl rfl (by kernel_rfl) (by kernel_rfl) Tryd.underlying3 Tryd.underlying3)))
theorem opens_ints {H : Type} {enc : TypeId × Value → H} {w : World} {spare : Nat → Bool} {held : Bool} : Opens enc Tryd.prog w spare held 23 (tSlice tInt) :=
  opens_slice Tryd.underlying23 (by kernel_rfl) (by decide) (opens_int Tryd.underlying3)
def tabCells : DataW Unit → Array Value
  | .agg l => (l.map fun | .lit (.int k n) => Value.int k n | _ => .bool false).toArray
  | _ => #[]
/-- A start whose three tables hold what the text lays. -/
noncomputable def laidWorld (os : Os) : World :=
  let w0 := World.holding Tryd.prog os ⟨#[], #[], []⟩
  let put (h : Array Obj) (g : Nat) (cs : Array Value) : Array Obj := h.modify g fun
    | .cells _ t frozen => .cells cs t frozen
    | o => o
  { w0 with heap := put (put (put w0.heap 1 (tabCells Rows.laid_internal_strconv_uint64pow10)) 2 (tabCells Rows.laid_math_bits_deBruijn32tab)) 3 (tabCells Rows.laid_math_bits_deBruijn64tab) }
theorem laid_met (os : Os) (args : Array Value) : laidMet Tryd.prog Rows.proofMayRow.laid ((laidWorld os).forCall (fun _ _ => 0) ⟨#[], args, []⟩).memory :=
  (LaidIn.of_run [1, 2, 3] 8 (by kernel_rfl) (by kernel_rfl) (by kernel_rfl) (by kernel_rfl)).met
theorem wf_i64 {k : Int} (hw : (Lit.int .i64 k).wf = true) : I64 k := by
  have h2 : (decide (IntKind.i64.min ≤ k) && decide (k ≤ IntKind.i64.max)) = true := hw
  rw [Bool.and_eq_true, decide_eq_true_eq, decide_eq_true_eq] at h2
  exact h2
theorem pow_type : (Tryd.prog.globals[1]?).map (·.type) = some 114 := by kernel_rfl
/-- The laid condition gives the table. -/
theorem pow_tab {W : World} (hL : laidMet Tryd.prog Rows.proofMayRow.laid W) : Lib.TabIs Tryd.prog W "internal/strconv.uint64pow10" .u64 Lib.pow10Tab := by
  obtain ⟨g', t', cs, fuel, p, hg', ht', hvar, hd⟩ := Lib.laidMet.reads hL (.tail _ (.tail _ (.head _)))
  obtain rfl := Option.some.inj (Tryd.gpow.symm.trans hg')
  obtain rfl := Option.some.inj (pow_type.symm.trans ht')
  have e : (Rows.laid_internal_strconv_uint64pow10 : DataW Unit) = Lib.tabData .u64 Lib.pow10Tab := by kernel_rfl
  rw [e] at hd
  unfold Lib.TabIs
  rw [hvar, ← Lib.cells_of_tab Tryd.underlying114 Tryd.underlying87 (by kernel_rfl) (by kernel_rfl) hd]
set_option maxRecDepth 100000 in
theorem proofMay_lifted (os : Os) (started : os.Started) (H : Type) (enc : TypeId × Value → H) :
    ReturnsInHanded {} Tryd.checked os 3 .any (fun w args => (Rows.proofMaySpec.pre enc Tryd.prog Tryd.f3 [] false w args ∧ laidMet Tryd.prog Rows.proofMayRow.laid w) ∧ sizedMet enc Tryd.prog Tryd.f3 (OpenSpec.ofChange Rows.proofMaySpec) false w args)
      (Rows.proofMaySpec.post enc Tryd.prog Tryd.f3 false true false false) := by
  refine returnsInHanded_of_change_and (C := Tryd.checked) (X := fun w _ => laidMet Tryd.prog Rows.proofMayRow.laid w) (fun _ _ _ hh h => h.of_heap hh) Tryd.own started (by kernel_rfl) Tryd.func3
    (ChangeSpec.witness_at (enc := enc) (C := Tryd.checked) (os := os) (X := fun w _ => laidMet Tryd.prog Rows.proofMayRow.laid w) false (laidWorld os) #[.slice none 0 0, .slice none 0 0, .int .i64 0, .int .i64 0, .int .i64 0] 8 rfl (by kernel_rfl) (by kernel_rfl) (by kernel_rfl) (by kernel_rfl) (by kernel_rfl) (laid_met os _)) ?_
  intro W base args ds gs before hval0 hW _ _ hL _
  have hval : ∀ (j : Nat) t v, Tryd.f3.params[j]? = some t → args[j]? = some v → Value.okWide Tryd.prog W .any base t v := hval0
  have hW' := hW
  obtain ⟨p, q, hA0, hV0, rfl, hfz, hnd⟩ := hW
  have hA : DataW.TrodAll enc Tryd.prog W 0 (fun _ => true) true Tryd.f3.params.toList args.toList ds p := hA0
  rw [Tryd.params3] at hA hval
  obtain ⟨v0, vs0, d0, ds0, p0, q0, ha, rfl, rfl, h0, hA1⟩ := trodAll_cons hA
  obtain ⟨v1, vs1, d1, ds1, p1, q1, rfl, rfl, rfl, h1, hA2⟩ := trodAll_cons hA1
  obtain ⟨v2, vs2, d2, ds2, p2, q2, rfl, rfl, rfl, h2, hA3⟩ := trodAll_cons hA2
  obtain ⟨v3, vs3, d3, ds3, p3, q3, rfl, rfl, rfl, h3, hA4⟩ := trodAll_cons hA3
  obtain ⟨v4, vs4, d4, ds4, p4, q4, rfl, rfl, rfl, h4, hA5⟩ := trodAll_cons hA4
  obtain ⟨rfl, rfl⟩ := trodVars_none hV0
  obtain ⟨a0, l0, c0, rfl⟩ := okWide_slice Tryd.underlying22 (hval 0 22 v0 rfl (by rw [← Array.getElem?_toList, ha]; rfl))
  obtain ⟨a1, l1, c1, rfl⟩ := okWide_slice Tryd.underlying23 (hval 1 23 v1 rfl (by rw [← Array.getElem?_toList, ha]; rfl))
  have h0k := h0
  have h1k := h1
  obtain ⟨fuel0, hf0⟩ := h0
  obtain ⟨fuel1, hf1⟩ := h1
  obtain ⟨l, vl, hvl, hl⟩ := opens_rows _ _ _ hf0
  obtain ⟨xs, vx, hvx, hx⟩ := opens_ints _ _ _ hf1
  obtain ⟨rfl, rfl, rfl⟩ := trodAll_nil hA5
  obtain ⟨n2, rfl, rfl, rfl, wn2⟩ := open_int Tryd.underlying3 (hval 2 3 v2 rfl (by rw [← Array.getElem?_toList, ha]; rfl)) h2
  obtain ⟨n3, rfl, rfl, rfl, wn3⟩ := open_int Tryd.underlying3 (hval 3 3 v3 rfl (by rw [← Array.getElem?_toList, ha]; rfl)) h3
  obtain ⟨n4, rfl, rfl, rfl, wn4⟩ := open_int Tryd.underlying3 (hval 4 3 v4 rfl (by rw [← Array.getElem?_toList, ha]; rfl)) h4
  have hargs : args = #[.slice a0 l0 c0, .slice a1 l1 c1, .int .i64 n2, .int .i64 n3, .int .i64 n4] := by cases args; simp_all
  subst hargs
  obtain rfl : Value.slice a0 l0 c0 = vl := by simpa [Value.cells] using hvl
  obtain rfl : Value.slice a1 l1 c1 = vx := by simpa [Value.cells] using hvx
  simp only [List.append_nil] at hW'
  have hlt : ∀ x ∈ p0 ++ p1, x.block < W.heap.size := fun x hx => by simpa using hW'.lt x hx
  refine (proofMay_any _ _ l xs n2 n3 n4 W hl hx (wf_i64 wn2) (wf_i64 wn3) (wf_i64 wn4) (Lib.tabBelow_of_tabIs (pow_tab hL))).mono ?_
  rintro e W' ⟨rfl, bel⟩
  have t0 := Below.trod Tryd.laidOut (by kernel_rfl) (of_decide_eq_true (by kernel_rfl)) h0k bel (fun x hx => hlt x (by simp [hx]))
  have t1 := Below.trod Tryd.laidOut (by kernel_rfl) (of_decide_eq_true (by kernel_rfl)) h1k bel (fun x hx => hlt x (by simp [hx]))
  refine ⟨_, rfl, _, _, _, [], p0 ++ (p1 ++ ([] ++ ([] ++ ([] ++ [])))), [], hW', ?_, ?_, ?_, bel.frame _, fun h => by cases h⟩
  · exact trodAll_mk1 (shut_bool Tryd.underlying4 true)
  · exact trodAll_cons_mk t0 (trodAll_cons_mk t1 (trodAll_cons_mk (shut_int Tryd.underlying3 wn2) (trodAll_cons_mk (shut_int Tryd.underlying3 wn3) (trodAll_cons_mk (shut_int Tryd.underlying3 wn4) trodAll_mk0))))
  · rfl
end Go.Proofs.YtlinabifalfddaaDoor
