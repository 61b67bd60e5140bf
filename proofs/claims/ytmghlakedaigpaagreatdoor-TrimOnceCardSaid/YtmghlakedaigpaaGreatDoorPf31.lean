/- Arguments opened, tables laid: what the row of TrimOnce takes. -/
import Derived.Test.YtmghlakedaigpaaGreatDoorRows
import Derived.Test.YtmghlakedaigpaaGreatDoorOpen
import Derived.Lib.LaidCaseMet
import Derived.Lib.LaidU8
import Derived.Lib.LaidIn
import Derived.Lib.LaidTab
import Derived.Lib.ItoaNum
import Derived.ProofKit
namespace Go.Proofs.YtmghlakedaigpaaGreatDoor
open Go Go.ChangeShapes Go.WideShapes Go.ChangeAt Go.RowKit

theorem Tryz.own : ownKnob Tryz.prog.godebug = none := by kernel_rfl
theorem Tryz.laidOut : laidOutB Tryz.prog = true := by kernel_rfl
theorem Tryz.g32 : Tryz.prog.globalNamed "math/bits.deBruijn32tab" = some 1 := by kernel_rfl
theorem Tryz.g64 : Tryz.prog.globalNamed "math/bits.deBruijn64tab" = some 2 := by kernel_rfl
theorem Tryz.gpow : Tryz.prog.globalNamed "internal/strconv.uint64pow10" = some 0 := by kernel_rfl

/-- Rows among the arguments. -/
theorem opens_rows {H : Type} {enc : TypeId × Value → H} {w : World} {spare : Nat → Bool} {held : Bool} : Opens enc Tryz.prog w spare held 28 (tSlice tRow) :=
  opens_slice Tryz.underlying28 (by kernel_rfl) (by decide) (opens_row Tryz.underlying38 (by kernel_rfl) rfl rfl rfl rfl rfl (by kernel_rfl) (by kernel_rfl) (by kernel_rfl) (by kernel_rfl) (by kernel_rfl) Tryz.underlying3 Tryz.underlying3 Tryz.underlying3 Tryz.underlying3
    (opens_slice Tryz.underlying36 (by kernel_rfl) (by decide) (opens_term Tryz.underlying35 (by kernel_rfl) rfl rfl (by kernel_rfl) (by kernel_rfl) Tryz.underlying3 Tryz.underlying3)))
theorem opens_ints {H : Type} {enc : TypeId × Value → H} {w : World} {spare : Nat → Bool} {held : Bool} : Opens enc Tryz.prog w spare held 22 (tSlice tInt) :=
  opens_slice Tryz.underlying22 (by kernel_rfl) (by decide) (opens_int Tryz.underlying3)
def tabCells : DataW Unit → Array Value
  | .agg l => (l.map fun | .lit (.int k n) => Value.int k n | _ => .bool false).toArray
  | _ => #[]
/-- A start whose three tables hold what the text lays. -/
noncomputable def laidWorld (os : Os) : World :=
  let w0 := World.holding Tryz.prog os ⟨#[], #[], []⟩
  let put (h : Array Obj) (g : Nat) (cs : Array Value) : Array Obj := h.modify g fun
    | .cells _ t frozen => .cells cs t frozen
    | o => o
  { w0 with heap := put (put (put w0.heap 0 (tabCells Rows.laid_internal_strconv_uint64pow10)) 1 (tabCells Rows.laid_math_bits_deBruijn32tab)) 2 (tabCells Rows.laid_math_bits_deBruijn64tab) }
theorem laid_met (os : Os) (args : Array Value) : laidMet Tryz.prog Rows.trimOnceRow.laid ((laidWorld os).forCall (fun _ _ => 0) ⟨#[], args, []⟩).memory :=
  (LaidIn.of_run [0, 1, 2] 8 (by kernel_rfl) (by kernel_rfl) (by kernel_rfl) (by kernel_rfl)).met
theorem wf_i64 {k : Int} (hw : (Lit.int .i64 k).wf = true) : I64 k := by
  have h2 : (decide (IntKind.i64.min ≤ k) && decide (k ≤ IntKind.i64.max)) = true := hw
  rw [Bool.and_eq_true, decide_eq_true_eq, decide_eq_true_eq] at h2
  exact h2
theorem pow_type : (Tryz.prog.globals[0]?).map (·.type) = some 149 := by kernel_rfl
/-- The laid condition gives the table. -/
theorem pow_tab {W : World} (hL : laidMet Tryz.prog Rows.trimOnceRow.laid W) : Lib.TabIs Tryz.prog W "internal/strconv.uint64pow10" .u64 Lib.pow10Tab := by
  obtain ⟨g', t', cs, fuel, p, hg', ht', hvar, hd⟩ := Lib.laidMet.reads hL (.tail _ (.tail _ (.head _)))
  obtain rfl := Option.some.inj (Tryz.gpow.symm.trans hg')
  obtain rfl := Option.some.inj (pow_type.symm.trans ht')
  have e : (Rows.laid_internal_strconv_uint64pow10 : DataW Unit) = Lib.tabData .u64 Lib.pow10Tab := by kernel_rfl
  rw [e] at hd
  unfold Lib.TabIs
  rw [hvar, ← Lib.cells_of_tab Tryz.underlying149 Tryz.underlying123 (by kernel_rfl) (by kernel_rfl) hd]
end Go.Proofs.YtmghlakedaigpaaGreatDoor
