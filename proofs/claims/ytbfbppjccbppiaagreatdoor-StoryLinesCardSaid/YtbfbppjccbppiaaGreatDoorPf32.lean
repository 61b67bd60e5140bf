/- Arguments opened, variables laid: what the rows of this seat take. -/
import Derived.Test.YtbfbppjccbppiaaGreatDoorRows
import Derived.Test.YtbfbppjccbppiaaGreatDoorOpen
import Derived.Test.YtbfbppjccbppiaaGreatDoorzI0
import Derived.Lib.LaidCaseMet
import Derived.Lib.LaidU8
import Derived.Lib.LaidIn
import Derived.Lib.LaidTab
import Derived.Lib.ItoaNum
import Derived.LaidLaws
import Derived.Shelf.Vars
import Derived.ProofKit
namespace Go.Proofs.YtbfbppjccbppiaaGreatDoor
open Go Go.ChangeShapes Go.WideShapes Go.ChangeAt Go.RowKit

theorem prog_own : ownKnob Tryz.prog.godebug = none := by kernel_rfl
theorem prog_laidOut : laidOutB Tryz.prog = true := by kernel_rfl
theorem gpow : Tryz.prog.globalNamed "internal/strconv.uint64pow10" = some 1 := by kernel_rfl
theorem gsyn : Tryz.prog.globalNamed "strconv.ErrSyntax" = some 2 := by kernel_rfl
theorem gran : Tryz.prog.globalNamed "strconv.ErrRange" = some 3 := by kernel_rfl
theorem opens_ints {H : Type} {enc : TypeId × Value → H} {w : World} {spare : Nat → Bool} {held : Bool} : Opens enc Tryz.prog w spare held 22 (qk2 tInt) :=
 opens_slice Tryz.underlying22 (by kernel_rfl) (by decide) (opens_int Tryz.underlying3)
def tabCells : DataW Unit → Array Value
 | .agg l => (l.flatMap fun | .lit (.int k n) => [Value.int k n] | .agg l2 => l2.map (fun | .lit (.int k n) => Value.int k n | _ => .bool false) | _ => [.bool false]).toArray
 | _ => #[]
def errText : DataW Unit → ByteArray
 | .iface _ (.ptr (.agg [.lit (.string l)])) => ⟨l.toArray⟩
 | _ => ⟨#[]⟩
noncomputable def lowN : Nat := (World.holding Tryz.prog default ⟨#[], #[], []⟩).heap.size
noncomputable def laidW (os : Os) : World :=
 let w0 := World.holding Tryz.prog os ⟨#[.cells #[.string (errText Rows.laid_strconv_ErrSyntax)] 239, .cells #[.string (errText Rows.laid_strconv_ErrRange)] 239], #[], []⟩
 let put (h : Array Obj) (g : Nat) (cs : Array Value) : Array Obj := h.modify g fun
  | .cells _ t frozen => .cells cs t frozen
  | o => o
 { w0 with heap := put (put (put (put (put (put (put w0.heap 1 (tabCells Rows.laid_internal_strconv_uint64pow10)) 4 (tabCells Rows.laid_math_bits_deBruijn32tab)) 5 (tabCells Rows.laid_math_bits_deBruijn64tab)) 6 (tabCells Rows.laid_unicode_utf8_first)) 7 (tabCells Rows.laid_unicode_utf8_acceptRanges)) 2 #[.iface 237 (.pointer (some ⟨lowN, 0, none⟩))]) 3 #[.iface 237 (.pointer (some ⟨lowN + 1, 0, none⟩))] }
theorem wf_i64 {k : Int} (hw : (Lit.int .i64 k).wf = true) : I64 k := by
 have h2 : (decide (IntKind.i64.min ≤ k) && decide (k ≤ IntKind.i64.max)) = true := hw
 rw [Bool.and_eq_true, decide_eq_true_eq, decide_eq_true_eq] at h2
 exact h2
theorem pow_type : (Tryz.prog.globals[1]?).map (·.type) = some 221 := by kernel_rfl
theorem syn_type : (Tryz.prog.globals[2]?).map (·.type) = some 147 := by kernel_rfl
theorem ran_type : (Tryz.prog.globals[3]?).map (·.type) = some 147 := by kernel_rfl
theorem cell_err {W : World} {n : String} {nm : String} {d : DataW Unit} {g : Nat} (h : Lib.VarReads Tryz.prog W n (.iface nm d)) (hg : Tryz.prog.globalNamed n = some g) (ht : (Tryz.prog.globals[g]?).map (·.type) = some 147) :
  ∃ ev, W.cell? ⟨g, 0, none⟩ = some ev ∧ (ev = .nilIface ∨ ∃ te pe, ev = .iface te pe) := by
 obtain ⟨g', t', cs, fuel, p, hg', ht', hvar, hd⟩ := h
 obtain rfl := Option.some.inj (hg.symm.trans hg')
 obtain rfl := Option.some.inj (ht.symm.trans ht')
 obtain ⟨l⟩ := cs
 obtain ⟨f1, u, v, e, -, -⟩ := iface_of_trod Tryz.underlying147 hd
 replace e : l = [.iface u v] := e
 subst e
 exact ⟨_, by simpa using World.var?_cell hg hvar 0, .inr ⟨_, _, rfl⟩⟩
theorem glob_ok {W : World} {l : List (String × DataW Unit)} (hl : l = Rows.storyTellsRow.laid) (hL : laidMet Tryz.prog l W) (hsh : W.ShapedOpen Tryz.prog) : Glob W := by
 subst hl
 have h1 : ∃ m, W.cell? ⟨0, 0, none⟩ = some (.int .i64 m) := cell_of_shapedOpen_int (zero := #[.int .i64 0]) (t := 3) hsh (of_decide_eq_true (by kernel_rfl)) (by kernel_rfl) rfl (by kernel_rfl) (by kernel_rfl) Tryz.underlying3
 have hp : Lib.TabIs Tryz.prog W "internal/strconv.uint64pow10" .u64 Lib.pow10Tab := by
  obtain ⟨g', t', cs, fuel, p, hg', ht', hvar, hd⟩ := Lib.laidMet.reads hL (.tail _ (.tail _ (.head _)))
  obtain rfl := Option.some.inj (gpow.symm.trans hg')
  obtain rfl := Option.some.inj (pow_type.symm.trans ht')
  have e : (Rows.laid_internal_strconv_uint64pow10 : DataW Unit) = Lib.tabData .u64 Lib.pow10Tab := by kernel_rfl
  rw [e] at hd
  unfold Lib.TabIs
  rw [hvar, ← Lib.cells_of_tab Tryz.underlying221 Tryz.underlying176 (by kernel_rfl) (by kernel_rfl) hd]
 have h2 := cell_err (Lib.laidMet.reads hL (.tail _ (.tail _ (.tail _ (.tail _ (.tail _ (.head _))))))) gsyn syn_type
 have h3 := cell_err (Lib.laidMet.reads hL (.tail _ (.tail _ (.tail _ (.tail _ (.head _)))))) gran ran_type
 refine ⟨?_, h1, Lib.tabBelow_of_tabIs hp, h2, h3⟩
 obtain ⟨ev, hev, -⟩ := h3
 rcases Nat.lt_or_ge 3 W.heap.size with h | h
 ·exact h
 ·have h9 : W.heap[3]? = none := Array.getElem?_eq_none h
  simp [World.cell?, h9] at hev
end Go.Proofs.YtbfbppjccbppiaaGreatDoor
