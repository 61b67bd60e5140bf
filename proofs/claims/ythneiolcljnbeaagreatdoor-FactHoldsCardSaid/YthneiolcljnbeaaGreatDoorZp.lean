import Derived.Test.YthneiolcljnbeaaGreatDoorZv
import Derived.Test.YthneiolcljnbeaaGreatDoorRows
import Derived.Test.YthneiolcljnbeaaGreatDoorOpen
import Derived.Lib.LaidCaseMet
import Derived.Lib.LaidU8
import Derived.Lib.LaidIn
import Derived.ProofKit
namespace Go.Proofs.YthneiolcljnbeaaGreatDoor
open Go Go.ChangeShapes Go.WideShapes Go.ChangeAt Go.RowKit
theorem first_type : (Tryz.prog.globals[0]?).map (·.type) = some 52 := by kernel_rfl
theorem first_is {W : World} (hL : laidMet Tryz.prog Rows.factHoldsRow.laid W) : FirstIs W := by
 obtain ⟨g', t', cs, fuel, p, hg', ht', hvar, hd⟩ := Lib.laidMet.reads hL (.tail _ (.tail _ (.tail _ (.head _))))
 obtain rfl := Option.some.inj (gfirst.symm.trans hg')
 obtain rfl := Option.some.inj (first_type.symm.trans ht')
 obtain ⟨xs, n', _, hx, hl, hlen, hf⟩ := DataW.trod_struct Tryz.underlying52 hd
 have hc : Tryz.prog.cellsOf 52 = 5 := by kernel_rfl
 rw [hc] at hl
 match xs, hlen with
 | [y0, y1, y2, y3, y4], _ =>
 have h0 := hf 0 _ rfl
 have h1 := hf 1 _ rfl
 have h2 := hf 2 _ rfl
 have h3 := hf 3 _ rfl
 have h4 := hf 4 _ rfl
 simp only [List.getElem?_cons_zero, List.getElem?_cons_succ] at h0 h1 h2 h3 h4
 obtain ⟨k0, e0, x0, -⟩ := DataW.trod_int Tryz.underlying3 h0
 obtain ⟨k1, e1, x1, -⟩ := DataW.trod_int Tryz.underlying3 h1
 obtain ⟨k2, e2, x2, -⟩ := DataW.trod_int Tryz.underlying3 h2
 obtain ⟨s3, e3, x3, -⟩ := DataW.trod_string Tryz.underlying9 h3
 obtain ⟨s4, e4, x4, -⟩ := DataW.trod_string Tryz.underlying9 h4
 have ci : Tryz.prog.cellsOf 3 = 1 := by kernel_rfl
 have cz : Tryz.prog.cellsOf 9 = 1 := by kernel_rfl
 change List.take (Tryz.prog.cellsOf 3) (cs.toList.drop 0) = _ at e0
 change List.take (Tryz.prog.cellsOf 3) (cs.toList.drop 1) = _ at e1
 change List.take (Tryz.prog.cellsOf 3) (cs.toList.drop 2) = _ at e2
 change List.take (Tryz.prog.cellsOf 9) (cs.toList.drop 3) = _ at e3
 change List.take (Tryz.prog.cellsOf 9) (cs.toList.drop 4) = _ at e4
 rw [ci] at e0 e1 e2
 rw [cz] at e3 e4
 obtain ⟨a0, a1, a2, a3, a4, hcs⟩ : ∃ a0 a1 a2 a3 a4, cs.toList = [a0, a1, a2, a3, a4] := by
  match h : cs.toList, hl with
  | [a0, a1, a2, a3, a4], _ => exact ⟨a0, a1, a2, a3, a4, rfl⟩
 rw [hcs] at e0 e1 e2 e3 e4
 injection e0 with e0
 injection e1 with e1
 injection e2 with e2
 injection e3 with e3
 injection e4 with e4
 have hx1 := congrArg Prod.fst hx
 have hx2 : (Rows.laid_linchpin_set_first : DataW Unit) = .agg [y0.1, y1.1, y2.1, y3.1, y4.1] := hx1
 rw [x0, x1, x2, x3, x4] at hx2
 unfold Rows.laid_linchpin_set_first at hx2
 injection hx2 with hx2
 simp only [List.cons.injEq, DataW.lit.injEq, Lit.int.injEq, Lit.string.injEq, true_and, and_true] at hx2
 obtain ⟨z0, z1, z2, z3, z4⟩ := hx2
 have hs3 : s3 = ⟨#[]⟩ := by
  obtain ⟨⟨l⟩⟩ := s3
  have : l = [] := z3.symm
  rw [this]
 have hs4 : s4 = ⟨#[]⟩ := by
  obtain ⟨⟨l⟩⟩ := s4
  have : l = [] := z4.symm
  rw [this]
 subst z0 z1 z2 hs3 hs4 e0 e1 e2 e3 e4
 have hg : ∃ T fr, W.heap[0]? = some (.cells cs T fr) := by
  unfold World.var? at hvar
  rw [gfirst] at hvar
  simp only [Option.bind_some] at hvar
  split at hvar
  ·rename_i cs' T fr h
   rw [h, Option.some.inj hvar]
   exact ⟨_, _, rfl⟩
  ·cases hvar
 obtain ⟨T, fr, hg⟩ := hg
 have hc5 : ∀ i, cs[i]? = [Value.int .i64 0, .int .i64 0, .int .i64 0, .string ⟨#[]⟩, .string ⟨#[]⟩][i]? := fun i => by rw [← hcs, Array.getElem?_toList]
 exact ⟨(Array.getElem?_eq_some_iff.1 hg).1, by rw [cell_of_row W 0 0 cs T fr hg]; exact hc5 0, by rw [cell_of_row W 0 1 cs T fr hg]; exact hc5 1, by rw [cell_of_row W 0 2 cs T fr hg]; exact hc5 2, by rw [cell_of_row W 0 3 cs T fr hg]; exact hc5 3, by rw [cell_of_row W 0 4 cs T fr hg]; exact hc5 4⟩
theorem own23 : ownKnob Tryz.prog.godebug = none := by kernel_rfl
theorem laidOut23 : laidOutB Tryz.prog = true := by kernel_rfl
theorem gpow23 : Tryz.prog.globalNamed "internal/strconv.uint64pow10" = some 1 := by kernel_rfl
theorem pow_type23 : (Tryz.prog.globals[1]?).map (·.type) = some 203 := by kernel_rfl
theorem pow_tab23 {W : World} (hL : laidMet Tryz.prog Rows.factHoldsRow.laid W) : Lib.TabIs Tryz.prog W "internal/strconv.uint64pow10" .u64 Lib.pow10Tab := by
 obtain ⟨g', t', cs, fuel, p, hg', ht', hvar, hd⟩ := Lib.laidMet.reads hL (.tail _ (.tail _ (.head _)))
 obtain rfl := Option.some.inj (gpow23.symm.trans hg')
 obtain rfl := Option.some.inj (pow_type23.symm.trans ht')
 have e : (Rows.laid_internal_strconv_uint64pow10 : DataW Unit) = Lib.tabData .u64 Lib.pow10Tab := by kernel_rfl
 rw [e] at hd
 unfold Lib.TabIs
 rw [hvar, ← Lib.cells_of_tab Tryz.underlying203 Tryz.underlying158 (by kernel_rfl) (by kernel_rfl) hd]
theorem tab_is {W : World} (hL : laidMet Tryz.prog Rows.factHoldsRow.laid W) : TabIs W := Lib.tabBelow_of_tabIs (pow_tab23 hL)
end Go.Proofs.YthneiolcljnbeaaGreatDoor
