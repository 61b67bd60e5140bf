/- Arguments of a law opened: what all the rows of this seat share. -/
import Derived.Test.YtdcdpkpomhjilaaRows
import Derived.Test.YtdcdpkpomhjilaaOpen
import Derived.Test.YtdcdpkpomhjilaaS6
import Derived.ProofKit
import Derived.SizedLaws
import Derived.ChangeMaps5
namespace Go.Proofs.Ytdcdpkpomhjilaa
open Go Go.ChangeShapes Go.WideShapes Go.ChangeAt Go.RowKit Go.Deep

theorem prog_own : ownKnob Try.prog.godebug = none := by kernel_rfl
theorem prog_laidOut : laidOutB Try.prog = true := by kernel_rfl
section
variable {H : Type} {enc : TypeId × Value → H} {P : Program} {w : World} {spare : Nat → Bool} {held : Bool} {T : TypeId}
theorem opens_str (hT : P.underlying T = some .string) : Opens enc P w spare held T tStr := by
  intro n cs x h
  obtain ⟨s, rfl, _, hs⟩ := DataW.trod_string hT h
  exact ⟨s, rfl, hs⟩
theorem opens_feat {f0 f1 : Field} (hT : P.underlying T = some (.struct #[f0, f1])) (hc : P.cellsOf T = 2) (o0 : f0.offset = 0) (o1 : f1.offset = 1) (c0 : P.cellsOf f0.type = 1) (c1 : P.cellsOf f1.type = 1)
    (t0 : P.underlying f0.type = some .string) (ho : Opens enc P w spare held f1.type (tSlice tStr)) : Opens enc P w spare held T tFeat := by
  intro n cs x h
  obtain ⟨xs, n', _, rfl, hl, hlen, hf⟩ := DataW.trod_struct hT h
  rw [hc] at hl
  match xs, hlen with
  | [y0, y1], _ =>
  have h0 := hf 0 f0 rfl
  have h1 := hf 1 f1 rfl
  simp only [List.getElem?_cons_zero, List.getElem?_cons_succ] at h0 h1
  match cs, hl with
  | [a, b], _ =>
    rw [o0, c0] at h0
    rw [o1, c1] at h1
    obtain ⟨u, hu, i0⟩ := opens_str t0 _ _ _ h0
    obtain ⟨m, v, hm, i1⟩ := ho _ _ _ h1
    simp at hu hm
    subst hu; subst hm
    exact ⟨⟨u, m⟩, _, rfl, i0, i1⟩
end
section
variable {H : Type} {enc : TypeId × Value → H} {w : World} {spare : Nat → Bool} {held : Bool}
theorem opens_ints : Opens enc Try.prog w spare held 36 (tSlice tInt) :=
  opens_slice Try.underlying36 (by kernel_rfl) (by decide) (opens_int Try.underlying3)
theorem opens_texts : Opens enc Try.prog w spare held 30 (tSlice tStr) :=
  opens_slice Try.underlying30 (by kernel_rfl) (by decide) (opens_str Try.underlying9)
theorem opens_feats : Opens enc Try.prog w spare held 26 (tSlice tFeat) :=
  opens_slice Try.underlying26 (by kernel_rfl) (by decide) (opens_feat Try.underlying56 (by kernel_rfl) rfl rfl (by kernel_rfl) (by kernel_rfl) Try.underlying9 opens_texts)
end
theorem wf_i64 {k : Int} (hw : (Lit.int .i64 k).wf = true) : I64 k := by
  have h2 : (decide (IntKind.i64.min ≤ k) && decide (k ≤ IntKind.i64.max)) = true := hw
  rw [Bool.and_eq_true, decide_eq_true_eq, decide_eq_true_eq] at h2
  exact h2
end Go.Proofs.Ytdcdpkpomhjilaa
