/- Markers and platforms as arguments, opened. -/
import Derived.Test.YtmdnleafpmondaaDoorCm
import Derived.Test.YtmdnleafpmondaaDoorU9
import Derived.Laws.IdiomArrays
import Derived.ChangeSame
namespace Go.Proofs.YtmdnleafpmondaaDoor
open Go Go.ChangeShapes Go.WideShapes Go.ChangeAt Go.RowKit Go.Deep

section
variable {H : Type} {enc : TypeId × Value → H} {P : Program} {w : World} {spare : Nat → Bool} {held : Bool} {T : TypeId}
theorem opens_str (hT : P.underlying T = some .string) : Opens enc P w spare held T tStr := by
  intro n cs x h
  obtain ⟨s, rfl, _, hs⟩ := DataW.trod_string hT h
  exact ⟨s, rfl, hs⟩
theorem opens_nodeP {f0 f1 f2 f3 f4 : Field} (hT : P.underlying T = some (.struct #[f0, f1, f2, f3, f4])) (hc : P.cellsOf T = 5) (o0 : f0.offset = 0) (o1 : f1.offset = 1) (o2 : f2.offset = 2) (o3 : f3.offset = 3) (o4 : f4.offset = 4)
    (c0 : P.cellsOf f0.type = 1) (c1 : P.cellsOf f1.type = 1) (c2 : P.cellsOf f2.type = 1) (c3 : P.cellsOf f3.type = 1) (c4 : P.cellsOf f4.type = 1)
    (t0 : P.underlying f0.type = some (.int .i64)) (t1 : P.underlying f1.type = some (.int .i64)) (t2 : P.underlying f2.type = some (.int .i64)) (t3 : P.underlying f3.type = some (.int .i64))
    (t4 : P.underlying f4.type = some .string) : Opens enc P w spare held T tNode := by
  intro n cs x h
  obtain ⟨xs, n', _, rfl, hl, hlen, hf⟩ := DataW.trod_struct hT h
  rw [hc] at hl
  match xs, hlen with
  | [y0, y1, y2, y3, y4], _ =>
  have h0 := hf 0 f0 rfl
  have h1 := hf 1 f1 rfl
  have h2 := hf 2 f2 rfl
  have h3 := hf 3 f3 rfl
  have h4 := hf 4 f4 rfl
  simp only [List.getElem?_cons_zero, List.getElem?_cons_succ] at h0 h1 h2 h3 h4
  match cs, hl with
  | [a, b, c, d, e], _ =>
    rw [o0, c0] at h0
    rw [o1, c1] at h1
    rw [o2, c2] at h2
    rw [o3, c3] at h3
    rw [o4, c4] at h4
    obtain ⟨u0, e0, i0⟩ := opens_int t0 _ _ _ h0
    obtain ⟨u1, e1, i1⟩ := opens_int t1 _ _ _ h1
    obtain ⟨u2, e2, i2⟩ := opens_int t2 _ _ _ h2
    obtain ⟨u3, e3, i3⟩ := opens_int t3 _ _ _ h3
    obtain ⟨s, e4, i4⟩ := opens_str t4 _ _ _ h4
    simp at e0 e1 e2 e3 e4
    subst e0; subst e1; subst e2; subst e3; subst e4
    exact ⟨⟨u0, u1, u2, u3, s⟩, rfl, i0, i1, i2, i3, i4⟩
theorem opens_one {α : Type} {t : Ty α} {f0 : Field} (hT : P.underlying T = some (.struct #[f0])) (hc : P.cellsOf T = 1) (o0 : f0.offset = 0) (c0 : P.cellsOf f0.type = 1) (ho : Opens enc P w spare held f0.type t) : Opens enc P w spare held T t := by
  intro n cs x h
  obtain ⟨y0, n', rfl, hl, h0⟩ := trod_struct1 hT h
  rw [hc] at hl
  match cs, hl with
  | [a], _ =>
    rw [o0, c0] at h0
    exact ho _ _ _ h0
end
section
variable {H : Type} {enc : TypeId × Value → H} {w : World} {spare : Nat → Bool} {held : Bool}
theorem opens_node : Opens enc Tryd.prog w spare held 49 tNode :=
  opens_nodeP Tryd.underlying49 (by kernel_rfl) rfl rfl rfl rfl rfl (by kernel_rfl) (by kernel_rfl) (by kernel_rfl) (by kernel_rfl) (by kernel_rfl) Tryd.underlying3 Tryd.underlying3 Tryd.underlying3 Tryd.underlying3 Tryd.underlying9
theorem opens_mark : Opens enc Tryd.prog w spare held 25 (tSlice tNode) :=
  opens_one Tryd.underlying25 (by kernel_rfl) rfl (by kernel_rfl) (opens_slice Tryd.underlying23 (by kernel_rfl) (by decide) opens_node)
theorem opens_env (n : Nat) (cs : List Value) (x : DataW H × List MemPlace) (h : DataW.trod enc Tryd.prog w 0 spare held n 38 cs = some x) : ∃ e : EnvT, cs = [.string e.a, .string e.b, .string e.c] ∧ True := by
  obtain ⟨y0, n', rfl, hl, h0⟩ := trod_struct1 Tryd.underlying38 h
  have hc : Tryd.prog.cellsOf 38 = 3 := by kernel_rfl
  rw [hc] at hl
  match cs, hl with
  | [a, b, c], _ =>
    have hc3 : Tryd.prog.cellsOf 36 = 3 := by kernel_rfl
    have h0' : DataW.trod enc Tryd.prog w 0 spare held n' 36 (([a, b, c].drop 0).take (Tryd.prog.cellsOf 36)) = some y0 := h0
    rw [hc3] at h0'
    obtain ⟨z0, z1, z2, m, -, k0, k1, k2⟩ := trod_array3 Tryd.underlying36 (by kernel_rfl) (show DataW.trod enc Tryd.prog w 0 spare held n' 36 [a, b, c] = some y0 from h0')
    obtain ⟨s0, q0, -⟩ := opens_str Tryd.underlying9 _ _ _ k0
    obtain ⟨s1, q1, -⟩ := opens_str Tryd.underlying9 _ _ _ k1
    obtain ⟨s2, q2, -⟩ := opens_str Tryd.underlying9 _ _ _ k2
    simp at q0 q1 q2
    subst q0; subst q1; subst q2
    exact ⟨⟨s0, s1, s2⟩, rfl, trivial⟩
end
end Go.Proofs.YtmdnleafpmondaaDoor
