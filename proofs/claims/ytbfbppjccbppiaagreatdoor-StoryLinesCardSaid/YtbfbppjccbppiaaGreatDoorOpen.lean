/- Arguments opened: data read in memory as the words of Mem. No program stands here. -/
import Derived.Test.YtbfbppjccbppiaaGreatDoorzA
import Derived.Deep.Slices
import Derived.Lib.SmallJoins
namespace Go.Proofs.YtbfbppjccbppiaaGreatDoor
open Go Go.RowKit Go.Deep

section
variable {H : Type} {enc : TypeId × Value → H} {P : Program} {w : World} {spare : Nat → Bool} {held : Bool} {α : Type} {T : TypeId}
def Opens (enc : TypeId × Value → H) (P : Program) (w : World) (spare : Nat → Bool) (held : Bool) (T : TypeId) (t : Ty α) : Prop :=
 ∀ n cs x, DataW.trod enc P w 0 spare held n T cs = some x → ∃ y, t.rd w (Lt w.heap.size) cs y
theorem opens_int (hT : P.underlying T = some (.int .i64)) : Opens enc P w spare held T tInt := by
 intro n cs x h
 obtain ⟨k, rfl, _, hw⟩ := DataW.trod_int hT h
 refine ⟨k, rfl, ?_⟩
 have h2 : (decide (IntKind.i64.min ≤ k) && decide (k ≤ IntKind.i64.max)) = true := hw
 rw [Bool.and_eq_true, decide_eq_true_eq, decide_eq_true_eq] at h2
 exact h2
theorem opens_slice [Inhabited α] {t : Ty α} {e : TypeId} (hT : P.underlying T = some (.slice e)) (hs : P.cellsOf e = t.size) (h0 : 0 < t.size) (ho : Opens enc P w spare held e t) : Opens enc P w spare held T (qk2 t) := by
 intro n cs x h
 rcases open_slice hT h with ⟨rfl, _⟩ | ⟨a, len, cap, m, n', D, Pl, rfl, hb, hl, hm, hmm, rfl, hx⟩
 ·exact ⟨[], _, rfl, SliceRd.nil _ _ _⟩
 ·have hlm : len ≤ m := by rw [hmm]; split <;> omega
  obtain ⟨f, hf⟩ := choose_lt (n := len) (p := fun i y => ∃ cs', w.cells? 0 (a.add (i * P.cellsOf e)) (P.cellsOf e) = some cs' ∧ t.rd w (Lt w.heap.size) cs' y) (fun i hi => by
   obtain ⟨cs', h1, h2⟩ := hx i (by omega)
   obtain ⟨y, hy⟩ := ho _ _ _ h2
   exact ⟨y, cs', h1, hy⟩)
  refine ⟨(List.range len).map f, _, rfl, ⟨some a, cap, by simp, by simpa using hl, hm, fun k hk => ?_⟩⟩
  have hk' : k < len := by simpa using hk
  obtain ⟨cs', h1, h2⟩ := hf k hk'
  obtain ⟨_, h3, h4⟩ := World.cells?_some h1
  rw [hs] at h3 h4
  obtain ⟨cs0, z1, _⟩ := hf 0 (by omega)
  obtain ⟨_, z3, z4⟩ := World.cells?_some z1
  rw [hs] at z3 z4
  obtain ⟨g, o, spot⟩ := a
  have zc := z4 0 h0
  rw [List.getElem?_eq_getElem (by omega)] at zc
  have hspot : spot = none := by simpa [Addr.add] using World.cell?_spot zc
  subst hspot
  have hc0 := h4 0 h0
  rw [List.getElem?_eq_getElem (by omega)] at hc0
  simp only [add_mk] at hc0 h4
  refine ⟨g, o, cs', rfl, World.block_lt_of_cell? _ _ hc0, h3, h4, ?_⟩
  simpa using h2
theorem opens_term {f0 f1 : Field} (hT : P.underlying T = some (.struct #[f0, f1])) (hc : P.cellsOf T = 2) (o0 : f0.offset = 0) (o1 : f1.offset = 1) (c0 : P.cellsOf f0.type = 1) (c1 : P.cellsOf f1.type = 1)
  (t0 : P.underlying f0.type = some (.int .i64)) (t1 : P.underlying f1.type = some (.int .i64)) : Opens enc P w spare held T qg1 := by
 intro n cs x h
 obtain ⟨xs, n', _, rfl, hl, hlen, hf⟩ := DataW.trod_struct hT h
 rw [hc] at hl
 match xs, hlen with
 | [y0, y1], _ =>
 have h0 := hf 0 f0 rfl
 have h1 := hf 1 f1 rfl
 simp only [List.getElem?_cons_zero, List.getElem?_cons_succ] at h0 h1
 match cs, hl with
 | [a, b], _ =>
  rw [o0, c0] at h0
  rw [o1, c1] at h1
  obtain ⟨u, hu, i0⟩ := opens_int t0 _ _ _ h0
  obtain ⟨m, hm, i1⟩ := opens_int t1 _ _ _ h1
  simp at hu hm
  subst hu; subst hm
  exact ⟨⟨u, m⟩, rfl, i0, i1⟩
theorem opens_row {f0 f1 f2 f3 f4 : Field} (hT : P.underlying T = some (.struct #[f0, f1, f2, f3, f4])) (hc : P.cellsOf T = 5) (o0 : f0.offset = 0) (o1 : f1.offset = 1) (o2 : f2.offset = 2) (o3 : f3.offset = 3) (o4 : f4.offset = 4)
  (c0 : P.cellsOf f0.type = 1) (c1 : P.cellsOf f1.type = 1) (c2 : P.cellsOf f2.type = 1) (c3 : P.cellsOf f3.type = 1) (c4 : P.cellsOf f4.type = 1)
  (t0 : P.underlying f0.type = some (.int .i64)) (t1 : P.underlying f1.type = some (.int .i64)) (t2 : P.underlying f2.type = some (.int .i64)) (t3 : P.underlying f3.type = some (.int .i64))
  (ho : Opens enc P w spare held f4.type (qk2 qg1)) : Opens enc P w spare held T tRow := by
 intro n cs x h
 obtain ⟨xs, n', _, rfl, hl, hlen, hf⟩ := DataW.trod_struct hT h
 rw [hc] at hl
 match xs, hlen with
 | [y0, y1, y2, y3, y4], _ =>
 have h0 := hf 0 f0 rfl
 have h1 := hf 1 f1 rfl
 have h2 := hf 2 f2 rfl
 have h3 := hf 3 f3 rfl
 have h4 := hf 4 f4 rfl
 simp only [List.getElem?_cons_zero, List.getElem?_cons_succ] at h0 h1 h2 h3 h4
 match cs, hl with
 | [a, b, c, d, e], _ =>
  rw [o0, c0] at h0
  rw [o1, c1] at h1
  rw [o2, c2] at h2
  rw [o3, c3] at h3
  rw [o4, c4] at h4
  obtain ⟨u0, e0, i0⟩ := opens_int t0 _ _ _ h0
  obtain ⟨u1, e1, i1⟩ := opens_int t1 _ _ _ h1
  obtain ⟨u2, e2, i2⟩ := opens_int t2 _ _ _ h2
  obtain ⟨u3, e3, i3⟩ := opens_int t3 _ _ _ h3
  obtain ⟨ts, v, e4, i4⟩ := ho _ _ _ h4
  simp at e0 e1 e2 e3 e4
  subst e0; subst e1; subst e2; subst e3; subst e4
  exact ⟨⟨u0, u1, u2, u3, ts⟩, _, rfl, i0, i1, i2, i3, i4⟩
end
end Go.Proofs.YtbfbppjccbppiaaGreatDoor
