import Derived.Test.YthneiolcljnbeaaGreatDoorzMem
import Derived.Deep.Slices
import Derived.Lib.SmallJoins
namespace Go.Proofs.YthneiolcljnbeaaGreatDoor
open Go Go.RowKit Go.Deep
section
variable {H : Type} {enc : TypeId × Value → H} {P : Program} {w : World} {spare : Nat → Bool} {held : Bool} {α : Type} {T : TypeId}
def Opens (enc : TypeId × Value → H) (P : Program) (w : World) (spare : Nat → Bool) (held : Bool) (T : TypeId) (t : Ty α) : Prop :=
 ∀ n cs x, DataW.trod enc P w 0 spare held n T cs = some x → ∃ y, t.rd w (Lt w.heap.size) cs y
theorem opens_int (hT : P.underlying T = some (.int .i64)) : Opens enc P w spare held T tInt := by
 intro n cs x h
 obtain ⟨k, rfl, _, hw⟩ := DataW.trod_int hT h
 refine ⟨k, rfl, ?_⟩
 have h2 : (decide (IntKind.i64.min ≤ k) && decide (k ≤ IntKind.i64.max)) = true := hw
 rw [Bool.and_eq_true, decide_eq_true_eq, decide_eq_true_eq] at h2
 exact h2
theorem opens_slice [Inhabited α] {t : Ty α} {e : TypeId} (hT : P.underlying T = some (.slice e)) (hs : P.cellsOf e = t.size) (h0 : 0 < t.size) (ho : Opens enc P w spare held e t) : Opens enc P w spare held T (tSlice t) := by
 intro n cs x h
 rcases open_slice hT h with ⟨rfl, _⟩ | ⟨a, len, cap, m, n', D, Pl, rfl, hb, hl, hm, hmm, rfl, hx⟩
 ·exact ⟨[], _, rfl, SliceRd.nil _ _ _⟩
 ·have hlm : len ≤ m := by rw [hmm]; split <;> omega
  obtain ⟨f, hf⟩ := choose_lt (n := len) (p := fun i y => ∃ cs', w.cells? 0 (a.add (i * P.cellsOf e)) (P.cellsOf e) = some cs' ∧ t.rd w (Lt w.heap.size) cs' y) (fun i hi => by
   obtain ⟨cs', h1, h2⟩ := hx i (by omega)
   obtain ⟨y, hy⟩ := ho _ _ _ h2
   exact ⟨y, cs', h1, hy⟩)
  refine ⟨(List.range len).map f, _, rfl, ⟨some a, cap, by simp, by simpa using hl, hm, fun k hk => ?_⟩⟩
  have hk' : k < len := by simpa using hk
  obtain ⟨cs', h1, h2⟩ := hf k hk'
  obtain ⟨_, h3, h4⟩ := World.cells?_some h1
  rw [hs] at h3 h4
  obtain ⟨cs0, z1, _⟩ := hf 0 (by omega)
  obtain ⟨_, z3, z4⟩ := World.cells?_some z1
  rw [hs] at z3 z4
  obtain ⟨g, o, spot⟩ := a
  have zc := z4 0 h0
  rw [List.getElem?_eq_getElem (by omega)] at zc
  have hspot : spot = none := by simpa [Addr.add] using World.cell?_spot zc
  subst hspot
  have hc0 := h4 0 h0
  rw [List.getElem?_eq_getElem (by omega)] at hc0
  simp only [add_mk] at hc0 h4
  refine ⟨g, o, cs', rfl, World.block_lt_of_cell? _ _ hc0, h3, h4, ?_⟩
  simpa using h2
end
end Go.Proofs.YthneiolcljnbeaaGreatDoor
