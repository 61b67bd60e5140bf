/- A byte row that the call writes, bit by bit. No program stands here. -/
import Derived.Test.YtmghlakedaigpaaDoorCopied
import Derived.Lib.AppendStr
import Derived.Lib.UnsafeStr
import Derived.Lib.OthersKept
namespace Go.Proofs.YtmghlakedaigpaaDoor
open Go Go.RowKit

/-- The bytes that the call has written, from 'w0' on; its own blocks begin at 'B'. -/
structure Wr (e : TypeId) (B : Nat) (w0 w : World) (v : Value) (s : List UInt8) : Prop where
  below : Below B w0 w
  kept : Lib.OthersKept e none w0 w
  own : w.ownsRow B e 1 v s.length (Lib.byteCells s)
  base : B ≤ w0.heap.size

theorem byteCells_append (s t : List UInt8) : Lib.byteCells (s ++ t) = Lib.byteCells s ++ Lib.byteCells t := by simp [Lib.byteCells]
theorem byteCells_length (s : List UInt8) : (Lib.byteCells s).length = s.length := by simp [Lib.byteCells]
theorem byteCells_one (s : List UInt8) : ∀ u ∈ Lib.byteCells s, u.oneCell' = true := by
  intro u hu
  simp only [Lib.byteCells, List.mem_map] at hu
  obtain ⟨b, _, rfl⟩ := hu
  rfl

variable {e : TypeId} {B : Nat} {w0 w w' : World} {v v' : Value} {s t : List UInt8}
theorem Wr.start (h : B ≤ w.heap.size) : Wr e B w w (.slice none 0 0) [] := ⟨Below.refl _ _, Lib.OthersKept.refl _ _ _, ⟨rfl, .inl ⟨rfl, rfl⟩⟩, h⟩
theorem Wr.size (h : Wr e B w0 w v s) : w0.heap.size ≤ w.heap.size ∧ B ≤ w.heap.size := ⟨h.below.size, Nat.le_trans h.base h.below.size⟩
theorem kept_alloc (e : TypeId) (w : World) (o : Obj) : Lib.OthersKept e none w (w.alloc o) := by
  intro k o' hk _ _
  have hlt : k < w.heap.size := (Array.getElem?_eq_some_iff.1 hk).1
  rw [Below.heap_alloc w o k hlt, hk]
theorem Wr.alloc (h : Wr e B w0 w v s) (o : Obj) : Wr e B w0 (w.alloc o) v s :=
  ⟨h.below.alloc (Nat.le_trans h.base h.below.size) _, h.kept.trans (kept_alloc _ _ _), h.own.alloc _, h.base⟩
theorem kept_drew (e : TypeId) (w : World) : Lib.OthersKept e none w w.drew := fun _ _ h _ _ => h
theorem Wr.drew (h : Wr e B w0 w v s) : Wr e B w0 w.drew v s :=
  ⟨h.below.drew, h.kept.trans (kept_drew _ _), h.own, h.base⟩
theorem kept_grown {n : Nat} {xs : List Value} (ho : w.ownsRow B e 1 v n xs) (hg : w.grownBy w' v.ownBlock) : Lib.OthersKept e none w w' := by
  intro k o hk _ hc
  refine (hg.block k (Array.getElem?_eq_some_iff.1 hk).1 ?_).trans hk
  intro he
  rcases ho.2 with ⟨rfl, _⟩ | ⟨g, cap, cur, rfl, hb, hgg, _⟩
  · cases he
  · injection he with he
    have hkg : k = g := he
    subst hkg
    rw [hgg] at hk
    injection hk with hk
    exact hc _ _ hk.symm
theorem Wr.grown (h : Wr e B w0 w v s) (hg : w.grownBy w' v.ownBlock) (ho : w'.ownsRow B e 1 v' (s.length + t.length) (Lib.byteCells s ++ Lib.byteCells t)) : Wr e B w0 w' v' (s ++ t) := by
  refine ⟨h.below.grown hg (Nat.le_trans h.base h.below.size) ?_, h.kept.trans (kept_grown h.own hg), ?_, h.base⟩
  · intro k hk
    rcases h.own.2 with ⟨rfl, _⟩ | ⟨g, cap, cur, rfl, hb, _⟩
    · cases hk
    · injection hk with hk
      exact hk ▸ hb
  · rw [List.length_append, byteCells_append]
    exact ho
theorem Wr.call (h : Wr e B w0 w v s) (hb : Below B w w') (hk : Lib.OthersKept e none w w') (ho : w'.ownsRow B e 1 v' (s.length + t.length) (Lib.byteCells s ++ Lib.byteCells t)) : Wr e B w0 w' v' (s ++ t) :=
  ⟨h.below.trans hb, h.kept.trans hk, by rw [List.length_append, byteCells_append]; exact ho, h.base⟩
theorem Wr.next (h : Wr e B w0 w v (s ++ t)) : ∃ S A c, v = .slice A S.length c ∧ Hid (S = s ++ t) ∧ S.length ≤ s.length + t.length ∧ Hid (Wr e B w0 w v S) := by
  obtain ⟨A, c, hv⟩ := own_form h.own
  exact ⟨s ++ t, A, c, hv, hid rfl, by simp, hid h⟩
/-- So much was written behind S. -/
def Grew (e : TypeId) (B : Nat) (w0 : World) (S t : List UInt8) (n : Nat) (v : Value) (w : World) : Prop := ∃ S' A c, v = .slice A S'.length c ∧ S' = S ++ t ∧ S'.length ≤ S.length + n ∧ Wr e B w0 w v S'
/-- A block that is no byte row stays. -/
theorem Wr.obj (h : Wr e B w0 w v s) {k : Nat} {o : Obj} (hk : w0.heap[k]? = some o) (ho : ∀ c fz, o ≠ .cells c e fz) : w.heap[k]? = some o := h.kept k o hk (by simp) ho
theorem Wr.comp {w1 : World} {o : Obj} (h : Wr e B w0 w v s) (h' : Wr e B w1 w' v' t) (hw : w1 = w.alloc o) : Wr e B w0 w' v' t := by
  subst hw
  exact ⟨((h.alloc o).below).trans h'.below, ((h.alloc o).kept).trans h'.kept, h'.own, h.base⟩
theorem two_cells {w : World} {b : Nat} {x y : Value} {eT : TypeId} (h : w.heap[b]? = some (.cells #[x, y] eT (0, 0))) : w.cell? ⟨b, 0, none⟩ = some x ∧ w.cell? ⟨b, 1, none⟩ = some y ∧ ∀ o, w.frozen? ⟨b, o, none⟩ = false := by
  refine ⟨?_, ?_, fun o => frozen_of_row w b o _ eT h⟩ <;> rw [cell_of_row w b _ _ eT (0, 0) h] <;> rfl
theorem own_lit {w : World} (b : UInt8) {c : Int} (hc : (b.toNat : Int) = c) : Src (w.alloc (.cells #[.int .u8 c] e)) (some ⟨w.heap.size, 0, none⟩) 1 1 (Lib.byteCells [b]) := by subst hc; exact src_new _ _ rfl 1 _ rfl rfl
end Go.Proofs.YtmghlakedaigpaaDoor
