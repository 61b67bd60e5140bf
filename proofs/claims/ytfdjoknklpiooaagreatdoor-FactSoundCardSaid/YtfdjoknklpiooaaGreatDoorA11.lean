/- What put leaves as it was; a candidate's box. Contract: ref23.All (under way). -/
import Derived.Test.YtfdjoknklpiooaaGreatDoorA8
import Derived.Outline
namespace Go.Proofs.YtfdjoknklpiooaaGreatDoor
open Go Go.RowKit

/-- Rows under way: of the call's own; what lay below is as it was. -/
def RowsSt (ns : List Nat) (B : Nat) (w0 : World) (wr : World) (rv : Value) (rows : List RowN) : Prop :=
  (∃ xs, OwnT (tRowN ns) 25 wr B rv rows xs) ∧ Below B w0 wr
theorem RowsSt.later {ns : List Nat} {B : Nat} {w0 wr w1 : World} {rv : Value} {rows : List RowN} (h : RowsSt ns B w0 wr rv rows) (hB : B ≤ wr.heap.size) (hb : Below wr.heap.size wr w1) : RowsSt ns B w0 w1 rv rows := by
  obtain ⟨⟨xs, h1⟩, h2⟩ := h
  exact ⟨⟨xs, h1.later hb⟩, h2.trans (hb.mono hB)⟩
/-- Behind put. -/
theorem RowsSt.put {ns : List Nat} {B : Nat} {w0 wr w1 : World} {rv rv1 : Value} {rows rows1 : List RowN} {xs1 : List Value} (h : RowsSt ns B w0 wr rv rows) (hB : B ≤ wr.heap.size) (h1 : OwnT (tRowN ns) 25 w1 B rv1 rows1 xs1) (hg : wr.grownBy w1 rv.ownBlock) : RowsSt ns B w0 w1 rv1 rows1 := by
  obtain ⟨⟨xs, h0⟩, h2⟩ := h
  exact ⟨⟨xs1, h1⟩, h2.grown hg hB fun k hk => (h0.own.lt k hk).1⟩
/-- A cell that is not of the rows is as it was. -/
theorem cell_put {wr w1 : World} {rv : Value} (hg : wr.grownBy w1 rv.ownBlock) {g o : Nat} {x : Value} (hne : rv.ownBlock ≠ some g) (hc : wr.cell? ⟨g, o, none⟩ = some x) : w1.cell? ⟨g, o, none⟩ = some x :=
  hg.cell hc (by intro e; exact hne e.symm)
/-- The rows' own block is never a block that lay there beside it. -/
theorem own_put_ne {wr _w1 : World} {rv rv1 : Value} {g : Nat} (hg : g < wr.heap.size) (hne : rv.ownBlock ≠ some g) (h : ∀ k, rv1.ownBlock = some k → rv.ownBlock = some k ∨ wr.heap.size ≤ k) : rv1.ownBlock ≠ some g := by
  intro e
  rcases h g e with h1 | h1
  · exact hne h1
  · omega
/-- The root's row, made. -/
theorem rows_start {us : List UnitW} {w : World} (ho : UnitsOk us) (h0 : (nsOf us).head? = some 1) : RowsSt (nsOf us) w.heap.size w ((w.alloc (.cells #[.int .i64 0, .int .i64 1] 73)).alloc (.cells #[.int .i64 1, .int .i64 0, .int .i64 0, .int .i64 0, .slice (some ⟨w.heap.size, 0, none⟩) 1 1] 25)) (.slice (some ⟨w.heap.size + 1, 0, none⟩) 1 1) (unitsN us 0) := by
  have hr := (root_ok ho.ns h0).2
  have hn := own_new (f := fTerm) (e := 73) (w := w) (l := [⟨0, 1⟩]) (cs := #[.int .i64 0, .int .i64 1]) rfl (fun x hx => by rw [List.mem_singleton.1 hx]; exact ⟨⟨by decide, by decide⟩, ⟨by decide, by decide⟩⟩) (by simp [maxLen])
  have hs : SliceRd tTerm (w.alloc (.cells #[.int .i64 0, .int .i64 1] 73)) (fun b => w.heap.size ≤ b ∧ b < (w.alloc (.cells #[.int .i64 0, .int .i64 1] 73)).heap.size) (.slice (some ⟨w.heap.size, 0, none⟩) 1 1) (canon (nsOf us) (rootN (nsOf us)).M) := by
    rw [hr]
    exact own_new_terms hn (Nat.le_refl _)
  have h1 := OwnT.one (t := tRowN (nsOf us)) (e := 25) (x := rootN (nsOf us)) (cs := [.int .i64 1, .int .i64 0, .int .i64 0, .int .i64 0, .slice (some ⟨w.heap.size, 0, none⟩) 1 1]) ⟨_, rfl, hs⟩ (by simp) (ca := #[.int .i64 1, .int .i64 0, .int .i64 0, .int .i64 0, .slice (some ⟨w.heap.size, 0, none⟩) 1 1]) rfl
  rw [show (w.alloc (.cells #[.int .i64 0, .int .i64 1] 73)).heap.size = w.heap.size + 1 by simp] at h1
  exact ⟨⟨_, h1⟩, balloc (balloc (b0 w) _) _⟩
end Go.Proofs.YtfdjoknklpiooaaGreatDoor
