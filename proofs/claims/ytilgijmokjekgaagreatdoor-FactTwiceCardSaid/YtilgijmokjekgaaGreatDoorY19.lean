/- Contract: fact.All. -/
import Derived.Test.YtilgijmokjekgaaGreatDoorzY15
import Derived.Test.YtilgijmokjekgaaGreatDoorzN11
import Derived.Deep.RegionHeld3
import Derived.Deep.DeepCutAuto
import Derived.Deep.RegionLaw
import Derived.Outline
namespace Go.Proofs.YtilgijmokjekgaaGreatDoor
open Go Go.RowKit

/-- What fact.All gives. -/
def AllOwn (us : List UnitW) (w : World) (e : Ending) (w' : World) : Prop := ∃ rv tvs, e = .returned rv ∧ Copied 36 55 w' w.heap.size rv ((allN us).map (rowOf (nsOf us))) tvs ∧ Below w.heap.size w w'
/-- The rows ahead of a candidate. -/
def rowsAt (us : List UnitW) (u p : Nat) : List RowN := match us[u]? with
  | some x => candsN us u (unitsN us u) x.cands p
  | none => unitsN us u
theorem rowsAt_lt {us : List UnitW} {u : Nat} (h : u < us.length) (p : Nat) : rowsAt us u p = candsN us u (unitsN us u) us[u].cands p := by
  unfold rowsAt
  rw [List.getElem?_eq_getElem h]
theorem rowsAt_zero (us : List UnitW) (u : Nat) : rowsAt us u 0 = unitsN us u := by
  unfold rowsAt
  split <;> rfl
theorem all_start {us : List UnitW} {w : World} (ho : UnitsOk us) (h0 : (nsOf us).head? = some 1) : AllSt (nsOf us) w.heap.size w (((w.alloc (.cells #[.int .i64 0, .int .i64 1] 55)).alloc (.cells #[.int .i64 1, .int .i64 0, .int .i64 0, .int .i64 0, .slice (some ⟨w.heap.size, 0, none⟩) 1 1] 36)).alloc (.map #[] 0)) (w.heap.size + 2) (.slice (some ⟨w.heap.size + 1, 0, none⟩) 1 1) (unitsN us 0) [.slice (some ⟨w.heap.size, 0, none⟩) 1 1] := by
  obtain ⟨hr, hc⟩ := root_ok ho.ns h0
  obtain ⟨w1, hw1⟩ : ∃ w1 : World, w1 = w.alloc (.cells #[.int .i64 0, .int .i64 1] 55) := ⟨_, rfl⟩
  have hn := own_new (f := fTerm) (e := 55) (w := w) (l := [⟨0, 1⟩]) (cs := #[.int .i64 0, .int .i64 1]) rfl (fun x hx => by rw [List.mem_singleton.1 hx]; exact ⟨⟨by decide, by decide⟩, ⟨by decide, by decide⟩⟩) (by simp [maxLen])
  rw [← hw1] at hn ⊢
  have hs1 : w1.heap.size = w.heap.size + 1 := by rw [hw1]; simp
  have hb1 : Below w.heap.size w w1 := hw1 ▸ balloc (b0 w) _
  obtain ⟨w2, hw2⟩ : ∃ w2 : World, w2 = w1.alloc (.cells #[.int .i64 1, .int .i64 0, .int .i64 0, .int .i64 0, .slice (some ⟨w.heap.size, 0, none⟩) 1 1] 36) := ⟨_, rfl⟩
  have hs2 : w2.heap.size = w.heap.size + 2 := by rw [hw2]; simp [hs1]
  have hb2 : Below w1.heap.size w1 w2 := hw2 ▸ balloc (b0 w1) _
  have ho1 : w2.ownsRow w.heap.size 36 5 (.slice (some ⟨w.heap.size + 1, 0, none⟩) 1 1) 1 [.int .i64 1, .int .i64 0, .int .i64 0, .int .i64 0, .slice (some ⟨w.heap.size, 0, none⟩) 1 1] := by
    rw [hw2, ← hs1]
    exact ⟨by simp, .inr ⟨w1.heap.size, 1, #[.int .i64 1, .int .i64 0, .int .i64 0, .int .i64 0, .slice (some ⟨w.heap.size, 0, none⟩) 1 1], rfl, by omega, heap_alloc_new w1 _, by omega, by unfold maxLen; omega, by simp, by simp⟩⟩
  have hg : w1.grownBy w2 (Value.slice none 0 0).ownBlock := by rw [hw2]; exact World.grownBy_alloc w1 _ none
  have hrow : rowOf (nsOf us) (rootN (nsOf us)) = ⟨1, 0, 0, 0, [⟨0, 1⟩]⟩ := by
    unfold rowOf
    rw [hc]
    rfl
  have ht : w1.ownsRow w.heap.size 55 2 (.slice (some ⟨w.heap.size, 0, none⟩) 1 1) 1 (termCells [⟨0, 1⟩]) := by
    have h3 := hn.1
    rw [fTerm_all] at h3
    exact h3
  have hcop := (Copied.nil (eR := 36) (eT := 55) (by decide) w1 w.heap.size).snoc (r := ⟨1, 0, 0, 0, [⟨0, 1⟩]⟩) (tv := .slice (some ⟨w.heap.size, 0, none⟩) 1 1) (v' := .slice (some ⟨w.heap.size + 1, 0, none⟩) 1 1) (w' := w2) ho1 hg
    ⟨⟨by decide, by decide⟩, ⟨by decide, by decide⟩, ⟨by decide, by decide⟩, ⟨by decide, by decide⟩, fun t ht => by rw [List.mem_singleton.1 ht]; exact ⟨⟨by decide, by decide⟩, ⟨by decide, by decide⟩⟩⟩ ht (fun k hk => absurd hk (by simp))
  rw [← hw2]
  have hb3 : Below w2.heap.size w2 (w2.alloc (.map #[] 0)) := balloc (b0 w2) _
  refine ⟨?_, ⟨0, ?_⟩, bstep (bstep hb1 hb2) hb3, by omega⟩
  · show Copied _ _ _ _ _ [rowOf (nsOf us) (rootN (nsOf us))] _
    rw [hrow]
    exact hcop.below hb3 (Nat.le_refl _)
  · rw [← hs2]
    refine (MapG.made kAlike w2).congr fun k => ?_
    exact (keyF_root (fun x hx => by rw [List.mem_singleton.1 hx]; rfl) k).symm
end Go.Proofs.YtilgijmokjekgaaGreatDoor
