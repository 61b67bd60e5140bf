/- Rows of flat data of the call's own. No program stands here. -/
import Derived.Test.YtmghlakedaigpaaDoorLater
import Derived.Outline
namespace Go.Proofs.YtmghlakedaigpaaDoor
open Go Go.RowKit

section
variable {α : Type} {f : Flat α} {e : TypeId} {B : Nat} {w w' : World} {v v' : Value} {l : List α}
/-- A row of flat data of the call's own. -/
def OwnF (f : Flat α) (e : TypeId) (B : Nat) (w : World) (v : Value) (l : List α) : Prop := w.ownsRow B e f.size v l.length (f.all l) ∧ ∀ x ∈ l, f.ok x
theorem OwnF.form (h : OwnF f e B w v l) : ∃ A c, v = .slice A l.length c := own_form h.1
theorem OwnF.below {M : Nat} (h : OwnF f e B w v l) (hb : Below M w w') (hM : w.heap.size ≤ M) : OwnF f e B w' v l :=
  ⟨ownsRow_below h.1 hb fun g hg => Nat.lt_of_lt_of_le (h.1.lt g hg).2 hM, h.2⟩
theorem OwnF.rd (h : OwnF f e B w v l) : SliceRd f.ty w (Lt w.heap.size) v l := rd_of_ownF h.1 h.2 (fun g hg => (h.1.lt g hg).2)
theorem OwnF.nil (f : Flat α) (e : TypeId) (B : Nat) (w : World) : OwnF f e B w (.slice none 0 0) [] := ⟨⟨by simp [Flat.all_nil], .inl ⟨rfl, rfl⟩⟩, fun s h => by cases h⟩
theorem OwnF.mono {B' : Nat} (h : OwnF f e B w v l) (hB : B' ≤ B) : OwnF f e B' w v l := by
  refine ⟨⟨h.1.1, ?_⟩, h.2⟩
  rcases h.1.2 with h1 | ⟨g, cap, cur, h1, h2, h3⟩
  · exact .inl h1
  · exact .inr ⟨g, cap, cur, h1, Nat.le_trans hB h2, h3⟩
theorem OwnF.snoc {x : α} (h : OwnF f e B w v l) (hx : f.ok x) (hown : w'.ownsRow B e f.size v' (l.length + 1) (f.all l ++ f.cells x)) : OwnF f e B w' v' (l ++ [x]) := by
  refine ⟨?_, fun y hy => ?_⟩
  · rw [f.all_snoc, List.length_append]
    exact hown
  · rcases List.mem_append.1 hy with hy | hy
    · exact h.2 y hy
    · have : y = x := by simpa using hy
      subst this; exact hx
theorem OwnF.lt (h : OwnF f e B w v l) : ∀ g, v.ownBlock = some g → B ≤ g ∧ g < w.heap.size := h.1.lt
theorem own_put {n s : Nat} {xs : List Value} (h : w.ownsRow B e s v n xs) {g : Nat} (hg : v.ownBlock = some g) {i : Nat} (hi : i < n * s) (x : Value) : (w.setCell ⟨g, i, none⟩ x).ownsRow B e s v n (xs.set i x) := by
  have _ := hi
  refine ⟨by rw [List.length_set]; exact h.1, ?_⟩
  rcases h.2 with ⟨rfl, _⟩ | ⟨g', cap, cur, rfl, hb, hgg, h1, h2, h3, h4⟩
  · cases hg
  · obtain rfl : g' = g := Option.some.inj hg
    refine .inr ⟨g', cap, cur.setIfInBounds i x, rfl, hb, ?_, h1, h2, by rw [Array.size_setIfInBounds]; exact h3, ?_⟩
    · exact heap_setCell_same w g' i _ e _ hgg
    · rw [Array.toList_setIfInBounds, List.take_set, h4]
/-- The block of a row that is not empty. -/
theorem OwnF.block (h : OwnF f e B w v l) (hl : 0 < l.length) : ∃ g c, v = .slice (some ⟨g, 0, none⟩) l.length c ∧ B ≤ g ∧ g < w.heap.size ∧ (∀ o, w.frozen? ⟨g, o, none⟩ = false) := by
  rcases h.1.2 with ⟨_, h0⟩ | ⟨g, cap, cur, h1, hb, hg, h3⟩
  · omega
  · exact ⟨g, cap, h1, hb, (Array.getElem?_eq_some_iff.1 hg).1, fun o => frozen_of_row w g o _ e hg⟩
/-- Behind an append: what lay below lies as it was. -/
theorem own_app {B : Nat} {w0 wa w2 : World} {v v2 : Value} {f : Flat α} {e : TypeId} {l : List α} (hb : Below B w0 wa) (ho : OwnF f e B wa v l) (hs : B ≤ wa.heap.size) (hg : wa.grownBy w2 v.ownBlock) (_ : v2 = v2) : Below B w0 w2 :=
  hb.grown hg hs fun k hk => (ho.lt k hk).1
/-- An append to a row that lies above B, seen from a world whose blocks lie below B' : they may hold the row only above. -/
theorem own_far {B : Nat} {w0 wa w2 : World} {v : Value} {f : Flat α} {e : TypeId} {l : List α} (hb : Below w0.heap.size w0 wa) (_ : B ≤ w0.heap.size) (ho : OwnF f e w0.heap.size wa v l) (hg : wa.grownBy w2 v.ownBlock) : Below w0.heap.size w0 w2 :=
  hb.grown hg hb.size fun k hk => (ho.lt k hk).1
theorem OwnF.alloc (h : OwnF f e B w v l) (o : Obj) : OwnF f e B (w.alloc o) v l := ⟨h.1.alloc o, h.2⟩
theorem OwnF.drew (h : OwnF f e B w v l) : OwnF f e B w.drew v l := ⟨h.1, h.2⟩
/-- A new block of one. -/
theorem src_one {x : α} {cs : Array Value} (hc : cs.toList = f.cells x) : Src (w.alloc (.cells cs e)) (some ⟨w.heap.size, 0, none⟩) 1 f.size (f.cells x) := src_new cs e rfl f.size _ (f.len x) hc
end
/-- Integers of the call's own. -/
theorem ints_all (l : List Int) : fInt.all l = l.map fun n => Value.int .i64 n := by
  induction l with
  | nil => rfl
  | cons x l ih => rw [fInt.all_cons, ih]; rfl
theorem ints_set {e : TypeId} {B : Nat} {w : World} {v : Value} {l : List Int} (h : OwnF fInt e B w v l) {g : Nat} (hg : v.ownBlock = some g) {i : Nat} (hi : i < l.length) (x : Int) (hx : I64 x) : OwnF fInt e B (w.setCell ⟨g, i, none⟩ (.int .i64 x)) v (l.set i x) := by
  refine ⟨?_, fun y hy => ?_⟩
  · have := own_put h.1 hg (i := i) (by show i < l.length * 1; omega) (.int .i64 x)
    rw [ints_all] at this
    rw [ints_all, List.map_set, List.length_set]
    exact this
  · rcases List.mem_or_eq_of_mem_set hy with h1 | h1
    · exact h.2 y h1
    · subst h1; exact hx
/-- A list that was just made of literals. -/
theorem own_new {α : Type} {f : Flat α} {e : TypeId} {w : World} {l : List α} {cs : Array Value} (hc : cs.toList = f.all l) (hok : ∀ x ∈ l, f.ok x) (hl : l.length ≤ maxLen) : OwnF f e w.heap.size (w.alloc (.cells cs e)) (.slice (some ⟨w.heap.size, 0, none⟩) l.length l.length) l := by
  refine ⟨⟨f.all_length l, .inr ⟨w.heap.size, l.length, cs, rfl, Nat.le_refl _, heap_alloc_new w _, Nat.le_refl _, hl, ?_, ?_⟩⟩, hok⟩
  · rw [← Array.length_toList, hc, f.all_length]
  · rw [hc]
    exact List.take_of_length_le (by rw [f.all_length]; exact Nat.le_refl _)
end Go.Proofs.YtmghlakedaigpaaDoor
