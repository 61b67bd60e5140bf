/- An array that the call makes: its block whole. No program stands here. -/
import Derived.Test.YtmghlakedaigpaaDoorCopied
import Derived.Laws.MakeOwn
namespace Go.Proofs.YtmghlakedaigpaaDoor
open Go Go.RowKit

/-- Block b holds just these cells. -/
def Arr (e : TypeId) (w : World) (b : Nat) (xs : List Value) : Prop := w.heap[b]? = some (.cells xs.toArray e (0, 0))
section
variable {e : TypeId} {w w' : World} {b : Nat} {xs : List Value}
theorem Arr.cell (h : Arr e w b xs) {i : Nat} (hi : i < xs.length) : w.cell? ⟨b, i, none⟩ = some xs[i] := by
  unfold Arr at h
  rw [cell_of_row w b i _ e (0, 0) h]
  simp [hi]
theorem Arr.free (h : Arr e w b xs) (o : Nat) : w.frozen? ⟨b, o, none⟩ = false := frozen_of_row w b o _ e h
theorem Arr.lt (h : Arr e w b xs) : b < w.heap.size := (Array.getElem?_eq_some_iff.1 h).1
theorem Arr.keep (h : Arr e w b xs) (hk : w'.heap[b]? = w.heap[b]?) : Arr e w' b xs := hk.trans h
theorem Arr.below {B : Nat} (h : Arr e w b xs) (hb : Below B w w') (hB : b < B) : Arr e w' b xs := h.keep (hb.block b hB)
theorem Arr.set (h : Arr e w b xs) (i : Nat) (x : Value) : Arr e (w.setCell ⟨b, i, none⟩ x) b (xs.set i x) := by
  unfold Arr at h ⊢
  rw [heap_setCell_same w b _ _ e _ h]
  simp
theorem Arr.new (e : TypeId) (w : World) (xs : List Value) : Arr e (w.alloc (.cells xs.toArray e)) w.heap.size xs := heap_alloc_new w _
theorem Arr.alloc (h : Arr e w b xs) (o : Obj) : Arr e (w.alloc o) b xs := h.keep (Below.heap_alloc w o b h.lt)
theorem Arr.other (h : Arr e w b xs) {p : Addr} (hp : b ≠ p.block) (x : Value) : Arr e (w.setCell p x) b xs := h.keep (heap_setCell_other _ _ _ _ hp)
theorem Arr.congr {ys : List Value} (h : Arr e w b xs) (he : xs = ys) : Arr e w b ys := he ▸ h
end
/-- n zero cells. -/
def zeros (n : Nat) (z : Value) : Array Value := (List.replicate n z).toArray
theorem run_make_arr {P : Program} {t e : TypeId} {i : TypeInfo} {z : Value} {bytes : Nat} (ht : P.underlying t = some (.slice e)) (hi : P.info? e = some i) (hz : i.zero = some z) (hsize : i.size = 1) (hby : i.bytes = bytes) (hzc : z.cells = #[z])
    (n : Nat) (hb : (bytes : Int) * n ≤ 281474976710656) (hn : (n : Int) ≤ 9223372036854775807) (w : World) :
    (Instr.makeSlice t (.int .i64 n) (.int .i64 n)).run P w = .ok (.slice (some ⟨w.heap.size, 0, none⟩) n n) (w.alloc (.cells (zeros n z) e)) := by
  have hr := run_make w t e i z ht hi hz .i64 .i64 n n (by omega) (Int.le_refl _) (by rw [hby]; exact hb) hn
  rw [hr]
  have hc : madeCells z.cells ((n : Int).toNat * i.size) = zeros n z := by
    rw [hsize, hzc]
    apply Array.ext_getElem?
    intro k
    simp only [madeCells, zeros, Int.toNat_natCast, Nat.mul_one, List.getElem?_toArray, List.getElem?_replicate]
    by_cases hk : k < n <;> simp [hk, Nat.mod_one]
  rw [hc]
  simp
theorem Arr.zeros (e : TypeId) (w : World) (n : Nat) (z : Value) : Arr e (w.alloc (.cells (zeros n z) e)) w.heap.size (List.replicate n z) := heap_alloc_new w _
end Go.Proofs.YtmghlakedaigpaaDoor
