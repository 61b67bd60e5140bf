/- Contracts: mark.held, mark.text. -/
import Derived.Test.YtmdnleafpmondaaDoorzW
namespace Go.Proofs.YtmdnleafpmondaaDoor
open Go Go.RowKit

def strV (s : List UInt8) : Value := .string ⟨s.toArray⟩
/-- A tree's text is told wherever its nodes lie. -/
def TextAt (f : FuncId) (g : Frm) : Prop := ∀ (G : List Frm) (l : List Node) (v : Value) (w : World) (j : Nat), SliceRd tNode w (Lt w.heap.size) v l → TreeAt l G → G[j]? = some g → l.length ≤ 15 →
  Calls Tryd.prog f #[v, .int .i64 j] w fun e w' => e = .returned (strV (textL g)) ∧ Below w.heap.size w w'
theorem subs_small {l : List Node} {G : List Frm} (h : TreeAt l G) : ∀ {j : Nat} {g : Frm}, G[j]? = some g → g.size ≤ j + 1 := by
  intro j
  induction j using Nat.strongRecOn with
  | _ j ih =>
    intro g hg
    cases g with
    | is k s => simp [Frm.size]
    | no a =>
      obtain ⟨h1, h2⟩ := h.no j a hg
      have := ih (j - 1) (by omega) h2
      simp only [Frm.size]; omega
    | two c a b =>
      obtain ⟨h1, h2, h3⟩ := h.two j c a b hg
      have := ih (j - 1 - b.size) (by omega) h3
      simp only [Frm.size]; omega
theorem subs_len {l : List Node} {G : List Frm} (h : TreeAt l G) (h15 : l.length ≤ 15) {j : Nat} {g : Frm} (hg : G[j]? = some g) : (textL g).length ≤ 300 := by
  have h1 := subs_small h hg
  have h2 := get_lt hg
  have h3 := h.len
  have h4 := textL_len (h.ok j g hg)
  omega
theorem rstrx {a b : ByteArray} (h : a.data.toList = b.data.toList) : Ending.returned (.string a) = .returned (.string b) := by
  rw [show a = b from ByteArray.ext (Array.ext' h)]
theorem strV_size (s : List UInt8) : (⟨s.toArray⟩ : ByteArray).size = s.length := by simp [ByteArray.size]

set_option maxRecDepth 100000 in
set_option maxHeartbeats 1000000 in
theorem held_of {g : Frm} (T : TextAt 52 g) (G : List Frm) (l : List Node) (v : Value) (w : World) (j : Nat) (b : Bool) (h : SliceRd tNode w (Lt w.heap.size) v l) (ht : TreeAt l G) (hg : G[j]? = some g) (h15 : l.length ≤ 15) :
    Calls Tryd.prog 66 #[v, .int .i64 j, .bool b] w fun e w' => e = .returned (strV (heldL b (textL g))) ∧ Below w.heap.size w w' := by
  have hlen := subs_len ht h15 hg
  have TT := hid (T G l v w j h ht hg h15)
  clear T h ht hg h15
  have hsz := strV_size (textL g)
  have hsz2 : (⟨#[40, 32]⟩ ++ ⟨(textL g).toArray⟩ : ByteArray).size = 2 + (textL g).length := by rw [ByteArray.size_append, hsz]; rfl
  cases b with
  | true =>
    go_enter Tryd.func66, Tryd.ntmps66
    go_wp2_with (first
      | (go_at_call 52; refine TT.out.mono ?_; rintro e w1 ⟨rfl, hb1⟩; unfold strV))
    go_ret
    exact ⟨rstrx (by simp [heldL, brk]), hb1⟩
  | false =>
    go_enter Tryd.func66, Tryd.ntmps66
    go_wp2_with (first
      | (go_at_call 52; refine TT.out.mono ?_; rintro e w1 ⟨rfl, hb1⟩; unfold strV))
    go_ret
    exact ⟨rfl, hb1⟩
end Go.Proofs.YtmdnleafpmondaaDoor
