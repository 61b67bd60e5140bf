import Derived.Test.YthneiolcljnbeaaGreatDoorzN4
import Derived.Test.YthneiolcljnbeaaGreatDoorzV18
import Derived.Deep.RegionHeld3
import Derived.Deep.RegionLaw
import Derived.Deep.DeepCutAuto
import Derived.Outline
namespace Go.Proofs.YthneiolcljnbeaaGreatDoor
open Go Go.RowKit
section
theorem int_info : (Tryz.prog.info? 3).map (fun i => (i.zero, i.size, i.bytes)) = some (some (.int .i64 0), 1, 8) := by kernel_rfl
theorem term_info : (Tryz.prog.info? 69).map (fun i => (i.zero, i.size, i.bytes)) = some (some (.agg #[.int .i64 0, .int .i64 0]), 2, 16) := by kernel_rfl
theorem i64_small {n : Nat} (h : n ≤ 31) : I64 (n : Int) := ⟨by omega, by omega⟩
def masksL (M : Nat → Nat) (n : Nat) : List Int := (List.range n).map fun u => ((M u : Nat) : Int)
theorem masksL_len (M : Nat → Nat) (n : Nat) : (masksL M n).length = n := by simp [masksL]
theorem masksL_get (M : Nat → Nat) {n k : Nat} (h : k < (masksL M n).length) : (masksL M n)[k] = ((M k : Nat) : Int) := by simp [masksL]
def FullsPost (ns : List Nat) (w : World) (e : Ending) (w' : World) : Prop := ∃ v, e = .returned v ∧ OwnF fInt 3 w.heap.size w' v (masksL (fullN ns) ns.length) ∧ Below w.heap.size w w'
def TermsPost (r : Option (List Term)) (w : World) (e : Ending) (w' : World) : Prop := ∃ sv, e = .returned (.tuple #[sv, .bool r.isSome]) ∧ SliceRd tTerm w' (Lt w'.heap.size) sv (r.getD []) ∧ Below w.heap.size w w'
def TermsNew (r : Option (List Term)) (w : World) (e : Ending) (w' : World) : Prop := ∃ sv, e = .returned (.tuple #[sv, .bool r.isSome]) ∧ SliceRd tTerm w' (fun b => w.heap.size ≤ b ∧ b < w'.heap.size) sv (r.getD []) ∧ Below w.heap.size w w'
theorem TermsNew.post {r : Option (List Term)} {w w' : World} {e : Ending} (h : TermsNew r w e w') : TermsPost r w e w' := by
 obtain ⟨sv, h1, h2, h3⟩ := h
 exact ⟨sv, h1, h2.more fun _ hb => hb.2, h3⟩
theorem TermsNew.before {r : Option (List Term)} {w0 w w' : World} {e : Ending} (hb : Below w0.heap.size w0 w) (h : TermsNew r w e w') : TermsNew r w0 e w' := by
 obtain ⟨sv, h1, h2, h3⟩ := h
 exact ⟨sv, h1, h2.more fun _ h => ⟨Nat.le_trans hb.size h.1, h.2⟩, bstep hb h3⟩
theorem own_new_terms {e : TypeId} {B C : Nat} {w : World} {v : Value} {l : List Term} (h : OwnF fTerm e B w v l) (hC : C ≤ B) : SliceRd tTerm w (fun b => C ≤ b ∧ b < w.heap.size) v l := rd_of_ownF (f := fTerm) h.1 h.2 fun g hg => ⟨Nat.le_trans hC (h.lt g hg).1, (h.lt g hg).2⟩
end
section
def butL (l : List Term) (u : Int) : List Term := l.filter fun t => !(t.unit == u)
end
section
def unitL (l : List Term) (u : Nat) : List Term := l.filter fun t => t.unit == (u : Int)
def sortL (l : List Term) (n : Nat) : List Term := (List.range n).flatMap fun u => unitL l u
end
end Go.Proofs.YthneiolcljnbeaaGreatDoor
