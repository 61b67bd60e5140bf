/- Contract: ref21.Join. -/
import Derived.Test.YtilgijmokjekgaaGreatDoorzN9
import Derived.Outline
namespace Go.Proofs.YtilgijmokjekgaaGreatDoor
open Go Go.RowKit

/-- What a Join gives. -/
def joinR (ns : List Nat) (Ma Mb : Nat → Nat) (unit : Int) : Option (List Term) := if unit < 0 ∨ (ns.length : Int) ≤ unit then none else madeN ns (joinN Ma Mb unit.toNat)
def upto (ns : List Nat) (J : Nat → Nat) (k : Nat) : Nat → Nat := fun v => if v < k then J v else fullN ns v
theorem or_fact (a b : Nat) (ha : a ≤ 31) (hb : b ≤ 31) : bits .or .i64 (a : Int) (b : Int) = ((a ||| b : Nat) : Int) := by
  have h1 : nm (a : Int) = a := nm_nat (by omega)
  have h2 : nm (b : Int) = b := nm_nat (by omega)
  have h3 := or_le31 ha hb
  rw [bor _ _ (by rw [h1, h2]; omega), h1, h2]
theorem and_fact2 (a b : Nat) (ha : a ≤ 31) (hb : b ≤ 31) : bits .and .i64 (a : Int) (b : Int) = ((a &&& b : Nat) : Int) := by
  rw [and_fact a b ha, nm_nat (by omega)]
theorem upto_set (ns : List Nat) (J : Nat → Nat) (k : Nat) : masksL (fun v => if v = k then J k else upto ns J k v) ns.length = masksL (upto ns J (k + 1)) ns.length := masksL_congr fun v _ => by
  unfold upto
  by_cases e : v = k
  · subst e; simp
  · by_cases h : v < k
    · simp [e, h, show v < k + 1 by omega]
    · simp [e, h, show ¬ v < k + 1 by omega]
end Go.Proofs.YtilgijmokjekgaaGreatDoor
