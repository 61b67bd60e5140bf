/- Plain: no two rows of one unit and kind have the same other terms (FactOnce). No program stands here. -/
import Derived.Test.YtilgijmokjekgaaGreatDoorzZa
import Derived.Test.YtilgijmokjekgaaGreatDoorzN9
import Derived.Outline
namespace Go.Proofs.YtilgijmokjekgaaGreatDoor
open Go Go.RowKit

section
variable {ns : List Nat}
/-- The terms of the other units, and the whole of one's own: the terms of the other units. -/
theorem make_drop (ho : NsOk ns) {M : Nat → Nat} (h : IncOk ns M) {u : Nat} (hu : u < ns.length) :
    makeN ns ((⟨(u : Int), (fullN ns u : Int)⟩ : Term) :: butL (canon ns M) (u : Int)) = some (butL (canon ns M) (u : Int)) := by
  rw [but_drop]
  have hd := drop_ok h u
  have hR : inR ns ((⟨(u : Int), (fullN ns u : Int)⟩ : Term) :: canon ns (dropN ns M u)) = true := by
    show ((decide ((0 : Int) ≤ (u : Int)) && decide ((u : Int) < (ns.length : Int))) && inR ns (canon ns (dropN ns M u))) = true
    rw [inR_canon, Bool.and_true, Bool.and_eq_true]
    exact ⟨decide_eq_true (by omega), decide_eq_true (by omega)⟩
  have hm : ∀ v, v < ns.length → meetN ns ((⟨(u : Int), (fullN ns u : Int)⟩ : Term) :: canon ns (dropN ns M u)) v = dropN ns M u v := by
    intro v hv
    apply Nat.eq_of_testBit_eq
    intro k
    rw [meet_bit, List.all_cons, ← canon_all ho hd hv k]
    have hn : nm ((fullN ns u : Nat) : Int) = fullN ns u := nm_nat (by have := fullN_le ho u; omega)
    show ((fullN ns v).testBit k && ((decide ((u : Int) ≠ (v : Int)) || (nm ((fullN ns u : Nat) : Int)).testBit k) && _)) = _
    rw [hn]
    by_cases e : u = v
    · subst e
      cases (fullN ns u).testBit k
      · rfl
      · rw [Bool.or_true, Bool.true_and]
    · have e2 : decide ((u : Int) ≠ (v : Int)) = true := decide_eq_true (by omega)
      rw [e2, Bool.true_or, Bool.true_and]
  unfold makeN
  rw [if_pos hR, madeN_congr hm]
  unfold madeN
  rw [if_pos (okN_iff.2 hd.pos)]
/-- Two rows of one unit and kind: their other terms differ. -/
theorem once_ne {us : List UnitW} {k i : Nat} (hk : k < (allN us).length) (hi : i < (allN us).length) (hlt : k < i) (h1 : (allN us)[k].kind = (allN us)[i].kind) (h2 : (allN us)[k].u = (allN us)[i].u) :
    butL (canon (nsOf us) (allN us)[k].M) ((allN us)[k].u : Int) ≠ butL (canon (nsOf us) (allN us)[i].M) ((allN us)[k].u : Int) := by
  intro h
  have ha := List.pairwise_iff_getElem.1 (all_apart (us := us)) k i hk hi hlt
  have hl := like_iff.2 ⟨h1, h2, by rw [← h2]; exact h⟩
  rw [hl] at ha
  cases ha
end
end Go.Proofs.YtilgijmokjekgaaGreatDoor
