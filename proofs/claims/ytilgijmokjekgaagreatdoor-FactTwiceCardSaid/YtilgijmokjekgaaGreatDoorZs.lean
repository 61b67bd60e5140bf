/- Plain: the small world of law23, its rows. No program stands here. -/
import Derived.Test.YtilgijmokjekgaaGreatDoorzGW
import Derived.Test.YtilgijmokjekgaaGreatDoorzV15
import Derived.Test.YtilgijmokjekgaaGreatDoorzY15
import Derived.Outline
namespace Go.Proofs.YtilgijmokjekgaaGreatDoor
open Go Go.RowKit

def sAll : SetD := ⟨[wholeSpan], [wholeSpan]⟩
def e0 : ByteArray := ⟨#[]⟩
/-- The project needs ant, ant needs bee, which has no candidate. -/
def smallT : List UnitW := [⟨e0, e0, [⟨⟨0, 0, 0, e0, e0⟩, -1, [[⟨1, sAll⟩]], []⟩]⟩, ⟨⟨#[97, 110, 116]⟩, e0, [⟨⟨1, 0, 0, e0, e0⟩, 0, [[⟨2, sAll⟩]], []⟩]⟩, ⟨⟨#[98, 101, 101]⟩, e0, []⟩]
def ns3 : List Nat := [1, 1, 0]
theorem smallT_ns : nsOf smallT = ns3 := rfl
theorem ns3_ok : NsOk ns3 := ⟨by decide, by decide, fun k h => by
  match k, h with
  | 0, _ => exact Nat.le_of_ble_eq_true rfl
  | 1, _ => exact Nat.le_of_ble_eq_true rfl
  | 2, _ => exact Nat.le_of_ble_eq_true rfl⟩
theorem sAll_ok : sAll.ok := ⟨by show 1 ≤ 4000; omega, by show 1 ≤ 4000; omega⟩
theorem smallT_ok : UnitsOk smallT := by
  refine ⟨ns3_ok, fun u hu c hc => ?_⟩
  rcases List.mem_cons.1 hu with rfl | hu
  · rcases List.mem_singleton.1 hc with rfl
    refine ⟨by show 1 ≤ 8; omega, fun r hr => ?_, by show 0 ≤ 4; omega, fun x hx => by cases hx⟩
    rcases List.mem_singleton.1 hr with rfl
    refine ⟨by show 1 ≤ 2; omega, fun x hx => ?_⟩
    rcases List.mem_singleton.1 hx with rfl
    exact ⟨by show (0 : Int) ≤ 1; omega, by show (1 : Int) < 3; omega, sAll_ok⟩
  · rcases List.mem_cons.1 hu with rfl | hu
    · rcases List.mem_singleton.1 hc with rfl
      refine ⟨by show 1 ≤ 8; omega, fun r hr => ?_, by show 0 ≤ 4; omega, fun x hx => by cases hx⟩
      rcases List.mem_singleton.1 hr with rfl
      refine ⟨by show 1 ≤ 2; omega, fun x hx => ?_⟩
      rcases List.mem_singleton.1 hx with rfl
      exact ⟨by show (0 : Int) ≤ 2; omega, by show (2 : Int) < 3; omega, sAll_ok⟩
    · rcases List.mem_singleton.1 hu with rfl
      cases hc
theorem sAll_has : hasB sAll ⟨1, 0, 0, e0, e0⟩ = true := by decide +kernel
theorem smallT_met1 : metN smallT ⟨1, sAll⟩ = 2 := by
  show metTo [⟨⟨1, 0, 0, e0, e0⟩, 0, [[⟨2, sAll⟩]], []⟩] sAll 1 = 2
  rw [metTo_succ (by decide)]
  show metTo _ sAll 0 + (if hasB sAll ⟨1, 0, 0, e0, e0⟩ = true then 2 ^ (0 + 1) else 0) = 2
  rw [sAll_has]
  rfl
theorem smallT_met2 : metN smallT ⟨2, sAll⟩ = 0 := rfl
theorem smallT_c0 : clauseL smallT 0 0 [⟨1, sAll⟩] false = [⟨0, 2⟩, ⟨1, 1⟩] := by
  show [(⟨((0 : Nat) : Int), ((2 ^ (0 + 1) : Nat) : Int)⟩ : Term), clauseT smallT false ⟨1, sAll⟩] = _
  unfold clauseT
  rw [smallT_met1]
  rfl
theorem smallT_c1 : clauseL smallT 1 0 [⟨2, sAll⟩] false = [⟨1, 2⟩, ⟨2, 1⟩] := by
  show [(⟨((1 : Nat) : Int), ((2 ^ (0 + 1) : Nat) : Int)⟩ : Term), clauseT smallT false ⟨2, sAll⟩] = _
  unfold clauseT
  rw [smallT_met2]
  rfl
def r3a : RowN := ⟨2, 0, meetN ns3 [⟨0, 2⟩, ⟨1, 1⟩]⟩
def r3b : RowN := ⟨2, 1, meetN ns3 [⟨1, 2⟩, ⟨2, 1⟩]⟩
theorem smallT_all : allN smallT = [rootN ns3, r3a, r3b] := by
  have h1 : addN smallT 0 0 2 false [rootN ns3] [⟨1, sAll⟩] = [rootN ns3, r3a] := by
    unfold addN
    rw [smallT_c0, smallT_ns, if_pos (by decide +kernel)]
    rfl
  have h2 : addN smallT 1 0 2 false [rootN ns3, r3a] [⟨2, sAll⟩] = [rootN ns3, r3a, r3b] := by
    unfold addN
    rw [smallT_c1, smallT_ns, if_pos (by decide +kernel)]
    rfl
  show addN smallT 1 0 2 false (addN smallT 0 0 2 false [rootN ns3] [⟨1, sAll⟩]) [⟨2, sAll⟩] = _
  rw [h1, h2]
theorem r3a_terms : canon ns3 r3a.M = [⟨0, 2⟩, ⟨1, 1⟩] := by decide +kernel
theorem r3b_terms : canon ns3 r3b.M = [⟨1, 2⟩] := by decide +kernel
theorem smallT_rows : (allN smallT).map (rowOf ns3) = [⟨1, 0, 0, 0, [⟨0, 1⟩]⟩, ⟨2, 0, 0, 0, [⟨0, 2⟩, ⟨1, 1⟩]⟩, ⟨2, 1, 0, 0, [⟨1, 2⟩]⟩] := by
  rw [smallT_all]
  show [rowOf ns3 (rootN ns3), rowOf ns3 r3a, rowOf ns3 r3b] = _
  unfold rowOf
  rw [r3a_terms, r3b_terms, (root_ok ns3_ok rfl).2]
  rfl
theorem smallT_right : rightR smallT ⟨2, 1, 0, 0, [⟨1, 2⟩]⟩ = true := by
  have h1 : mayL (nsOf smallT) [⟨1, 2⟩] = true := by decide +kernel
  rw [right_says rfl rfl h1 (by decide)]
  show (true && (decide ((0 : Int) ≤ 1 ∧ (1 : Int) < 3) && saysN smallT false (masksF ns3 [⟨1, 2⟩]) 1)) = true
  rw [decide_eq_true (by omega), Bool.true_and, Bool.true_and]
  refine says_true (by decide +kernel) fun p hp hb => ?_
  have h2 : masksF ns3 [⟨1, 2⟩] 1 = 2 := by decide +kernel
  rw [h2] at hb
  obtain rfl : p = 0 := by
    have h3 : (2 : Nat).testBit (p + 1) = true := hb
    rw [show (2 : Nat) = 2 ^ 1 from rfl, Nat.testBit_two_pow] at h3
    have := of_decide_eq_true h3
    omega
  show brokenN smallT false _ 1 0 ⟨⟨1, 0, 0, e0, e0⟩, 0, [[⟨2, sAll⟩]], []⟩ = true
  unfold brokenN
  show ([[(⟨2, sAll⟩ : WantD)]].any fun r => r.all (lostN smallT (masksF ns3 [⟨1, 2⟩]) 1 0)) = true
  show ((lostN smallT (masksF ns3 [⟨1, 2⟩]) 1 0 ⟨2, sAll⟩ && true) || false) = true
  unfold lostN
  rw [smallT_met2, Nat.zero_and]
  rfl
end Go.Proofs.YtilgijmokjekgaaGreatDoor
