/- Contracts: linchpinmade.Place, At. -/
import Derived.Test.YtmghlakedaigpaaDoorRows
import Derived.Test.YtmghlakedaigpaaDoorMem
namespace Go.Proofs.YtmghlakedaigpaaDoor
open Go Go.RowKit

theorem ret_int {k : IntKind} {a b : Int} (h : a = b) : Ending.returned (.int k a) = .returned (.int k b) := by rw [h]
theorem ret_bool {a b : Bool} (h : a = b) : Ending.returned (.bool a) = .returned (.bool b) := by rw [h]

/-- 'Place': any number as one from 0 below n. -/
def placeF (v n : Int) : Int := if n < 1 then 0 else v % n
theorem placeF_lo (v n : Int) : 0 ≤ placeF v n := by
  unfold placeF; split
  · omega
  · exact Int.emod_nonneg _ (by omega)
theorem placeF_hi (v n : Int) (h : 1 ≤ n) : placeF v n < n := by
  unfold placeF; rw [if_neg (by omega)]; exact Int.emod_lt_of_pos _ (by omega)
theorem tmod_neg {v n : Int} (hn : 1 ≤ n) (h : v.tmod n < 0) : v.tmod n + n = v % n := by
  have h1 := Int.tmod_eq_emod (a := v) (b := n)
  have h2 := Int.emod_nonneg v (show n ≠ 0 by omega)
  have h3 := Int.emod_lt_of_pos v (show 0 < n by omega)
  split at h1 <;> omega
theorem tmod_nonneg {v n : Int} (hn : 1 ≤ n) (h : ¬ v.tmod n < 0) : v.tmod n = v % n := by
  have h1 := Int.tmod_eq_emod (a := v) (b := n)
  have h2 := Int.emod_nonneg v (show n ≠ 0 by omega)
  have h3 := Int.emod_lt_of_pos v (show 0 < n by omega)
  split at h1 <;> omega

set_option maxHeartbeats 400000 in
theorem place_any (v n : Int) (w : World) (hv : I64 v) (hn : I64 n) :
    Calls Tryd.prog 19 #[.int .i64 v, .int .i64 n] w fun e w' => e = .returned (.int .i64 (placeF v n)) ∧ w = w' := by
  obtain ⟨hv1, hv2⟩ := hv
  obtain ⟨hn1, hn2⟩ := hn
  go_enter Tryd.func19, Tryd.ntmps19
  by_cases h : n < 1
  · go_wp2
    go_ret
    exact ⟨ret_int (by unfold placeF; rw [if_pos h]), rfl⟩
  · have hz : (n == 0) = false := by simp; omega
    have t1 : v.tmod n < n := by
      have h1 := Int.tmod_eq_emod (a := v) (b := n)
      have h3 := Int.emod_lt_of_pos v (show 0 < n by omega)
      split at h1 <;> omega
    have t2 : -n < v.tmod n := by
      have h1 := Int.tmod_eq_emod (a := v) (b := n)
      have h2 := Int.emod_nonneg v (show n ≠ 0 by omega)
      split at h1 <;> omega
    go_wp2
    all_goals go_ret
    · exact ⟨ret_int (by unfold placeF; rw [if_neg (by omega)]; exact tmod_neg (by omega) ‹_›), rfl⟩
    · exact ⟨ret_int (by unfold placeF; rw [if_neg (by omega)]; exact tmod_nonneg (by omega) (by omega)), rfl⟩

/-- 'At': a list's number; behind it: a small one. -/
def atF (l : List Int) (i : Int) : Int := if i < 0 ∨ (l.length : Int) ≤ i then i.tmod 3 else l.getD i.toNat 0
theorem atF_i64 {l : List Int} {i : Int} (hl : ∀ x ∈ l, I64 x) (hi : I64 i) : I64 (atF l i) := by
  unfold atF
  split
  · have h1 := Int.tmod_eq_emod (a := i) (b := 3)
    obtain ⟨h2, h3⟩ := hi
    unfold I64
    split at h1 <;> omega
  · rename_i h
    have hlt : i.toNat < l.length := by omega
    rw [List.getD_eq_getElem?_getD, List.getElem?_eq_getElem hlt]
    exact hl _ (List.getElem_mem hlt)

/-- A slice of ints, opened. -/
theorem SliceRd.ints {w : World} {F : Nat → Prop} {v : Value} {l : List Int} (h : SliceRd tInt w F v l) :
    ∃ A cap, v = .slice A l.length cap ∧ l.length ≤ cap ∧ cap ≤ maxLen ∧
      ∀ k, (hk : k < l.length) → ∃ g o, A = some ⟨g, o, none⟩ ∧ F g ∧ w.cell? ⟨g, o + k, none⟩ = some (.int .i64 l[k]) ∧ I64 l[k] := by
  obtain ⟨A, cap, hv, h1, h2, h3⟩ := h.shape
  refine ⟨A, cap, hv, h1, h2, fun k hk => ?_⟩
  obtain ⟨g, o, cs, hA, hF, hc, hcell, rfl, hi⟩ := h3 k hk
  have e0 := hcell 0 (by show 0 < 1; omega)
  simp only [tInt, Nat.mul_one, Nat.add_zero] at e0
  exact ⟨g, o, hA, hF, e0, hi⟩

set_option maxHeartbeats 400000 in
theorem at_any (v : Value) (l : List Int) (i : Int) (w : World) (F : Nat → Prop) (h : SliceRd tInt w F v l) (hi : I64 i) :
    Calls Tryd.prog 20 #[v, .int .i64 i] w fun e w' => e = .returned (.int .i64 (atF l i)) ∧ w = w' := by
  obtain ⟨A, cap, rfl, hcap, hmax, hc⟩ := h.ints
  unfold maxLen at hmax
  obtain ⟨hi1, hi2⟩ := hi
  have HC := hid hc
  clear hc h
  go_enter Tryd.func20, Tryd.ntmps20
  by_cases h1 : i < 0
  · go_wp2
    go_ret
    exact ⟨ret_int (by unfold atF; rw [if_pos (.inl h1)]), rfl⟩
  · by_cases h2 : (l.length : Int) ≤ i
    · go_wp2
      go_ret
      exact ⟨ret_int (by unfold atF; rw [if_pos (.inr h2)]; first | rfl | exact (Int.tmod_eq_emod_of_nonneg (by omega)).symm | trace_state), rfl⟩
    · obtain ⟨g, o, hA, hF, g0, hj⟩ := HC.out i.toNat (by omega)
      cases hA
      go_wp2
      go_ret
      exact ⟨ret_int (by unfold atF; rw [if_neg (by omega), List.getD_eq_getElem?_getD, List.getElem?_eq_getElem (by omega)]; rfl), rfl⟩

end Go.Proofs.YtmghlakedaigpaaDoor
