/- Contracts: linchpinlaw0.Place, At, From, word, Name. -/
import Derived.Test.YtmdnleafpmondaaDoorRows
import Derived.Test.YtmdnleafpmondaaDoorzS
import Derived.LoopTactic
namespace Go.Proofs.YtmdnleafpmondaaDoor
open Go Go.RowKit

theorem ret_int {k : IntKind} {a b : Int} (h : a = b) : Ending.returned (.int k a) = .returned (.int k b) := by rw [h]
theorem tmod_neg {v n : Int} (hn : 1 ≤ n) (h : v.tmod n < 0) : v.tmod n + n = v % n := by
  have h1 := Int.tmod_eq_emod (a := v) (b := n)
  have h2 := Int.emod_nonneg v (show n ≠ 0 by omega)
  have h3 := Int.emod_lt_of_pos v (show 0 < n by omega)
  split at h1 <;> omega
theorem tmod_nonneg {v n : Int} (hn : 1 ≤ n) (h : ¬ v.tmod n < 0) : v.tmod n = v % n := by
  have h1 := Int.tmod_eq_emod (a := v) (b := n)
  have h2 := Int.emod_nonneg v (show n ≠ 0 by omega)
  have h3 := Int.emod_lt_of_pos v (show 0 < n by omega)
  split at h1 <;> omega

set_option maxHeartbeats 400000 in
theorem place0_any (v n : Int) (w : World) (hv : I64 v) (hn : 1 ≤ n) (hn2 : n ≤ 1000) :
    Calls Tryd.prog 33 #[.int .i64 v, .int .i64 n] w fun e w' => e = .returned (.int .i64 (v % n)) ∧ w = w' := by
  obtain ⟨hv1, hv2⟩ := hv
  go_enter Tryd.func33, Tryd.ntmps33
  have hz : (n == 0) = false := by simp; omega
  have t1 : v.tmod n < n := by
    have h1 := Int.tmod_eq_emod (a := v) (b := n)
    have h3 := Int.emod_lt_of_pos v (show 0 < n by omega)
    split at h1 <;> omega
  have t2 : -n < v.tmod n := by
    have h1 := Int.tmod_eq_emod (a := v) (b := n)
    have h2 := Int.emod_nonneg v (show n ≠ 0 by omega)
    split at h1 <;> omega
  go_wp2
  all_goals go_ret
  · exact ⟨ret_int (tmod_neg (by omega) ‹_›), rfl⟩
  · exact ⟨ret_int (tmod_nonneg (by omega) (by omega)), rfl⟩

/-- 'At': a list's number; behind it: none. -/
def atF (l : List Int) (i : Int) : Int := if i < 0 ∨ (l.length : Int) ≤ i then 0 else l.getD i.toNat 0
theorem SliceRd.ints {w : World} {F : Nat → Prop} {v : Value} {l : List Int} (h : SliceRd tInt w F v l) :
    ∃ A cap, v = .slice A l.length cap ∧ l.length ≤ cap ∧ cap ≤ maxLen ∧
      ∀ k, (hk : k < l.length) → ∃ g o, A = some ⟨g, o, none⟩ ∧ F g ∧ w.cell? ⟨g, o + k, none⟩ = some (.int .i64 l[k]) ∧ I64 l[k] := by
  obtain ⟨A, cap, hv, h1, h2, h3⟩ := h.shape
  refine ⟨A, cap, hv, h1, h2, fun k hk => ?_⟩
  obtain ⟨g, o, cs, hA, hF, hc, hcell, rfl, hi⟩ := h3 k hk
  have e0 := hcell 0 (by show 0 < 1; omega)
  simp only [tInt, Nat.mul_one, Nat.add_zero] at e0
  exact ⟨g, o, hA, hF, e0, hi⟩
theorem ints_i64 {w : World} {F : Nat → Prop} {v : Value} {l : List Int} (h : SliceRd tInt w F v l) : ∀ x ∈ l, I64 x := by
  obtain ⟨A, cap, hv, h1, h2, h3⟩ := h.ints
  intro x hx
  obtain ⟨k, hk, rfl⟩ := List.getElem_of_mem hx
  obtain ⟨_, _, _, _, _, h⟩ := h3 k hk
  exact h
theorem atF_i64 {l : List Int} {i : Int} (hl : ∀ x ∈ l, I64 x) : I64 (atF l i) := by
  unfold atF
  split
  · unfold I64; omega
  · rename_i h
    have hlt : i.toNat < l.length := by omega
    rw [List.getD_eq_getElem?_getD, List.getElem?_eq_getElem hlt]
    exact hl _ (List.getElem_mem hlt)

set_option maxHeartbeats 400000 in
theorem at0_any (v : Value) (l : List Int) (i : Int) (w : World) (h : SliceRd tInt w (Lt w.heap.size) v l) (hi : I64 i) :
    Calls Tryd.prog 32 #[v, .int .i64 i] w fun e w' => e = .returned (.int .i64 (atF l i)) ∧ w = w' := by
  obtain ⟨A, cap, rfl, hcap, hmax, hc⟩ := h.ints
  unfold maxLen at hmax
  obtain ⟨hi1, hi2⟩ := hi
  have HC := hid hc
  clear hc h
  go_enter Tryd.func32, Tryd.ntmps32
  by_cases h1 : i < 0
  · go_wp2
    go_ret
    exact ⟨ret_int (by unfold atF; rw [if_pos (.inl h1)]), rfl⟩
  · by_cases h2 : (l.length : Int) ≤ i
    · go_wp2
      go_ret
      exact ⟨ret_int (by unfold atF; rw [if_pos (.inr h2)]), rfl⟩
    · obtain ⟨g, o, hA, hF, g0, hj⟩ := HC.out i.toNat (by omega)
      cases hA
      go_wp2
      go_ret
      exact ⟨ret_int (by unfold atF; rw [if_neg (by omega), List.getD_eq_getElem?_getD, List.getElem?_eq_getElem (by omega)]; rfl), rfl⟩

/-- 'From': a number from 0 below n. -/
def fromF (l : List Int) (i n : Int) : Int := atF l i % n
theorem fromF_lo (l : List Int) (i : Int) {n : Int} (hn : 1 ≤ n) : 0 ≤ fromF l i n := Int.emod_nonneg _ (by omega)
theorem fromF_hi (l : List Int) (i : Int) {n : Int} (hn : 1 ≤ n) : fromF l i n < n := Int.emod_lt_of_pos _ (by omega)
set_option maxHeartbeats 400000 in
theorem from_any (v : Value) (l : List Int) (i n : Int) (w : World) (h : SliceRd tInt w (Lt w.heap.size) v l) (hi : I64 i) (hn : 1 ≤ n) (hn2 : n ≤ 1000) :
    Calls Tryd.prog 31 #[v, .int .i64 i, .int .i64 n] w fun e w' => e = .returned (.int .i64 (fromF l i n)) ∧ w = w' := by
  have HAI := hid (atF_i64 (i := i) (ints_i64 h))
  have H := hid h
  have HI := hid hi
  clear h hi
  go_enter Tryd.func31, Tryd.ntmps31
  go_wp2_with (first
    | (go_at_call 32; refine (at0_any v l i _ H.out HI.out).mono ?_; rintro e w' ⟨rfl, rfl⟩)
    | (go_at_call 33; refine (place0_any (atF l i) n _ HAI.out hn hn2).mono ?_; rintro e w' ⟨rfl, rfl⟩))
  go_ret
  exact ⟨rfl, rfl⟩

def wordL : List ByteArray := [⟨#[120]⟩, ⟨#[121]⟩, ⟨#[122]⟩, ⟨#[119, 95, 49]⟩]
def nameL : List ByteArray := [⟨#[97, 112, 112]⟩, ⟨#[98]⟩, ⟨#[99]⟩, ⟨#[100]⟩, ⟨#[101, 45, 50]⟩]
theorem word_ix0 (w : World) : (Instr.index 74 (.agg #[.string ⟨#[120]⟩, .string ⟨#[121]⟩, .string ⟨#[122]⟩, .string ⟨#[119, 95, 49]⟩]) (.int .i64 0)).run Tryd.prog w = .ok (.string ⟨#[120]⟩) w := by kernel_rfl
theorem word_ix1 (w : World) : (Instr.index 74 (.agg #[.string ⟨#[120]⟩, .string ⟨#[121]⟩, .string ⟨#[122]⟩, .string ⟨#[119, 95, 49]⟩]) (.int .i64 1)).run Tryd.prog w = .ok (.string ⟨#[121]⟩) w := by kernel_rfl
theorem word_ix2 (w : World) : (Instr.index 74 (.agg #[.string ⟨#[120]⟩, .string ⟨#[121]⟩, .string ⟨#[122]⟩, .string ⟨#[119, 95, 49]⟩]) (.int .i64 2)).run Tryd.prog w = .ok (.string ⟨#[122]⟩) w := by kernel_rfl
theorem word_ix3 (w : World) : (Instr.index 74 (.agg #[.string ⟨#[120]⟩, .string ⟨#[121]⟩, .string ⟨#[122]⟩, .string ⟨#[119, 95, 49]⟩]) (.int .i64 3)).run Tryd.prog w = .ok (.string ⟨#[119, 95, 49]⟩) w := by kernel_rfl
def wordAt (n : Int) : ByteArray := wordL.getD (n % 4).toNat ByteArray.empty
theorem wordAt_mem (n : Int) : wordAt n ∈ wordL := by
  have h1 := Int.emod_nonneg n (show (4 : Int) ≠ 0 by decide)
  have h2 := Int.emod_lt_of_pos n (show (0 : Int) < 4 by decide)
  unfold wordAt
  have h : (n % 4).toNat < wordL.length := by show _ < 4; omega
  rw [List.getD_eq_getElem?_getD, List.getElem?_eq_getElem h]
  exact List.getElem_mem h
theorem rstr {a b : ByteArray} (h : a = b) : Ending.returned (.string a) = .returned (.string b) := by rw [h]
set_option maxHeartbeats 400000 in
theorem word_any (n : Int) (w : World) (hn : I64 n) :
    Calls Tryd.prog 34 #[.int .i64 n] w fun e w' => e = .returned (.string (wordAt n)) ∧ w' = w := by
  have HN := hid hn
  have h1 := Int.emod_nonneg n (show (4 : Int) ≠ 0 by decide)
  have h2 := Int.emod_lt_of_pos n (show (0 : Int) < 4 by decide)
  have h0 := word_ix0
  have h1' := word_ix1
  have h2' := word_ix2
  have h3' := word_ix3
  rcases (by omega : n % 4 = 0 ∨ n % 4 = 1 ∨ n % 4 = 2 ∨ n % 4 = 3) with h | h | h | h
  all_goals
    have HH := hid h
    clear h hn h1 h2
    go_enter Tryd.func34, Tryd.ntmps34
    go_wp2_with (first
      | (go_at_call 33; refine (place0_any n 4 _ HN.out (by decide) (by decide)).mono ?_; rintro e w' ⟨rfl, rfl⟩; rw [HH.out]))
    go_ret
    exact ⟨rstr (by unfold wordAt; rw [HH.out]; rfl), rfl⟩
end Go.Proofs.YtmdnleafpmondaaDoor
