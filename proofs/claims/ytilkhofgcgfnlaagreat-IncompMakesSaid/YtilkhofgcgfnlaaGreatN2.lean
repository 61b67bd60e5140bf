/- Contracts: ref21.bit, ref21.Full. -/
import Derived.Test.YtilkhofgcgfnlaaGreatNs
import Derived.Test.YtilkhofgcgfnlaaGreatLater
import Derived.Test.YtilkhofgcgfnlaaGreatW1
import Derived.Outline
namespace Go.Proofs.YtilkhofgcgfnlaaGreat
open Go Go.RowKit

set_option maxHeartbeats 400000 in
theorem rbit_any (v : Nat) (w : World) (hv : v ≤ 16) :
    Calls Tryz.prog 49 #[.int .i64 v] w fun e w' => e = .returned (.int .i64 (pw v)) ∧ w' = w := by
  go_enter Tryz.func49, Tryz.ntmps49
  go_wp2
  go_loopw [3, 4] (fun mv iv wr => ∃ i : Nat, i ≤ v ∧ mv = .int .i64 (pw i) ∧ iv = .int .i64 i ∧ wr = w) (fun _ iv _ => v - (intOf iv).toNat)
  case atStart => exact ⟨0, Nat.zero_le _, by simp [pw], rfl, rfl⟩
  case round =>
    obtain ⟨i, hi, rfl, rfl, rfl⟩ := hrel
    obtain ⟨p1, p2⟩ := pw_bd (i := i) (by omega)
    have hs := pw_succ i
    by_cases hlt : i < v
    · have z1 : decide ((i : Int) < v) = true := decide_eq_true (by omega)
      go_wp2
      refine ⟨⟨i + 1, by omega, by rw [hs], by go_num, ?_⟩, by simp [intOf]; omega⟩
      first | trivial | rfl
    · have e : i = v := by omega
      subst e
      have z1 : decide ((i : Int) < i) = false := decide_eq_false (by omega)
      go_wp2
      go_ret
      exact ⟨rfl, rfl⟩

set_option maxHeartbeats 400000 in
theorem rfull_any (v : Value) (ns : List Nat) (u : Int) (w : World) (F : Nat → Prop) (h : UniRd w F v ns) (ho : NsOk ns) (hu : I64 u) (hF : ∀ k, F k → k < w.heap.size) :
    Calls Tryz.prog 26 #[v, .int .i64 u] w fun e w' => e = .returned (.int .i64 (fullF ns u)) ∧ Below w.heap.size w w' := by
  obtain ⟨g, cap, rfl, hg, hc⟩ := h
  have hgl := hF g hg
  have hne : g ≠ w.heap.size := by omega
  go_enter Tryz.func26, Tryz.ntmps26
  by_cases h0 : u < 0
  · go_wp2
    all_goals go_ret
    exact ⟨ret_int (by unfold fullF; rw [if_pos (.inl h0)]), balloc (b0 w) _⟩
  · by_cases h1 : (ns.length : Int) ≤ u
    · go_wp2
      all_goals go_ret
      exact ⟨ret_int (by unfold fullF; rw [if_pos (.inr h1)]), balloc (b0 w) _⟩
    · obtain ⟨k, rfl⟩ : ∃ k : Nat, u = ↑k := ⟨u.toNat, by omega⟩
      have hk : k < ns.length := by omega
      have hn := ho.le k hk
      have he : fullF ns ↑k = pw (ns[k] + 1) - 1 := by
        unfold fullF
        rw [if_neg (by omega), Int.toNat_natCast, List.getElem?_eq_getElem hk]
        rfl
      obtain ⟨Ak, ck, hck⟩ := hc k hk
      generalize ns[k] = n at *
      have k1 : (0 : Int) ≤ ↑k := by omega
      have k2 : (↑k : Int) < ↑ns.length := by omega
      have p := pw_bd (i := n + 1) (by omega)
      have m1 : min (n : Int) 16 = n := by omega
      clear hc
      go_wp2_with (go_at_call 49; refine (rbit_any (n + 1) _ (by omega)).mono ?_; rintro e w1 ⟨rfl, rfl⟩)
      go_ret
      exact ⟨ret_int (by rw [he]), balloc (b0 w) _⟩
end Go.Proofs.YtilkhofgcgfnlaaGreat
