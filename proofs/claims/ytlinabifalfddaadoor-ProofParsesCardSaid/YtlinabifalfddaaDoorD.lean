/- Contracts: linchpinref29.digits, kind. -/
import Derived.Test.YtlinabifalfddaaDoorRows
import Derived.Test.YtlinabifalfddaaDoorMem
import Derived.Lib.ItoaNum
import Derived.Lib.BufferRead
namespace Go.Proofs.YtlinabifalfddaaDoor
open Go Go.RowKit

def dig8 (k : Nat) : UInt8 := UInt8.ofNat (48 + k)
theorem dig8_nat {k : Nat} (h : k < 10) : ((dig8 k).toNat : Int) = 48 + k := by unfold dig8; simp; omega
theorem dec_step {m : Nat} (h : 9 < m) : Lib.decDigits m = Lib.decDigits (m / 10) ++ [dig8 (m % 10)] := by rw [Lib.decDigits, dif_neg (by omega)]; rfl
theorem dec_last {m : Nat} (h : ¬ 9 < m) : Lib.decDigits m = [dig8 m] := by rw [Lib.decDigits, dif_pos (by omega)]; rfl
theorem conv_one {P : Program} {src e dst : TypeId} (hs : P.underlying src = some (.slice e)) (he : P.underlying e = some (.int .u8)) (hd : P.underlying dst = some .string) (w : World) (c : Int) (b : UInt8) (hb : (b.toNat : Int) = c) :
    (convert src dst (.slice (some ⟨w.heap.size, 0, none⟩) 1 1)).run P (w.alloc (.cells #[.int .u8 c] e)) = .ok (.string ⟨#[b]⟩) (w.alloc (.cells #[.int .u8 c] e)) := by
  refine run_convert_bytes_back (w.alloc (.cells #[.int .u8 c] e)) src dst e ⟨w.heap.size, 0, none⟩ 1 [b] hs he hd fun j hj => ?_
  have : j = 0 := by simpa using hj
  subst this
  rw [add_mk, Nat.zero_add, World.cell?_alloc_new]
  simp [hb]
theorem str_app (a b : List UInt8) : (⟨a.toArray⟩ ++ ⟨b.toArray⟩ : ByteArray) = ⟨(a ++ b).toArray⟩ := by
  apply ByteArray.ext
  simp [ByteArray.data_append]

theorem pow_le_nDigits (u : Nat) (h : 1 < Lib.nDigits u) : 10 ^ (Lib.nDigits u - 1) ≤ u := by
  induction u using Nat.strongRecOn with
  | _ u ih =>
    by_cases h10 : u < 10
    · rw [Lib.nDigits_small h10] at h; omega
    · rw [Lib.nDigits_big h10]
      by_cases h1 : 1 < Lib.nDigits (u / 10)
      · have := ih (u / 10) (by omega) h1
        have e : Lib.nDigits (u / 10) + 1 - 1 = (Lib.nDigits (u / 10) - 1) + 1 := by omega
        rw [e, Nat.pow_succ]
        omega
      · have := Lib.nDigits_pos (u / 10)
        have e : Lib.nDigits (u / 10) = 1 := by omega
        rw [e]
        show 10 ^ 1 ≤ u
        omega
theorem nDigits_le7 {n : Nat} (h : n < 10000000) : Lib.nDigits n ≤ 7 := by
  rcases Nat.lt_or_ge 7 (Lib.nDigits n) with h7 | h7
  · exfalso
    have hp := Lib.nDigits_pos n
    have : 10 ^ (Lib.nDigits n - 1) ≤ n := pow_le_nDigits n (by omega)
    have h2 : 10 ^ 7 ≤ 10 ^ (Lib.nDigits n - 1) := Nat.pow_le_pow_right (by omega) (by omega)
    omega
  · exact h7

set_option maxRecDepth 100000 in
set_option maxHeartbeats 400000 in
theorem digits_any (n : Nat) (w : World) (h1 : n ≤ 1000000) :
    Calls Tryd.prog 53 #[.int .i64 n] w fun e w' => e = .returned (.string ⟨(Lib.decDigits n).toArray⟩) ∧ Below w.heap.size w w' := by
  have HL : Hid ((Lib.decDigits n).length ≤ 7) := hid (by rw [Lib.decDigits_length]; exact nDigits_le7 (by omega))
  go_enter Tryd.func53, Tryd.ntmps53
  go_wp2
  go_loopw [0, 3] (fun nv sv wr => ∃ (m : Nat) (t : List UInt8), nv = .int .i64 m ∧ sv = .string ⟨t.toArray⟩ ∧ m ≤ n ∧ Hid (Lib.decDigits n = Lib.decDigits m ++ t) ∧ Below w.heap.size w wr) (fun nv _ _ => (intOf nv).toNat)
  case atStart => exact ⟨n, [], rfl, rfl, Nat.le_refl _, hid (by simp), Below.refl _ _⟩
  case round =>
    obtain ⟨m, t, rfl, rfl, hm, hd, hb⟩ := hrel
    have ht : t.length ≤ 7 := by have := congrArg List.length hd.out; have := HL.out; simp at *; omega
    by_cases h9 : 9 < m
    · have hcv := conv_one Tryd.underlying42 Tryd.underlying5 Tryd.underlying9 wr (48 + ↑m % 10) (dig8 (m % 10)) (by rw [dig8_nat (by omega)]; omega)
      go_wp2
      refine ⟨⟨m / 10, dig8 (m % 10) :: t, by go_num, congrArg Value.string (str_app [_] t), by omega, hid ?_, hb.alloc hb.size _⟩, by simp [intOf]; omega⟩
      rw [hd.out, dec_step h9]
      simp
    · have hcv := conv_one Tryd.underlying42 Tryd.underlying5 Tryd.underlying9 wr (48 + ↑m) (dig8 m) (by rw [dig8_nat (by omega)])
      go_wp2
      go_ret
      refine ⟨?_, hb.alloc hb.size _⟩
      rw [hd.out, dec_last h9]
      exact congrArg (fun x => Ending.returned (Value.string x)) (str_app [_] t)
end Go.Proofs.YtlinabifalfddaaDoor
