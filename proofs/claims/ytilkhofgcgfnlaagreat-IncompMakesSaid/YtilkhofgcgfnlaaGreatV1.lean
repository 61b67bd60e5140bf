/- Contracts: linchpinref1.digit, Number, linchpinref2.Numeric, tag, num, Ints. -/
import Derived.Test.YtilkhofgcgfnlaaGreatRows
import Derived.Test.YtilkhofgcgfnlaaGreatVer
import Derived.Laws.IdiomStrings
namespace Go.Proofs.YtilkhofgcgfnlaaGreat
open Go Go.RowKit

theorem byte_list (s : ByteArray) (i : Nat) (h : i < s.size) : s.data.toList[i]'(by simpa using h) = s[i] := rfl
theorem u8_lo {c : UInt8} {n : Nat} : ((c.toNat : Int) < n) ↔ c.toNat < n := by omega

set_option maxHeartbeats 400000 in
theorem digit_any (c : UInt8) (w : World) :
    Calls Tryz.prog 103 #[.int .u8 (c.toNat : Int)] w fun e w' => e = .returned (.bool (digC c)) ∧ w' = w := by
  have hu := c.toNat_lt
  by_cases h1 : c.toNat < 48
  · have e1 : ¬ (48 : Int) ≤ c.toNat := by omega
    have H : Hid (digC c = false) := hid (by simp [digC]; omega)
    go_enter Tryz.func103, Tryz.ntmps103
    go_wp2
    go_ret
    exact ⟨ret_bool H.out.symm, rfl⟩
  · have e1 : (48 : Int) ≤ c.toNat := by omega
    by_cases h2 : c.toNat ≤ 57
    · have e2 : (c.toNat : Int) ≤ 57 := by omega
      have e3 : decide ((c.toNat : Int) ≤ 57) = true := decide_eq_true e2
      have H : Hid (digC c = true) := hid (by simp [digC]; omega)
      go_enter Tryz.func103, Tryz.ntmps103
      go_wp2
      go_ret
      exact ⟨ret_bool H.out.symm, rfl⟩
    · have e2 : ¬ (c.toNat : Int) ≤ 57 := by omega
      have e3 : decide ((c.toNat : Int) ≤ 57) = false := decide_eq_false e2
      have H : Hid (digC c = false) := hid (by simp [digC]; omega)
      go_enter Tryz.func103, Tryz.ntmps103
      go_wp2
      go_ret
      exact ⟨ret_bool H.out.symm, rfl⟩

set_option maxHeartbeats 400000 in
theorem num_any (n : Int) (w : World) :
    Calls Tryz.prog 70 #[.int .i64 n] w fun e w' => e = .returned (.bool (fitsB n)) ∧ w' = w := by
  by_cases h1 : 0 ≤ n
  · by_cases h2 : n ≤ 9999
    · have e3 : decide (n ≤ 9999) = true := decide_eq_true h2
      have H : Hid (fitsB n = true) := hid (by simp [fitsB]; omega)
      go_enter Tryz.func70, Tryz.ntmps70
      go_wp2
      go_ret
      exact ⟨ret_bool H.out.symm, rfl⟩
    · have e3 : decide (n ≤ 9999) = false := decide_eq_false h2
      have H : Hid (fitsB n = false) := hid (by simp [fitsB]; omega)
      go_enter Tryz.func70, Tryz.ntmps70
      go_wp2
      go_ret
      exact ⟨ret_bool H.out.symm, rfl⟩
  · have H : Hid (fitsB n = false) := hid (by simp [fitsB]; omega)
    go_enter Tryz.func70, Tryz.ntmps70
    go_wp2
    go_ret
    exact ⟨ret_bool H.out.symm, rfl⟩

set_option maxHeartbeats 400000 in
theorem ints_any (a b : Int) (w : World) :
    Calls Tryz.prog 121 #[.int .i64 a, .int .i64 b] w fun e w' => e = .returned (.int .i64 (intsF a b)) ∧ w' = w := by
  by_cases h1 : a < b
  · have H : Hid (intsF a b = -1) := hid (by unfold intsF; rw [if_pos h1])
    go_enter Tryz.func121, Tryz.ntmps121
    go_wp2
    go_ret
    exact ⟨ret_int H.out.symm, rfl⟩
  · by_cases h2 : b < a
    · have H : Hid (intsF a b = 1) := hid (by unfold intsF; rw [if_neg h1, if_pos h2])
      go_enter Tryz.func121, Tryz.ntmps121
      go_wp2
      go_ret
      exact ⟨ret_int H.out.symm, rfl⟩
    · have H : Hid (intsF a b = 0) := hid (by unfold intsF; rw [if_neg h1, if_neg h2])
      go_enter Tryz.func121, Tryz.ntmps121
      go_wp2
      go_ret
      exact ⟨ret_int H.out.symm, rfl⟩

theorem isEmpty_false {s : List UInt8} {n : Nat} (h : s.length = n) (hn : 0 < n) : s.isEmpty = false := by
  cases s with
  | nil => simp at h; omega
  | cons _ _ => rfl

set_option maxHeartbeats 400000 in
theorem numeric_any (s : ByteArray) (w : World) (hs : s.size ≤ 1000) :
    Calls Tryz.prog 86 #[.string s] w fun e w' => e = .returned (.bool (numericB s.data.toList)) ∧ w' = w := by
  have HSZ := hid (show s.data.toList.length = s.size by simp)
  go_enter Tryz.func86, Tryz.ntmps86
  go_wp2
  go_loop [3] (fun iv => ∃ k : Nat, k ≤ s.size ∧ iv = .int .i64 k ∧ Hid ((s.data.toList.take k).all digC = true)) (fun iv => s.size - (intOf iv).toNat)
  case atStart => exact ⟨0, Nat.zero_le _, rfl, hid rfl⟩
  case round =>
    obtain ⟨k, hk, rfl, hall⟩ := hrel
    by_cases hlt : k < s.size
    · have hlt' : k < s.data.toList.length := by rw [HSZ.out]; exact hlt
      have hu := s[k].toNat_lt
      have HAT := hid (show (s.data.toList.take (k + 1)).all digC = ((s.data.toList.take k).all digC && digC s[k]) by rw [List.take_succ_eq_append_getElem hlt', List.all_append]; simp; rfl)
      have i1 : (0 : Int) ≤ ↑k := by omega
      have i2 : (↑k : Int) < ↑s.size := by omega
      by_cases hd : digC s[k] = true
      · have HD := hid hd
        simp only [digC, Bool.and_eq_true, decide_eq_true_eq] at hd
        have e1 : ¬ (s[k].toNat : Int) < 48 := by omega
        have e2 : ¬ (57 : Int) < s[k].toNat := by omega
        clear hd
        go_wp2
        go_round
        case rel => exact ⟨k + 1, by omega, by go_num, hid (by rw [HAT.out, hall.out, HD.out]; rfl)⟩
        case measure => simp [intOf]; omega
      · have HN : Hid (numericB s.data.toList = false) := hid (by
          unfold numericB
          rw [Bool.and_eq_false_iff]
          refine .inr ?_
          rw [List.all_eq_false]
          exact ⟨s[k], by rw [← byte_list s k hlt]; exact List.getElem_mem _, hd⟩)
        have hd2 : s[k].toNat < 48 ∨ 57 < s[k].toNat := by
          simp only [digC, Bool.and_eq_true, decide_eq_true_eq] at hd
          omega
        clear hd
        rcases hd2 with h | h
        · have e1 : (s[k].toNat : Int) < 48 := by omega
          go_wp2
          go_ret
          exact ⟨ret_bool HN.out.symm, rfl⟩
        · have e1 : ¬ (s[k].toNat : Int) < 48 := by omega
          have e2 : (57 : Int) < s[k].toNat := by omega
          go_wp2
          go_ret
          exact ⟨ret_bool HN.out.symm, rfl⟩
    · have hk' : k = s.size := by omega
      have HA : Hid (s.data.toList.all digC = true) := hid (by
        have := hall.out
        rwa [hk', List.take_of_length_le (by rw [HSZ.out]; omega)] at this)
      clear hk'
      by_cases h0 : 0 < s.size
      · have e0 : decide (0 < s.size) = true := decide_eq_true h0
        have HN : Hid (numericB s.data.toList = true) := hid (by unfold numericB; rw [HA.out, isEmpty_false HSZ.out h0]; rfl)
        go_wp2
        go_ret
        exact ⟨ret_bool HN.out.symm, rfl⟩
      · have e0 : decide (0 < s.size) = false := decide_eq_false h0
        have HN : Hid (numericB s.data.toList = false) := hid (by
          have : s.data.toList = [] := List.eq_nil_of_length_eq_zero (by rw [HSZ.out]; omega)
          rw [this]; rfl)
        go_wp2
        go_ret
        exact ⟨ret_bool HN.out.symm, rfl⟩

theorem tagC_cases (c : UInt8) : tagC c = true ↔ ((97 ≤ c.toNat ∧ c.toNat ≤ 122) ∨ (48 ≤ c.toNat ∧ c.toNat ≤ 57) ∨ c.toNat = 45) := by
  simp only [tagC, digC, Bool.or_eq_true, Bool.and_eq_true, decide_eq_true_eq, beq_iff_eq]
  omega

set_option maxRecDepth 100000 in
set_option maxHeartbeats 1000000 in
theorem tag_any (s : ByteArray) (w : World) (hs : s.size ≤ 1000) :
    Calls Tryz.prog 84 #[.string s] w fun e w' => e = .returned (.bool (tagB s.data.toList)) ∧ w' = w := by
  have HSZ := hid (show s.data.toList.length = s.size by simp)
  by_cases h1 : s.size < 1
  · have HN : Hid (tagB s.data.toList = false) := hid (by unfold tagB; rw [HSZ.out, decide_eq_false (by omega : ¬ 1 ≤ s.size)]; rfl)
    go_enter Tryz.func84, Tryz.ntmps84
    go_wp2
    go_ret
    exact ⟨ret_bool HN.out.symm, rfl⟩
  · by_cases h2 : 8 < s.size
    · have HN : Hid (tagB s.data.toList = false) := hid (by unfold tagB; rw [HSZ.out, decide_eq_false (by omega : ¬ s.size ≤ 8)]; simp)
      go_enter Tryz.func84, Tryz.ntmps84
      go_wp2
      go_ret
      exact ⟨ret_bool HN.out.symm, rfl⟩
    · have HT : Hid (tagB s.data.toList = s.data.toList.all tagC) := hid (by unfold tagB; rw [HSZ.out, decide_eq_true (by omega : 1 ≤ s.size), decide_eq_true (by omega : s.size ≤ 8)]; rfl)
      go_enter Tryz.func84, Tryz.ntmps84
      go_wp2
      go_loop [3] (fun iv => ∃ k : Nat, k ≤ s.size ∧ iv = .int .i64 k ∧ Hid ((s.data.toList.take k).all tagC = true)) (fun iv => s.size - (intOf iv).toNat)
      case atStart => exact ⟨0, Nat.zero_le _, rfl, hid rfl⟩
      case round =>
        obtain ⟨k, hk, rfl, hall⟩ := hrel
        by_cases hlt : k < s.size
        · have hlt' : k < s.data.toList.length := by rw [HSZ.out]; exact hlt
          have hu := s[k].toNat_lt
          have HAT := hid (show (s.data.toList.take (k + 1)).all tagC = ((s.data.toList.take k).all tagC && tagC s[k]) by rw [List.take_succ_eq_append_getElem hlt', List.all_append]; simp; rfl)
          have i1 : (0 : Int) ≤ ↑k := by omega
          have i2 : (↑k : Int) < ↑s.size := by omega
          by_cases hd : tagC s[k] = true
          · have HD := hid hd
            rw [tagC_cases] at hd
            rcases hd with ⟨a1, a2⟩ | ⟨a1, a2⟩ | a1
            · have e1 : ¬ (s[k].toNat : Int) < 97 := by omega
              have e2 : ¬ (122 : Int) < s[k].toNat := by omega
              go_wp2
              go_round
              case rel => exact ⟨k + 1, by omega, by go_num, hid (by rw [HAT.out, hall.out, HD.out]; rfl)⟩
              case measure => simp [intOf]; omega
            · have e1 : (s[k].toNat : Int) < 97 := by omega
              have e2 : ¬ (s[k].toNat : Int) < 48 := by omega
              have e3 : ¬ (57 : Int) < s[k].toNat := by omega
              go_wp2
              go_round
              case rel => exact ⟨k + 1, by omega, by go_num, hid (by rw [HAT.out, hall.out, HD.out]; rfl)⟩
              case measure => simp [intOf]; omega
            · have e1 : (s[k].toNat : Int) < 97 := by omega
              have e2 : (s[k].toNat : Int) < 48 := by omega
              have e3 : ((s[k].toNat : Int) != 45) = false := by simp; omega
              clear a1
              go_wp2
              go_round
              case rel => exact ⟨k + 1, by omega, by go_num, hid (by rw [HAT.out, hall.out, HD.out]; rfl)⟩
              case measure => simp [intOf]; omega
          · have HN : Hid (tagB s.data.toList = false) := hid (by
              rw [HT.out, List.all_eq_false]
              exact ⟨s[k], by rw [← byte_list s k hlt]; exact List.getElem_mem _, hd⟩)
            have hd2 : (s[k].toNat < 48 ∧ s[k].toNat ≠ 45) ∨ (57 < s[k].toNat ∧ s[k].toNat < 97) ∨ 122 < s[k].toNat := by
              rw [tagC_cases] at hd
              omega
            clear hd
            rcases hd2 with ⟨h, h'⟩ | ⟨h, h'⟩ | h
            · have e1 : (s[k].toNat : Int) < 97 := by omega
              have e2 : (s[k].toNat : Int) < 48 := by omega
              have e3 : ((s[k].toNat : Int) != 45) = true := by simp; omega
              clear h'
              go_wp2
              go_ret
              exact ⟨ret_bool HN.out.symm, rfl⟩
            · have e1 : (s[k].toNat : Int) < 97 := by omega
              have e2 : ¬ (s[k].toNat : Int) < 48 := by omega
              have e4 : (57 : Int) < s[k].toNat := by omega
              have e3 : ((s[k].toNat : Int) != 45) = true := by simp; omega
              go_wp2
              go_ret
              exact ⟨ret_bool HN.out.symm, rfl⟩
            · have e1 : ¬ (s[k].toNat : Int) < 97 := by omega
              have e2 : ¬ (s[k].toNat : Int) < 48 := by omega
              have e4 : (57 : Int) < s[k].toNat := by omega
              have e5 : (122 : Int) < s[k].toNat := by omega
              have e3 : ((s[k].toNat : Int) != 45) = true := by simp; omega
              go_wp2
              go_ret
              exact ⟨ret_bool HN.out.symm, rfl⟩
        · have hk' : k = s.size := by omega
          have HN : Hid (tagB s.data.toList = true) := hid (by
            have := hall.out
            rw [hk', List.take_of_length_le (by rw [HSZ.out]; omega)] at this
            rw [HT.out, this])
          clear hk'
          go_wp2
          go_ret
          exact ⟨ret_bool HN.out.symm, rfl⟩
end Go.Proofs.YtilkhofgcgfnlaaGreat
