/- Contract: linchpinref1.Number. -/
import Derived.Test.YtilkhofgcgfnlaaGreatV1
namespace Go.Proofs.YtilkhofgcgfnlaaGreat
open Go Go.RowKit

set_option maxRecDepth 100000 in
set_option maxHeartbeats 1000000 in
theorem number1_any (s : ByteArray) (w : World) (hs : s.size ≤ 1000) :
    Calls Tryz.prog 85 #[.string s] w fun e w' => e = .returned (numRes s.data.toList) ∧ w' = w := by
  have hsz : s.data.toList.length = s.size := by simp
  by_cases h1 : s.size < 1
  · have hn : numberF s.data.toList = none := by rw [numberF, if_neg]; rintro ⟨h, _⟩; omega
    have HN := hid hn
    clear hn hsz
    go_enter Tryz.func85, Tryz.ntmps85
    go_wp2
    go_ret2
    exact ⟨by unfold numRes; rw [HN.out]; rfl, rfl⟩
  · by_cases h2 : 9 < s.size
    · have hn : numberF s.data.toList = none := by rw [numberF, if_neg]; rintro ⟨_, h, _⟩; omega
      have HN := hid hn
      clear hn hsz
      go_enter Tryz.func85, Tryz.ntmps85
      go_wp2
      go_ret2
      exact ⟨by unfold numRes; rw [HN.out]; rfl, rfl⟩
    · have h0 : 0 < s.size := by omega
      have HSZ := hid hsz
      have hhd : s.data.toList.head? = some s[0] := by
        rw [List.head?_eq_getElem?, List.getElem?_eq_getElem (by omega)]; rfl
      have HHD := hid hhd
      clear hsz hhd
      by_cases hz : s[0].toNat = 48 ∧ 1 < s.size
      · obtain ⟨hz0, hz1⟩ := hz
        have HN : Hid (numberF s.data.toList = none) := hid (by
          rw [numberF, if_neg]
          rintro ⟨_, _, h, _⟩
          refine h (by rw [HSZ.out]; exact hz1) ?_
          rw [HHD.out]
          exact congrArg some (UInt8.toNat_inj.1 hz0))
        have hz0' : (s[0].toNat : Int) = 48 := by omega
        go_enter Tryz.func85, Tryz.ntmps85
        go_wp2
        go_ret2
        exact ⟨by unfold numRes; rw [HN.out]; rfl, rfl⟩
      · have HLD : Hid (1 < s.data.toList.length → s.data.toList.head? ≠ some 48) := hid (fun hl he => by
          rw [HHD.out] at he
          rw [HSZ.out] at hl
          exact hz ⟨by rw [Option.some.inj he]; rfl, hl⟩)
        have hcase : s.size = 1 ∨ (1 < s.size ∧ ((s[0].toNat : Int) == 48) = false) := by
          rcases Nat.lt_or_ge 1 s.size with h | h
          · refine .inr ⟨h, ?_⟩
            rw [beq_eq_false_iff_ne]
            intro e
            exact hz ⟨by omega, h⟩
          · exact .inl (by omega)
        clear hz
        rcases hcase with h3 | ⟨h3, h4⟩
        all_goals
          go_enter Tryz.func85, Tryz.ntmps85
          go_wp2
          go_loopw [4, 5] (fun nv iv wr => ∃ k : Nat, k ≤ s.size ∧ iv = .int .i64 k ∧ nv = .int .i64 (valF (s.data.toList.take k) : Nat) ∧ Hid ((s.data.toList.take k).all digC = true) ∧ wr = w) (fun _ iv _ => s.size - (intOf iv).toNat)
          case atStart => exact ⟨0, Nat.zero_le _, rfl, rfl, hid rfl, rfl⟩
          case round =>
            obtain ⟨k, hk, rfl, rfl, hall, rfl⟩ := hrel
            have hvl : valF (s.data.toList.take k) < 1000000000 := by
              have h1 := val_lt s.data.toList k (by rw [HSZ.out]; exact hk) hall.out
              have h2 : (10 : Nat) ^ k ≤ 10 ^ 9 := Nat.pow_le_pow_right (by omega) (by omega)
              omega
            by_cases hlt : k < s.size
            · have hlt' : k < s.data.toList.length := by rw [HSZ.out]; exact hlt
              have hu := s[k].toNat_lt
              have HVT := hid (val_take hlt')
              have HAT := hid (show (s.data.toList.take (k + 1)).all digC = ((s.data.toList.take k).all digC && digC s[k]) by rw [List.take_succ_eq_append_getElem hlt', List.all_append]; simp; rfl)
              have i1 : (0 : Int) ≤ ↑k := by omega
              have i2 : (↑k : Int) < ↑s.size := by omega
              generalize hv : valF (s.data.toList.take k) = v at hvl HVT ⊢
              clear hv
              by_cases hd : digC s[k] = true
              · have HD := hid hd
                have hd2 := hd
                simp only [digC, Bool.and_eq_true, decide_eq_true_eq] at hd2
                have e3 : (48 : Int) ≤ s[k].toNat := by omega
                have e2 : ¬ (57 : Int) < s[k].toNat := by omega
                have HVT2 : Hid ((valF (s.data.toList.take (k + 1)) : Int) = v * 10 + ((s[k].toNat : Int) - 48)) := hid (by rw [HVT.out, byte_list s k hlt]; omega)
                clear hd2
                go_wp2_with (go_at_call 103; refine (digit_any s[k] _).mono ?_; rintro e w' ⟨rfl, rfl⟩)
                exact ⟨⟨k + 1, by omega, by go_num, by rw [HVT2.out], hid (by rw [HAT.out, hall.out, HD.out]; rfl), trivial⟩, by simp [intOf]; omega⟩
              · have hd' : digC s[k] = false := by simpa using hd
                have HN : Hid (numberF s.data.toList = none) := hid (number_no ⟨s[k], by rw [← byte_list s k hlt]; exact List.getElem_mem _, hd'⟩)
                clear hd
                go_wp2_with (go_at_call 103; refine (digit_any s[k] _).mono ?_; rintro e w' ⟨rfl, rfl⟩)
                go_ret2
                exact ⟨by unfold numRes; rw [HN.out]; rfl, rfl⟩
            · have hk' : k = s.size := by omega
              have HV : Hid (valF (s.data.toList.take k) = valF s.data.toList) := hid (by rw [hk', List.take_of_length_le (by rw [HSZ.out]; omega)])
              have HA : Hid (s.data.toList.all digC = true) := hid (by
                have := hall.out
                rwa [hk', List.take_of_length_le (by rw [HSZ.out]; omega)] at this)
              clear hk'
              generalize hv : valF (s.data.toList.take k) = v at hvl HV ⊢
              clear hv
              by_cases hb : 9999 < v
              · have HN : Hid (numberF s.data.toList = none) := hid (by
                  rw [numberF, if_neg]
                  rintro ⟨_, _, _, _, h⟩
                  rw [← HV.out] at h
                  omega)
                go_wp2
                go_ret2
                exact ⟨by unfold numRes; rw [HN.out]; rfl, rfl⟩
              · have HN : Hid (numberF s.data.toList = some v) := hid (by
                  rw [numberF, if_pos, HV.out]
                  exact ⟨by rw [HSZ.out]; omega, by rw [HSZ.out]; omega, HLD.out, HA.out, by rw [← HV.out]; omega⟩)
                go_wp2
                go_ret2
                exact ⟨by unfold numRes; rw [HN.out]; rfl, rfl⟩
end Go.Proofs.YtilkhofgcgfnlaaGreat
