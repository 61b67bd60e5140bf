/- Contract: proof.number. -/
import Derived.Test.YtlinabifalfddaaDoorParseF
import Derived.Test.YtlinabifalfddaaDoorArr
import Derived.Laws.IdiomStrings
namespace Go.Proofs.YtlinabifalfddaaDoor
open Go Go.RowKit

def numRes (s : List UInt8) : Value := match numberF s with
  | some n => .tuple #[.int .i64 (n : Int), .bool true]
  | none => .tuple #[.int .i64 0, .bool false]
/-- The bytes of a string, in a block of the call's own. -/
theorem conv_str {P : Program} {src dst e : TypeId} (hs : P.underlying src = some .string) (hd : P.underlying dst = some (.slice e)) (he : P.underlying e = some (.int .u8)) (s : ByteArray) (w : World) :
    ∃ c W, (convert src dst (.string s)).run P w = .ok (.slice (some ⟨w.heap.size, 0, none⟩) s.size c) W ∧ s.size ≤ c ∧ Below w.heap.size w W ∧ w.heap.size < W.heap.size ∧
      ∀ i, (h : i < s.size) → W.cell? ⟨w.heap.size, i, none⟩ = some (.int .u8 (s[i].toNat : Int)) := by
  refine ⟨_, _, run_bytes_of_string w src dst e s hs hd he, grownCap_ge _ _ _ _, ((Below.refl _ _).drew).alloc (Nat.le_refl _) _, by simp, fun i h => ?_⟩
  rw [cell_of_row _ w.heap.size i _ e _ (heap_alloc_new w.drew _)]
  exact bytesRow_at s _ i h
theorem val_take {s : List UInt8} {k : Nat} (h : k < s.length) : valF (s.take (k + 1)) = 10 * valF (s.take k) + (s[k].toNat - 48) := by
  rw [List.take_succ_eq_append_getElem h, val_snoc]
theorem val_le (s : List UInt8) : s.all digC = true → s.length ≤ 7 → valF s < 10000000 := by
  intro h hl
  have h1 := val_lt s h
  have h2 : (10 : Nat) ^ s.length ≤ 10 ^ 7 := Nat.pow_le_pow_right (by omega) hl
  omega
theorem byte_list (s : ByteArray) (i : Nat) (h : i < s.size) : s.data.toList[i]'(by simpa using h) = s[i] := rfl

set_option maxRecDepth 100000 in
set_option maxHeartbeats 1000000 in
theorem number_any (s : ByteArray) (w : World) (hs : s.size ≤ 2000000) :
    Calls Tryd.prog 56 #[.string s] w fun e w' => e = .returned (numRes s.data.toList) ∧ Below w.heap.size w w' := by
  have hsz : s.data.toList.length = s.size := by simp
  by_cases h1 : s.size < 1
  · have hn : numberF s.data.toList = none := by rw [numberF, if_neg]; rintro ⟨h, _⟩; omega
    have HN := hid hn
    have hsz' := hid hsz
    clear hn hsz
    go_enter Tryd.func56, Tryd.ntmps56
    go_wp2
    go_ret2
    exact ⟨by unfold numRes; rw [HN.out]; rfl, Below.refl _ _⟩
  · by_cases h2 : 7 < s.size
    · have hn : numberF s.data.toList = none := by rw [numberF, if_neg]; rintro ⟨_, h, _⟩; omega
      have HN := hid hn
      have hsz' := hid hsz
      clear hn hsz
      go_enter Tryd.func56, Tryd.ntmps56
      go_wp2
      go_ret2
      exact ⟨by unfold numRes; rw [HN.out]; rfl, Below.refl _ _⟩
    · have h0 : 0 < s.size := by omega
      obtain ⟨cc, W, hcv, hcap, hbW, hzW, hcel⟩ := conv_str (P := Tryd.prog) (src := 9) (dst := 42) (e := 5) Tryd.underlying9 Tryd.underlying42 Tryd.underlying5 s w
      have HCEL := hid hcel
      have HBW := hid hbW
      have HSZ := hid hsz
      have hhd : s.data.toList.head? = some s[0] := by
        rw [List.head?_eq_getElem?, List.getElem?_eq_getElem (by omega)]; rfl
      have HHD := hid hhd
      clear hsz hcel hbW hhd
      by_cases hz : s[0].toNat = 48 ∧ 1 < s.size
      · obtain ⟨hz0, hz1⟩ := hz
        have HN : Hid (numberF s.data.toList = none) := hid (by
          rw [numberF, if_neg]
          rintro ⟨_, _, h, _⟩
          refine h (by rw [HSZ.out]; exact hz1) ?_
          rw [HHD.out]
          exact congrArg some (UInt8.toNat_inj.1 hz0))
        have hz0' : (s[0].toNat : Int) = 48 := by omega
        clear hcv
        go_enter Tryd.func56, Tryd.ntmps56
        go_wp2
        go_ret2
        exact ⟨by unfold numRes; rw [HN.out]; rfl, Below.refl _ _⟩
      · have HLD : Hid (1 < s.data.toList.length → s.data.toList.head? ≠ some 48) := hid (fun hl he => by
          rw [HHD.out] at he
          rw [HSZ.out] at hl
          exact hz ⟨by rw [Option.some.inj he]; rfl, hl⟩)
        have hzz : ¬ ((s[0].toNat : Int) = 48 ∧ (1 : Int) < s.size) := by omega
        clear hz
        go_enter Tryd.func56, Tryd.ntmps56
        go_wp2
        all_goals
          first
            | (exfalso; refine hzz ⟨by assumption, ?_⟩; (first | omega | (have hh := ‹_ ∧ _›; omega)); done)
            | skip
        all_goals
          go_loopw [4, 28] (fun nv iv wr => ∃ k : Nat, k ≤ s.size ∧ iv = .int .i64 k ∧ nv = .int .i64 (valF (s.data.toList.take k) : Nat) ∧ Hid ((s.data.toList.take k).all digC = true) ∧ wr = W) (fun _ iv _ => s.size - (intOf iv).toNat)
          case atStart => exact ⟨0, Nat.zero_le _, rfl, rfl, hid rfl, rfl⟩
          case round =>
            obtain ⟨k, hk, rfl, rfl, hall, rfl⟩ := hrel
            have hvl := val_le _ hall.out (by simp; omega)
            by_cases hlt : k < s.size
            · have hlt' : k < s.data.toList.length := by rw [HSZ.out]; exact hlt
              have hck := HCEL.out k hlt
              have hu := s[k].toNat_lt
              have HVT := hid (val_take hlt')
              have HAT := hid (show (s.data.toList.take (k + 1)).all digC = ((s.data.toList.take k).all digC && digC s[k]) by rw [List.take_succ_eq_append_getElem hlt', List.all_append]; simp; rfl)
              have i1 : (0 : Int) ≤ ↑k := by omega
              have i2 : (↑k : Int) < ↑s.size := by omega
              generalize hv : valF (s.data.toList.take k) = v at hvl HVT ⊢
              clear hv
              by_cases hd1 : s[k].toNat < 48
              · have HD : Hid (digC s[k] = false) := hid (by simp [digC]; omega)
                have e1 : (s[k].toNat : Int) < 48 := by omega
                have HN : Hid (numberF s.data.toList = none) := hid (number_no ⟨s[k], by rw [← byte_list s k hlt]; exact List.getElem_mem _, HD.out⟩)
                clear hd1
                go_wp2
                go_ret2
                exact ⟨by unfold numRes; rw [HN.out]; rfl, HBW.out⟩
              · by_cases hd2 : 57 < s[k].toNat
                · have HD : Hid (digC s[k] = false) := hid (by simp [digC]; omega)
                  have e1 : ¬ (s[k].toNat : Int) < 48 := by omega
                  have e2 : (57 : Int) < s[k].toNat := by omega
                  have HN : Hid (numberF s.data.toList = none) := hid (number_no ⟨s[k], by rw [← byte_list s k hlt]; exact List.getElem_mem _, HD.out⟩)
                  clear hd1 hd2
                  go_wp2
                  go_ret2
                  exact ⟨by unfold numRes; rw [HN.out]; rfl, HBW.out⟩
                · have HD : Hid (digC s[k] = true) := hid (by simp [digC]; omega)
                  have e1 : ¬ (s[k].toNat : Int) < 48 := by omega
                  have e2 : ¬ (57 : Int) < s[k].toNat := by omega
                  have e3 : (48 : Int) ≤ s[k].toNat := by omega
                  have HVT2 : Hid ((valF (s.data.toList.take (k + 1)) : Int) = v * 10 + ((s[k].toNat : Int) - 48)) := hid (by rw [HVT.out, byte_list s k hlt]; omega)
                  clear hd1 hd2
                  go_wp2
                  exact ⟨⟨k + 1, by omega, by go_num, by rw [HVT2.out], hid (by rw [HAT.out, hall.out, HD.out]; rfl), trivial⟩, by simp [intOf]; omega⟩
            · have hk' : k = s.size := by omega
              have HN : Hid (numberF s.data.toList = some (valF s.data.toList)) := hid (by
                rw [numberF, if_pos]
                refine ⟨by rw [HSZ.out]; omega, by rw [HSZ.out]; omega, HLD.out, ?_⟩
                have := hall.out
                rwa [hk', List.take_of_length_le (by rw [HSZ.out]; omega)] at this)
              have HV : Hid (valF (s.data.toList.take k) = valF s.data.toList) := hid (by rw [hk', List.take_of_length_le (by rw [HSZ.out]; omega)])
              clear hk'
              go_wp2
              go_ret2
              exact ⟨by unfold numRes; rw [HN.out, HV.out]; rfl, HBW.out⟩
end Go.Proofs.YtlinabifalfddaaDoor
