/- Contract: linchpinlaw29.ProofBack. -/
import Derived.Test.YtlinabifalfddaaDoorW4
import Derived.Test.YtlinabifalfddaaDoorParse
namespace Go.Proofs.YtlinabifalfddaaDoor
open Go Go.RowKit

theorem below_cell {w : World} (hm : ∃ m, w.cell? ⟨0, 0, none⟩ = some (.int .i64 m)) : ∀ w', Below w.heap.size w w' → ∃ m, w'.cell? ⟨0, 0, none⟩ = some (.int .i64 m) := fun w' hb => by
  obtain ⟨m, hm⟩ := hm
  have hz : 0 < w.heap.size := by
    rcases Nat.eq_zero_or_pos w.heap.size with h0 | h0
    · exfalso
      have : w.heap = #[] := Array.eq_empty_of_size_eq_zero h0
      simp [World.cell?, this] at hm
    · exact h0
  exact ⟨m, cell_below hb hz hm⟩
set_option maxRecDepth 100000 in
set_option maxHeartbeats 1000000 in
theorem proofBack_any (xv : Value) (xs : List Int) (S : ByteArray) (w : World) (hx : SliceRd tInt w (Lt w.heap.size) xv xs) (hS : S.size ≤ maxLen) (hm : ∃ m, w.cell? ⟨0, 0, none⟩ = some (.int .i64 m))
    (htab : Lib.TabBelow Tryd.prog w.heap.size w "internal/strconv.uint64pow10" .u64 Lib.pow10Tab) :
    Calls Tryd.prog 7 #[xv, .string S] w fun e w' => e = .returned (.bool true) ∧ Below w.heap.size w w' := by
  have HTAB := hid htab
  have HX := hid hx
  have HM2 := hid (below_cell hm)
  obtain ⟨B, bcap, rfl, hbcap, hbmax, -⟩ := hx.ints
  unfold maxLen at hbmax hS
  clear hx htab hm
  go_enter Tryd.func7, Tryd.ntmps7
  go_wp2_with (first
    | (go_at_call 9
       refine (awake_any _ HTAB.out).mono ?_
       rintro e w1 ⟨rfl, hb1⟩)
    | (go_at_call 10
       refine (rows_any _ xs _ HX.out).mono ?_
       rintro e w1 ⟨v1, L, rfl, hL, hLl, hLt, hb1⟩
       have HL := hid hL
       clear hL hLt))
  · go_ret
    exact ⟨rfl, hb1⟩
  · by_cases hm : MayP L
    · have HMAY := hid hm
      have HSM := hid (printF_small HL.out hm hLl)
      clear hm
      go_upto_region 9 with (first
        | (go_at_call 15
           refine (print_any _ L _ HL.out HMAY.out (fun w' h' => HTAB.out w' (hb1.trans (h'.mono hb1.size))) HSM.out).mono ?_
           rintro e w2 ⟨rfl, hb2⟩
           have HL2 := hid (HL.out.lift hb2 hb2.size)
           have hB2 := hb1.trans (hb2.mono hb1.size)
           clear hb2 hb1 HL)
        | (go_at_call 23
           refine (parse_any ⟨(printF L).toArray⟩ _ (by show (printF L).toArray.size ≤ _; have := HSM.out; simp; omega) (HM2.out _ hB2)).mono ?_
           rw [show (⟨(printF L).toArray⟩ : ByteArray).data.toList = printF L from rfl, parseF_print HMAY.out]
           rintro e w3 ⟨v3, rfl, hr3, hb3⟩
           have HL3 := hid (HL2.out.lift hb3 hb3.size)
           have HR3 := hid hr3
           have hB3 := hB2.trans (hb3.mono hB2.size)
           clear hb3 hB2 HL2 hr3)
        | (go_at_call 17
           refine (sameRows_any _ _ L L _ HL3.out HR3.out).mono ?_
           rintro e w4 ⟨rfl, hb4⟩
           have hB4 := hB3.trans (hb4.mono hB3.size)
           rw [decide_eq_true rfl]
           clear hb4))
      have hs3 : S.size ≤ 1048576 := by omega
      rcases parseF_cases S.data.toList with ⟨m, hmm, hp⟩ | ⟨er, n, he, hp⟩
      · have HP := hid hp
        have HMM := hid hmm
        have hpr := (print_parseF hp).2.1
        have HST := hid (show (⟨(printF m).toArray⟩ : ByteArray) = S from (bytes_of hpr.symm).symm)
        have HLE := hid (show (printF m).length ≤ 1048576 by rw [hpr]; simp; omega)
        clear hp hmm hpr
        go_wp2_with (first
          | (go_at_call 23
             refine (parse_any S _ hs3 (HM2.out _ hB4)).mono ?_
             rw [HP.out]
             rintro e w5 ⟨v5, rfl, hr5, hb5⟩
             have HR5 := hid hr5
             have hB5 := hB4.trans (hb5.mono hB4.size)
             clear hb5 hB4 hr5)
          | (go_at_call 15
             refine (print_any _ m _ HR5.out HMM.out (fun w' h' => HTAB.out w' (hB5.trans (h'.mono hB5.size))) HLE.out).mono ?_
             rintro e w6 ⟨rfl, hb6⟩
             rw [HST.out]
             have hB6 := hB5.trans (hb6.mono hB5.size)
             clear hb6 hB5)
          | (go_at_call 9
             refine (awake_any _ (fun w' h' => HTAB.out w' (hB6.trans (h'.mono hB6.size)))).mono ?_
             rintro e wz ⟨rfl, hbz⟩))
        go_ret
        exact ⟨rfl, hB6.trans (hbz.mono hB6.size)⟩
      · have HP := hid hp
        have he1 : (er == 0) = false := by simpa using he
        clear hp
        go_wp2_with (first
          | (go_at_call 23
             refine (parse_any S _ hs3 (HM2.out _ hB4)).mono ?_
             rw [HP.out]
             rintro e w5 ⟨v5, rfl, hr5, hb5⟩
             obtain ⟨A5, cap5, rfl, -, -, -⟩ := hr5.rows
             have hB5 := hB4.trans (hb5.mono hB4.size)
             clear hb5 hB4 hr5)
          | (go_at_call 9
             refine (awake_any _ (fun w' h' => HTAB.out w' (hB5.trans (h'.mono hB5.size)))).mono ?_
             rintro e wz ⟨rfl, hbz⟩))
        go_ret
        exact ⟨rfl, hB5.trans (hbz.mono hB5.size)⟩
    · have HMAY := hid hm
      clear hm
      go_upto_region 9 with (first
        | (go_at_call 15
           refine (print_bad _ L _ HL.out HMAY.out).mono ?_
           rintro e w2 ⟨rfl, hb2⟩
           have hB4 := hb1.trans (hb2.mono hb1.size)
           clear hb2 hb1 HL))
      have hs3 : S.size ≤ 1048576 := by omega
      rcases parseF_cases S.data.toList with ⟨m, hmm, hp⟩ | ⟨er, n, he, hp⟩
      · have HP := hid hp
        have HMM := hid hmm
        have hpr := (print_parseF hp).2.1
        have HST := hid (show (⟨(printF m).toArray⟩ : ByteArray) = S from (bytes_of hpr.symm).symm)
        have HLE := hid (show (printF m).length ≤ 1048576 by rw [hpr]; simp; omega)
        clear hp hmm hpr
        go_wp2_with (first
          | (go_at_call 23
             refine (parse_any S _ hs3 (HM2.out _ hB4)).mono ?_
             rw [HP.out]
             rintro e w5 ⟨v5, rfl, hr5, hb5⟩
             have HR5 := hid hr5
             have hB5 := hB4.trans (hb5.mono hB4.size)
             clear hb5 hB4 hr5)
          | (go_at_call 15
             refine (print_any _ m _ HR5.out HMM.out (fun w' h' => HTAB.out w' (hB5.trans (h'.mono hB5.size))) HLE.out).mono ?_
             rintro e w6 ⟨rfl, hb6⟩
             rw [HST.out]
             have hB6 := hB5.trans (hb6.mono hB5.size)
             clear hb6 hB5)
          | (go_at_call 9
             refine (awake_any _ (fun w' h' => HTAB.out w' (hB6.trans (h'.mono hB6.size)))).mono ?_
             rintro e wz ⟨rfl, hbz⟩))
        go_ret
        exact ⟨rfl, hB6.trans (hbz.mono hB6.size)⟩
      · have HP := hid hp
        have he1 : (er == 0) = false := by simpa using he
        clear hp
        go_wp2_with (first
          | (go_at_call 23
             refine (parse_any S _ hs3 (HM2.out _ hB4)).mono ?_
             rw [HP.out]
             rintro e w5 ⟨v5, rfl, hr5, hb5⟩
             obtain ⟨A5, cap5, rfl, -, -, -⟩ := hr5.rows
             have hB5 := hB4.trans (hb5.mono hB4.size)
             clear hb5 hB4 hr5)
          | (go_at_call 9
             refine (awake_any _ (fun w' h' => HTAB.out w' (hB5.trans (h'.mono hB5.size)))).mono ?_
             rintro e wz ⟨rfl, hbz⟩))
        go_ret
        exact ⟨rfl, hB5.trans (hbz.mono hB5.size)⟩
  · go_ret
    exact ⟨rfl, hb1⟩
end Go.Proofs.YtlinabifalfddaaDoor
