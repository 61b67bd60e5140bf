/- Contract: linchpinlaw29.ProofMay. -/
import Derived.Test.YtlinabifalfddaaDoorW9
import Derived.Test.YtlinabifalfddaaDoorW34
import Derived.Test.YtlinabifalfddaaDoorW10
import Derived.Test.YtlinabifalfddaaDoorW11
namespace Go.Proofs.YtlinabifalfddaaDoor
open Go Go.RowKit

set_option maxRecDepth 100000 in
set_option maxHeartbeats 1000000 in
theorem proofMay_any (v xv : Value) (l : List Row) (xs : List Int) (i1 i2 i3 : Int) (w : World) (h : SliceRd tRow w (Lt w.heap.size) v l) (hx : SliceRd tInt w (Lt w.heap.size) xv xs) (h1 : I64 i1) (h2 : I64 i2) (h3 : I64 i3)
    (htab : Lib.TabBelow Tryd.prog w.heap.size w "internal/strconv.uint64pow10" .u64 Lib.pow10Tab) :
    Calls Tryd.prog 3 #[v, xv, .int .i64 i1, .int .i64 i2, .int .i64 i3] w fun e w' => e = .returned (.bool true) ∧ Below w.heap.size w w' := by
  have HTAB := hid htab
  have HH := hid h
  have HX := hid hx
  obtain ⟨A, cap, rfl, hcap, hmax, hc⟩ := h.rows
  have HC := hid hc
  obtain ⟨B, bcap, rfl, hbcap, hbmax, -⟩ := hx.ints
  unfold maxLen at hmax hbmax
  clear h hx hc htab
  go_enter Tryd.func3, Tryd.ntmps3
  go_wp2_with (first
    | (go_at_call 9
       refine (awake_any _ HTAB.out).mono ?_
       rintro e w1 ⟨rfl, hb1⟩))
  · go_ret
    exact ⟨rfl, hb1⟩
  · go_loopw [11] (fun v wr => ∃ k : Nat, k ≤ l.length ∧ v = .int .i64 k ∧ wr = w) (fun v _ => l.length - (intOf v).toNat)
    case atStart => exact ⟨0, Nat.zero_le _, rfl, rfl⟩
    case round =>
      obtain ⟨k, hk, rfl, rfl⟩ := hrel
      by_cases hlt : k < l.length
      · obtain ⟨g, o, tv, hA, hF, g0, g1, g2, g3, g4, -, ht⟩ := HC.out k hlt
        cases hA
        obtain ⟨TA, tcap, rfl, htcap, htmax, -⟩ := ht.terms
        clear ht g0 g1 g2 g3
        go_wp2_with (first
          | (go_at_call 9
             refine (awake_any _ HTAB.out).mono ?_
             rintro e w1 ⟨rfl, hb1⟩))
        · go_ret
          exact ⟨rfl, hb1⟩
        · exact ⟨⟨k + 1, by omega, by go_num, trivial⟩, by simp [intOf]; omega⟩
      · have f1 := hid True.intro
        have f2 := hid True.intro
        have f3 := hid True.intro
        have f4 := hid True.intro
        go_wp2_with (first
          | (go_at_call 10
             refine (rows_any _ xs _ HX.out).mono ?_
             rintro e w1 ⟨v1, L, rfl, hL, hLl, hLt, hb1⟩
             have HL := hid hL
             have HLT := hid hLt
             clear hL hLt)
          | (go_at_call 11
             refine (bent_any _ L 7 i1 i2 i3 _ HL.out (by omega) HLT.out (by omega) h1 h2 h3).mono ?_
             rintro e w2 ⟨v2, L2, rfl, hL2, -, -, hb2⟩
             have HK := hid (And.intro ((HH.out.lift hb1 hb1.size).lift hb2 hb2.size) (And.intro (HL.out.lift hb2 hb2.size) (And.intro hL2 (hb1.trans (hb2.mono hb1.size)))))
             clear hL2 hb1 hb2)
          | (go_at_call 12
             first
               | (clear f1; refine (may_any _ l _ HK.out.1).mono ?_)
               | (clear f2; refine (may_any _ L _ HK.out.2.1).mono ?_)
               | refine (may_any _ L2 _ HK.out.2.2.1).mono ?_
             rintro e wn ⟨rfl, hbn⟩
             replace HK := hid (And.intro (HK.out.1.lift hbn hbn.size) (And.intro (HK.out.2.1.lift hbn hbn.size) (And.intro (HK.out.2.2.1.lift hbn hbn.size) (HK.out.2.2.2.trans (hbn.mono HK.out.2.2.2.size)))))
             clear hbn)
          | (go_at_call 13
             first
               | (clear f3; refine (rmay_any _ l _ HK.out.1).mono ?_)
               | (clear f4; refine (rmay_any _ L _ HK.out.2.1).mono ?_)
               | refine (rmay_any _ L2 _ HK.out.2.2.1).mono ?_
             rintro e wn ⟨rfl, hbn⟩
             replace HK := hid (And.intro (HK.out.1.lift hbn hbn.size) (And.intro (HK.out.2.1.lift hbn hbn.size) (And.intro (HK.out.2.2.1.lift hbn hbn.size) (HK.out.2.2.2.trans (hbn.mono HK.out.2.2.2.size)))))
             clear hbn)
          | (go_at_call 9
             refine (awake_any _ (fun w' h' => HTAB.out w' (HK.out.2.2.2.trans (h'.mono HK.out.2.2.2.size)))).mono ?_
             rintro e wz ⟨rfl, hbz⟩))
        go_ret
        exact ⟨rfl, HK.out.2.2.2.trans (hbz.mono HK.out.2.2.2.size)⟩
  · go_ret
    exact ⟨rfl, hb1⟩
end Go.Proofs.YtlinabifalfddaaDoor
