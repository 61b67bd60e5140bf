/- Contracts: linchpinref4.Make, Or, Not. -/
import Derived.Test.YtilkhofgcgfnlaaGreatV13
import Derived.Test.YtilkhofgcgfnlaaGreatV14
namespace Go.Proofs.YtilkhofgcgfnlaaGreat
open Go Go.RowKit

theorem OwnSpans.mono {B B' : Nat} {w : World} {v : Value} {l : List Span} (h : OwnSpans B w v l) (hB : B' ≤ B) : OwnSpans B' w v l := by
  refine ⟨⟨h.1.1, ?_⟩, h.2⟩
  rcases h.1.2 with hn | ⟨g, cap, cur, rfl, hb, rest⟩
  · exact .inl hn
  · exact .inr ⟨g, cap, cur, rfl, Nat.le_trans hB hb, rest⟩
def MakePost (n : Nat) (w : World) (e : Ending) (w' : World) : Prop := ∃ v' l' ok, e = .returned (.tuple #[v', .bool ok]) ∧ OwnSpans w.heap.size w' v' l' ∧ l'.length ≤ n ∧ Below w.heap.size w w'
def RowPost (n : Nat) (w : World) (e : Ending) (w' : World) : Prop := ∃ v' l', e = .returned v' ∧ OwnSpans w.heap.size w' v' l' ∧ l'.length ≤ n ∧ Below w.heap.size w w'

set_option maxRecDepth 100000 in
set_option maxHeartbeats 2000000 in
theorem rmake_any (lv : Value) (l : List Span) (w : World) (h : SliceRd fSpan.ty w (Lt w.heap.size) lv l) (hl : l.length ≤ 10000) :
    Calls Tryz.prog 106 #[lv] w (MakePost (2 + 2 * l.length) w) := by
  obtain ⟨A, cap, rfl, hcap, hmax, hc⟩ := h.spans
  have HCL := hid hc
  have HL := hid h
  unfold maxLen at hmax
  clear h hc
  go_enter Tryz.func106, Tryz.ntmps106
  go_wp2
  go_loopw [4] (fun iv wr => ∃ k : Nat, k ≤ l.length ∧ iv = .int .i64 k ∧ Hid (Below w.heap.size w wr)) (fun iv _ => l.length - (intOf iv).toNat)
  case atStart => exact ⟨0, Nat.zero_le _, rfl, hid (b0 _)⟩
  case round =>
    obtain ⟨k, hk, rfl, hb⟩ := hrel
    by_cases hlt : k < l.length
    · obtain ⟨g, o, hA, hF, hB, hat⟩ := HCL.out k hlt
      cases hA
      obtain ⟨s, hs⟩ : ∃ s, s = l[k] := ⟨_, rfl⟩
      rw [← hs] at hB hat
      clear hs
      have HSB := hid hB
      have hgw : g < wr.heap.size := Nat.lt_of_lt_of_le hF hb.out.size
      obtain ⟨c0, c1, c2, c3, c4, c5, c6, c7, c8, c9, c10, c11, c12, c13⟩ := hat.below hb.out hF
      clear hat hB
      have i1 : (0 : Int) ≤ ↑k := by omega
      have i2 : (↑k : Int) < ↑l.length := by omega
      cases hm : spanMay s
      all_goals
        have HM := hid hm
        clear hm
        go_wp2_with (go_at_call 116; (with_reducible refine (smay_s s _ HSB.out).mono ?_); rintro e w1 ⟨rfl, hb1⟩; rw [HM.out])
      · go_ret2
        exact ⟨.slice none 0 0, [], false, rfl, OwnSpans.nil _ _, by simp, bstep hb.out hb1⟩
      · exact ⟨⟨k + 1, by omega, by go_num, hid (bstep hb.out hb1)⟩, by simp [intOf]; omega⟩
    · have HLR := hid (HL.out.lift hb.out hb.out.size)
      go_wp2_with (go_at_call 107; (refine (cuts_any _ l _ HLR.out hl).mono ?_); rintro e wc ⟨CA, ccap, C, rfl, hrd, hC1, hC2, hbc⟩; have HCR := hid hrd; have HBC := hid hbc; clear hrd hbc)
      obtain ⟨_, _, hv, hcc, hcm, hcc2⟩ := HCR.out.cuts
      injection hv with q1 q2 q3
      subst q1
      have HC := hid hcc2
      have HLC := hid (HLR.out.lift HBC.out HBC.out.size)
      unfold maxLen at hcm
      clear hcc2 q2 q3
      have HBW := hid (bstep hb.out HBC.out)
      go_loopw [5, 7] (fun ov iv wr => ∃ k : Nat, k ≤ C.length ∧ iv = .int .i64 k ∧ Hid (∃ L, OwnSpans wc.heap.size wr ov L ∧ L.length ≤ k) ∧ Hid (Below wc.heap.size wc wr)) (fun _ iv _ => C.length - (intOf iv).toNat)
      case atStart => exact ⟨0, Nat.zero_le _, rfl, hid ⟨[], OwnSpans.nil _ _, Nat.le_refl _⟩, hid (b0 _)⟩
      case round =>
        obtain ⟨k, hk, rfl, hout, hb⟩ := hrel
        obtain ⟨L, hown, hL⟩ := hout.out
        have i1 : (0 : Int) ≤ ↑k := by omega
        have i0 : (0 : Int) ≤ ↑k + 1 := by omega
        have i6 : IntKind.i64.wrap (↑k + 1) = (↑k : Int) + 1 := IntWalk.i64_in _ (by omega)
        have i7 : ((↑k : Int) + 1).toNat = k + 1 := by omega
        by_cases hlt : k + 1 < C.length
        · obtain ⟨g, o, hA, hF, hB1, hat1⟩ := HC.out k (by omega)
          cases hA
          obtain ⟨_, _, hA, -, hB2, hat2⟩ := HC.out (k + 1) hlt
          cases hA
          obtain ⟨u, hu⟩ : ∃ u, u = C[k] := ⟨_, rfl⟩
          rw [← hu] at hB1 hat1
          obtain ⟨v, hv⟩ : ∃ v, v = C[k + 1] := ⟨_, rfl⟩
          rw [← hv] at hB2 hat2
          clear hu hv
          have HU := hid hB1
          have HV := hid hB2
          have HO := hid hown
          have hgw : g < wr.heap.size := Nat.lt_of_lt_of_le hF hb.out.size
          have hgc : g < wc.heap.size := hF
          have HAT1 := hid (hat1.below hb.out hF)
          have HAT2 := hid (hat2.below hb.out hF)
          have HSL := hid (HLC.out.lift hb.out hb.out.size)
          obtain ⟨c0, c1, c2, c3, c4, c5, c6⟩ := HAT1.out.later hgw
          obtain ⟨d0, d1, d2, d3, d4, d5, d6⟩ := HAT2.out.later hgw
          clear hat1 hat2 hB1 hB2 hown
          have i2 : (↑k : Int) < ↑C.length := by omega
          have i3 : (↑k : Int) + 1 < ↑C.length := by omega
          cases hin : inB l u v with
          | false =>
            have HI := hid hin
            clear hin
            go_wp2
            (refine wp_region_later (by kernel_rfl) (by kernel_rfl) ?_; (repeat (go_big_quiet_step ((go_at_call 108; exact Calls.later (in_any _ l u v _ (HSL.out.lift (Later.below _) (Later.below _).size) HU.out HV.out) (congrArg Value.bool HI.out))))); refine wpQuiet_nil ?_; rintro _ ⟨⟨w1, hb1⟩, rfl⟩)
            go_wp2
            exact ⟨⟨k + 1, by omega, by go_num, hid ⟨L, HO.out.below hb1 (Nat.le_refl _), by omega⟩, hid (bstep hb.out hb1)⟩, by simp [intOf]; omega⟩
          | true =>
            have HI := hid hin
            clear hin
            go_wp2
            (refine wp_region_later (by kernel_rfl) (by kernel_rfl) ?_; (repeat (go_big_quiet_step ((go_at_call 108; exact Calls.later (in_any _ l u v _ (HSL.out.lift (Later.below _) (Later.below _).size) HU.out HV.out) (congrArg Value.bool HI.out))))); refine wpQuiet_nil ?_; rintro _ ⟨e1, rfl⟩)
            obtain ⟨wx, hwx⟩ : ∃ wx : World, wx = e1.w := ⟨_, rfl⟩
            have HBX := hid (show Below wr.heap.size wr wx from hwx ▸ e1.below)
            rw [← hwx]
            clear hwx c0 c1 c2 c3 c4 c5 c6 d0 d1 d2 d3 d4 d5 d6
            have HOX := hid (HO.out.below HBX.out (Nat.le_refl _))
            have HX1 := hid (HAT1.out.below HBX.out hgw)
            have HX2 := hid (HAT2.out.below HBX.out hgw)
            obtain ⟨c0, c1, c2, c3, c4, c5, c6⟩ := HX1.out
            obtain ⟨d0, d1, d2, d3, d4, d5, d6⟩ := HX2.out
            have hgx : g < wx.heap.size := Nat.lt_of_lt_of_le hgw HBX.out.size
            have hwcx : wc.heap.size ≤ wx.heap.size := Nat.le_trans hb.out.size HBX.out.size
            go_wp2
            first
              | go_must (go_region_held3 (fun w' => w'.cell? ⟨g, o + k * 7, none⟩ = some (.int .i64 u.en) ∧ w'.cell? ⟨g, o + k * 7 + 1, none⟩ = some (.int .i64 u.v.major) ∧ w'.cell? ⟨g, o + k * 7 + 2, none⟩ = some (.int .i64 u.v.minor) ∧ w'.cell? ⟨g, o + k * 7 + 3, none⟩ = some (.int .i64 u.v.patch) ∧ w'.cell? ⟨g, o + k * 7 + 4, none⟩ = some (.string u.v.pre) ∧ w'.cell? ⟨g, o + k * 7 + 5, none⟩ = some (.string u.v.build) ∧ w'.cell? ⟨g, o + k * 7 + 6, none⟩ = some (.bool u.after) ∧ w'.cell? ⟨g, o + (k + 1) * 7, none⟩ = some (.int .i64 v.en) ∧ w'.cell? ⟨g, o + (k + 1) * 7 + 1, none⟩ = some (.int .i64 v.v.major) ∧ w'.cell? ⟨g, o + (k + 1) * 7 + 2, none⟩ = some (.int .i64 v.v.minor) ∧ w'.cell? ⟨g, o + (k + 1) * 7 + 3, none⟩ = some (.int .i64 v.v.patch) ∧ w'.cell? ⟨g, o + (k + 1) * 7 + 4, none⟩ = some (.string v.v.pre) ∧ w'.cell? ⟨g, o + (k + 1) * 7 + 5, none⟩ = some (.string v.v.build) ∧ w'.cell? ⟨g, o + (k + 1) * 7 + 6, none⟩ = some (.bool v.after)) (first | exact ⟨by assumption, by assumption, by assumption, by assumption, by assumption, by assumption, by assumption, by assumption, by assumption, by assumption, by assumption, by assumption, by assumption, by assumption⟩ | go_keep)
                  ((go_at_call 109; go_must (refine (grow_any _ L u v wc.heap.size _ (HOX.out.below (b0 _).drew (Nat.le_refl _)) HU.out HV.out (by omega) hwcx).mono ?_; rintro e w3 ⟨v3, L3, rfl, hown3, hlen3, hb3⟩; replace hb3 : Below wc.heap.size wx w3 := ((Below.refl _ wx).drew).trans hb3; have HB3 := hid hb3; have HO3 := hid hown3; clear hb3 hown3; obtain ⟨e0, e1, e2, e3, e4, e5, e6⟩ := HX1.out.below HB3.out hgc; obtain ⟨f0, f1, f2, f3, f4, f5, f6⟩ := HX2.out.below HB3.out hgc))))
              | fail
            all_goals go_wp2
            all_goals exact ⟨⟨k + 1, by omega, by go_num, hid ⟨L3, HO3.out, by omega⟩, hid ((hb.out.trans (HBX.out.mono hb.out.size)).trans HB3.out)⟩, by simp [intOf]; omega⟩
        · obtain ⟨A5, c5, rfl⟩ := hown.form
          have HO := hid hown
          clear hown
          go_wp2
          go_ret2
          exact ⟨_, L, true, rfl, HO.out.mono HBW.out.size, by omega, HBW.out.trans (hb.out.mono HBW.out.size)⟩

set_option maxRecDepth 100000 in
set_option maxHeartbeats 2000000 in
theorem rnot_any (lv : Value) (l : List Span) (w : World) (h : SliceRd fSpan.ty w (Lt w.heap.size) lv l) (hl : l.length ≤ 10000) :
    Calls Tryz.prog 91 #[lv] w (RowPost (2 + 2 * l.length) w) := by
  have HL := hid h
  clear h
  cases hm : rowMayB l with
  | false =>
    have HM := hid hm
    clear hm
    go_enter Tryz.func91, Tryz.ntmps91
    go_wp2_with (go_at_call 104; (refine (rmay4_any _ l _ HL.out).mono ?_); rintro e w1 ⟨rfl, hb1⟩; rw [HM.out])
    go_ret
    exact ⟨.slice none 0 0, [], rfl, OwnSpans.nil _ _, by simp, hb1⟩
  | true =>
    have HM := hid hm
    clear hm
    go_enter Tryz.func91, Tryz.ntmps91
    go_wp2_with (first
      | (go_at_call 104; (refine (rmay4_any _ l _ HL.out).mono ?_); rintro e w1 ⟨rfl, hb1⟩; rw [HM.out]; have HB1 := hid hb1; have HLR := hid (HL.out.lift hb1 hb1.size))
      | (go_at_call 107; (refine (cuts_any _ l _ HLR.out hl).mono ?_); rintro e wc ⟨CA, ccap, C, rfl, hrd, hC1, hC2, hbc⟩; have HCR := hid hrd; have HBC := hid hbc; clear hrd hbc))
    obtain ⟨_, _, hv, hcc, hcm, hcc2⟩ := HCR.out.cuts
    injection hv with q1 q2 q3
    subst q1
    have HC := hid hcc2
    have HLC := hid (HLR.out.lift HBC.out HBC.out.size)
    unfold maxLen at hcm
    clear hcc2 q2 q3
    have HBW := hid (bstep HB1.out HBC.out)
    go_loopw [3, 5] (fun ov iv wr => ∃ k : Nat, k ≤ C.length ∧ iv = .int .i64 k ∧ Hid (∃ L, OwnSpans wc.heap.size wr ov L ∧ L.length ≤ k) ∧ Hid (Below wc.heap.size wc wr)) (fun _ iv _ => C.length - (intOf iv).toNat)
    case atStart => exact ⟨0, Nat.zero_le _, rfl, hid ⟨[], OwnSpans.nil _ _, Nat.le_refl _⟩, hid (b0 _)⟩
    case round =>
      obtain ⟨k, hk, rfl, hout, hb⟩ := hrel
      obtain ⟨L, hown, hL⟩ := hout.out
      have i1 : (0 : Int) ≤ ↑k := by omega
      have i0 : (0 : Int) ≤ ↑k + 1 := by omega
      have i6 : IntKind.i64.wrap (↑k + 1) = (↑k : Int) + 1 := IntWalk.i64_in _ (by omega)
      have i7 : ((↑k : Int) + 1).toNat = k + 1 := by omega
      by_cases hlt : k + 1 < C.length
      · obtain ⟨g, o, hA, hF, hB1, hat1⟩ := HC.out k (by omega)
        cases hA
        obtain ⟨_, _, hA, -, hB2, hat2⟩ := HC.out (k + 1) hlt
        cases hA
        obtain ⟨u, hu⟩ : ∃ u, u = C[k] := ⟨_, rfl⟩
        rw [← hu] at hB1 hat1
        obtain ⟨v, hv⟩ : ∃ v, v = C[k + 1] := ⟨_, rfl⟩
        rw [← hv] at hB2 hat2
        clear hu hv
        have HU := hid hB1
        have HV := hid hB2
        have HO := hid hown
        have hgw : g < wr.heap.size := Nat.lt_of_lt_of_le hF hb.out.size
        have hgc : g < wc.heap.size := hF
        have HAT1 := hid (hat1.below hb.out hF)
        have HAT2 := hid (hat2.below hb.out hF)
        have HSL := hid (HLC.out.lift hb.out hb.out.size)
        obtain ⟨c0, c1, c2, c3, c4, c5, c6⟩ := HAT1.out.later hgw
        obtain ⟨d0, d1, d2, d3, d4, d5, d6⟩ := HAT2.out.later hgw
        clear hat1 hat2 hB1 hB2 hown
        have i2 : (↑k : Int) < ↑C.length := by omega
        have i3 : (↑k : Int) + 1 < ↑C.length := by omega
        cases hin : inB l u v with
        | true =>
          have HI := hid hin
          clear hin
          go_wp2
          (refine wp_region_later (by kernel_rfl) (by kernel_rfl) ?_; (repeat (go_big_quiet_step ((go_at_call 108; exact Calls.later (in_any _ l u v _ (HSL.out.lift (Later.below _) (Later.below _).size) HU.out HV.out) (congrArg Value.bool HI.out))))); refine wpQuiet_nil ?_; rintro _ ⟨⟨w1, hb1⟩, rfl⟩)
          go_wp2
          exact ⟨⟨k + 1, by omega, by go_num, hid ⟨L, HO.out.below hb1 (Nat.le_refl _), by omega⟩, hid (bstep hb.out hb1)⟩, by simp [intOf]; omega⟩
        | false =>
          have HI := hid hin
          clear hin
          go_wp2
          (refine wp_region_later (by kernel_rfl) (by kernel_rfl) ?_; (repeat (go_big_quiet_step ((go_at_call 108; exact Calls.later (in_any _ l u v _ (HSL.out.lift (Later.below _) (Later.below _).size) HU.out HV.out) (congrArg Value.bool HI.out))))); refine wpQuiet_nil ?_; rintro _ ⟨e1, rfl⟩)
          obtain ⟨wx, hwx⟩ : ∃ wx : World, wx = e1.w := ⟨_, rfl⟩
          have HBX := hid (show Below wr.heap.size wr wx from hwx ▸ e1.below)
          rw [← hwx]
          clear hwx c0 c1 c2 c3 c4 c5 c6 d0 d1 d2 d3 d4 d5 d6
          have HOX := hid (HO.out.below HBX.out (Nat.le_refl _))
          have HX1 := hid (HAT1.out.below HBX.out hgw)
          have HX2 := hid (HAT2.out.below HBX.out hgw)
          obtain ⟨c0, c1, c2, c3, c4, c5, c6⟩ := HX1.out
          obtain ⟨d0, d1, d2, d3, d4, d5, d6⟩ := HX2.out
          have hgx : g < wx.heap.size := Nat.lt_of_lt_of_le hgw HBX.out.size
          have hwcx : wc.heap.size ≤ wx.heap.size := Nat.le_trans hb.out.size HBX.out.size
          go_wp2
          first
            | go_must (go_region_held3 (fun w' => w'.cell? ⟨g, o + k * 7, none⟩ = some (.int .i64 u.en) ∧ w'.cell? ⟨g, o + k * 7 + 1, none⟩ = some (.int .i64 u.v.major) ∧ w'.cell? ⟨g, o + k * 7 + 2, none⟩ = some (.int .i64 u.v.minor) ∧ w'.cell? ⟨g, o + k * 7 + 3, none⟩ = some (.int .i64 u.v.patch) ∧ w'.cell? ⟨g, o + k * 7 + 4, none⟩ = some (.string u.v.pre) ∧ w'.cell? ⟨g, o + k * 7 + 5, none⟩ = some (.string u.v.build) ∧ w'.cell? ⟨g, o + k * 7 + 6, none⟩ = some (.bool u.after) ∧ w'.cell? ⟨g, o + (k + 1) * 7, none⟩ = some (.int .i64 v.en) ∧ w'.cell? ⟨g, o + (k + 1) * 7 + 1, none⟩ = some (.int .i64 v.v.major) ∧ w'.cell? ⟨g, o + (k + 1) * 7 + 2, none⟩ = some (.int .i64 v.v.minor) ∧ w'.cell? ⟨g, o + (k + 1) * 7 + 3, none⟩ = some (.int .i64 v.v.patch) ∧ w'.cell? ⟨g, o + (k + 1) * 7 + 4, none⟩ = some (.string v.v.pre) ∧ w'.cell? ⟨g, o + (k + 1) * 7 + 5, none⟩ = some (.string v.v.build) ∧ w'.cell? ⟨g, o + (k + 1) * 7 + 6, none⟩ = some (.bool v.after)) (first | exact ⟨by assumption, by assumption, by assumption, by assumption, by assumption, by assumption, by assumption, by assumption, by assumption, by assumption, by assumption, by assumption, by assumption, by assumption⟩ | go_keep)
                ((go_at_call 109; go_must (refine (grow_any _ L u v wc.heap.size _ (HOX.out.below (b0 _).drew (Nat.le_refl _)) HU.out HV.out (by omega) hwcx).mono ?_; rintro e w3 ⟨v3, L3, rfl, hown3, hlen3, hb3⟩; replace hb3 : Below wc.heap.size wx w3 := ((Below.refl _ wx).drew).trans hb3; have HB3 := hid hb3; have HO3 := hid hown3; clear hb3 hown3; obtain ⟨e0, e1, e2, e3, e4, e5, e6⟩ := HX1.out.below HB3.out hgc; obtain ⟨f0, f1, f2, f3, f4, f5, f6⟩ := HX2.out.below HB3.out hgc))))
            | fail
          all_goals go_wp2
          all_goals exact ⟨⟨k + 1, by omega, by go_num, hid ⟨L3, HO3.out, by omega⟩, hid ((hb.out.trans (HBX.out.mono hb.out.size)).trans HB3.out)⟩, by simp [intOf]; omega⟩
      · obtain ⟨A5, c5, rfl⟩ := hown.form
        have HO := hid hown
        clear hown
        go_wp2
        go_ret
        exact ⟨_, L, rfl, HO.out.mono HBW.out.size, by omega, HBW.out.trans (hb.out.mono HBW.out.size)⟩

set_option maxRecDepth 100000 in
set_option maxHeartbeats 2000000 in
theorem ror_any (lv mv : Value) (l m : List Span) (w : World) (h : SliceRd fSpan.ty w (Lt w.heap.size) lv l) (h' : SliceRd fSpan.ty w (Lt w.heap.size) mv m) (hl : l.length ≤ 4000) (hm : m.length ≤ 4000) :
    Calls Tryz.prog 89 #[lv, mv] w (RowPost (2 + 2 * (l.length + m.length)) w) := by
  obtain ⟨ii, hii⟩ := info_parts span_info
  have HII := hid hii
  obtain ⟨A, cap, rfl, hcap, hmax, -⟩ := h.flat
  obtain ⟨A', cap', rfl, hcap', hmax', -⟩ := h'.flat
  have HL := hid h
  have HM := hid h'
  clear h h' hii
  cases h1 : rowMayB l with
  | false =>
    have H1 := hid h1
    clear h1
    go_enter Tryz.func89, Tryz.ntmps89
    go_wp2_with (go_at_call 104; (refine (rmay4_any _ l _ HL.out).mono ?_); rintro e w1 ⟨rfl, hb1⟩; rw [H1.out])
    go_ret
    exact ⟨.slice none 0 0, [], rfl, OwnSpans.nil _ _, by simp, hb1⟩
  | true =>
    have H1 := hid h1
    clear h1
    cases h2 : rowMayB m with
    | false =>
      have H2 := hid h2
      clear h2
      go_enter Tryz.func89, Tryz.ntmps89
      have tok := hid True.intro
      go_wp2_with (first
        | (go_at_call 104; clear tok; (refine (rmay4_any _ l _ HL.out).mono ?_); rintro e w1 ⟨rfl, hb1⟩; rw [H1.out]; have HB1 := hid hb1; have HM2 := hid (HM.out.lift hb1 hb1.size))
        | (go_at_call 104; (refine (rmay4_any _ m _ HM2.out).mono ?_); rintro e w2 ⟨rfl, hb2⟩; rw [H2.out]; have HB2 := hid (bstep HB1.out hb2)))
      go_ret
      exact ⟨.slice none 0 0, [], rfl, OwnSpans.nil _ _, by simp, HB2.out⟩
    | true =>
      have H2 := hid h2
      clear h2
      go_enter Tryz.func89, Tryz.ntmps89
      have tok := hid True.intro
      have tok2 := hid True.intro
      go_wp2_with (first
        | (go_at_call 104; clear tok; (refine (rmay4_any _ l _ HL.out).mono ?_); rintro e w1 ⟨rfl, hb1⟩; rw [H1.out]; have HB1 := hid hb1; have HM2 := hid (HM.out.lift hb1 hb1.size))
        | (go_at_call 104; (refine (rmay4_any _ m _ HM2.out).mono ?_); rintro e w2 ⟨rfl, hb2⟩; rw [H2.out]; have HB2 := hid (bstep HB1.out hb2); have hz2 := HB2.out.size)
        | (at_builtin
           clear tok2
           go_must (refine wpList_append_src _ rfl (.const (.slice none 0 0)) (.tmp 16) _ rfl w.heap.size 96 ii _ 14 144 Tryz.underlying64 HII.out.1 HII.out.2.1 HII.out.2.2.1 HII.out.2.2.2 rfl (by omega) (.slice none 0 0) 0 [] (by rfl) ⟨rfl, .inl ⟨rfl, rfl⟩⟩ A l.length cap (fSpan.all l) (by rfl) (HL.out.below HB2.out).srcF.2.1 (fSpan.all_one _) (by unfold maxLen; omega) (by omega) hz2 ?_)
           intro v4 w4 hown4 hg4 _
           simp only [Nat.zero_add, List.nil_append] at hown4
           obtain ⟨A4, c4, rfl⟩ := own_form hown4
           have HB4 := hid (show Below w.heap.size w w4 from HB2.out.grown hg4 hz2 (fun k hk => by cases hk))
           have HO4 := hid hown4
           have hz4 := HB4.out.size
           clear hown4 hg4)
        | (at_builtin
           go_must (refine wpList_append_src _ rfl (.tmp 17) (.tmp 18) _ rfl w.heap.size 96 ii _ 14 144 Tryz.underlying64 HII.out.1 HII.out.2.1 HII.out.2.2.1 HII.out.2.2.2 rfl (by omega) (.slice A4 l.length c4) l.length (fSpan.all l) (by rfl) HO4.out A' m.length cap' (fSpan.all m) (by rfl) (HM.out.below HB4.out).srcF.2.1 (fSpan.all_one _) (by unfold maxLen; omega) (by omega) hz4 ?_)
           intro v5 w5 hown5 hg5 _
           obtain ⟨A5, c5, rfl⟩ := own_form hown5
           have HB5 := hid (show Below w.heap.size w w5 from HB4.out.grown hg5 hz4 (fun k hk => (HO4.out.lt k hk).1))
           have HO5 := hid hown5
           have HR5 : Hid (SliceRd fSpan.ty w5 (Lt w5.heap.size) (.slice A5 (l.length + m.length) c5) (l ++ m)) := hid (rd_of_ownF (f := fSpan) (by rw [fSpan.all_append, List.length_append]; exact hown5) (fun x hx => by rcases List.mem_append.1 hx with hx | hx; exact HL.out.srcF.2.2 x hx; exact HM.out.srcF.2.2 x hx) (fun g hg => (hown5.lt g hg).2))
           clear hown5 hg5)
        | (go_at_call 106; (refine (rmake_any _ (l ++ m) _ HR5.out (by rw [List.length_append]; omega)).mono ?_); rintro e w6 ⟨v6, l6, ok, rfl, hown6, hlen6, hb6⟩; have HO6 := hid hown6; have HB6 := hid hb6; rw [List.length_append] at hlen6; clear hown6 hb6))
      go_ret
      exact ⟨v6, l6, rfl, HO6.out.mono HB5.out.size, hlen6, bstep HB5.out HB6.out⟩
end Go.Proofs.YtilkhofgcgfnlaaGreat
