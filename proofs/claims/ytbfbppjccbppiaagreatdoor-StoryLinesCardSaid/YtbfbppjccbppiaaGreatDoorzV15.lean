import Derived.Test.YtbfbppjccbppiaaGreatDoorzV13
namespace Go.Proofs.YtbfbppjccbppiaaGreatDoor
open Go Go.RowKit
section
theorem qa8.mono {B B' : Nat} {w : World} {v : Value} {l : List Span} (h : qa8 B w v l) (hB : B' ≤ B) : qa8 B' w v l := by
  refine ⟨⟨h.1.1, ?_⟩, h.2⟩
  rcases h.1.2 with hn | ⟨g, cap, cur, rfl, hb, rest⟩
  · exact .inl hn
  · exact .inr ⟨g, cap, cur, rfl, Nat.le_trans hB hb, rest⟩
def MakePost (n : Nat) (w : World) (e : Ending) (w' : World) : Prop := ∃ v' l' ok, e = .returned (.tuple #[v', .bool ok]) ∧ qa8 w.heap.size w' v' l' ∧ l'.length ≤ n ∧ Below w.heap.size w w'
def RowPost (n : Nat) (w : World) (e : Ending) (w' : World) : Prop := ∃ v' l', e = .returned v' ∧ qa8 w.heap.size w' v' l' ∧ l'.length ≤ n ∧ Below w.heap.size w w'
set_option maxRecDepth 100000 in
set_option maxHeartbeats 2000000 in
theorem rmake_any (lv : Value) (l : List Span) (w : World) (h : SliceRd qd6.ty w (Lt w.heap.size) lv l) (hl : l.length ≤ 10000) :
    Calls Tryz.prog 158 #[lv] w (MakePost (2 + 2 * l.length) w) := by
  obtain ⟨A, cap, rfl, hcap, hmax, hc⟩ := h.spans
  have HCL := hid hc
  have HL := hid h
  unfold maxLen at hmax
  clear h hc
  go_enter Tryz.func158, Tryz.ntmps158
  go_wp2
  go_loopw [4] (fun iv wr => ∃ k : Nat, k ≤ l.length ∧ iv = .int .i64 k ∧ Hid (Below w.heap.size w wr)) (fun iv _ => l.length - (intOf iv).toNat)
  case atStart => exact ⟨0, Nat.zero_le _, rfl, hid (b0 _)⟩
  case round =>
    obtain ⟨k, hk, rfl, hb⟩ := hrel
    by_cases hlt : k < l.length
    · obtain ⟨g, o, hA, hF, hB, hat⟩ := HCL.out k hlt
      cases hA
      obtain ⟨s, hs⟩ : ∃ s, s = l[k] := ⟨_, rfl⟩
      rw [← hs] at hB hat
      clear hs
      have HSB := hid hB
      have hgw : g < wr.heap.size := Nat.lt_of_lt_of_le hF hb.out.size
      obtain ⟨c0, c1, c2, c3, c4, c5, c6, c7, c8, c9, c10, c11, c12, c13⟩ := hat.below hb.out hF
      clear hat hB
      have i1 : (0 : Int) ≤ ↑k := by omega
      have i2 : (↑k : Int) < ↑l.length := by omega
      cases hm : qj2 s
      all_goals
        have HM := hid hm
        clear hm
        go_wp2_with (go_at_call 179; (with_reducible refine (smay_s s _ HSB.out).mono ?_); rintro e w1 ⟨rfl, hb1⟩; rw [HM.out])
      · go_ret2
        exact ⟨.slice none 0 0, [], false, rfl, qa8.nil _ _, by simp, qa1 hb.out hb1⟩
      · exact ⟨⟨k + 1, by omega, by go_num, hid (qa1 hb.out hb1)⟩, by simp [intOf]; omega⟩
    · have HLR := hid (HL.out.lift hb.out hb.out.size)
      go_wp2_with (go_at_call 159; (refine (cuts_any _ l _ HLR.out hl).mono ?_); rintro e wc ⟨CA, ccap, C, rfl, hrd, hC1, hC2, hbc⟩; have HCR := hid hrd; have HBC := hid hbc; clear hrd hbc)
      obtain ⟨_, _, hv, hcc, hcm, hcc2⟩ := HCR.out.cuts
      injection hv with q1 q2 q3
      subst q1
      have HC := hid hcc2
      have HLC := hid (HLR.out.lift HBC.out HBC.out.size)
      unfold maxLen at hcm
      clear hcc2 q2 q3
      have HBW := hid (qa1 hb.out HBC.out)
      go_loopw [5, 7] (fun ov iv wr => ∃ k : Nat, k ≤ C.length ∧ iv = .int .i64 k ∧ Hid (∃ L, qa8 wc.heap.size wr ov L ∧ L.length ≤ k) ∧ Hid (Below wc.heap.size wc wr)) (fun _ iv _ => C.length - (intOf iv).toNat)
      case atStart => exact ⟨0, Nat.zero_le _, rfl, hid ⟨[], qa8.nil _ _, Nat.le_refl _⟩, hid (b0 _)⟩
      case round =>
        obtain ⟨k, hk, rfl, hout, hb⟩ := hrel
        obtain ⟨L, hown, hL⟩ := hout.out
        have i1 : (0 : Int) ≤ ↑k := by omega
        have i0 : (0 : Int) ≤ ↑k + 1 := by omega
        have i6 : IntKind.i64.wrap (↑k + 1) = (↑k : Int) + 1 := IntWalk.i64_in _ (by omega)
        have i7 : ((↑k : Int) + 1).toNat = k + 1 := by omega
        by_cases hlt : k + 1 < C.length
        · obtain ⟨g, o, hA, hF, hB1, hat1⟩ := HC.out k (by omega)
          cases hA
          obtain ⟨_, _, hA, -, hB2, hat2⟩ := HC.out (k + 1) hlt
          cases hA
          obtain ⟨u, hu⟩ : ∃ u, u = C[k] := ⟨_, rfl⟩
          rw [← hu] at hB1 hat1
          obtain ⟨v, hv⟩ : ∃ v, v = C[k + 1] := ⟨_, rfl⟩
          rw [← hv] at hB2 hat2
          clear hu hv
          have HU := hid hB1
          have HV := hid hB2
          have HO := hid hown
          have hgw : g < wr.heap.size := Nat.lt_of_lt_of_le hF hb.out.size
          have hgc : g < wc.heap.size := hF
          have HAT1 := hid (hat1.below hb.out hF)
          have HAT2 := hid (hat2.below hb.out hF)
          have HSL := hid (HLC.out.lift hb.out hb.out.size)
          obtain ⟨c0, c1, c2, c3, c4, c5, c6⟩ := HAT1.out.later hgw
          obtain ⟨d0, d1, d2, d3, d4, d5, d6⟩ := HAT2.out.later hgw
          clear hat1 hat2 hB1 hB2 hown
          have i2 : (↑k : Int) < ↑C.length := by omega
          have i3 : (↑k : Int) + 1 < ↑C.length := by omega
          cases hin : inB l u v with
          | false =>
            have HI := hid hin
            clear hin
            go_wp2
            (refine qa3 (by kernel_rfl) (by kernel_rfl) ?_; (repeat (go_big_quiet_step ((go_at_call 160; exact Calls.later (in_any _ l u v _ (HSL.out.lift (Later.below _) (Later.below _).size) HU.out HV.out) (congrArg Value.bool HI.out))))); refine wpQuiet_nil ?_; rintro _ ⟨⟨w1, hb1⟩, rfl⟩)
            go_wp2
            exact ⟨⟨k + 1, by omega, by go_num, hid ⟨L, HO.out.below hb1 (Nat.le_refl _), by omega⟩, hid (qa1 hb.out hb1)⟩, by simp [intOf]; omega⟩
          | true =>
            have HI := hid hin
            clear hin
            go_wp2
            (refine qa3 (by kernel_rfl) (by kernel_rfl) ?_; (repeat (go_big_quiet_step ((go_at_call 160; exact Calls.later (in_any _ l u v _ (HSL.out.lift (Later.below _) (Later.below _).size) HU.out HV.out) (congrArg Value.bool HI.out))))); refine wpQuiet_nil ?_; rintro _ ⟨e1, rfl⟩)
            obtain ⟨wx, hwx⟩ : ∃ wx : World, wx = e1.w := ⟨_, rfl⟩
            have HBX := hid (show Below wr.heap.size wr wx from hwx ▸ e1.below)
            rw [← hwx]
            clear hwx c0 c1 c2 c3 c4 c5 c6 d0 d1 d2 d3 d4 d5 d6
            have HOX := hid (HO.out.below HBX.out (Nat.le_refl _))
            have HX1 := hid (HAT1.out.below HBX.out hgw)
            have HX2 := hid (HAT2.out.below HBX.out hgw)
            obtain ⟨c0, c1, c2, c3, c4, c5, c6⟩ := HX1.out
            obtain ⟨d0, d1, d2, d3, d4, d5, d6⟩ := HX2.out
            have hgx : g < wx.heap.size := Nat.lt_of_lt_of_le hgw HBX.out.size
            have hwcx : wc.heap.size ≤ wx.heap.size := Nat.le_trans hb.out.size HBX.out.size
            go_wp2
            first
              | go_must (go_region_held3 (fun w' => w'.cell? ⟨g, o + k * 7, none⟩ = some (.int .i64 u.en) ∧ w'.cell? ⟨g, o + k * 7 + 1, none⟩ = some (.int .i64 u.v.major) ∧ w'.cell? ⟨g, o + k * 7 + 2, none⟩ = some (.int .i64 u.v.minor) ∧ w'.cell? ⟨g, o + k * 7 + 3, none⟩ = some (.int .i64 u.v.patch) ∧ w'.cell? ⟨g, o + k * 7 + 4, none⟩ = some (.string u.v.pre) ∧ w'.cell? ⟨g, o + k * 7 + 5, none⟩ = some (.string u.v.build) ∧ w'.cell? ⟨g, o + k * 7 + 6, none⟩ = some (.bool u.after) ∧ w'.cell? ⟨g, o + (k + 1) * 7, none⟩ = some (.int .i64 v.en) ∧ w'.cell? ⟨g, o + (k + 1) * 7 + 1, none⟩ = some (.int .i64 v.v.major) ∧ w'.cell? ⟨g, o + (k + 1) * 7 + 2, none⟩ = some (.int .i64 v.v.minor) ∧ w'.cell? ⟨g, o + (k + 1) * 7 + 3, none⟩ = some (.int .i64 v.v.patch) ∧ w'.cell? ⟨g, o + (k + 1) * 7 + 4, none⟩ = some (.string v.v.pre) ∧ w'.cell? ⟨g, o + (k + 1) * 7 + 5, none⟩ = some (.string v.v.build) ∧ w'.cell? ⟨g, o + (k + 1) * 7 + 6, none⟩ = some (.bool v.after)) (first | exact ⟨by assumption, by assumption, by assumption, by assumption, by assumption, by assumption, by assumption, by assumption, by assumption, by assumption, by assumption, by assumption, by assumption, by assumption⟩ | go_keep)
                  ((go_at_call 161; go_must (refine (grow_any _ L u v wc.heap.size _ (HOX.out.below (b0 _).drew (Nat.le_refl _)) HU.out HV.out (by omega) hwcx).mono ?_; rintro e w3 ⟨v3, L3, rfl, hown3, hlen3, hb3⟩; replace hb3 : Below wc.heap.size wx w3 := ((Below.refl _ wx).drew).trans hb3; have HB3 := hid hb3; have HO3 := hid hown3; clear hb3 hown3; obtain ⟨e0, e1, e2, e3, e4, e5, e6⟩ := HX1.out.below HB3.out hgc; obtain ⟨f0, f1, f2, f3, f4, f5, f6⟩ := HX2.out.below HB3.out hgc))))
              | fail
            all_goals go_wp2
            all_goals exact ⟨⟨k + 1, by omega, by go_num, hid ⟨L3, HO3.out, by omega⟩, hid ((hb.out.trans (HBX.out.mono hb.out.size)).trans HB3.out)⟩, by simp [intOf]; omega⟩
        · obtain ⟨A5, c5, rfl⟩ := hown.form
          have HO := hid hown
          clear hown
          go_wp2
          go_ret2
          exact ⟨_, L, true, rfl, HO.out.mono HBW.out.size, by omega, HBW.out.trans (hb.out.mono HBW.out.size)⟩
set_option maxRecDepth 100000 in
set_option maxHeartbeats 2000000 in
theorem rnot_any (lv : Value) (l : List Span) (w : World) (h : SliceRd qd6.ty w (Lt w.heap.size) lv l) (hl : l.length ≤ 10000) :
    Calls Tryz.prog 136 #[lv] w (RowPost (2 + 2 * l.length) w) := by
  have HL := hid h
  clear h
  cases hm : qj1 l with
  | false =>
    have HM := hid hm
    clear hm
    go_enter Tryz.func136, Tryz.ntmps136
    go_wp2_with (go_at_call 156; (refine (qh4 _ l _ HL.out).mono ?_); rintro e w1 ⟨rfl, hb1⟩; rw [HM.out])
    go_ret
    exact ⟨.slice none 0 0, [], rfl, qa8.nil _ _, by simp, hb1⟩
  | true =>
    have HM := hid hm
    clear hm
    go_enter Tryz.func136, Tryz.ntmps136
    go_wp2_with (first
      | (go_at_call 156; (refine (qh4 _ l _ HL.out).mono ?_); rintro e w1 ⟨rfl, hb1⟩; rw [HM.out]; have HB1 := hid hb1; have HLR := hid (HL.out.lift hb1 hb1.size))
      | (go_at_call 159; (refine (cuts_any _ l _ HLR.out hl).mono ?_); rintro e wc ⟨CA, ccap, C, rfl, hrd, hC1, hC2, hbc⟩; have HCR := hid hrd; have HBC := hid hbc; clear hrd hbc))
    obtain ⟨_, _, hv, hcc, hcm, hcc2⟩ := HCR.out.cuts
    injection hv with q1 q2 q3
    subst q1
    have HC := hid hcc2
    have HLC := hid (HLR.out.lift HBC.out HBC.out.size)
    unfold maxLen at hcm
    clear hcc2 q2 q3
    have HBW := hid (qa1 HB1.out HBC.out)
    go_loopw [3, 5] (fun ov iv wr => ∃ k : Nat, k ≤ C.length ∧ iv = .int .i64 k ∧ Hid (∃ L, qa8 wc.heap.size wr ov L ∧ L.length ≤ k) ∧ Hid (Below wc.heap.size wc wr)) (fun _ iv _ => C.length - (intOf iv).toNat)
    case atStart => exact ⟨0, Nat.zero_le _, rfl, hid ⟨[], qa8.nil _ _, Nat.le_refl _⟩, hid (b0 _)⟩
    case round =>
      obtain ⟨k, hk, rfl, hout, hb⟩ := hrel
      obtain ⟨L, hown, hL⟩ := hout.out
      have i1 : (0 : Int) ≤ ↑k := by omega
      have i0 : (0 : Int) ≤ ↑k + 1 := by omega
      have i6 : IntKind.i64.wrap (↑k + 1) = (↑k : Int) + 1 := IntWalk.i64_in _ (by omega)
      have i7 : ((↑k : Int) + 1).toNat = k + 1 := by omega
      by_cases hlt : k + 1 < C.length
      · obtain ⟨g, o, hA, hF, hB1, hat1⟩ := HC.out k (by omega)
        cases hA
        obtain ⟨_, _, hA, -, hB2, hat2⟩ := HC.out (k + 1) hlt
        cases hA
        obtain ⟨u, hu⟩ : ∃ u, u = C[k] := ⟨_, rfl⟩
        rw [← hu] at hB1 hat1
        obtain ⟨v, hv⟩ : ∃ v, v = C[k + 1] := ⟨_, rfl⟩
        rw [← hv] at hB2 hat2
        clear hu hv
        have HU := hid hB1
        have HV := hid hB2
        have HO := hid hown
        have hgw : g < wr.heap.size := Nat.lt_of_lt_of_le hF hb.out.size
        have hgc : g < wc.heap.size := hF
        have HAT1 := hid (hat1.below hb.out hF)
        have HAT2 := hid (hat2.below hb.out hF)
        have HSL := hid (HLC.out.lift hb.out hb.out.size)
        obtain ⟨c0, c1, c2, c3, c4, c5, c6⟩ := HAT1.out.later hgw
        obtain ⟨d0, d1, d2, d3, d4, d5, d6⟩ := HAT2.out.later hgw
        clear hat1 hat2 hB1 hB2 hown
        have i2 : (↑k : Int) < ↑C.length := by omega
        have i3 : (↑k : Int) + 1 < ↑C.length := by omega
        cases hin : inB l u v with
        | true =>
          have HI := hid hin
          clear hin
          go_wp2
          (refine qa3 (by kernel_rfl) (by kernel_rfl) ?_; (repeat (go_big_quiet_step ((go_at_call 160; exact Calls.later (in_any _ l u v _ (HSL.out.lift (Later.below _) (Later.below _).size) HU.out HV.out) (congrArg Value.bool HI.out))))); refine wpQuiet_nil ?_; rintro _ ⟨⟨w1, hb1⟩, rfl⟩)
          go_wp2
          exact ⟨⟨k + 1, by omega, by go_num, hid ⟨L, HO.out.below hb1 (Nat.le_refl _), by omega⟩, hid (qa1 hb.out hb1)⟩, by simp [intOf]; omega⟩
        | false =>
          have HI := hid hin
          clear hin
          go_wp2
          (refine qa3 (by kernel_rfl) (by kernel_rfl) ?_; (repeat (go_big_quiet_step ((go_at_call 160; exact Calls.later (in_any _ l u v _ (HSL.out.lift (Later.below _) (Later.below _).size) HU.out HV.out) (congrArg Value.bool HI.out))))); refine wpQuiet_nil ?_; rintro _ ⟨e1, rfl⟩)
          obtain ⟨wx, hwx⟩ : ∃ wx : World, wx = e1.w := ⟨_, rfl⟩
          have HBX := hid (show Below wr.heap.size wr wx from hwx ▸ e1.below)
          rw [← hwx]
          clear hwx c0 c1 c2 c3 c4 c5 c6 d0 d1 d2 d3 d4 d5 d6
          have HOX := hid (HO.out.below HBX.out (Nat.le_refl _))
          have HX1 := hid (HAT1.out.below HBX.out hgw)
          have HX2 := hid (HAT2.out.below HBX.out hgw)
          obtain ⟨c0, c1, c2, c3, c4, c5, c6⟩ := HX1.out
          obtain ⟨d0, d1, d2, d3, d4, d5, d6⟩ := HX2.out
          have hgx : g < wx.heap.size := Nat.lt_of_lt_of_le hgw HBX.out.size
          have hwcx : wc.heap.size ≤ wx.heap.size := Nat.le_trans hb.out.size HBX.out.size
          go_wp2
          first
            | go_must (go_region_held3 (fun w' => w'.cell? ⟨g, o + k * 7, none⟩ = some (.int .i64 u.en) ∧ w'.cell? ⟨g, o + k * 7 + 1, none⟩ = some (.int .i64 u.v.major) ∧ w'.cell? ⟨g, o + k * 7 + 2, none⟩ = some (.int .i64 u.v.minor) ∧ w'.cell? ⟨g, o + k * 7 + 3, none⟩ = some (.int .i64 u.v.patch) ∧ w'.cell? ⟨g, o + k * 7 + 4, none⟩ = some (.string u.v.pre) ∧ w'.cell? ⟨g, o + k * 7 + 5, none⟩ = some (.string u.v.build) ∧ w'.cell? ⟨g, o + k * 7 + 6, none⟩ = some (.bool u.after) ∧ w'.cell? ⟨g, o + (k + 1) * 7, none⟩ = some (.int .i64 v.en) ∧ w'.cell? ⟨g, o + (k + 1) * 7 + 1, none⟩ = some (.int .i64 v.v.major) ∧ w'.cell? ⟨g, o + (k + 1) * 7 + 2, none⟩ = some (.int .i64 v.v.minor) ∧ w'.cell? ⟨g, o + (k + 1) * 7 + 3, none⟩ = some (.int .i64 v.v.patch) ∧ w'.cell? ⟨g, o + (k + 1) * 7 + 4, none⟩ = some (.string v.v.pre) ∧ w'.cell? ⟨g, o + (k + 1) * 7 + 5, none⟩ = some (.string v.v.build) ∧ w'.cell? ⟨g, o + (k + 1) * 7 + 6, none⟩ = some (.bool v.after)) (first | exact ⟨by assumption, by assumption, by assumption, by assumption, by assumption, by assumption, by assumption, by assumption, by assumption, by assumption, by assumption, by assumption, by assumption, by assumption⟩ | go_keep)
                ((go_at_call 161; go_must (refine (grow_any _ L u v wc.heap.size _ (HOX.out.below (b0 _).drew (Nat.le_refl _)) HU.out HV.out (by omega) hwcx).mono ?_; rintro e w3 ⟨v3, L3, rfl, hown3, hlen3, hb3⟩; replace hb3 : Below wc.heap.size wx w3 := ((Below.refl _ wx).drew).trans hb3; have HB3 := hid hb3; have HO3 := hid hown3; clear hb3 hown3; obtain ⟨e0, e1, e2, e3, e4, e5, e6⟩ := HX1.out.below HB3.out hgc; obtain ⟨f0, f1, f2, f3, f4, f5, f6⟩ := HX2.out.below HB3.out hgc))))
            | fail
          all_goals go_wp2
          all_goals exact ⟨⟨k + 1, by omega, by go_num, hid ⟨L3, HO3.out, by omega⟩, hid ((hb.out.trans (HBX.out.mono hb.out.size)).trans HB3.out)⟩, by simp [intOf]; omega⟩
      · obtain ⟨A5, c5, rfl⟩ := hown.form
        have HO := hid hown
        clear hown
        go_wp2
        go_ret
        exact ⟨_, L, rfl, HO.out.mono HBW.out.size, by omega, HBW.out.trans (hb.out.mono HBW.out.size)⟩
set_option maxRecDepth 100000 in
set_option maxHeartbeats 2000000 in
theorem ror_any (lv mv : Value) (l m : List Span) (w : World) (h : SliceRd qd6.ty w (Lt w.heap.size) lv l) (h' : SliceRd qd6.ty w (Lt w.heap.size) mv m) (hl : l.length ≤ 4000) (hm : m.length ≤ 4000) :
    Calls Tryz.prog 135 #[lv, mv] w (RowPost (2 + 2 * (l.length + m.length)) w) := by
  obtain ⟨ii, hii⟩ := info_parts span_info
  have HII := hid hii
  obtain ⟨A, cap, rfl, hcap, hmax, -⟩ := h.flat
  obtain ⟨A', cap', rfl, hcap', hmax', -⟩ := h'.flat
  have HL := hid h
  have HM := hid h'
  clear h h' hii
  cases h1 : qj1 l with
  | false =>
    have H1 := hid h1
    clear h1
    go_enter Tryz.func135, Tryz.ntmps135
    go_wp2_with (go_at_call 156; (refine (qh4 _ l _ HL.out).mono ?_); rintro e w1 ⟨rfl, hb1⟩; rw [H1.out])
    go_ret
    exact ⟨.slice none 0 0, [], rfl, qa8.nil _ _, by simp, hb1⟩
  | true =>
    have H1 := hid h1
    clear h1
    cases h2 : qj1 m with
    | false =>
      have H2 := hid h2
      clear h2
      go_enter Tryz.func135, Tryz.ntmps135
      have tok := hid True.intro
      go_wp2_with (first
        | (go_at_call 156; clear tok; (refine (qh4 _ l _ HL.out).mono ?_); rintro e w1 ⟨rfl, hb1⟩; rw [H1.out]; have HB1 := hid hb1; have HM2 := hid (HM.out.lift hb1 hb1.size))
        | (go_at_call 156; (refine (qh4 _ m _ HM2.out).mono ?_); rintro e w2 ⟨rfl, hb2⟩; rw [H2.out]; have HB2 := hid (qa1 HB1.out hb2)))
      go_ret
      exact ⟨.slice none 0 0, [], rfl, qa8.nil _ _, by simp, HB2.out⟩
    | true =>
      have H2 := hid h2
      clear h2
      go_enter Tryz.func135, Tryz.ntmps135
      have tok := hid True.intro
      have tok2 := hid True.intro
      go_wp2_with (first
        | (go_at_call 156; clear tok; (refine (qh4 _ l _ HL.out).mono ?_); rintro e w1 ⟨rfl, hb1⟩; rw [H1.out]; have HB1 := hid hb1; have HM2 := hid (HM.out.lift hb1 hb1.size))
        | (go_at_call 156; (refine (qh4 _ m _ HM2.out).mono ?_); rintro e w2 ⟨rfl, hb2⟩; rw [H2.out]; have HB2 := hid (qa1 HB1.out hb2); have hz2 := HB2.out.size)
        | (at_builtin
           clear tok2
           go_must (refine qa5 _ rfl (.const (.slice none 0 0)) (.tmp 16) _ rfl w.heap.size 119 ii _ 14 144 Tryz.underlying74 HII.out.1 HII.out.2.1 HII.out.2.2.1 HII.out.2.2.2 rfl (by omega) (.slice none 0 0) 0 [] (by rfl) ⟨rfl, .inl ⟨rfl, rfl⟩⟩ A l.length cap (qd6.all l) (by rfl) (HL.out.below HB2.out).srcF.2.1 (qd6.all_one _) (by unfold maxLen; omega) (by omega) hz2 ?_)
           intro v4 w4 hown4 hg4 _
           simp only [Nat.zero_add, List.nil_append] at hown4
           obtain ⟨A4, c4, rfl⟩ := qb1 hown4
           have HB4 := hid (show Below w.heap.size w w4 from HB2.out.grown hg4 hz2 (fun k hk => by cases hk))
           have HO4 := hid hown4
           have hz4 := HB4.out.size
           clear hown4 hg4)
        | (at_builtin
           go_must (refine qa5 _ rfl (.tmp 17) (.tmp 18) _ rfl w.heap.size 119 ii _ 14 144 Tryz.underlying74 HII.out.1 HII.out.2.1 HII.out.2.2.1 HII.out.2.2.2 rfl (by omega) (.slice A4 l.length c4) l.length (qd6.all l) (by rfl) HO4.out A' m.length cap' (qd6.all m) (by rfl) (HM.out.below HB4.out).srcF.2.1 (qd6.all_one _) (by unfold maxLen; omega) (by omega) hz4 ?_)
           intro v5 w5 hown5 hg5 _
           obtain ⟨A5, c5, rfl⟩ := qb1 hown5
           have HB5 := hid (show Below w.heap.size w w5 from HB4.out.grown hg5 hz4 (fun k hk => (HO4.out.lt k hk).1))
           have HO5 := hid hown5
           have HR5 : Hid (SliceRd qd6.ty w5 (Lt w5.heap.size) (.slice A5 (l.length + m.length) c5) (l ++ m)) := hid (qf8 (f := qd6) (by rw [qd6.all_append, List.length_append]; exact hown5) (fun x hx => by rcases List.mem_append.1 hx with hx | hx; exact HL.out.srcF.2.2 x hx; exact HM.out.srcF.2.2 x hx) (fun g hg => (hown5.lt g hg).2))
           clear hown5 hg5)
        | (go_at_call 158; (refine (rmake_any _ (l ++ m) _ HR5.out (by rw [List.length_append]; omega)).mono ?_); rintro e w6 ⟨v6, l6, ok, rfl, hown6, hlen6, hb6⟩; have HO6 := hid hown6; have HB6 := hid hb6; rw [List.length_append] at hlen6; clear hown6 hb6))
      go_ret
      exact ⟨v6, l6, rfl, HO6.out.mono HB5.out.size, hlen6, qa1 HB5.out HB6.out⟩
end
section
def qp8 (a b c : Int) : Bool := decide (a = 0) && (decide (b = 0) && decide (c = 0))
set_option maxHeartbeats 400000 in
theorem zh7 (a b c : Int) (p q : ByteArray) (w : World) :
  Calls Tryz.prog 101 #[.agg #[.int .i64 a, .int .i64 b, .int .i64 c, .string p, .string q]] w fun e w' => e = .returned (.bool (qp8 a b c)) ∧ Below w.heap.size w w' := by
 by_cases h1 : a = 0
 ·have z1 : (a == 0) = true := by rw [h1]; rfl
  by_cases h2 : b = 0
  ·have z2 : (b == 0) = true := by rw [h2]; rfl
   by_cases h3 : c = 0
   ·have z3 : (c == 0) = true := by rw [h3]; rfl
    have H : Hid (qp8 a b c = true) := hid (by simp [qp8, h1, h2, h3])
    clear h1 h2 h3
    go_enter Tryz.func101, Tryz.ntmps101
    go_wp2
    go_ret
    exact ⟨qa4 H.out.symm, qa0 (b0 w) _⟩
   ·have z3 : (c == 0) = false := by rw [beq_eq_false_iff_ne]; exact h3
    have H : Hid (qp8 a b c = false) := hid (by simp [qp8, h3])
    clear h1 h2 h3
    go_enter Tryz.func101, Tryz.ntmps101
    go_wp2
    go_ret
    exact ⟨qa4 H.out.symm, qa0 (b0 w) _⟩
  ·have z2 : (b == 0) = false := by rw [beq_eq_false_iff_ne]; exact h2
   have H : Hid (qp8 a b c = false) := hid (by simp [qp8, h2])
   clear h1 h2
   go_enter Tryz.func101, Tryz.ntmps101
   go_wp2
   go_ret
   exact ⟨qa4 H.out.symm, qa0 (b0 w) _⟩
 ·have z1 : (a == 0) = false := by rw [beq_eq_false_iff_ne]; exact h1
  have H : Hid (qp8 a b c = false) := hid (by simp [qp8, h1])
  clear h1
  go_enter Tryz.func101, Tryz.ntmps101
  go_wp2
  go_ret
  exact ⟨qa4 H.out.symm, qa0 (b0 w) _⟩
def qi0 (c : Cut) : Bool := decide (c.en ≠ 0) || (!c.after && (decide (c.v.pre.size = 0) && !qp8 c.v.major c.v.minor c.v.patch))
set_option maxHeartbeats 1000000 in
theorem qu4 (u : Cut) (w : World) :
  Calls Tryz.prog 157 #[.agg #[.int .i64 u.en, .int .i64 u.v.major, .int .i64 u.v.minor, .int .i64 u.v.patch, .string u.v.pre, .string u.v.build, .bool u.after]] w fun e w' => e = .returned (.bool (qi0 u)) ∧ Below w.heap.size w w' := by
 obtain ⟨n, ⟨a, b, c, p, q⟩, f⟩ := u
 by_cases h1 : n = 0
 ·have z1 : (n != 0) = false := by rw [h1]; rfl
  cases f with
  | true =>
   have H : Hid (qi0 ⟨n, ⟨a, b, c, p, q⟩, true⟩ = false) := hid (by simp [qi0, h1])
   clear h1
   go_enter Tryz.func157, Tryz.ntmps157
   go_wp2
   go_ret
   exact ⟨qa4 H.out.symm, qa0 (b0 w) _⟩
  | false =>
   by_cases h2 : p.size = 0
   ·have e2 : p.toList.isEmpty = true := by rw [qe2 h2]; rfl
    have H : Hid (qi0 ⟨n, ⟨a, b, c, p, q⟩, false⟩ = !qp8 a b c) := hid (by simp [qi0, h1, h2])
    clear h1 h2
    cases hl : qp8 a b c
    all_goals
     have HL := hid hl
     clear hl
     go_enter Tryz.func157, Tryz.ntmps157
     go_wp2_with (go_at_call 101; (with_reducible refine (zh7 a b c p q _).mono ?_); rintro e w1 ⟨rfl, hb1⟩; rw [HL.out])
     go_ret
     exact ⟨qa4 (by rw [H.out, HL.out]; rfl), qa1 (qa0 (b0 w) _) hb1⟩
   ·have e2 := qb9 (s := p) (by omega)
    have H : Hid (qi0 ⟨n, ⟨a, b, c, p, q⟩, false⟩ = false) := hid (by simp [qi0, h1, h2])
    clear h1 h2
    go_enter Tryz.func157, Tryz.ntmps157
    go_wp2
    go_ret
    exact ⟨qa4 H.out.symm, qa0 (b0 w) _⟩
 ·have z1 : (n != 0) = true := by rw [bne_iff_ne]; exact h1
  have H : Hid (qi0 ⟨n, ⟨a, b, c, p, q⟩, f⟩ = true) := hid (by simp [qi0, h1])
  clear h1
  go_enter Tryz.func157, Tryz.ntmps157
  go_wp2
  go_ret
  exact ⟨qa4 H.out.symm, qa0 (b0 w) _⟩
def qj9 (l m : List Span) : Bool := qj1 l && (qj1 m && l.all fun s => qi0 s.lo && qi0 s.hi)
set_option maxRecDepth 100000 in
set_option maxHeartbeats 2000000 in
theorem qn1 (lv mv : Value) (l m : List Span) (w : World) (h : SliceRd qd6.ty w (Lt w.heap.size) lv l) (h' : SliceRd qd6.ty w (Lt w.heap.size) mv m) :
  Calls Tryz.prog 134 #[.agg #[lv, mv]] w fun e w' => e = .returned (.bool (qj9 l m)) ∧ Below w.heap.size w w' := by
 obtain ⟨A, cap, rfl, hcap, hmax, hc⟩ := h.spans
 obtain ⟨A', cap', rfl, hcap', hmax', -⟩ := h'.flat
 have HC := hid hc
 have HL := hid h
 have HM := hid h'
 unfold maxLen at hmax
 clear h h' hc
 cases h1 : qj1 l with
 | false =>
  have H1 := hid h1
  have H : Hid (qj9 l m = false) := hid (by unfold qj9; rw [h1]; rfl)
  clear h1
  go_enter Tryz.func134, Tryz.ntmps134
  go_wp2_with (go_at_call 156; (refine (qh4 _ l _ (HL.out.lift (qa0 (b0 w) _) (qa0 (b0 w) _).size)).mono ?_); rintro e w1 ⟨rfl, hb1⟩; rw [H1.out])
  go_ret
  exact ⟨qa4 H.out.symm, qa1 (qa0 (b0 w) _) hb1⟩
 | true =>
  have H1 := hid h1
  cases h2 : qj1 m with
  | false =>
   have H2 := hid h2
   have H : Hid (qj9 l m = false) := hid (by unfold qj9; rw [h1, h2]; rfl)
   clear h1 h2
   go_enter Tryz.func134, Tryz.ntmps134
   have tok := hid True.intro
   go_wp2_with (first
    | (go_at_call 156; clear tok; (refine (qh4 _ l _ (HL.out.lift (qa0 (b0 w) _) (qa0 (b0 w) _).size)).mono ?_); rintro e w1 ⟨rfl, hb1⟩; rw [H1.out]; obtain ⟨hbc, hbf⟩ := qb4 hb1; have hz0 : w.heap.size < w1.heap.size := Nat.lt_of_lt_of_le (by simp) hb1.size; have HB1 := hid (qa1 (qa0 (b0 w) _) hb1))
    | (go_at_call 156; (refine (qh4 _ m _ (HM.out.lift HB1.out HB1.out.size)).mono ?_); rintro e w2 ⟨rfl, hb2⟩; rw [H2.out]; have HB2 := hid (qa1 HB1.out hb2)))
   go_ret
   exact ⟨qa4 H.out.symm, HB2.out⟩
  | true =>
   have H2 := hid h2
   have H : Hid (qj9 l m = l.all fun s => qi0 s.lo && qi0 s.hi) := hid (by unfold qj9; rw [h1, h2]; rfl)
   clear h1 h2
   go_enter Tryz.func134, Tryz.ntmps134
   have tok := hid True.intro
   go_wp2_with (first
    | (go_at_call 156; clear tok; (refine (qh4 _ l _ (HL.out.lift (qa0 (b0 w) _) (qa0 (b0 w) _).size)).mono ?_); rintro e w1 ⟨rfl, hb1⟩; rw [H1.out]; obtain ⟨hbc, hbf⟩ := qb4 hb1; have hz0 : w.heap.size < w1.heap.size := Nat.lt_of_lt_of_le (by simp) hb1.size; have HB1 := hid (qa1 (qa0 (b0 w) _) hb1))
    | (go_at_call 156; (refine (qh4 _ m _ (HM.out.lift HB1.out HB1.out.size)).mono ?_); rintro e w2 ⟨rfl, hb2⟩; rw [H2.out]; have HB2 := hid (qa1 HB1.out hb2); have HX := hid (cell_below hb2 hz0 ((hbc w.heap.size 0 (by simp)).trans (show _ = some (Value.slice A l.length cap) by go_simp))); have hz2 := Nat.lt_of_lt_of_le hz0 hb2.size))
   clear hbc hbf
   go_loopw [3] (fun iv wr => ∃ k : Nat, k ≤ l.length ∧ iv = .int .i64 k ∧ Hid ((l.take k).all (fun s => qi0 s.lo && qi0 s.hi) = true) ∧ Hid (Below w2.heap.size w2 wr)) (fun iv _ => l.length - (intOf iv).toNat)
   case atStart => exact ⟨0, Nat.zero_le _, rfl, hid rfl, hid (b0 _)⟩
   case round =>
    obtain ⟨k, hk, rfl, hall, hb⟩ := hrel
    have cx := cell_below hb.out hz2 HX.out
    have hzr : w.heap.size < wr.heap.size := Nat.lt_of_lt_of_le hz2 hb.out.size
    have HBR := hid (qa1 HB2.out hb.out)
    by_cases hlt : k < l.length
    ·obtain ⟨g, o, hA, hF, -, hat⟩ := HC.out k hlt
     cases hA
     have hgw : g < wr.heap.size := Nat.lt_of_lt_of_le hF HBR.out.size
     have HAT := hid (show (l.take (k + 1)).all (fun s => qi0 s.lo && qi0 s.hi) = ((l.take k).all (fun s => qi0 s.lo && qi0 s.hi) && (qi0 l[k].lo && qi0 l[k].hi)) by rw [List.take_succ_eq_append_getElem hlt, List.all_append]; simp)
     have HBAD : Hid ((qi0 l[k].lo && qi0 l[k].hi) = false → qj9 l m = false) := hid (fun hf => by
      rw [H.out, List.all_eq_false]
      exact ⟨l[k], List.getElem_mem hlt, by rw [hf]; simp⟩)
     generalize l[k] = s at *
     have HSP := hid (hat.below HBR.out hF)
     obtain ⟨c0, c1, c2, c3, c4, c5, c6, c7, c8, c9, c10, c11, c12, c13⟩ := HSP.out
     clear hat
     have i1 : (0 : Int) ≤ ↑k := by omega
     have i2 : (↑k : Int) < ↑l.length := by omega
     cases q1 : qi0 s.lo with
     | false =>
      have Q1 := hid q1
      clear q1
      go_wp2_with (go_at_call 157; (with_reducible refine (qu4 s.lo _).mono ?_); rintro e w3 ⟨rfl, hb3⟩; rw [Q1.out])
      go_ret
      exact ⟨qa4 (HBAD.out (by rw [Q1.out]; rfl)).symm, qa1 HBR.out hb3⟩
     | true =>
      have Q1 := hid q1
      clear q1
      cases q2 : qi0 s.hi with
      | false =>
       have Q2 := hid q2
       clear q2
       go_wp2_with (first
        | (go_at_call 157; (with_reducible refine (qu4 s.lo _).mono ?_); rintro e w3 ⟨rfl, hb3⟩; rw [Q1.out]; have cx3 := cell_below hb3 hzr cx; obtain ⟨d0, d1, d2, d3, d4, d5, d6, d7, d8, d9, d10, d11, d12, d13⟩ := HSP.out.below hb3 hgw; have HB3 := hid (qa1 HBR.out hb3); clear hb3)
        | (go_at_call 157; (with_reducible refine (qu4 s.hi _).mono ?_); rintro e w4 ⟨rfl, hb4⟩; rw [Q2.out]))
       go_ret
       exact ⟨qa4 (HBAD.out (by rw [Q1.out, Q2.out]; rfl)).symm, qa1 HB3.out hb4⟩
      | true =>
       have Q2 := hid q2
       clear q2
       go_wp2_with (first
        | (go_at_call 157; (with_reducible refine (qu4 s.lo _).mono ?_); rintro e w3 ⟨rfl, hb3⟩; rw [Q1.out]; have cx3 := cell_below hb3 hzr cx; obtain ⟨d0, d1, d2, d3, d4, d5, d6, d7, d8, d9, d10, d11, d12, d13⟩ := HSP.out.below hb3 hgw; have HB3 := hid (qa1 hb.out hb3); clear hb3)
        | (go_at_call 157; (with_reducible refine (qu4 s.hi _).mono ?_); rintro e w4 ⟨rfl, hb4⟩; rw [Q2.out]))
       exact ⟨⟨k + 1, by omega, by go_num, hid (by rw [HAT.out, hall.out, Q1.out, Q2.out]; rfl), hid (qa1 HB3.out hb4)⟩, by simp [intOf]; omega⟩
    ·have HA : Hid (qj9 l m = true) := hid (by
      have := hall.out
      rw [List.take_of_length_le (by omega)] at this
      rw [H.out, this])
     go_wp2
     go_ret
     exact ⟨qa4 HA.out.symm, HBR.out⟩
set_option maxHeartbeats 400000 in
theorem qt9 (w : World) : Calls Tryz.prog 58 #[] w fun e w' => e = .returned (.agg #[.slice none 0 0, .slice none 0 0]) ∧ Below w.heap.size w w' := by
 go_enter Tryz.func58, Tryz.ntmps58
 go_wp2
 exact bodyPost_ret (v := .agg #[.slice none 0 0, .slice none 0 0]) (by simp [results, Tryz.results58, go_sem]) rfl ⟨rfl, qa0 (b0 w) _⟩
def zb2 : Span := ⟨qh7 (-1), qh7 1⟩
def WholePost (w : World) (e : Ending) (w' : World) : Prop := ∃ v, e = .returned v ∧ qa8 w.heap.size w' v [zb2] ∧ Below w.heap.size w w'
set_option maxHeartbeats 1000000 in
theorem whole_any (w : World) : Calls Tryz.prog 99 #[] w (WholePost w) := by
 go_enter Tryz.func99, Tryz.ntmps99
 go_wp2_with (first
  | (go_at_call 102; refine (zh1 _).mono ?_; rintro e w1 ⟨rfl, hb1⟩)
  | (go_at_call 104; refine (zr4 _).mono ?_; rintro e w2 ⟨rfl, hb2⟩; have HB2 := hid (qa1 hb1 hb2)))
 go_ret
 refine ⟨.slice (some ⟨w2.heap.size, 0, none⟩) 1 1, rfl, ⟨⟨rfl, .inr ⟨w2.heap.size, 1, _, rfl, HB2.out.size, heap_alloc_new w2 _, Nat.le_refl _, by unfold maxLen; omega, by decide, rfl⟩⟩, ?_⟩, qa0 HB2.out _⟩
 intro s hs
 have : s = zb2 := by simpa using hs
 subst this
 exact ⟨qu8 (.inl rfl), qu8 (.inr rfl)⟩
theorem qa8.set {B : Nat} {w : World} {v : Value} {l : List Span} (h : qa8 B w v l) {p : Addr} (hp : p.block < B) (x : Value) : qa8 B (w.setCell p x) v l :=
 ⟨qb3 h.1 fun g hg => heap_setCell_other _ _ _ _ (by have := (h.1.lt g hg).1; omega), h.2⟩
def zp8 (n : Nat) (w : World) (e : Ending) (w' : World) : Prop := ∃ rv pv L M, e = .returned (.agg #[rv, pv]) ∧ qa8 w.heap.size w' rv L ∧ qa8 w.heap.size w' pv M ∧ L.length ≤ n ∧ M.length ≤ n ∧ Below w.heap.size w w'
set_option maxHeartbeats 1000000 in
theorem all5_any (w : World) : Calls Tryz.prog 56 #[] w (zp8 1 w) := by
 go_enter Tryz.func56, Tryz.ntmps56
 have tok := hid True.intro
 go_wp2_with (first
  | (go_at_call 99; clear tok; refine (whole_any _).mono ?_; rintro e w1 ⟨v1, rfl, ho1, hb1⟩; obtain ⟨A1, c1, rfl⟩ := ho1.form; have HO1 := hid ho1; obtain ⟨hbc, hbf⟩ := qb4 hb1; have hz0 : w.heap.size < w1.heap.size := Nat.lt_of_lt_of_le (by simp) hb1.size; have HB1 := hid (qa1 (qa0 (b0 w) _) hb1); clear ho1)
  | (go_at_call 99; refine (whole_any _).mono ?_; rintro e w2 ⟨v2, rfl, ho2, hb2⟩; obtain ⟨A2, c2, rfl⟩ := ho2.form; have HO2 := hid ho2; obtain ⟨hbc2, hbf2⟩ := qb4 hb2; have hy0 : w.heap.size < w2.heap.size := Nat.lt_of_lt_of_le hz0 hb2.size; have HB2 := hid (qa1 HB1.out hb2); have HO3 := hid (HO1.out.below hb2 (Nat.le_refl _)); clear ho2))
 exact bodyPost_ret (v := .agg #[.slice A1 1 c1, .slice A2 1 c2]) (by simp [results, Tryz.results56, go_sem, hbc, hz0, hbc2]) rfl ⟨.slice A1 1 c1, .slice A2 1 c2, [zb2], [zb2], rfl, ((HO3.out.set (p := ⟨w.heap.size, 0, none⟩) (by simp) _).set (p := ⟨w.heap.size, 1, none⟩) (by simp) _).mono (by simp), ((HO2.out.set (p := ⟨w.heap.size, 0, none⟩) hz0 _).set (p := ⟨w.heap.size, 1, none⟩) hz0 _).mono (Nat.le_of_lt hz0), by decide, by decide, by repeat (first | (with_reducible exact HB2.out) | (with_reducible exact b0 _) | (with_reducible refine bset ?_ (by first | exact Nat.le_refl _ | (simp; done) | omega | (simp; omega)) _) | (with_reducible refine qa0 ?_ _) | (with_reducible refine qe6 ?_))⟩
end
end Go.Proofs.YtbfbppjccbppiaaGreatDoor
