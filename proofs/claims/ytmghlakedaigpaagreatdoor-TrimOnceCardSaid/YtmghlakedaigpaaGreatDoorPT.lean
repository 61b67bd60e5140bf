/- Contract: linchpinlaw31.TrimOnce. -/
import Derived.Test.YtmghlakedaigpaaGreatDoorPR
import Derived.Test.YtmghlakedaigpaaGreatDoorTrim
import Derived.Test.YtmghlakedaigpaaGreatDoorW18
namespace Go.Proofs.YtmghlakedaigpaaGreatDoor
open Go Go.RowKit

/-- Rows that are no two the same. -/
def OncePost (w : World) (e : Ending) (w' : World) : Prop :=
  ∃ (v' : Value) (T : List Row), e = .returned v' ∧ SliceRd tRow w' (Lt w'.heap.size) v' T ∧ T.Nodup ∧ T.length ≤ 20000 ∧ Below w.heap.size w w'
theorem trim_once (v : Value) (l : List Row) (w : World) (h : SliceRd tRow w (Lt w.heap.size) v l) (htab : Lib.TabBelow Tryz.prog w.heap.size w "internal/strconv.uint64pow10" .u64 Lib.pow10Tab) :
    Calls Tryz.prog 6 #[v] w (OncePost w) := by
  by_cases hm : MayP l
  · refine (trim_any v l w h hm htab).mono ?_
    rintro e w' ⟨v', tvs, rfl, hc, hb⟩
    have hi := trim_inv hm l.length (Nat.le_refl _)
    refine ⟨v', trimF l, rfl, hc.rd fun b _ h => h, hi.nodup, ?_, hb⟩
    have h1 := hi.count
    have h2 : ((List.range l.length).filter (usedF l)).length ≤ l.length := by
      have := List.length_filter_le (usedF l) (List.range l.length)
      rwa [List.length_range] at this
    have h3 : l.length ≤ 20000 := hm.2.1
    show (trimSt l l.length).2.length ≤ 20000
    omega
  · refine (trim_bad v l w h hm).mono ?_
    rintro e w' ⟨rfl, hb⟩
    exact ⟨_, [], rfl, SliceRd.nil _ _ _, List.nodup_nil, by simp, hb⟩
theorem nodup_ne {T : List Row} (h : T.Nodup) {k i : Nat} (hk : k < T.length) (hi : i < T.length) (hki : k < i) : decide ([T[k]] = [T[i]]) = false := by
  refine decide_eq_false fun e => ?_
  have e2 : T[k] = T[i] := by injection e
  have := (List.getElem_inj h).1 e2
  omega

set_option maxRecDepth 100000 in
set_option maxHeartbeats 4000000 in
theorem trimOnce_any (wv av : Value) (ws as_ : List Int) (more : Int) (w : World) (hw : SliceRd tInt w (Lt w.heap.size) wv ws) (ha : SliceRd tInt w (Lt w.heap.size) av as_) (hm : I64 more)
    (htab : Lib.TabBelow Tryz.prog w.heap.size w "internal/strconv.uint64pow10" .u64 Lib.pow10Tab) :
    Calls Tryz.prog 3 #[wv, av, .int .i64 more] w fun e w' => e = .returned (.bool true) ∧ Below w.heap.size w w' := by
  have HTAB := hid (fun W (hb : Below w.heap.size w W) => show Lib.TabBelow Tryz.prog W.heap.size W "internal/strconv.uint64pow10" .u64 Lib.pow10Tab from fun w' h' => htab w' (hb.trans (h'.mono hb.size)))
  have HW := hid hw
  have HA := hid ha
  have HM := hid hm
  obtain ⟨Aw, cw, rfl, -⟩ := hw.ints
  obtain ⟨Aa, ca, rfl, -⟩ := ha.ints
  clear hw ha hm htab
  have HAWK := hid (fun W (hb : Below w.heap.size w W) => awake31_any W (HTAB.out W hb))
  by_cases hlen : 10 < as_.length
  · have hl : (10 : Int) < ↑as_.length := by omega
    go_enter Tryz.func3, Tryz.ntmps3
    go_wp2_with fail
    refine (HAWK.out w (b0 w)).mono ?_
    rintro e w1 ⟨rfl, hb1⟩
    go_wp2_with fail
    go_ret
    exact ⟨rfl, hb1⟩
  · have hl : ¬ ((10 : Int) < ↑as_.length) := by omega
    clear hlen
    go_enter Tryz.func3, Tryz.ntmps3
    go_wp2_with fail
    refine (world_any _ ws 4 w HW.out (by decide) (by decide)).mono ?_
    rintro e w1 ⟨g, c, us0, nf, rfl, hB, h2, h11, hhd, hb1, R0, hdat⟩
    obtain ⟨us, h1, ho, hns, h0⟩ := world_data hB hdat h2 h11 hhd
    have hul : us0.length = us.length := by
      have := congrArg List.length hns
      simpa [nsOf] using this.symm
    have HWR := hid h1
    have HUO := hid ho.ok
    have H0 := hid h0
    have HB1 := hid hb1
    rw [hul] at HWR ⊢
    clear hB h2 h11 hhd hb1 hdat h1 ho hns h0 hul
    go_wp2_with fail
    obtain ⟨w2, hw2⟩ : ∃ w2 : World, w2 = w1.alloc (.cells #[.slice (some ⟨g, 0, none⟩) us.length c] 26) := ⟨_, rfl⟩
    have hb2 : Below w1.heap.size w1 w2 := hw2 ▸ balloc (b0 w1) _
    have hz2 : w1.heap.size < w2.heap.size := by rw [hw2]; simp
    have q0 : w2.cell? ⟨w1.heap.size, 0, none⟩ = some (.slice (some ⟨g, 0, none⟩) us.length c) := by rw [hw2, alloc_cell]; rfl
    have HB2 := hid (bstep HB1.out hb2)
    have HWR2 := hid (HWR.out.lift hb2 hb2.size)
    have HA2 := hid (HA.out.lift HB2.out HB2.out.size)
    rw [← hw2]
    clear hw2 hb2
    go_region_held3 (fun w' => w'.cell? ⟨w1.heap.size, 0, none⟩ = some (.slice (some ⟨g, 0, none⟩) us.length c)) (first | with_reducible assumption | go_keep) (first
      | (go_at_call 8; go_must (refine (allow_any (.agg #[.slice (some ⟨g, 0, none⟩) us.length c]) _ (nsOf us) as_ _ (uni_later HWR2.out.uni (b0 w2).drew) HUO.out.ns (HA2.out.lift (b0 w2).drew (b0 w2).drew.size)).mono ?_; rintro e w3 ⟨v3, al, rfl, hal, hall, h31, hb3⟩; obtain ⟨A3, c3, rfl, -⟩ := hal.ints; have HAL := hid hal; have HALL := hid hall; have H31 := hid h31; have HB3 := hid (show Below w2.heap.size w2 w3 from bstep (b0 w2).drew hb3); have q1 := cell_below HB3.out hz2 q0; clear hal hall h31 hb3))
      | (go_at_call 7; go_must (refine (real_any (.agg #[.slice (some ⟨g, 0, none⟩) us.length c]) _ us al more w3 (HWR2.out.lift HB3.out HB3.out.size) HUO.out H0.out HAL.out HALL.out H31.out HM.out).mono ?_; rintro e w4 ⟨v4, R, rfl, hR, hb4⟩; have HR := hid hR; have HB4 := hid (bstep HB3.out hb4); have q2 := cell_below HB4.out hz2 q0; clear hR hb4))
      | (go_at_call 6; go_must (refine (trim_once _ R w4 HR.out (HTAB.out w4 (bstep HB2.out HB4.out))).mono ?_; rintro e w5 ⟨v5, T, rfl, hT, hnd, hTl, hb5⟩; have HT := hid hT; have HND := hid hnd; have HB5 := hid (bstep HB4.out hb5); have q3 := cell_below HB5.out hz2 q0; clear hT hnd hb5)))
    have HBW := hid (bstep HB2.out HB5.out)
    obtain ⟨AT, cT, rfl, hcT, hcTm, -⟩ := HT.out.rows
    unfold maxLen at hcTm
    obtain ⟨n, hn⟩ : ∃ n, T.length = n := ⟨_, rfl⟩
    have HN := hid hn
    rw [hn] at hTl hcT HT ⊢
    clear q0 q1 q2 q3 hn
    go_wp2_with fail
    go_loopw [9] (fun iv wr => ∃ i : Nat, i ≤ n ∧ iv = .int .i64 i ∧ Hid (Below w5.heap.size w5 wr)) (fun iv _ => n - (intOf iv).toNat)
    case atStart => exact ⟨0, Nat.zero_le _, rfl, hid (b0 w5)⟩
    case round =>
      obtain ⟨i, hi, rfl, hb⟩ := hrel
      by_cases hlt : i < n
      · have i0 : (0 : Int) ≤ ↑i := by omega
        have i1 : (↑i : Int) < ↑n := by omega
        go_wp2_with fail
        go_loopw [10] (fun kv wr => ∃ k : Nat, k ≤ i ∧ kv = .int .i64 k ∧ Hid (Below w5.heap.size w5 wr)) (fun kv _ => i - (intOf kv).toNat)
        case atStart => exact ⟨0, Nat.zero_le _, rfl, hb⟩
        case round =>
          clear hb
          obtain ⟨k, hk, rfl, hb⟩ := hrel
          by_cases hki : k < i
          · have k0 : (0 : Int) ≤ ↑k := by omega
            have k1 : (↑k : Int) < ↑i := by omega
            have k2 : IntKind.i64.wrap (↑k + 1) = (↑k : Int) + 1 := IntWalk.i64_in _ (by omega)
            have k3 : (0 : Int) ≤ ↑k + 1 := by omega
            have k4 : ((↑k : Int) + 1).toNat = k + 1 := by omega
            have k5 : (↑k : Int) + 1 ≤ ↑cT := by omega
            have k6 : k + 1 - k = 1 := by omega
            have k7 : ¬ (cT = k) := by omega
            have j2 : IntKind.i64.wrap (↑i + 1) = (↑i : Int) + 1 := IntWalk.i64_in _ (by omega)
            have j3 : (0 : Int) ≤ ↑i + 1 := by omega
            have j4 : ((↑i : Int) + 1).toNat = i + 1 := by omega
            have j5 : (↑i : Int) + 1 ≤ ↑cT := by omega
            have j6 : i + 1 - i = 1 := by omega
            have j7 : ¬ (cT = i) := by omega
            have hkT : k < T.length := by rw [HN.out]; omega
            have hiT : i < T.length := by rw [HN.out]; omega
            obtain ⟨g6, o6, hA6, hF6, h6⟩ := HT.out.oneAt hkT
            obtain ⟨g7, o7, hA7, hF7, h7⟩ := HT.out.oneAt hiT
            subst hA6
            injection hA7 with hA7
            injection hA7 with e1 e2 _
            subst e1 e2
            rw [if_neg k7] at h6
            rw [if_neg j7] at h7
            have HNE := hid (nodup_ne HND.out hkT hiT hki)
            have HSM := hid (fun e : Later wr => sameRows_any _ _ [T[k]] [T[i]] e.w (h6.lift (bstep hb.out e.below) (bstep hb.out e.below).size) (h7.lift (bstep hb.out e.below) (bstep hb.out e.below).size))
            rw [HNE.out] at HSM
            clear h6 h7
            go_wp2_with fail
            (refine wp_region_later (by kernel_rfl) (by kernel_rfl) ?_; (repeat (go_big_quiet_step ((go_at_call 9; exact Calls.later (HSM.out _) rfl)))); refine wpQuiet_nil ?_; rintro _ ⟨e1, rfl⟩)
            have HB6 := hid (bstep hb.out e1.below)
            go_wp2_with fail
            exact ⟨⟨k + 1, by omega, by go_num, HB6⟩, by simp [intOf]; omega⟩
          · have hki' : k = i := by omega
            subst hki'
            go_wp2_with fail
            exact ⟨⟨k + 1, by omega, by go_num, hb⟩, by simp [intOf]; omega⟩
      · have hin : i = n := by omega
        subst hin
        go_wp2_with fail
        refine (HAWK.out wr (bstep HBW.out hb.out)).mono ?_
        rintro e w6 ⟨rfl, hb6⟩
        go_wp2_with fail
        go_ret
        exact ⟨rfl, bstep (bstep HBW.out hb.out) hb6⟩
end Go.Proofs.YtmghlakedaigpaaGreatDoor
