/- Contract: linchpinlaw31.real. -/
import Derived.Test.YtmghlakedaigpaaGreatDoorPP
import Derived.Test.YtmghlakedaigpaaGreatDoorPL
import Derived.Test.YtmghlakedaigpaaGreatDoorzU
import Derived.BigRegion
import Derived.Lib.SliceRun
namespace Go.Proofs.YtmghlakedaigpaaGreatDoor
open Go Go.RowKit

def RealPost (w : World) (e : Ending) (w' : World) : Prop :=
  ∃ (rv : Value) (R : List Row), e = .returned rv ∧ SliceRd tRow w' (Lt w'.heap.size) rv R ∧ Below w.heap.size w w'
set_option maxRecDepth 100000 in
set_option maxHeartbeats 4000000 in
theorem real_any (v av : Value) (us : List UnitW) (al : List Nat) (more : Int) (w : World) (h : WorldRd w (Lt w.heap.size) v us) (ho : UnitsOk us) (h0 : (nsOf us).head? = some 1) (ha : SliceRd tInt w (Lt w.heap.size) av (natsI al)) (hal : al.length = 0 ∨ al.length = (nsOf us).length) (h31 : ∀ a ∈ al, a ≤ 31) (hm : I64 more) :
    Calls Tryz.prog 7 #[v, av, .int .i64 more] w (RealPost w) := by
  obtain ⟨ir, hir⟩ := info_parts row_info
  have HIR := hid hir
  have HM := hid hm
  have HPRV := hid (fun W (hb : Below w.heap.size w W) => prove_any v av us al W (h.lift hb hb.size) ho h0 (ha.lift hb hb.size) hal h31)
  have h11 := ho.ns.hi
  obtain ⟨g, cap0, rfl, hg, -⟩ := h
  obtain ⟨Aa, ca, rfl, hca, hcam, -⟩ := ha.ints
  rw [natsI_len] at hca HPRV ⊢
  clear hir ho h0 ha h31 hal hm
  have hnil := fun (w : World) (a : Option Addr) (n c : Nat) => Lib.run_eql_slice_nil (P := Tryz.prog) w 28 38 a n c 0 0 Tryz.underlying28
  go_enter Tryz.func7, Tryz.ntmps7
  go_wp2_with fail
  refine (HPRV.out _ (balloc (b0 w) _)).mono ?_
  rintro e w1 ⟨rv, R, rfl, hrd, hRl, hcase, hb1⟩
  obtain ⟨hrd, hcan⟩ := hrd.plainRows
  have HRD := hid hrd
  have HB1 := hid (bstep (balloc (b0 w) _) hb1)
  have HTL := hid (show ∀ r ∈ R, r.terms.length ≤ 1000000 from fun r hr => by
    obtain ⟨M, -, hM⟩ := hcan r hr
    have := canon_len (ns := nsOf us) M
    rw [hM]
    omega)
  clear hcan hb1 HPRV
  rcases hcase with ⟨rfl, rfl⟩ | hR1
  · go_wp2_with fail
    go_ret
    exact ⟨_, [], rfl, SliceRd.nil _ _ _, HB1.out⟩
  · obtain ⟨A1, c1, rfl, hc1, hc1m, hrow⟩ := hrd.rows
    obtain ⟨g1, o1, -, rfl, -⟩ := hrow 0 (by omega)
    unfold maxLen at hc1m
    obtain ⟨p, hp, hpR⟩ := place_in more hR1
    have HP := hid hp
    have hp1 : (0 : Int) ≤ ↑p := by omega
    clear hrow hrd hp
    go_wp2_with fail
    refine (place_any more R.length w1 HM.out ⟨by omega, by omega⟩).mono ?_
    rintro e w1' ⟨rfl, hw1⟩
    rw [← hw1, HP.out]
    clear hw1
    by_cases hlast : p = R.length - 1
    · have hq : ((p : Int) == ↑R.length - 1) = true := by rw [beq_iff_eq]; omega
      clear hlast
      go_wp2_with fail
      go_ret
      exact ⟨_, R, rfl, HRD.out, HB1.out⟩
    · have hq : ((p : Int) == ↑R.length - 1) = false := by rw [beq_eq_false_iff_ne]; omega
      have hcp : ¬ (c1 = p) := by omega
      have j3 : IntKind.i64.wrap (↑p + 1) = (↑p : Int) + 1 := IntWalk.i64_in _ (by omega)
      have j4 : (0 : Int) ≤ ↑p + 1 := by omega
      have j5 : ((↑p : Int) + 1).toNat = p + 1 := by omega
      have j6 : (↑p : Int) + 1 ≤ ↑c1 := by omega
      have j8 : p + 1 - p = 1 := by omega
      obtain ⟨g1', o1', hA1, hF1, hone⟩ := HRD.out.oneAt hpR
      injection hA1 with hA1
      injection hA1 with e1 e2 _
      subst e1 e2
      rw [if_neg hcp] at hone
      have HONE := hid hone
      have HONEL := hid (show ∀ r ∈ [R[p]], r.terms.length ≤ 1000000 from fun r hr => by rw [List.mem_singleton.1 hr]; exact HTL.out _ (List.getElem_mem hpR))
      have t1 := hid True.intro
      clear hlast hone
      go_wp2_with fail
      refine (copyRows_any _ _ w1 HONE.out (by simp) HONEL.out).mono ?_
      rintro e w2 ⟨v2, tv2, rfl, hcp2, hb2⟩
      have HB2 := hid hb2
      have HCP2 := hid hcp2
      obtain ⟨g2, c2, hv2, hg2a, hg2b, -, -, -, hc2⟩ := hcp2.formC (by simp)
      have z0 := (hc2 0 (by simp)).1
      simp only [Nat.zero_mul, List.getElem_cons_zero] at z0
      obtain ⟨kd, hkd⟩ : ∃ kd, R[p].kind = kd := ⟨_, rfl⟩
      rw [hkd] at z0
      simp only [List.length_cons, List.length_nil, Nat.zero_add] at hv2
      subst hv2
      have HRD2 := hid (HRD.out.lift hb2 hb2.size)
      clear hb2 hcp2 hc2 hkd HONE
      rcases Bool.eq_false_or_eq_true (kd == 5) with hk5 | hk5
      · go_wp2_with fail
        go_ret
        exact ⟨_, R, rfl, HRD2.out, bstep HB1.out HB2.out⟩
      · have HCR1 := hid (copyRows_any _ [R[p]] w2 (HCP2.out.rd fun b _ h => h) (by simp) HONEL.out)
        go_wp2_with fail
        refine HCR1.out.mono ?_
        rintro e w3 ⟨v3, tv3, rfl, hcp3, hb3⟩
        have HB3 := hid hb3
        have HCP3 := hid hcp3
        obtain ⟨A3, c3, hv3⟩ := own_form hcp3.own
        simp only [List.length_cons, List.length_nil, Nat.zero_add] at hv3
        subst hv3
        have HCR2 := hid (copyRows_any _ R w3 (HRD2.out.lift hb3 hb3.size) (by omega) HTL.out)
        clear hb3 hcp3 HCR1
        go_wp2_with fail
        refine HCR2.out.mono ?_
        rintro e w4 ⟨v4, tv4, rfl, hcp4, hb4⟩
        have HB4 := hid hb4
        have HCP4 := hid hcp4
        obtain ⟨A4, c4, hv4⟩ := own_form hcp4.own
        subst hv4
        have HCP34 := hid (HCP3.out.below hb4 (Nat.le_refl _))
        have HS4 := hid (own_src hcp4.own)
        have HONE4 := hid (rowsCells_one R _ hcp4.slices)
        have hs34 := hb4.size
        have hs23 := HB3.out.size
        clear hb4 hcp4 HCR2
        go_wp2_with (at_builtin; go_must (refine wpList_append_src _ rfl (.tmp 40) (.tmp 42) _ rfl w2.heap.size 38 ir _ 5 56 Tryz.underlying28 HIR.out.1 HIR.out.2.1 HIR.out.2.2.1 HIR.out.2.2.2 rfl (by omega) (.slice A3 1 c3) 1 (rowsCells [R[p]] tv3) (by rfl) (by exact HCP34.out.own) A4 R.length c4 (rowsCells R tv4) (by rfl) HS4.out HONE4.out (by unfold maxLen; omega) (by omega) (by omega) ?_; intro v5 w5 hown5 hg5 hat5; have HCP5 := hid (HCP34.out.app (HCP4.out.monoB hs23) (fun j k hj hk g h1 h2 => by have h3 := (HCP3.out.lt.2 j hj g h1).2; have h4 := (HCP4.out.lt.2 k hk g h2).1; omega) hown5 hg5); have HB5 := hid ((HB3.out.trans (HB4.out.mono hs23)).grown hg5 (by omega) (fun k h => (HCP3.out.lt.1 k h).1)); clear hown5 hg5 hat5))
        obtain ⟨g5, c5, hv5, hg5, hg5b, hn5, hm5, -, -⟩ := HCP5.out.formC (by simp)
        have hl5 : ([R[p]] ++ R).length = R.length + 1 := by simp
        rw [hl5] at hv5 hn5
        subst hv5
        obtain ⟨n, hn⟩ : ∃ n, R.length + 1 = n := ⟨_, rfl⟩
        have HL5 := hid (hl5.trans hn)
        rw [hn] at hn5 HCP5 ⊢
        have hn1 : n ≤ 5000 := by omega
        have hn0 : 1 ≤ n := by omega
        clear hl5 hn z0 hq hcp hk5
        go_wp2_with fail
        go_loopw [11] (fun iv wr => ∃ (i : Nat) (L : List Row) (T : List Value), 1 ≤ i ∧ i ≤ n ∧ iv = .int .i64 i ∧ L.length = n ∧ Hid (Copied 38 35 wr w2.heap.size (.slice (some ⟨g5, 0, none⟩) n c5) L T) ∧ Hid (Below w2.heap.size w2 wr)) (fun iv _ => n - (intOf iv).toNat)
        case atStart => exact ⟨1, _, _, Nat.le_refl _, by omega, rfl, HL5.out, HCP5, HB5⟩
        case round =>
          obtain ⟨i, L, T, hi1, hin, rfl, hL, hcp, hb⟩ := hrel
          by_cases hlt : i < n
          · have k1 : (0 : Int) ≤ ↑i := by omega
            have k2 : (↑i : Int) < ↑n := by omega
            obtain ⟨g6, c6, hv6, -, hg6b, -, -, hfz, hcel⟩ := hcp.out.formC (by omega)
            injection hv6 with e1 e2 e3
            injection e1 with e1
            injection e1 with e1 _ _
            subst e1 e3
            clear e2
            obtain ⟨z0, z2, z3⟩ := hcel i (by omega)
            have HAB := hid (fun x y (hx : I64 x) (hy : I64 y) => hcp.out.setAB (p := i) (by omega) hx hy)
            obtain ⟨ka, hka⟩ : ∃ ka, (L[i]'(by omega)).a = ka := ⟨_, rfl⟩
            obtain ⟨kb, hkb⟩ : ∃ kb, (L[i]'(by omega)).b = kb := ⟨_, rfl⟩
            obtain ⟨kk, hkk⟩ : ∃ kk, (L[i]'(by omega)).kind = kk := ⟨_, rfl⟩
            rw [hka] at z2
            rw [hkb] at z3
            rw [hkk] at z0
            have HLL := hid hL
            clear hcel hka hkb hkk hL
            rcases Bool.eq_false_or_eq_true (kk == 5) with hk | hk
            · go_wp2_with fail
              go_region
              all_goals
                obtain ⟨L', T', hL', hcp'⟩ := (HAB.out _ _ (i64_wrap (ka + 1)) (i64_wrap (kb + 1))).1
                rw [IntWalk.i64_left, IntWalk.i64_left] at hcp'
                have HCP' := hid hcp'
                have HL' := hid (hL'.trans HLL.out)
                clear hL' hcp'
                go_wp2_with fail
                exact ⟨⟨i + 1, L', T', by omega, by omega, by go_num, HL'.out, hid HCP'.out.drew, hid ((hb.out.setCell (p := ⟨g5, i * 5 + 2, none⟩) hg5 _).setCell (p := ⟨g5, i * 5 + 3, none⟩) hg5 _).drew⟩, by simp [intOf]; omega⟩
            · go_wp2_with fail
              exact ⟨⟨i + 1, L, T, by omega, by omega, by go_num, HLL.out, hcp, hb⟩, by simp [intOf]; omega⟩
          · have hin' : i = n := by omega
            subst hin'
            go_wp2_with fail
            go_ret
            exact ⟨_, L, rfl, hcp.out.rd fun b _ h => h, bstep HB1.out (bstep HB2.out hb.out)⟩
end Go.Proofs.YtmghlakedaigpaaGreatDoor
