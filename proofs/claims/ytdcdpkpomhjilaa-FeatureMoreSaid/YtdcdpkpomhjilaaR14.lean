/- The law FeatureMore. -/
import Derived.Test.YtdcdpkpomhjilaaR13
namespace Go.Proofs.Ytdcdpkpomhjilaa
open Go Go.RowKit

set_option maxRecDepth 100000 in
set_option maxHeartbeats 4000000 in
theorem featureMore_any (v : Value) (l : List Int) (b m : Int) (w : World) (h : SliceRd tInt w (Lt w.heap.size) v l) (_ : I64 b) (_ : I64 m) :
    Calls Try.prog 7 #[v, .int .i64 b, .int .i64 m] w fun e w' => e = .returned (.bool true) ∧ Below w.heap.size w w' := by
  have HR := hid (record_any v l w h)
  obtain ⟨ii, hii⟩ := info_parts str_info
  have HII := hid hii
  clear h hii
  go_enter Try.func7, Try.ntmps7
  go_wp2_with fail
  refine HR.out.mono ?_
  rintro e w1 ⟨hb1, a0, c0, c1, d0, d1, d2, nv, bv, fv, fs, rfl, hrd, hfs⟩
  obtain ⟨FA, fc, rfl, -, -, -⟩ := hrd.feats
  obtain ⟨hm, hl4, hsm⟩ := hfs.may
  have HM := hid hm
  have HSM := hid hsm
  have HRD := hid hrd
  have HB1 := hid hb1
  have hfd := field4 a0 c0 c1 d0 d1 d2 nv bv FA fs.length fc
  clear hrd hfs hb1 hm hsm
  go_wp2_with fail
  refine (some_any _ fs b _ HRD.out hl4).mono ?_
  rintro e w2 ⟨hb2, v2, L, rfl, hrl, hsi⟩
  obtain ⟨LA, lc, rfl, -, -, -⟩ := rd_cells hrl
  have HSI := hid hsi
  have HK := hid hsi.known
  have hLn := hsi.1
  have HRL := hid hrl
  have HB2 := hid (bstep HB1.out hb2)
  have HRD2 := hid (HRD.out.lift hb2 hb2.size)
  clear hrl hsi hb2
  go_wp2_with fail
  refine (some_any _ fs (bits .or .i64 b m) _ HRD2.out hl4).mono ?_
  rintro e w3 ⟨hb3, v3, M, rfl, hrm, hsi⟩
  obtain ⟨MA, mc, rfl, hmc1, hmc2, HMC⟩ := rd_cells hrm
  have HSU := hid (HSI.out.more hsi hl4)
  have HKM := hid hsi.known
  have hMn := hsi.1
  have HRM := hid hrm
  have HB3 := hid (bstep HB2.out hb3)
  have HRD3 := hid (HRD2.out.lift hb3 hb3.size)
  have HRL3 := hid (HRL.out.lift hb3 hb3.size)
  clear hrm hsi hb3 HSI HRD HRD2 HRL
  obtain ⟨wq, hwq⟩ : ∃ wq : World, wq = w3 := ⟨_, rfl⟩
  subst hwq
  go_wp2_with fail
  go_loopw [10, 11] (fun tv iv wr => ∃ (k : Nat) (T : List ByteArray), k ≤ M.length ∧ iv = .int .i64 ((k : Int) - 1) ∧ Hid (OwnF fStr 9 wq.heap.size wr tv T) ∧ Hid (T.length + k = M.length ∧ ∀ u, u ∈ T ↔ u ∈ M.drop k) ∧ Hid (Below wq.heap.size wq wr)) (fun _ iv _ => (intOf iv + 1).toNat)
  case atStart => exact ⟨M.length, [], Nat.le_refl _, rfl, hid (OwnF.nil _ _ _ _), hid ⟨by simp, fun u => by simp⟩, hid (b0 _)⟩
  case round =>
    obtain ⟨k, T, hk, rfl, HT, HTM, hb⟩ := hrel
    obtain ⟨TA, tc, rfl⟩ := HT.out.form
    by_cases hlt : 1 ≤ k
    · obtain ⟨g, o, hA, hF, g0, hs⟩ := HMC.out (k - 1) (by omega)
      subst hA
      have c0 := cell_below hb.out hF g0
      clear g0
      have i1 : (0 : Int) ≤ ↑k - 1 := by omega
      have i1' : (1 : Int) ≤ ↑k := by omega
      have i2 : (↑k : Int) - 1 < ↑M.length := by omega
      have i3 : ((↑k : Int) - 1).toNat = k - 1 := by omega
      have hTl := HTM.out.1
      have HN := hid (show (T ++ [M[k - 1]]).length + (k - 1) = M.length ∧ ∀ u, u ∈ T ++ [M[k - 1]] ↔ u ∈ M.drop (k - 1) from ⟨by simp; omega, fun u => by
        rw [List.mem_append, HTM.out.2, List.mem_singleton, List.drop_eq_getElem_cons (i := k - 1) (by omega), List.mem_cons, show k - 1 + 1 = k by omega]
        exact Or.comm⟩)
      generalize M[k - 1] = x at *
      go_wp2_with (first
        | (at_builtin; go_must (refine wpList_append_own _ rfl _ _ 30 rfl wq.heap.size 9 ii (.string ⟨#[]⟩) 1 16 Try.underlying30 HII.out.1 HII.out.2.1 HII.out.2.2.1 HII.out.2.2.2 rfl (by decide) _ _ _ rfl ((HT.out.alloc _).1) ⟨wr.heap.size, 0, none⟩ 1 1 [.string x] rfl rfl (cell_one_new _ _ _) (by simp [Value.oneCell']) (by unfold maxLen; omega) (by omega) (by have := hb.out.size; simp; omega) ?_); intro v' w4 hown' hg3 hnil3; have HB4 := hid ((hb.out.alloc hb.out.size (.cells #[.string x] 9)).grown (B := wq.heap.size) hg3 (by have := hb.out.size; simp; omega) (fun j hj => (HT.out.lt j hj).1)); have HT4 := hid (HT.out.snoc (x := x) hs hown'); clear hown' hg3 hnil3))
      exact ⟨⟨k - 1, _, by omega, by go_num, HT4, HN, HB4⟩, by simp [intOf]; omega⟩
    · have i1 : ¬ (0 : Int) ≤ ↑k - 1 := by omega
      have i1' : ¬ (1 : Int) ≤ ↑k := by omega
      have hk0 : k = 0 := by omega
      have HTU := hid (show ∀ u, u ∈ T ↔ u ∈ M from fun u => by rw [HTM.out.2, hk0, List.drop_zero])
      have hTn : T.length ≤ 10 := by have := HTM.out.1; omega
      have HTK := hid (show T.all (knownB fs) = true from List.all_eq_true.2 fun u hu => List.all_eq_true.1 HKM.out u ((HTU.out u).1 hu))
      have HRT := hid HT.out.rd
      have HB4 := hid (bstep HB3.out hb.out)
      have HRD4 := hid (HRD3.out.lift hb.out hb.out.size)
      have HRL4 := hid (HRL3.out.lift hb.out hb.out.size)
      have HRM4 := hid (HRM.out.lift hb.out hb.out.size)
      clear hk0 HT HTM hb HRD3 HRL3 HRM HMC
      go_wp2_with fail
      refine (iclose_any _ _ fs L _ HRD4.out HRL4.out HSM.out (by omega)).mono ?_
      intro e w5 hp
      obtain ⟨hb5, va, vb, vc, A, B, C, rfl, hc, ra, rb, rc⟩ := close_ok hp HM.out HK.out
      have HC := hid hc
      have RA := hid ra
      have RB := hid rb
      have RC := hid rc
      have HB5 := hid (bstep HB4.out hb5)
      have HRD5 := hid (HRD4.out.lift hb5 hb5.size)
      have HRT5 := hid (HRT.out.lift hb5 hb5.size)
      have HRM5 := hid (HRM4.out.lift hb5 hb5.size)
      clear hc ra rb rc hb5 hp HRD4 HRL4 HRT HRM4
      go_wp2_with fail
      refine (iclose_any _ _ fs T _ HRD5.out HRT5.out HSM.out (by omega)).mono ?_
      intro e w6 hp
      obtain ⟨hb6, vp, vq, vr, P, Q, R, rfl, hc, ra, rb, rc⟩ := close_ok hp HM.out HTK.out
      have HCP := hid (closed_congr HTU.out hc)
      have RP := hid ra
      have RQ := hid rb
      have RR := hid rc
      have HB6 := hid (bstep HB5.out hb6)
      have HRD6 := hid (HRD5.out.lift hb6 hb6.size)
      have HRM6 := hid (HRM5.out.lift hb6 hb6.size)
      have RA6 := hid (RA.out.lift hb6 hb6.size)
      have RB6 := hid (RB.out.lift hb6 hb6.size)
      have RC6 := hid (RC.out.lift hb6 hb6.size)
      clear hc ra rb rc hb6 hp HRD5 HRT5 HRM5 RA RB RC
      go_wp2_with fail
      refine (iclose_any _ _ fs M _ HRD6.out HRM6.out HSM.out (by omega)).mono ?_
      intro e w7 hp
      obtain ⟨hb7, vs, vt, vu, S, T', U, rfl, hc, ra, rb, rc⟩ := close_ok hp HM.out HKM.out
      obtain ⟨rfl, rfl, rfl⟩ := HCP.out.uniq hc
      have RS := hid ra
      have HB7 := hid (bstep HB6.out hb7)
      have RA7 := hid (RA6.out.lift hb7 hb7.size)
      have RB7 := hid (RB6.out.lift hb7 hb7.size)
      have RC7 := hid (RC6.out.lift hb7 hb7.size)
      have RP7 := hid (RP.out.lift hb7 hb7.size)
      have RQ7 := hid (RQ.out.lift hb7 hb7.size)
      have RR7 := hid (RR.out.lift hb7 hb7.size)
      have HMO := hid (closed_more HSU.out HC.out HCP.out)
      clear hc ra rb rc hb7 hp HRD6 HRM6 RA6 RB6 RC6 RP RQ RR
      have t1 := hid True.intro
      have t2 := hid True.intro
      go_wp2_with (first
        | (go_at_call 9; refine (awake_any _).mono ?_; rintro e w8 ⟨rfl, hb8⟩; have HB8 := hid hb8; clear hb8)
        | (go_at_call 23; clear t1; refine (within_yes _ _ A P _ (RA7.out.lift HB8.out HB8.out.size) (RP7.out.lift HB8.out HB8.out.size) HMO.out.1).mono ?_; rintro e w9 ⟨rfl, hb9⟩; have HB9 := hid (bstep HB8.out hb9); clear hb9)
        | (go_at_call 23; clear t2; refine (within_yes _ _ B Q _ (RB7.out.lift HB9.out HB9.out.size) (RQ7.out.lift HB9.out HB9.out.size) HMO.out.2.1).mono ?_; rintro e wa ⟨rfl, hba⟩; have HBA := hid (bstep HB9.out hba); clear hba)
        | (go_at_call 23; refine (within_yes _ _ C R _ (RC7.out.lift HBA.out HBA.out.size) (RR7.out.lift HBA.out HBA.out.size) HMO.out.2.2).mono ?_; rintro e wb ⟨rfl, hbb⟩; have HBB := hid (bstep HBA.out hbb); clear hbb)
        | (go_at_call 19; refine (same_texts _ _ P _ (RS.out.lift HBB.out HBB.out.size) (RP7.out.lift HBB.out HBB.out.size)).mono ?_; rintro e wc ⟨rfl, hbc⟩; have HBC := hid (bstep HBB.out hbc); clear hbc))
      go_ret
      exact ⟨rfl, bstep HB7.out HBC.out⟩
end Go.Proofs.Ytdcdpkpomhjilaa
