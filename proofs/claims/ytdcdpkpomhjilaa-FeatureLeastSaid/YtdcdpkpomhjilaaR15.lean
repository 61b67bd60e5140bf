/- The law FeatureLeast. -/
import Derived.Test.YtdcdpkpomhjilaaR14
namespace Go.Proofs.Ytdcdpkpomhjilaa
open Go Go.RowKit

theorem ofF_find {l : List Feat} {f x : ByteArray} (h : x ∈ ofF l f) : ∃ k, ∃ hk : k < l.length, l[k].name = f ∧ x ∈ l[k].of := by
  unfold ofF at h
  rcases findF_spec l f with ⟨h1, _⟩ | ⟨k, hk, h1, h2⟩
  · rw [if_pos (by omega)] at h; cases h
  · rw [if_neg (by omega), h1, Int.toNat_natCast, getD_at hk] at h
    exact ⟨k, hk, h2, h⟩
theorem named_of {l : List Feat} {A : List ByteArray} {f x : ByteArray} (hf : f ∈ A) (hx : x ∈ ofF l f) : namedB l A x = true := by
  obtain ⟨k, hk, h1, h2⟩ := ofF_find hx
  exact namedB_hit hk (memB_iff.2 (h1 ▸ hf)) (memB_iff.2 h2)
theorem k2_text {x : ByteArray} (h : kOf x = 2) : x = ⟨#[63]⟩ ++ nOf x := by
  apply ext_ba
  unfold kOf nOf itemF at *
  split at h
  · cases h
  · rename_i h1
    split at h
    · rename_i h2
      rw [if_neg h1, if_pos h2]
      obtain ⟨h3, _⟩ := h2
      cases hl : x.data.toList with
      | nil => rw [hl] at h3; cases h3
      | cons a t =>
        rw [hl] at h3
        injection h3 with h3
        subst h3
        simp [ByteArray.data_append]
    · split at h
      · cases h
      · cases h
theorem least_on {l : List Feat} {L A B C : List ByteArray} (h : Closed l L A B C) {s : ByteArray} (hs : s ∈ A) : memB L s = true ∨ namedB l A s = true := by
  cases (h.ma s).1 hs with
  | ask hs => exact .inl (memB_iff.2 hs)
  | item hf hx ha =>
    right
    unfold k1 at ha
    split at ha
    · rename_i h1
      injection ha with ha
      rw [kOf_one h1] at ha
      subst ha
      exact named_of ((h.ma _).2 hf) hx
    · cases ha
theorem least_op {l : List Feat} {L A B C : List ByteArray} (h : Closed l L A B C) (hsm : FSmall l) {s : ByteArray} (hs : s ∈ B) : namedB l A (⟨#[63]⟩ ++ s) = true ∧ s.size ≤ 100000 := by
  obtain ⟨f, hf, x, hx, ha⟩ := (h.mb s).1 hs
  unfold k2 at ha
  split at ha
  · rename_i h1
    injection ha with ha
    subst ha
    have h2 := of_small hsm hx
    refine ⟨?_, Nat.le_trans (nOf_size x (.inr h1)) h2⟩
    rw [← k2_text h1]
    exact named_of ((h.ma _).2 hf) hx
  · cases ha
theorem least_pu {l : List Feat} {L A B C : List ByteArray} (h : Closed l L A B C) {s : ByteArray} (hs : s ∈ C) : namedB l A s = true := by
  obtain ⟨f, hf, x, hx, ha⟩ := (h.mc s).1 hs
  unfold k3 at ha
  split at ha
  · cases ha
  · injection ha with ha
    subst ha
    exact named_of ((h.ma _).2 hf) hx
theorem named_yes (v v' : Value) (l : List Feat) (on : List ByteArray) (s : ByteArray) (w : World) (h : SliceRd tFeat w (Lt w.heap.size) v l) (h' : SliceRd tStr w (Lt w.heap.size) v' on) (hs : s.size ≤ maxLen) (hn : namedB l on s = true) : Calls Try.prog 24 #[v, v', .string s] w fun e w' => e = .returned (.bool true) ∧ Below w.heap.size w w' := by
  have := named_any v v' l on s w h h' hs
  rwa [hn] at this
theorem within_one (v v' : Value) (x : ByteArray) (B : List ByteArray) (b : Bool) (w : World) (h : SliceRd tStr w (Lt w.heap.size) v [x]) (h' : SliceRd tStr w (Lt w.heap.size) v' B) (hb : memB B x = b) : Calls Try.prog 23 #[v, v'] w fun e w' => e = .returned (.bool b) ∧ Below w.heap.size w w' := by
  have := within_any v v' [x] B w h h'
  rwa [withinB_one, hb] at this

set_option maxRecDepth 100000 in
set_option maxHeartbeats 4000000 in
theorem featureLeast_any (v : Value) (l : List Int) (b : Int) (w : World) (h : SliceRd tInt w (Lt w.heap.size) v l) (_ : I64 b) :
    Calls Try.prog 8 #[v, .int .i64 b] w fun e w' => e = .returned (.bool true) ∧ Below w.heap.size w w' := by
  have HR := hid (record_any v l w h)
  clear h
  go_enter Try.func8, Try.ntmps8
  go_wp2_with fail
  refine HR.out.mono ?_
  rintro e w1 ⟨hb1, a0, c0, c1, d0, d1, d2, nv, bv, fv, fs, rfl, hrd, hfs⟩
  obtain ⟨FA, fc, rfl, -, -, -⟩ := hrd.feats
  obtain ⟨hm, hl4, hsm⟩ := hfs.may
  have HM := hid hm
  have HSM := hid hsm
  have HRD := hid hrd
  have HB1 := hid hb1
  have hfd := field4 a0 c0 c1 d0 d1 d2 nv bv FA fs.length fc
  clear hrd hfs hb1 hm hsm
  go_wp2_with fail
  refine (some_any _ fs b _ HRD.out hl4).mono ?_
  rintro e w2 ⟨hb2, v2, L, rfl, hrl, hsi⟩
  obtain ⟨LA, lc, rfl, -, -, -⟩ := rd_cells hrl
  have HK := hid hsi.known
  have hLn := hsi.1
  have HRL := hid hrl
  have HB2 := hid (bstep HB1.out hb2)
  have HRD2 := hid (HRD.out.lift hb2 hb2.size)
  clear hrl hsi hb2
  go_wp2_with fail
  refine (iclose_any _ _ fs L _ HRD2.out HRL.out HSM.out (by omega)).mono ?_
  intro e w3 hp
  obtain ⟨hb3, va, vb, vc, A, B, C, rfl, hc, ra, rb, rc⟩ := close_ok hp HM.out HK.out
  obtain ⟨PA, ca, rfl, hma1, hma2, HCA⟩ := rd_cells ra
  obtain ⟨PB, cb, rfl, hmb1, hmb2, HCB⟩ := rd_cells rb
  obtain ⟨PC, cc, rfl, hmc1, hmc2, HCC⟩ := rd_cells rc
  have HC := hid hc
  have RA := hid ra
  have HB3 := hid (bstep HB2.out hb3)
  have HRD3 := hid (HRD2.out.lift hb3 hb3.size)
  have HRL3 := hid (HRL.out.lift hb3 hb3.size)
  clear hc ra rb rc hb3 hp HRD HRD2 HRL
  obtain ⟨wq, hwq⟩ : ∃ wq : World, wq = w3 := ⟨_, rfl⟩
  subst hwq
  go_wp2_with fail
  go_loopw [11] (fun iv wr => ∃ i : Nat, i ≤ A.length ∧ iv = .int .i64 i ∧ Hid (Below wq.heap.size wq wr)) (fun iv _ => A.length - (intOf iv).toNat)
  case atStart => exact ⟨0, Nat.zero_le _, rfl, hid (b0 _)⟩
  case round =>
    obtain ⟨i, hi, rfl, hb⟩ := hrel
    have i1 : (0 : Int) ≤ ↑i := by omega
    by_cases hlt : i < A.length
    · obtain ⟨g, o, hA, hF, g0, hs⟩ := HCA.out i hlt
      subst hA
      have x0 := cell_below hb.out hF g0
      have i2 : (↑i : Int) < ↑A.length := by omega
      have i3 : (↑i : Int) ≤ ↑ca := by omega
      have i4 : (↑i : Int) + 1 ≤ ↑ca := by omega
      have i5 : (↑i : Int) ≤ ↑i + 1 := by omega
      have i6 : (0 : Int) ≤ ↑i + 1 := by omega
      have hne : ¬ ca = i := by omega
      have hne' : ¬ i = ca := by omega
      have HLO := hid (least_on HC.out (List.getElem_mem hlt))
      have HSUB := hid (show SliceRd tStr wr (Lt wr.heap.size) (.slice (some ⟨g, o + i, none⟩) 1 (ca - i)) [A[i]] by
        have h1 := (RA.out.lift hb.out hb.out.size).cutS i (i + 1) (by omega) (by omega) (ca - i) (by omega) (by unfold maxLen; omega) (some ⟨g, o + i, none⟩) (fun g' o' e _ => by injection e with e; injection e with e1 e2; subst e1 e2; rfl)
        rw [show i + 1 - i = 1 by omega] at h1
        rw [List.drop_eq_getElem_cons hlt] at h1
        exact h1)
      have G0 := hid g0
      clear g0
      generalize A[i] = x at *
      rcases bc (memB L x) with ⟨hq, HQ⟩ | ⟨hq, HQ⟩
      · clear hq
        go_wp2_with (first
          | (go_at_call 23; refine (within_one _ _ x L true _ HSUB.out (HRL3.out.lift hb.out hb.out.size) HQ.out).mono ?_; rintro e w4 ⟨rfl, hb4⟩; have HB4 := hid (bstep hb.out hb4); clear hb4))
        exact ⟨⟨i + 1, by omega, by go_num, HB4⟩, by simp [intOf]; omega⟩
      · have HNM := hid (HLO.out.resolve_left (by rw [hq]; simp))
        clear hq
        go_wp2_with (first
          | (go_at_call 23; refine (within_one _ _ x L false _ HSUB.out (HRL3.out.lift hb.out hb.out.size) HQ.out).mono ?_; rintro e w4 ⟨rfl, hb4⟩; have HB4 := hid (bstep hb.out hb4); have x4 := cell_below HB4.out hF G0.out; clear hb4)
          | (go_at_call 24; refine (named_yes _ _ fs A x _ (HRD3.out.lift HB4.out HB4.out.size) (RA.out.lift HB4.out HB4.out.size) hs HNM.out).mono ?_; rintro e w5 ⟨rfl, hb5⟩; have HB5 := hid (bstep HB4.out hb5); clear hb5))
        exact ⟨⟨i + 1, by omega, by go_num, HB5⟩, by simp [intOf]; omega⟩
    · have i2 : ¬ (↑i : Int) < ↑A.length := by omega
      go_wp2
      go_loopw [12] (fun iv wr => ∃ i : Nat, i ≤ B.length ∧ iv = .int .i64 i ∧ Hid (Below wq.heap.size wq wr)) (fun iv _ => B.length - (intOf iv).toNat)
      case atStart => exact ⟨0, Nat.zero_le _, rfl, hb⟩
      case round =>
        clear hb i1 i2 hi hlt
        obtain ⟨i, hi, rfl, hb⟩ := hrel
        have i1 : (0 : Int) ≤ ↑i := by omega
        by_cases hlt : i < B.length
        · obtain ⟨g, o, hA, hF, g0, hs⟩ := HCB.out i hlt
          subst hA
          have x0 := cell_below hb.out hF g0
          have i2 : (↑i : Int) < ↑B.length := by omega
          have HLO := hid (least_op HC.out HSM.out (List.getElem_mem hlt))
          have hsz := HLO.out.2
          generalize B[i] = x at *
          have q1 : ¬ 9223372036854775807 < 1 + x.size := by omega
          have hs1 : (⟨#[63]⟩ ++ x : ByteArray).size ≤ maxLen := by
            rw [ByteArray.size_append, show (⟨#[63]⟩ : ByteArray).size = 1 from rfl]; unfold maxLen; omega
          have HS1 := hid hs1
          clear g0 hs1
          have HNY := hid (named_yes (.slice FA fs.length fc) (.slice PA A.length ca) fs A _ wr (HRD3.out.lift hb.out hb.out.size) (RA.out.lift hb.out hb.out.size) HS1.out HLO.out.1)
          go_wp2_with (first
            | (go_at_call 24; (with_reducible refine HNY.out.mono ?_); rintro e w5 ⟨rfl, hb5⟩; have HB5 := hid (bstep hb.out hb5); clear hb5))
          exact ⟨⟨i + 1, by omega, by go_num, HB5⟩, by simp [intOf]; omega⟩
        · have i2 : ¬ (↑i : Int) < ↑B.length := by omega
          go_wp2
          go_loopw [13] (fun iv wr => ∃ i : Nat, i ≤ C.length ∧ iv = .int .i64 i ∧ Hid (Below wq.heap.size wq wr)) (fun iv _ => C.length - (intOf iv).toNat)
          case atStart => exact ⟨0, Nat.zero_le _, rfl, hb⟩
          case round =>
            clear hb i1 i2 hi hlt
            obtain ⟨i, hi, rfl, hb⟩ := hrel
            have i1 : (0 : Int) ≤ ↑i := by omega
            by_cases hlt : i < C.length
            · obtain ⟨g, o, hA, hF, g0, hs⟩ := HCC.out i hlt
              subst hA
              have x0 := cell_below hb.out hF g0
              have i2 : (↑i : Int) < ↑C.length := by omega
              have HLO := hid (least_pu HC.out (List.getElem_mem hlt))
              generalize C[i] = x at *
              clear g0
              go_wp2_with (first
                | (go_at_call 24; refine (named_yes _ _ fs A x _ (HRD3.out.lift hb.out hb.out.size) (RA.out.lift hb.out hb.out.size) hs HLO.out).mono ?_; rintro e w5 ⟨rfl, hb5⟩; have HB5 := hid (bstep hb.out hb5); clear hb5))
              exact ⟨⟨i + 1, by omega, by go_num, HB5⟩, by simp [intOf]; omega⟩
            · have i2 : ¬ (↑i : Int) < ↑C.length := by omega
              go_wp2_with (first
                | (go_at_call 9; refine (awake_any _).mono ?_; rintro e w8 ⟨rfl, hb8⟩))
              go_ret
              exact ⟨rfl, bstep HB3.out (bstep hb.out hb8)⟩
end Go.Proofs.Ytdcdpkpomhjilaa
