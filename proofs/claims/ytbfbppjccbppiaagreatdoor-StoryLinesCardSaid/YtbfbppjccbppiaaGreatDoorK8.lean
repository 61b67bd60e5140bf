/- Contract: linchpinlaw32.StoryLines. -/
import Derived.Test.YtbfbppjccbppiaaGreatDoorK2X
import Derived.Test.YtbfbppjccbppiaaGreatDoorPPX
import Derived.Test.YtbfbppjccbppiaaGreatDoorzI7
import Derived.Outline
namespace Go.Proofs.YtbfbppjccbppiaaGreatDoor
open Go Go.RowKit

def hopL : List ByteArray := [⟨#[104, 111, 112, 46, 10]⟩, ⟨#[10]⟩, ⟨#[49, 46, 32, 84, 104, 101, 32, 112, 114, 111, 106, 101, 99, 116, 32, 105, 115, 32, 119, 97, 110, 116, 101, 100, 10]⟩, ⟨#[48, 46, 32, 84, 104, 101, 32, 112, 114, 111, 106, 101, 99, 116, 32, 105, 115, 32, 119, 97, 110, 116, 101, 100, 58, 32, 110, 101, 118, 101, 114, 32, 116, 104, 101, 32, 112, 114, 111, 106, 101, 99, 116, 32, 110, 111, 110, 101, 46, 10]⟩, ⟨#[32]⟩]
section
variable {us : List UnitW}
theorem canR_rowP {R : List Row} (hc : ∀ r ∈ R, CanR (nsOf us) r) (hi : IdxR R) (hl : R.length ≤ 60) {i : Nat} (h : i < R.length) : RowP us R[i] (i + 1) := by
 obtain ⟨⟨M, hM, ht⟩, hk, hu, ho, h1⟩ := hc _ (List.getElem_mem h)
 have hix := hi i h
 have hul : R[i].unit < us.length := by have := hu.2; simpa [nsOf] using this
 have hab : (0 ≤ R[i].a ∧ R[i].a ≤ 100000) ∧ (0 ≤ R[i].b ∧ R[i].b ≤ 100000) := by
  by_cases h5 : R[i].kind = 5
  ·have := hix h5; omega
  ·have := ho h5; omega
 exact ⟨⟨hk, ⟨hu.1, hul⟩, by rw [ht]; exact canon_may hM, hab.1, hab.2⟩, fun h5 => by have := hix h5; unfold qp5; omega, ho, h1⟩
theorem row_no {line : ByteArray} {n : Nat} (h : ¬ (decB n ++ ⟨#[46, 32]⟩).data.toList <+: line.data.toList) : rowR us line n = none := by
 refine za2 (R := none) ?_ (.inl rfl)
 unfold qu0
 refine if_neg fun hc => h ?_
 have h1 : Lib.hasPrefix line.data.toList (decB n ++ ⟨#[46, 32]⟩).data.toList = true := hc.1
 unfold Lib.hasPrefix at h1
 exact List.isPrefixOf_iff_prefix.1 h1
theorem row_end {line : ByteArray} {n : Nat} (h : Lib.hasSuffix (ahdB line (decB n ++ ⟨#[46, 32]⟩).data.toList).1.data.toList [46] = false) : rowR us line n = none := by
 refine za2 (R := none) ?_ (.inl rfl)
 unfold qu0
 refine if_neg fun hc => ?_
 have h1 : Lib.hasSuffix (ahdB line (decB n ++ ⟨#[46, 32]⟩).data.toList).1.data.toList [46] = true := hc.2.1
 rw [h] at h1
 cases h1
theorem row_end2 {line : ByteArray} {n : Nat} (h : Lib.hasSuffix line.data.toList [46] = false) : rowR us line n = none := by
 refine row_end ?_
 rw [Bool.eq_false_iff]
 intro hs
 unfold Lib.hasSuffix at h hs
 rw [List.isSuffixOf_iff_suffix] at hs
 have h2 : (ahdB line (decB n ++ ⟨#[46, 32]⟩).data.toList).1.data.toList <:+ line.data.toList := by
  show Lib.trimPrefix _ _ <:+ _
  unfold Lib.trimPrefix
  split
  ·exact List.drop_suffix _ _
  ·exact List.suffix_refl _
 rw [List.isSuffixOf_iff_suffix.2 (hs.trans h2)] at h
 cases h
theorem dec_first {n : Nat} (hn : 1 ≤ n) : ∃ c l, (decB n).data.toList = c :: l ∧ 49 ≤ c.toNat ∧ c.toNat ≤ 57 := by
 show ∃ c l, Lib.decDigits n = c :: l ∧ _
 induction n using Nat.strongRecOn with
 | _ n ih =>
  by_cases h : n < 10
  ·rw [Lib.decDigits, dif_pos h]
   refine ⟨_, _, rfl, ?_⟩
   rcases (show n = 1 ∨ n = 2 ∨ n = 3 ∨ n = 4 ∨ n = 5 ∨ n = 6 ∨ n = 7 ∨ n = 8 ∨ n = 9 by omega) with rfl | rfl | rfl | rfl | rfl | rfl | rfl | rfl | rfl <;> decide
  ·obtain ⟨c, l, h1, h2⟩ := ih (n / 10) (by omega) (by omega)
   rw [Lib.decDigits, dif_neg h, h1]
   exact ⟨c, _, rfl, h2⟩
theorem pre_first {n : Nat} {c : UInt8} {l : List UInt8} (hn : 1 ≤ n) (hc : c.toNat < 49 ∨ 57 < c.toNat) : ¬ (decB n ++ ⟨#[46, 32]⟩).data.toList <+: (c :: l) := by
 obtain ⟨d, r, h1, h2, h3⟩ := dec_first hn
 rw [qb5, h1]
 rintro ⟨t, ht⟩
 have : d = c := by injection ht
 subst this
 omega
theorem hop_no {x y : ByteArray} {n : Nat} (hn : 1 ≤ n) (hx : x ∈ hopL) : (cutB (x ++ y) [10]).2.2 = true → rowR us (cutB (x ++ y) [10]).1 n = none := by
 intro h9
 have cutx : ∀ a : List UInt8, (10 : UInt8) ∉ a → x.data.toList = a ++ [10] → (cutB (x ++ y) [10]).1 = ⟨a.toArray⟩ := fun a ha e => by
  have := cut_line (s := x ++ y) (rest := y) ha (by rw [qb5, e])
  rw [this]
 rcases List.mem_cons.1 hx with rfl | hx
 ·rw [cutx [104, 111, 112, 46] (by decide) rfl]
  exact row_no (pre_first hn (by decide))
 ·rcases List.mem_cons.1 hx with rfl | hx
  ·rw [cutx [] (by decide) rfl]
   refine row_no ?_
   obtain ⟨d, r, h1, -⟩ := dec_first hn
   rw [qb5, h1]
   rintro ⟨t, ht⟩
   cases ht
  ·rcases List.mem_cons.1 hx with rfl | hx
   ·rw [cutx [49, 46, 32, 84, 104, 101, 32, 112, 114, 111, 106, 101, 99, 116, 32, 105, 115, 32, 119, 97, 110, 116, 101, 100] (by decide) rfl]
    exact row_end2 (by decide)
   ·rcases List.mem_cons.1 hx with rfl | hx
    ·rw [cutx [48, 46, 32, 84, 104, 101, 32, 112, 114, 111, 106, 101, 99, 116, 32, 105, 115, 32, 119, 97, 110, 116, 101, 100, 58, 32, 110, 101, 118, 101, 114, 32, 116, 104, 101, 32, 112, 114, 111, 106, 101, 99, 116, 32, 110, 111, 110, 101, 46] (by decide) rfl]
     exact row_no (pre_first hn (by decide))
    ·rw [List.mem_singleton.1 hx]
     have : ∃ l, (cutB (⟨#[32]⟩ ++ y) [10]).1.data.toList = 32 :: l := by
      rcases zg7 (⟨#[32]⟩ ++ y) with ⟨-, -, e⟩ | ⟨e, -⟩
      ·cases hc : (cutB (⟨#[32]⟩ ++ y) [10]).1.data.toList with
       | nil =>
        rw [hc, qb5] at e
        exact absurd (List.cons.inj e).1 (by decide)
       | cons d l =>
        rw [hc, qb5] at e
        exact ⟨l, by rw [← (List.cons.inj e).1]⟩
      ·rw [List.mem_singleton.1 hx] at h9
       rw [h9] at e
       cases e
     obtain ⟨l, hl⟩ := this
     exact row_no (by rw [hl]; exact pre_first hn (by decide))
def accL (us : List UnitW) (R : List Row) (n : Nat) (x : ByteArray) : Nat → List UInt8
 | 0 => []
 | k + 1 => accL us R n x k ++ (if k = n then x.data.toList else []) ++ zi0 us (R[k]?.getD default) (k + 1)
theorem acc_ahead {R : List Row} {n : Nat} {x : ByteArray} : ∀ {k : Nat}, k ≤ n → k ≤ R.length → accL us R n x k = qe9 us (R.take k) 1
 | 0, _, _ => rfl
 | k + 1, h, h2 => by
  rw [accL, acc_ahead (by omega) (by omega), qy4 (by omega), if_neg (by omega), List.append_nil, List.getElem?_eq_getElem (by omega)]
  rfl
theorem acc_behind {R : List Row} {n : Nat} {x : ByteArray} (hn : n < R.length) : ∀ d, ∃ y : ByteArray, accL us R n x (n + 1 + d) = qe9 us (R.take n) 1 ++ (x ++ y).data.toList
 | 0 => ⟨⟨(zi0 us (R[n]?.getD default) (n + 1)).toArray⟩, by
  show accL us R n x (n + 1) = _
  rw [accL, acc_ahead (Nat.le_refl _) (by omega), if_pos rfl, qb5, List.append_assoc]⟩
 | d + 1 => by
  obtain ⟨y, hy⟩ := acc_behind hn d
  refine ⟨y ++ ⟨(zi0 us (R[n + 1 + d]?.getD default) (n + 1 + d + 1)).toArray⟩, ?_⟩
  show accL us R n x (n + 1 + d + 1) = _
  rw [accL, hy, if_neg (by omega), List.append_nil]
  simp only [qb5, List.append_assoc]
theorem acc_size (ho : StW us) {R : List Row} {n : Nat} {x : ByteArray} (hx : x.size ≤ 100) (hr : ∀ i, (h : i < R.length) → RowS us R[i]) : ∀ {k : Nat}, k ≤ R.length → k ≤ 60 → (accL us R n x k).length ≤ k * 6101
 | 0, _, _ => Nat.zero_le _
 | k + 1, h, h6 => by
  have h1 := acc_size ho hx hr (n := n) (k := k) (by omega) (by omega)
  have h2 := qu9 ho (hr k (by omega)) (n := k + 1) (by omega)
  have h3 : (if k = n then x.data.toList else []).length ≤ 100 := by
   split
   ·rw [← zl7]; exact hx
   ·exact Nat.zero_le _
  rw [accL, List.length_append, List.length_append, List.getElem?_eq_getElem (by omega), Option.getD_some, zi0, List.length_append, ← zl7]
  show _ + (_ + 1) ≤ _
  omega
theorem hop_size : ∀ x ∈ hopL, x.size ≤ 100 ∧ 1 ≤ x.size := by decide +kernel
theorem lines_bad (ho : StW us) {R : List Row} {n : Nat} {x : ByteArray} (hp : ∀ i, (h : i < R.length) → RowP us R[i] (i + 1)) (hl : R.length ≤ 60) (hn : n < R.length) (hx : x ∈ hopL) : qp0 us ⟨(accL us R n x R.length).toArray⟩ = ([], 2, n + 1) := by
 obtain ⟨d, hd⟩ : ∃ d, R.length = n + 1 + d := ⟨R.length - n - 1, by omega⟩
 obtain ⟨y, hy⟩ := acc_behind (us := us) (x := x) hn d
 rw [← hd] at hy
 have hz := hop_size x hx
 have hln : (R.take n).length = n := by rw [List.length_take]; omega
 have h := readF_bad ho (l := R.take n) (s := ⟨(accL us R n x R.length).toArray⟩) (b := x ++ y) (fun i hi => by
  rw [List.getElem_take]
  exact hp i (by omega)) (by omega) hy (by rw [ByteArray.size_append]; omega) (by rw [hln]; exact hop_no (by omega) hx)
 rw [hln] at h
 exact h
set_option maxRecDepth 100000 in
set_option maxHeartbeats 4000000 in
theorem storyLines_any (wv av : Value) (ws as_ : List Int) (at_ which : Int) (w : World) (hw : SliceRd tInt w (Lt w.heap.size) wv ws) (ha : SliceRd tInt w (Lt w.heap.size) av as_) (hat : I64 at_) (hwh : I64 which) (hG : Glob w) :
  Calls Tryz.prog 6 #[wv, av, .int .i64 at_, .int .i64 which] w fun e w' => e = .returned (.bool true) ∧ Below w.heap.size w w' := by
 have HW := hid hw
 have HA := hid ha
 have HG := hid (fun (W : World) (hb : Below w.heap.size w W) => hG.later hb)
 obtain ⟨Aw, cw, rfl, -⟩ := hw.ints
 obtain ⟨Aa, ca, rfl, -⟩ := ha.ints
 have HAWK := hid (fun (W : World) (hb : Below w.heap.size w W) => awake32_any W (HG.out W hb))
 clear hw ha hG
 by_cases h10 : 10 < as_.length
 ·have z1 : decide ((10 : Int) < as_.length) = true := decide_eq_true (by omega)
  go_enter Tryz.func6, Tryz.ntmps6
  go_wp2_with (go_at_call 8; refine (HAWK.out w (b0 w)).mono ?_; rintro e w1 ⟨rfl, hb1⟩)
  go_ret
  exact ⟨rfl, hb1⟩
 ·have z1 : decide ((10 : Int) < as_.length) = false := decide_eq_false (by omega)
  clear h10
  have hnil := fun (w : World) (a : Option Addr) (n c : Nat) => Lib.run_eql_slice_nil (P := Tryz.prog) w 28 49 a n c 0 0 Tryz.underlying28
  go_enter Tryz.func6, Tryz.ntmps6
  go_upto_region 3 with fail
  go_wp2_with fail
  refine (world_any _ ws 4 w HW.out (by decide) (by decide)).mono ?_
  rintro e w1 ⟨g, c, us0, nf, rfl, hB, h2, h11, hhd, hb1, R0, hdat⟩
  obtain ⟨us, h1, ho, hns, h0⟩ := world_data hB hdat h2 h11 hhd
  have hul : us0.length = us.length := by
   have := congrArg List.length hns
   simpa [nsOf] using this.symm
  have HWR := hid h1
  have HUO := hid ho.ok
  have HST := hid ho.st
  have H0 := hid h0
  have HB1 := hid hb1
  rw [hul] at HWR ⊢
  clear hB h2 h11 hhd hb1 hdat h1 ho hns h0 hul
  go_upto_region 4 with fail
  obtain ⟨w2, hw2⟩ : ∃ w2 : World, w2 = w1.alloc (.cells #[.slice (some ⟨g, 0, none⟩) us.length c] 26) := ⟨_, rfl⟩
  have hb2 : Below w1.heap.size w1 w2 := hw2 ▸ qa0 (b0 w1) _
  have hz2 : w1.heap.size < w2.heap.size := by rw [hw2]; simp
  have q0 : w2.cell? ⟨w1.heap.size, 0, none⟩ = some (.slice (some ⟨g, 0, none⟩) us.length c) := by rw [hw2, qa6]; rfl
  have HB2 := hid (qa1 HB1.out hb2)
  have HWR2 := hid (HWR.out.lift hb2 hb2.size)
  have HA2 := hid (HA.out.lift HB2.out HB2.out.size)
  rw [← hw2]
  clear hw2 hb2 z1
  go_region_held3 (fun w' => w'.cell? ⟨w1.heap.size, 0, none⟩ = some (.slice (some ⟨g, 0, none⟩) us.length c)) (first | with_reducible assumption | go_keep) (first
   | (go_at_call 17; go_must (refine (allow_any (.agg #[.slice (some ⟨g, 0, none⟩) us.length c]) _ (nsOf us) as_ _ (qc0 HWR2.out.uni (b0 w2).drew) HUO.out.ns (HA2.out.lift (b0 w2).drew (b0 w2).drew.size)).mono ?_; rintro e w3 ⟨v3, al, rfl, hal, hall, h31, hb3⟩; have HAL := hid hal; have HALL := hid hall; have H31 := hid h31; have HB3 := hid (show Below w2.heap.size w2 w3 from qa1 (b0 w2).drew hb3); have q1 := cell_below HB3.out hz2 q0; clear hal hall h31 hb3))
   | (go_at_call 16; go_must (refine (prove_any (.agg #[.slice (some ⟨g, 0, none⟩) us.length c]) _ us al w3 (HWR2.out.lift HB3.out HB3.out.size) HUO.out H0.out HAL.out HALL.out H31.out).mono ?_; rintro e w4 ⟨v4, R, rfl, hR, hRl, hRn, hix, hb4⟩; have HR := hid hR; have HRN := hid hRn; have HIX := hid hix; have HB4 := hid (qa1 HB3.out hb4); have q2 := cell_below HB4.out hz2 q0; clear hR hb4 hRn hix)))
  have hz4 : w1.heap.size < w4.heap.size := Nat.lt_of_lt_of_le hz2 HB4.out.size
  clear q0 q1
  have HB4w := hid (qa1 HB2.out HB4.out)
  rcases HRN.out with ⟨rfl, rfl⟩ | h1
  ·go_wp2_with (go_at_call 8; refine (HAWK.out _ HB4w.out).mono ?_; rintro e w8 ⟨rfl, hb8⟩; have HB8 := hid (qa1 HB4w.out hb8); clear hb8)
   go_ret
   exact ⟨rfl, HB8.out⟩
  obtain ⟨hrr, hrc⟩ := HR.out.plainRows
  obtain ⟨A4, c4, rfl, hc4, hcm4, hcc⟩ := hrr.rows
  obtain ⟨g4, o4, tv4, hA4, -⟩ := hcc 0 (by omega)
  subst hA4
  by_cases h60 : 60 < R.length
  ·have y1 : decide ((60 : Int) < (R.length : Int)) = true := decide_eq_true (by omega)
   go_wp2_with (go_at_call 8; refine (HAWK.out _ HB4w.out).mono ?_; rintro e w8 ⟨rfl, hb8⟩; have HB8 := hid (qa1 HB4w.out hb8); clear hb8)
   go_ret
   exact ⟨rfl, HB8.out⟩
  have y1 : decide ((60 : Int) < (R.length : Int)) = false := decide_eq_false (by omega)
  have HRP := hid (fun i (h : i < R.length) => canR_rowP hrc HIX.out (by omega) h)
  have HCC := hid hcc
  have hp1 := qf4 at_ R.length
  have hp2 := qf3 at_ R.length (by omega)
  have HPL := hid (fun W => qg4 at_ R.length W hat (by unfold I64; omega))
  generalize qd7 at_ R.length = p at hp1 hp2 HPL
  obtain ⟨n, rfl⟩ := Int.eq_ofNat_of_zero_le hp1
  have hq1 := qf4 which 5
  have hq2 := qf3 which 5 (by omega)
  have HPW := hid (fun W => qg4 which 5 W hwh (by unfold I64; omega))
  generalize qd7 which 5 = q at hq1 hq2 HPW
  obtain ⟨m, rfl⟩ := Int.eq_ofNat_of_zero_le hq1
  obtain ⟨x, hx⟩ : ∃ x, hopL[m]? = some x := ⟨_, List.getElem?_eq_getElem (show m < 5 by omega)⟩
  have HX := hid hx
  have HXM := hid (List.mem_of_getElem? hx)
  have hxz := (hop_size x HXM.out).1
  have HACS := hid (fun k (h : k ≤ R.length) (h6 : k ≤ 60) => acc_size HST.out (n := n) hxz (fun i hi => (HRP.out i hi).s) h h6)
  have HBAD := hid (lines_bad HST.out HRP.out (by omega) (show n < R.length by omega) HXM.out)
  clear hcc hrr hrc HR HRN HAL HALL H31 hRl hx
  obtain ⟨N, hN⟩ : ∃ N, R.length = N := ⟨_, rfl⟩
  have HN := hid hN
  rw [hN] at hp2 h1 h60 y1 HPL HACS HBAD ⊢
  clear hN
  have hz4c := Nat.lt_of_lt_of_le hz4 (Nat.le_refl w4.heap.size)
  go_wp2_with (go_at_call 19; refine (HPL.out _).mono ?_; rintro e w' ⟨rfl, rfl⟩)
  go_loopw [12, 13] (fun sv kv wr => ∃ (k : Nat) (S : ByteArray), k ≤ N ∧ kv = .int .i64 k ∧ sv = .string S ∧ Hid (S.data.toList = accL us R n x k) ∧ Hid (Below w4.heap.size w4 wr)) (fun _ kv _ => N - (intOf kv).toNat)
  case atStart => exact ⟨0, ⟨#[]⟩, by omega, rfl, rfl, hid rfl, hid (b0 _)⟩
  case round =>
   obtain ⟨k, S, hk, rfl, rfl, hS, hb⟩ := hrel
   have hSz : S.size ≤ k * 6101 := by
    rw [zl7, hS.out]
    exact HACS.out k hk (by omega)
   have qr := cell_below hb.out hz4 q2
   have hzr := Nat.lt_of_lt_of_le hz4 hb.out.size
   by_cases hlt : k < N
   ·have hkR : k < R.length := by rw [HN.out]; exact hlt
    obtain ⟨gr, or_, tv, hA, hF, g0, g1, g2, g3, g4', ⟨i0, i1, i2, i3⟩, ht⟩ := HCC.out k hkR
    injection hA with hA
    injection hA with e1 e2 _
    subst e1 e2
    have HRS := hid (HRP.out k hkR).s
    have HLZ := hid (qu9 HST.out HRS.out (n := k + 1) (by omega))
    have HACC : Hid (accL us R n x (k + 1) = accL us R n x k ++ (if k = n then x.data.toList else []) ++ zi0 us R[k] (k + 1)) := hid (by
     rw [accL, List.getElem?_eq_getElem hkR]
     rfl)
    have j0 : (0 : Int) ≤ ↑k := by omega
    have j1 : (↑k : Int) < ↑N := by omega
    have j2 : decide (k < N) = true := decide_eq_true hlt
    have j3 : IntKind.i64.wrap ((k : Int) + 1) = (k : Int) + 1 := IntWalk.i64_in _ (by omega)
    have hor : (((k : Int) == (n : Int)) = true ∧ k = n) ∨ (((k : Int) == (n : Int)) = false ∧ k ≠ n) := by
     by_cases h : k = n
     ·exact .inl ⟨by rw [h]; exact beq_self_eq_true _, h⟩
     ·exact .inr ⟨by rw [beq_eq_false_iff_ne]; omega, h⟩
    obtain ⟨At, ct, rfl, -⟩ := ht.shape
    have HTT := hid ht
    generalize R[k] = r at *
    obtain ⟨kd, un, ra, rb, ts⟩ := r
    dsimp only at g0 g1 g2 g3 g4' HTT HRS HLZ HACC ht
    clear i0 i1 i2 i3 ht
    have HRSN := hid (fun (W : World) (hW : Below wr.heap.size wr W) => rsent_any (.agg #[.slice (some ⟨g, 0, none⟩) us.length c]) (.slice At ts.length ct) ⟨kd, un, ra, rb, ts⟩ k W (HWR2.out.lift (qa1 (qa1 HB4.out hb.out) hW) (qa1 (qa1 HB4.out hb.out) hW).size) HST.out HRS.out (HTT.out.lift (qa1 hb.out hW) (qa1 hb.out hW).size) (by omega))
    unfold rowV at HRSN
    dsimp only at HRSN
    rcases hor with ⟨hkb, hkn⟩ | ⟨hkb, hkn⟩
    have hq3 : (m : Int) < 5 := hq2
    have hx0 : ∀ o, o = .cells #[.string ⟨#[104, 111, 112, 46, 10]⟩, .string ⟨#[10]⟩, .string ⟨#[49, 46, 32, 84, 104, 101, 32, 112, 114, 111, 106, 101, 99, 116, 32, 105, 115, 32, 119, 97, 110, 116, 101, 100, 10]⟩, .string ⟨#[48, 46, 32, 84, 104, 101, 32, 112, 114, 111, 106, 101, 99, 116, 32, 105, 115, 32, 119, 97, 110, 116, 101, 100, 58, 32, 110, 101, 118, 101, 114, 32, 116, 104, 101, 32, 112, 114, 111, 106, 101, 99, 116, 32, 110, 111, 110, 101, 46, 10]⟩, .string ⟨#[32]⟩] 9 → (wr.alloc o).cell? ⟨wr.heap.size, m, none⟩ = some (.string x) := fun o ho => by
     rw [ho, qa6]
     have h5 : m = 0 ∨ m = 1 ∨ m = 2 ∨ m = 3 ∨ m = 4 := by omega
     have hx9 := HX.out
     rcases h5 with rfl | rfl | rfl | rfl | rfl <;> (injection hx9 with hx9; subst hx9; rfl)
    have hx1 := hx0 _ rfl
    have s1 : ¬ 9223372036854775807 < S.size + x.size := by omega
    have HX2 : Hid (accL us R n x (k + 1) = (S ++ x).data.toList ++ zi0 us ⟨kd, un, ra, rb, ts⟩ (k + 1)) := hid (by rw [HACC.out, if_pos hkn, qb5, hS.out])
    have hsz2 : (S ++ x).size ≤ k * 6101 + 100 := by rw [ByteArray.size_append]; omega
    clear hkn hx0 HACC
    go_upto_region 14 with (go_at_call 19; refine (HPW.out _).mono ?_; rintro e w' ⟨rfl, rfl⟩)
    obtain ⟨wq, hwq⟩ : ∃ wq : World, wq = wr.alloc (.cells #[.string ⟨#[104, 111, 112, 46, 10]⟩, .string ⟨#[10]⟩, .string ⟨#[49, 46, 32, 84, 104, 101, 32, 112, 114, 111, 106, 101, 99, 116, 32, 105, 115, 32, 119, 97, 110, 116, 101, 100, 10]⟩, .string ⟨#[48, 46, 32, 84, 104, 101, 32, 112, 114, 111, 106, 101, 99, 116, 32, 105, 115, 32, 119, 97, 110, 116, 101, 100, 58, 32, 110, 101, 118, 101, 114, 32, 116, 104, 101, 32, 112, 114, 111, 106, 101, 99, 116, 32, 110, 111, 110, 101, 46, 10]⟩, .string ⟨#[32]⟩] 9) := ⟨_, rfl⟩
    have HBQ := hid (show Below wr.heap.size wr wq from hwq ▸ qa0 (b0 wr) _)
    rw [← hwq]
    clear hwq hx1 s1
    generalize S ++ x = SQ at *
    rotate_left 1
    have HX2 : Hid (accL us R n x (k + 1) = S.data.toList ++ zi0 us ⟨kd, un, ra, rb, ts⟩ (k + 1)) := hid (by rw [HACC.out, if_neg hkn, List.append_nil, hS.out])
    have hsz2 : S.size ≤ k * 6101 + 100 := by omega
    clear hkn HACC
    go_upto_region 14 with fail
    obtain ⟨wq, hwq⟩ : ∃ wq : World, wq = wr := ⟨_, rfl⟩
    have HBQ := hid (show Below wr.heap.size wr wq from hwq ▸ b0 wr)
    obtain ⟨SQ, hSQ⟩ : ∃ SQ, SQ = S := ⟨_, rfl⟩
    rw [← hwq]
    rw [← hSQ] at HX2 hsz2 ⊢
    clear hwq hSQ
    all_goals (
     have HB4q := hid (qa1 hb.out HBQ.out)
     have q5 := cell_below HBQ.out hzr qr
     have hzq := Nat.lt_of_lt_of_le hzr HBQ.out.size
     have hFq : g4 < wq.heap.size := Nat.lt_of_lt_of_le hF HB4q.out.size
     obtain ⟨d0, d1, d2, d3, d4⟩ := cells5 HB4q.out hF ⟨g0, g1, g2, g3, g4'⟩
     have l0 := qa2 hzq q5
     have l1 := qa2 hFq d0
     have l2 := qa2 hFq d1
     have l3 := qa2 hFq d2
     have l4 := qa2 hFq d3
     have l5 := qa2 hFq d4
     have HLS := hid (fun e : Later wq => HRSN.out e.w (qa1 HBQ.out e.below))
     have hlz := HLZ.out
     have hlb : zi0 us ⟨kd, un, ra, rb, ts⟩ (k + 1) = (qi4 us ⟨kd, un, ra, rb, ts⟩ (k + 1)).data.toList ++ [10] := rfl
     rw [hlb] at HX2
     clear hlb
     generalize qi4 us ⟨kd, un, ra, rb, ts⟩ (k + 1) = LB at *
     have s2 : ¬ 9223372036854775807 < SQ.size + LB.size := by omega
     have s3 : ¬ 9223372036854775807 < SQ.size + LB.size + 1 := by omega
     (refine qa3 (by kernel_rfl) (by kernel_rfl) ?_; (repeat (go_big_quiet_step (((go_at_call 21; exact Calls.later (HLS.out _) rfl))))); refine wpQuiet_nil ?_; rintro _ ⟨e8, rfl⟩)
     obtain ⟨w6, hw6⟩ : ∃ w6 : World, w6 = e8.w := ⟨_, rfl⟩
     have hb6 : Below wq.heap.size wq w6 := hw6 ▸ e8.below
     rw [← hw6]
     have HB6 := hid (qa1 HB4q.out hb6)
     clear hw6 l0 l1 l2 l3 l4 l5 HLS HRSN
     have HSF : Hid ((SQ ++ LB ++ ⟨#[10]⟩).data.toList = accL us R n x (k + 1)) := hid (by rw [HX2.out]; simp only [qb5, List.append_assoc])
     go_wp2_with fail
     exact ⟨⟨k + 1, _, by omega, by go_num, rfl, HSF, HB6⟩, by simp [intOf]; omega⟩)
   ·have hkN : k = N := by omega
    have j1 : ¬ ((k : Int) < ↑N) := by omega
    have j2 : decide (k < N) = false := decide_eq_false hlt
    have h02 : 0 < us.length := by have := HST.out.ns.lo; simp only [nsOf, List.length_map] at this; omega
    have hbr := qa1 HB4.out hb.out
    have hsm : S.size ≤ 1048576 := by omega
    have HSE : Hid (qp0 us S = ([], 2, n + 1)) := hid (by
     have e : S = ⟨(accL us R n x N).toArray⟩ := qy9 (by rw [hS.out, hkN])
     rw [e]
     exact HBAD.out)
    have HRD := hid (pread_any (.agg #[.slice (some ⟨g, 0, none⟩) us.length c]) S wr (HWR2.out.lift hbr hbr.size) HST.out h02 (HG.out wr (qa1 HB2.out hbr)) hsm)
    have z2 : IntKind.i64.wrap ((n : Int) + 1) = (n : Int) + 1 := IntWalk.i64_in _ (by omega)
    have z3 : (((n + 1 : Nat) : Int) == (n : Int) + 1) = true := by rw [beq_iff_eq]; omega
    have HBR := hid (qa1 HB2.out hbr)
    clear hkN hbr HACS HBAD
    go_wp2_with (first
     | (go_at_call 15; refine HRD.out.mono ?_; rintro e w6 ⟨lv, rfl, hrd, hb6⟩; rw [HSE.out] at hrd ⊢; obtain ⟨A6, c6, hlv, -⟩ := hrd.shape; replace hlv : lv = .slice A6 0 c6 := hlv; subst hlv; have HB6 := hid (qa1 HBR.out hb6); clear hb6 hrd)
     | (go_at_call 8; refine (HAWK.out _ HB6.out).mono ?_; rintro e w8 ⟨rfl, hb8⟩; have HB8 := hid (qa1 HB6.out hb8); clear hb8))
    go_ret
    exact ⟨rfl, HB8.out⟩
end
end Go.Proofs.YtbfbppjccbppiaaGreatDoor
