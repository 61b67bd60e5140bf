/- Contract: linchpinlaw32.StoryTurned. -/
import Derived.Test.YtbfbppjccbppiaaGreatDoorK3
import Derived.Test.YtbfbppjccbppiaaGreatDoorK6
import Derived.Outline
namespace Go.Proofs.YtbfbppjccbppiaaGreatDoor
open Go Go.RowKit

def BytesAt (w : World) (g : Nat) (l : List UInt8) : Prop := (∀ i, (h : i < l.length) → w.cell? ⟨g, i, none⟩ = some (.int .u8 (l[i].toNat : Int))) ∧ ∀ o, o < l.length → w.frozen? ⟨g, o, none⟩ = false
theorem BytesAt.below {w w' : World} {g : Nat} {l : List UInt8} (h : BytesAt w g l) (hb : Below w.heap.size w w') (hg : g < w.heap.size) : BytesAt w' g l :=
 ⟨fun i hi => cell_below hb hg (h.1 i hi), fun o ho => (hb.frozen (p := ⟨g, o, none⟩) hg).trans (h.2 o ho)⟩

theorem BytesAt.turn {w : World} {g i n : Nat} {l : List UInt8} {x : Int} (h : BytesAt w g l) (hi : i < l.length) (h0 : 0 ≤ x) (h1 : x < 256) (hn : n ≤ l.length) :
  ∃ l', l'.length = n ∧ BytesAt (w.setCell ⟨g, i, none⟩ (.int .u8 x)) g l' := by
 refine ⟨(l.set i (UInt8.ofNat x.toNat)).take n, by simp; omega, fun j hj => ?_, fun o ho => ?_⟩
 ·have hj' : j < l.length := by simp at hj; omega
  simp only [List.getElem_take, List.getElem_set]
  by_cases e : i = j
  ·subst e
   rw [if_pos rfl, World.cell?_setCell_same w _ _ (h.1 i hi)]
   have : (UInt8.ofNat x.toNat).toNat = x.toNat := by simp; omega
   rw [this]
   congr 2
   omega
  ·rw [if_neg e, World.cell?_setCell_other w _ _ _ (by intro e'; injection e' with _ e' _; exact e e')]
   exact h.1 j hj'
 ·have ho' : o < l.length := by simp at ho; omega
  rw [World.frozen?_setCell]
  exact h.2 o ho'
theorem conv_str2 {P : Program} {src dst e : TypeId} (hs : P.underlying src = some .string) (hd : P.underlying dst = some (.slice e)) (he : P.underlying e = some (.int .u8)) (s : ByteArray) (w : World) :
  ∃ c W, (convert src dst (.string s)).run P w = .ok (.slice (some ⟨w.heap.size, 0, none⟩) s.size c) W ∧ s.size ≤ c ∧ Below w.heap.size w W ∧ w.heap.size < W.heap.size ∧ BytesAt W w.heap.size s.data.toList := by
 refine ⟨_, _, run_bytes_of_string w src dst e s hs hd he, grownCap_ge _ _ _ _, ((Below.refl _ _).drew).alloc (Nat.le_refl _) _, by simp, fun i h => ?_, fun o ho => ?_⟩
 ·rw [cell_of_row _ w.heap.size i _ e _ (heap_alloc_new w.drew _)]
  exact bytesRow_at s _ i (by simpa using h)
 ·have h1 : o < s.size := by simpa using ho
  have hg := heap_alloc_new w.drew (.cells (bytesRow s (grownCap w s.size 0 e)) e ((bytesRow s (grownCap w s.size 0 e)).size, (bytesRow s (grownCap w s.size 0 e)).size + 1))
  have hg' : (w.drew.alloc (.cells (bytesRow s (grownCap w s.size 0 e)) e ((bytesRow s (grownCap w s.size 0 e)).size, (bytesRow s (grownCap w s.size 0 e)).size + 1))).heap[w.heap.size]? = _ := hg
  have hz : s.size ≤ (bytesRow s (grownCap w s.size 0 e)).size := by simp [bytesRow]
  simp only [World.frozen?, hg']
  simp
  omega

theorem tell_size {us : List UnitW} (l : List Row) : (qm3 us l).1.size ≤ 1048576 := by
 unfold qm3
 split
 ·split
  ·show (qe9 us l 1).toArray.size ≤ _
   rw [List.size_toArray]
   assumption
  ·decide
 ·decide
set_option maxRecDepth 100000 in
set_option maxHeartbeats 4000000 in
theorem storyTurned_any (wv av kv : Value) (ws as_ ks : List Int) (at_ c_ cut_ : Int) (s : ByteArray) (w : World) (hw : SliceRd tInt w (Lt w.heap.size) wv ws) (ha : SliceRd tInt w (Lt w.heap.size) av as_) (hk : SliceRd tInt w (Lt w.heap.size) kv ks) (hat : I64 at_) (hcu : I64 cut_) (hG : Glob w) :
  Calls Tryz.prog 5 #[wv, av, kv, .int .i64 at_, .int .u8 c_, .int .i64 cut_, .string s] w fun e w' => e = .returned (.bool true) ∧ Below w.heap.size w w' := by
 have HW := hid hw
 have HA := hid ha
 have HK := hid hk
 have HG := hid (fun (W : World) (hb : Below w.heap.size w W) => hG.later hb)
 obtain ⟨Aw, cw, rfl, -⟩ := hw.ints
 obtain ⟨Aa, ca, rfl, -⟩ := ha.ints
 obtain ⟨Ak, ck, rfl, -⟩ := hk.ints
 have HAWK := hid (fun (W : World) (hb : Below w.heap.size w W) => awake32_any W (HG.out W hb))
 clear hw ha hk hG
 by_cases h10 : 10 < as_.length ∨ 60 < ks.length ∨ 2000 < s.size
 ·have hor : (decide ((10 : Int) < as_.length) = true) ∨ (decide ((10 : Int) < as_.length) = false ∧ (decide ((60 : Int) < ks.length) = true ∨ (decide ((60 : Int) < ks.length) = false ∧ decide ((2000 : Int) < s.size) = true))) := by
   simp only [decide_eq_true_eq, decide_eq_false_iff_not]
   omega
  clear h10
  rcases hor with z1 | ⟨z1, z2 | ⟨z2, z3⟩⟩
  all_goals (
   go_enter Tryz.func5, Tryz.ntmps5
   go_wp2_with (go_at_call 8; refine (HAWK.out w (b0 w)).mono ?_; rintro e w1 ⟨rfl, hb1⟩)
   go_ret
   exact ⟨rfl, hb1⟩)
 ·have z1 : decide ((10 : Int) < as_.length) = false := decide_eq_false (by omega)
  have z2 : decide ((60 : Int) < ks.length) = false := decide_eq_false (by omega)
  have z3 : decide ((2000 : Int) < s.size) = false := decide_eq_false (by omega)
  have hs20 : s.size ≤ 1048576 := by omega
  clear h10
  have hnil := fun (w : World) (a : Option Addr) (n c : Nat) => Lib.run_eql_slice_nil (P := Tryz.prog) w 28 49 a n c 0 0 Tryz.underlying28
  go_enter Tryz.func5, Tryz.ntmps5
  go_upto_region 3 with fail
  go_wp2_with fail
  refine (world_any _ ws 4 w HW.out (by decide) (by decide)).mono ?_
  rintro e w1 ⟨g, c, us0, nf, rfl, hB, h2, h11, hhd, hb1, R0, hdat⟩
  obtain ⟨us, h1, ho, hns, h0⟩ := world_data hB hdat h2 h11 hhd
  have hul : us0.length = us.length := by
   have := congrArg List.length hns
   simpa [nsOf] using this.symm
  have HWR := hid h1
  have HUO := hid ho.ok
  have HST := hid ho.st
  have H0 := hid h0
  have HB1 := hid hb1
  rw [hul] at HWR ⊢
  clear hB h2 h11 hhd hb1 hdat h1 ho hns h0 hul
  go_upto_region 4 with fail
  obtain ⟨w2, hw2⟩ : ∃ w2 : World, w2 = w1.alloc (.cells #[.slice (some ⟨g, 0, none⟩) us.length c] 26) := ⟨_, rfl⟩
  have hb2 : Below w1.heap.size w1 w2 := hw2 ▸ qa0 (b0 w1) _
  have hz2 : w1.heap.size < w2.heap.size := by rw [hw2]; simp
  have q0 : w2.cell? ⟨w1.heap.size, 0, none⟩ = some (.slice (some ⟨g, 0, none⟩) us.length c) := by rw [hw2, qa6]; rfl
  have HB2 := hid (qa1 HB1.out hb2)
  have HWR2 := hid (HWR.out.lift hb2 hb2.size)
  have HA2 := hid (HA.out.lift HB2.out HB2.out.size)
  have HK2 := hid (HK.out.lift HB2.out HB2.out.size)
  rw [← hw2]
  clear hw2 hb2 z1 z2 z3
  go_region_held3 (fun w' => w'.cell? ⟨w1.heap.size, 0, none⟩ = some (.slice (some ⟨g, 0, none⟩) us.length c)) (first | with_reducible assumption | go_keep) (first
   | (go_at_call 17; go_must (refine (allow_any (.agg #[.slice (some ⟨g, 0, none⟩) us.length c]) _ (nsOf us) as_ _ (qc0 HWR2.out.uni (b0 w2).drew) HUO.out.ns (HA2.out.lift (b0 w2).drew (b0 w2).drew.size)).mono ?_; rintro e w3 ⟨v3, al, rfl, hal, hall, h31, hb3⟩; have HAL := hid hal; have HALL := hid hall; have H31 := hid h31; have HB3 := hid (show Below w2.heap.size w2 w3 from qa1 (b0 w2).drew hb3); have q1 := cell_below HB3.out hz2 q0; clear hal hall h31 hb3))
   | (go_at_call 16; go_must (refine (prove_any (.agg #[.slice (some ⟨g, 0, none⟩) us.length c]) _ us al w3 (HWR2.out.lift HB3.out HB3.out.size) HUO.out H0.out HAL.out HALL.out H31.out).mono ?_; rintro e w4 ⟨v4, R, rfl, hR, hRl, hRn, hb4⟩; have HR := hid hR; have HRN := hid hRn; have HB4 := hid (qa1 HB3.out hb4); have q2 := cell_below HB4.out hz2 q0; clear hR hb4 hRn)))
  have hz4 : w1.heap.size < w4.heap.size := Nat.lt_of_lt_of_le hz2 HB4.out.size
  have HK4 := hid (HK2.out.lift HB4.out HB4.out.size)
  clear q0 q1
  go_upto_region 5 with fail
  go_cut [47] (fun bv wx => ∃ b : Bool, bv = .bool b ∧ wx = w4 ∧ (b = false → R.length ≤ 60))
  case first =>
   rcases HRN.out with ⟨rfl, rfl⟩ | h1
   ·go_wp2_with fail
    go_meet
    exact ⟨true, rfl, rfl, fun h => by cases h⟩
   ·obtain ⟨A4, c4, rfl, hc4, hcm4, hcc⟩ := HR.out.plainRows.1.rows
    obtain ⟨g4, o4, tv4, hA4, -⟩ := hcc 0 (by omega)
    subst hA4
    clear hcc hc4 hcm4
    by_cases h60 : 60 < R.length
    ·have y1 : decide ((60 : Int) < (R.length : Int)) = true := decide_eq_true (by omega)
     go_wp2_with fail
     go_meet
     exact ⟨true, rfl, rfl, fun h => by cases h⟩
    ·have y1 : decide ((60 : Int) < (R.length : Int)) = false := decide_eq_false (by omega)
     go_wp2_with fail
     go_meet
     exact ⟨false, rfl, rfl, fun _ => by omega⟩
  case rest =>
   obtain ⟨b, rfl, rfl, hbl⟩ := hcut
   go_upto_if 47 with fail
   go_cut [16] (fun lv wx => ∃ (L : List Row), SliceRd tRow wx (Lt wx.heap.size) lv L ∧ Hid (wx.cell? ⟨w1.heap.size, 0, none⟩ = some (.slice (some ⟨g, 0, none⟩) us.length c)) ∧ Hid (Below w2.heap.size w2 wx))
   case first =>
    cases b with
    | true =>
     have HRW := hid (rows_any (.slice Ak ks.length ck) ks wc HK4.out)
     go_wp2_with (go_at_call 18; refine HRW.out.mono ?_; rintro e w5 ⟨v5, L, rfl, hl, hl1, hl2, hb5⟩; have HL := hid hl; have HB5 := hid (qa1 HB4.out hb5); have q3 := cell_below hb5 hz4 q2; clear hb5 hl)
     go_meet
     exact ⟨L, HL.out, hid q3, HB5⟩
    | false =>
     go_wp2_with fail
     go_meet
     exact ⟨R, HR.out.plainRows.1, hid q2, HB4⟩
   case rest =>
    obtain ⟨L, hl, hq, hb⟩ := hcut
    have HL := hid hl
    obtain ⟨AL, cL, rfl, -⟩ := hl.rows
    have HTR := hid (rtell_any _ (.slice AL L.length cL) L wc (HWR2.out.lift hb.out hb.out.size) HST.out HL.out)
    have htz := tell_size (us := us) L
    generalize (qm3 us L).1 = T at *
    generalize (qm3 us L).2 = E at *
    have q4 := hq.out
    have hzc := Nat.lt_of_lt_of_le hz2 hb.out.size
    clear hl HR HRN HAL HALL H31 hRl hnil q2
    go_upto_region 8 with (go_at_call 13; refine HTR.out.mono ?_; rintro e w5 ⟨rfl, hb5⟩)
    have HB5 := hid (qa1 hb.out hb5)
    have q5 := cell_below hb5 hzc q4
    have hz5 := Nat.lt_of_lt_of_le hzc hb5.size
    obtain ⟨cc, W, hcv, hcap, hbW, hzW, hBy⟩ := conv_str2 (P := Tryz.prog) (src := 9) (dst := 41) (e := 5) Tryz.underlying9 Tryz.underlying41 Tryz.underlying5 T w5
    have HBY := hid hBy
    have HBW := hid (qa1 HB5.out hbW)
    have q6 := cell_below hbW hz5 q5
    clear hb5 hBy hbW
    go_upto_if 60 with fail
    go_cut [19] (fun s13 wx => ∃ (l : List UInt8) (gb cap : Nat), s13 = .slice (some ⟨gb, 0, none⟩) l.length cap ∧ l.length ≤ 1048576 ∧ l.length ≤ cap ∧ Hid (BytesAt wx gb l) ∧ Hid (gb < wx.heap.size) ∧ Hid (wx.cell? ⟨w1.heap.size, 0, none⟩ = some (.slice (some ⟨g, 0, none⟩) us.length c)) ∧ Hid (Below w2.heap.size w2 wx))
    case first =>
     by_cases h0 : 0 < T.size
     ·have e0 : (0 : Int) < ↑T.size := by omega
      have tok := hid True.intro
      have p1 := qf4 at_ T.size
      have p2 := qf3 at_ T.size (by omega)
      have q1 := qf4 cut_ 40
      have q2 := qf3 cut_ 40 (by omega)
      have HPL := hid (fun w' => qg4 at_ T.size w' hat (by unfold I64; omega))
      have HPR := hid (fun w' => qg4 cut_ 40 w' hcu (by unfold I64; omega))
      generalize qd7 at_ T.size = p at p1 p2 HPL
      generalize qd7 cut_ 40 = q at q1 q2 HPR
      obtain ⟨i, rfl⟩ := Int.eq_ofNat_of_zero_le p1
      have hi : i < T.data.toList.length := by simp; omega
      have ci := HBY.out.1 i hi
      have fi := HBY.out.2 i hi
      have m1 : 0 ≤ q % ↑T.size := Int.emod_nonneg _ (by omega)
      have m2 : q % ↑T.size < ↑T.size := Int.emod_lt_of_pos _ (by omega)
      have m3 : IntKind.i64.wrap (↑T.size - q % ↑T.size) = ↑T.size - q % ↑T.size := IntWalk.i64_in _ (by omega)
      have m4 := m3
      rw [IntKind.wrap_i64] at m4
      have m5 : 0 ≤ ↑T.size - q % ↑T.size := by omega
      have m6 : ↑T.size - q % ↑T.size ≤ (cc : Int) := by omega
      go_wp2_with (first
       | (go_at_call 19; clear tok; refine (HPL.out _).mono ?_; rintro e w' ⟨rfl, rfl⟩)
       | (go_at_call 19; refine (HPR.out _).mono ?_; rintro e w' ⟨rfl, rfl⟩))
      go_meet
      obtain ⟨l', hl', hb'⟩ := HBY.out.turn (x := (↑T.data[i].toNat + c_) % 256) (n := (↑T.size - q % ↑T.size).toNat) hi (by omega) (by omega) (by simp; omega)
      exact ⟨l', w5.heap.size, cc, by rw [hl'], by omega, by omega, hid hb', hid (by simpa using hzW), hid ((World.cell?_of_block (a := ⟨w1.heap.size, 0, none⟩) (heap_setCell_other _ _ _ _ (by show w1.heap.size ≠ w5.heap.size; omega))).trans q6), hid (HBW.out.setCell (p := ⟨w5.heap.size, i, none⟩) HB5.out.size _)⟩
     ·have e0 : ¬ (0 : Int) < ↑T.size := by omega
      go_wp2_with fail
      go_meet
      exact ⟨T.data.toList, w5.heap.size, cc, by simp, by simpa using htz, by simpa using hcap, HBY, hid hzW, hid q6, HBW⟩
    case rest =>
     rename World => wd
     obtain ⟨l, gb, cap, rfl, hl, hlc, hby, hgz, hqd, hbd⟩ := hcut
     have back := hid (fun (w' : World) (h : BytesAt w' gb l) => run_convert_bytes_back (P := Tryz.prog) w' 41 9 5 ⟨gb, 0, none⟩ cap l Tryz.underlying41 Tryz.underlying5 Tryz.underlying9 (fun j hj => by rw [add_mk, Nat.zero_add]; exact h.1 j hj))
     have hcvb := back.out _ hby.out
     have hx3 : (⟨l.toArray⟩ : ByteArray).size ≤ 1048576 := by show l.toArray.size ≤ _; simpa using hl
     have HR1 := hid (fun (S : ByteArray) (W : World) (hb : Below w2.heap.size w2 W) (hs : S.size ≤ 1048576) => reads_any (.agg #[.slice (some ⟨g, 0, none⟩) us.length c]) S W (HWR2.out.lift hb hb.size) HST.out (HG.out W (qa1 HB2.out hb)) hs)
     have q7 := hqd.out
     have hzd := Nat.lt_of_lt_of_le hz2 hbd.out.size
     have tok := hid True.intro
     clear back hqd HBY HBW q6 q5 q4 hcv hcap hzW HTR htz
     go_wp2_with (first
      | (go_at_call 20; clear tok; refine (HR1.out ⟨l.toArray⟩ wd hbd.out hx3).mono ?_; rintro e w6 ⟨rfl, hb6⟩; have HB6 := hid (qa1 hbd.out hb6); have q8 := cell_below hb6 hzd q7; clear hb6)
      | (go_at_call 20; refine (HR1.out s w6 HB6.out hs20).mono ?_; rintro e w7 ⟨rfl, hb7⟩; have HB7 := hid (qa1 (qa1 HB2.out HB6.out) hb7); clear hb7)
      | (go_at_call 8; refine (HAWK.out _ HB7.out).mono ?_; rintro e w8 ⟨rfl, hb8⟩; have HB8 := hid (qa1 HB7.out hb8); clear hb8))
     go_ret
     exact ⟨rfl, HB8.out⟩
end Go.Proofs.YtbfbppjccbppiaaGreatDoor
