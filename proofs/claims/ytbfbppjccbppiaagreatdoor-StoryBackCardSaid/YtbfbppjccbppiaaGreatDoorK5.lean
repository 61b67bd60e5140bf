/- Contract: linchpinlaw32.StoryBack. -/
import Derived.Test.YtbfbppjccbppiaaGreatDoorK3
import Derived.Test.YtbfbppjccbppiaaGreatDoorzI11
import Derived.Outline
namespace Go.Proofs.YtbfbppjccbppiaaGreatDoor
open Go Go.RowKit

set_option maxRecDepth 100000 in
set_option maxHeartbeats 4000000 in
theorem storyBack_any (wv av kv : Value) (ws as_ ks : List Int) (at_ which by_ : Int) (w : World) (hw : SliceRd tInt w (Lt w.heap.size) wv ws) (ha : SliceRd tInt w (Lt w.heap.size) av as_) (hk : SliceRd tInt w (Lt w.heap.size) kv ks) (hat : I64 at_) (hwh : I64 which) (hby : I64 by_) (hG : Glob w) :
  Calls Tryz.prog 4 #[wv, av, kv, .int .i64 at_, .int .i64 which, .int .i64 by_] w fun e w' => e = .returned (.bool true) ∧ Below w.heap.size w w' := by
 have HW := hid hw
 have HA := hid ha
 have HK := hid hk
 have HI := hid (And.intro hat (And.intro hwh hby))
 have HG := hid (fun (W : World) (hb : Below w.heap.size w W) => hG.later hb)
 obtain ⟨Aw, cw, rfl, -⟩ := hw.ints
 obtain ⟨Aa, ca, rfl, -⟩ := ha.ints
 obtain ⟨Ak, ck, rfl, -⟩ := hk.ints
 have HAWK := hid (fun (W : World) (hb : Below w.heap.size w W) => awake32_any W (HG.out W hb))
 clear hw ha hk hat hwh hby hG
 by_cases h10 : 10 < as_.length ∨ 60 < ks.length
 ·have hor : (decide ((10 : Int) < as_.length) = true) ∨ (decide ((10 : Int) < as_.length) = false ∧ decide ((60 : Int) < ks.length) = true) := by
   rcases Nat.lt_or_ge 10 as_.length with h | h
   ·exact .inl (decide_eq_true (by omega))
   ·exact .inr ⟨decide_eq_false (by omega), decide_eq_true (by omega)⟩
  clear h10
  rcases hor with z1 | ⟨z1, z2⟩
  all_goals (
   go_enter Tryz.func4, Tryz.ntmps4
   go_wp2_with (go_at_call 8; refine (HAWK.out w (b0 w)).mono ?_; rintro e w1 ⟨rfl, hb1⟩)
   go_ret
   exact ⟨rfl, hb1⟩)
 ·have z1 : decide ((10 : Int) < as_.length) = false := decide_eq_false (by omega)
  have z2 : decide ((60 : Int) < ks.length) = false := decide_eq_false (by omega)
  clear h10
  go_enter Tryz.func4, Tryz.ntmps4
  go_upto_region 3 with fail
  go_wp2_with fail
  refine (world_any _ ws 5 w HW.out (by decide) (by decide)).mono ?_
  rintro e w1 ⟨g, c, us0, nf, rfl, hB, h2, h11, hhd, hb1, R0, hdat⟩
  obtain ⟨us, h1, ho, hns, h0⟩ := world_data hB hdat h2 h11 hhd
  have hul : us0.length = us.length := by
   have := congrArg List.length hns
   simpa [nsOf] using this.symm
  have HWR := hid h1
  have HUO := hid ho.ok
  have HST := hid ho.st
  have H0 := hid h0
  have HB1 := hid hb1
  rw [hul] at HWR ⊢
  clear hB h2 h11 hhd hb1 hdat h1 ho hns h0 hul
  go_upto_region 4 with fail
  obtain ⟨w2, hw2⟩ : ∃ w2 : World, w2 = w1.alloc (.cells #[.slice (some ⟨g, 0, none⟩) us.length c] 26) := ⟨_, rfl⟩
  have hb2 : Below w1.heap.size w1 w2 := hw2 ▸ qa0 (b0 w1) _
  have hz2 : w1.heap.size < w2.heap.size := by rw [hw2]; simp
  have q0 : w2.cell? ⟨w1.heap.size, 0, none⟩ = some (.slice (some ⟨g, 0, none⟩) us.length c) := by rw [hw2, qa6]; rfl
  have HB2 := hid (qa1 HB1.out hb2)
  have HWR2 := hid (HWR.out.lift hb2 hb2.size)
  have HA2 := hid (HA.out.lift HB2.out HB2.out.size)
  have HK2 := hid (HK.out.lift HB2.out HB2.out.size)
  rw [← hw2]
  clear hw2 hb2 z1 z2
  have HRW := hid (rows32_any _ _ _ us as_ ks at_ which by_ w2 HWR2.out HUO.out H0.out HA2.out HK2.out HI.out.1 HI.out.2.1 HI.out.2.2)
  have HTR := hid (fun (v : Value) (L : List Row) (W : World) (hb : Below w2.heap.size w2 W) (hl : SliceRd tRow W (Lt W.heap.size) v L) => rtell_any _ v L W (HWR2.out.lift hb hb.size) HST.out hl)
  have h02 : 0 < us.length := by have := HST.out.ns.lo; simp only [nsOf, List.length_map] at this; omega
  have HRD := hid (fun (T : ByteArray) (W : World) (hb : Below w2.heap.size w2 W) (ht : T.size ≤ 1048576) => pread_any _ T W (HWR2.out.lift hb hb.size) HST.out h02 (HG.out W (qa1 HB2.out hb)) ht)
  go_upto_region 5 with (first
   | (go_at_call 10; refine HRW.out.mono ?_; rintro e w3 ⟨v3, L, rfl, hl, hl60, hlt, hb3⟩; have HL := hid hl; have HB3 := hid hb3; have q1 := cell_below hb3 hz2 q0; have hz3 := Nat.lt_of_lt_of_le hz2 hb3.size; clear hl hb3 hlt))
  obtain ⟨T, E, hTE⟩ : ∃ T E, qm3 us L = (T, E) := ⟨_, _, rfl⟩
  have HTE := hid hTE
  have HTL := hid (HTR.out v3 L w3 HB3.out HL.out)
  rw [hTE] at HTL
  clear hTE HTR q0
  by_cases hE : E = 0
  ·subst hE
   have HRF := hid (readF_tell HST.out HTE.out)
   have hts := (tell_parts HTE.out)
   have htz : T.size ≤ 1048576 := by rw [zl7, hts.2.2.2]; exact hts.2.2.1
   clear hts
   have HSM := hid (fun (v : Value) (W : World) (hb : Below w3.heap.size w3 W) (hl : SliceRd tRow W (Lt W.heap.size) v L) => sameRows_any v3 v L L W (HL.out.lift hb hb.size) hl)
   rw [decide_eq_true rfl] at HSM
   go_wp2_with (first
    | (go_at_call 13; refine HTL.out.mono ?_; rintro e w4 ⟨rfl, hb4⟩; have HB4 := hid hb4; have q2 := cell_below hb4 hz3 q1; clear hb4)
    | (go_at_call 15; refine (HRD.out T w4 (qa1 HB3.out HB4.out) htz).mono ?_; rintro e w5 ⟨lv, rfl, hrd, hb5⟩; rw [HRF.out] at hrd ⊢; have HR5 := hid hrd; have HB5 := hid (qa1 HB4.out hb5); clear hb5 hrd)
    | (go_at_call 14; refine (HSM.out lv w5 HB5.out HR5.out).mono ?_; rintro e w7 ⟨rfl, hb7⟩; have HB7 := hid (qa1 (qa1 (qa1 HB2.out HB3.out) HB5.out) hb7); clear hb7)
    | (go_at_call 8; refine (HAWK.out _ HB7.out).mono ?_; rintro e w8 ⟨rfl, hb8⟩; have HB8 := hid (qa1 HB7.out hb8); clear hb8))
   go_ret
   exact ⟨rfl, HB8.out⟩
  ·have hE1 : (E != 0) = true := by rw [bne_iff_ne]; exact hE
   have hE2 : (E == 0) = false := by rw [beq_eq_false_iff_ne]; exact hE
   clear hE
   go_wp2_with (first
    | (go_at_call 13; refine HTL.out.mono ?_; rintro e w4 ⟨rfl, hb4⟩; have HB4 := hid (qa1 (qa1 HB2.out HB3.out) hb4); clear hb4)
    | (go_at_call 8; refine (HAWK.out _ HB4.out).mono ?_; rintro e w8 ⟨rfl, hb8⟩; have HB8 := hid (qa1 HB4.out hb8); clear hb8))
   go_ret
   exact ⟨rfl, HB8.out⟩
end Go.Proofs.YtbfbppjccbppiaaGreatDoor
