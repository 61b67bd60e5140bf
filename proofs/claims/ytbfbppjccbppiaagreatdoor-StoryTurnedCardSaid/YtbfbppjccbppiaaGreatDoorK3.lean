/- Contract: linchpinlaw32.rows: rows of a made world. -/
import Derived.Test.YtbfbppjccbppiaaGreatDoorK2
import Derived.Test.YtbfbppjccbppiaaGreatDoorPP
import Derived.Test.YtbfbppjccbppiaaGreatDoorzA9
import Derived.Test.YtbfbppjccbppiaaGreatDoorW10
import Derived.Test.YtbfbppjccbppiaaGreatDoorW11
import Derived.Outline
namespace Go.Proofs.YtbfbppjccbppiaaGreatDoor
open Go Go.RowKit

def Rows60 (w : World) (e : Ending) (w' : World) : Prop := ∃ v L, e = .returned v ∧ SliceRd tRow w' (Lt w'.heap.size) v L ∧ L.length ≤ 60 ∧ (∀ r ∈ L, r.terms.length ≤ 12) ∧ Below w.heap.size w w'
theorem can_len {ns : List Nat} (ho : NsOk ns) {r : Row} (h : CanR ns r) : r.terms.length ≤ 11 := by
 obtain ⟨M, _, hr⟩ := h
 rw [hr]
 have h1 := zg4 (ns := ns) M
 have := ho.hi
 omega
set_option maxRecDepth 100000 in
set_option maxHeartbeats 4000000 in
theorem rows32_any (wv av kv : Value) (us : List UnitW) (as_ ks : List Int) (at_ which by_ : Int) (w : World) (h : qd0 w (Lt w.heap.size) wv us) (ho : UnitsOk us) (h0 : (nsOf us).head? = some 1) (ha : SliceRd tInt w (Lt w.heap.size) av as_) (hk : SliceRd tInt w (Lt w.heap.size) kv ks) (hat : I64 at_) (hwh : I64 which) (hby : I64 by_) :
  Calls Tryz.prog 10 #[wv, av, kv, .int .i64 at_, .int .i64 which, .int .i64 by_] w (Rows60 w) := by
 have HWR := hid h
 have HUO := hid ho
 have HNS := hid ho.ns
 have H0 := hid h0
 have HA := hid ha
 have HK := hid hk
 have HI := hid (And.intro hat (And.intro hwh hby))
 obtain ⟨g, cap0, rfl, hg, -⟩ := h.opened
 obtain ⟨w2, hw2⟩ : ∃ w2 : World, w2 = w.alloc (.cells #[.slice (some ⟨g, 0, none⟩) us.length cap0] 26) := ⟨_, rfl⟩
 have hb2 : Below w.heap.size w w2 := hw2 ▸ qa0 (b0 w) _
 have hz2 : w.heap.size < w2.heap.size := by rw [hw2]; simp
 have q0 : w2.cell? ⟨w.heap.size, 0, none⟩ = some (.slice (some ⟨g, 0, none⟩) us.length cap0) := by rw [hw2, qa6]; rfl
 have HB2 := hid hb2
 have HWR2 := hid (HWR.out.lift hb2 hb2.size)
 have HA2 := hid (HA.out.lift hb2 hb2.size)
 have HW2 := hid hw2
 obtain ⟨Aa, ca, rfl, -⟩ := ha.ints
 obtain ⟨Ak, ck, rfl, -⟩ := hk.ints
 clear h ho h0 ha hk hat hwh hby hw2 hb2
 have hnil := fun (w : World) (a : Option Addr) (n c : Nat) => Lib.run_eql_slice_nil (P := Tryz.prog) w 28 49 a n c 0 0 Tryz.underlying28
 go_enter Tryz.func10, Tryz.ntmps10
 go_upto_region 1 with fail
 rw [← HW2.out]
 go_region_held3 (fun w' => w'.cell? ⟨w.heap.size, 0, none⟩ = some (.slice (some ⟨g, 0, none⟩) us.length cap0)) (first | with_reducible assumption | go_keep) (first
  | (go_at_call 17; go_must (refine (allow_any (.agg #[.slice (some ⟨g, 0, none⟩) us.length cap0]) _ (nsOf us) as_ _ (qc0 HWR2.out.uni (b0 w2).drew) HNS.out (HA2.out.lift (b0 w2).drew (b0 w2).drew.size)).mono ?_; rintro e w3 ⟨v3, al, rfl, hal, hall, h31, hb3⟩; have HAL := hid hal; have HALL := hid hall; have H31 := hid h31; have HB3 := hid (show Below w2.heap.size w2 w3 from qa1 (b0 w2).drew hb3); have q1 := cell_below HB3.out hz2 q0; clear hal hall h31 hb3))
  | (go_at_call 16; go_must (refine (prove_any (.agg #[.slice (some ⟨g, 0, none⟩) us.length cap0]) _ us al w3 (HWR2.out.lift HB3.out HB3.out.size) HUO.out H0.out HAL.out HALL.out H31.out).mono ?_; rintro e w4 ⟨v4, R, rfl, hR, hRl, hRn, hb4⟩; have HR := hid hR; have HRN := hid hRn; have HB4 := hid (qa1 HB3.out hb4); have q2 := cell_below HB4.out hz2 q0; clear hR hb4 hRn)))
 have HBW := hid (qa1 HB2.out HB4.out)
 have HK4 := hid (HK.out.lift HBW.out HBW.out.size)
 have HRW := hid (rows_any (.slice Ak ks.length ck) ks w4 HK4.out)
 have HBT := hid (fun (v : Value) (L : List Row) (m : Nat) (W : World) (hl : SliceRd tRow W (Lt W.heap.size) v L) (h1 : L.length ≤ 1000000) (h2 : ∀ r ∈ L, r.terms.length ≤ m) (h3 : m ≤ 1000) => bent_any v L m at_ which by_ W hl h1 h2 h3 HI.out.1 HI.out.2.1 HI.out.2.2)
 clear q0 q1 q2 HRW
 have HRW := hid (rows_any (.slice Ak ks.length ck) ks w4 HK4.out)
 rcases HRN.out with ⟨rfl, rfl⟩ | h1
 ·clear hRl
  go_wp2_with (first
   | (go_at_call 18; refine HRW.out.mono ?_; rintro e w5 ⟨v5, L, rfl, hl, hl1, hl2, hb5⟩; have HL := hid hl; have HB5 := hid (qa1 HBW.out hb5); clear hb5 hl)
   | (go_at_call 31; refine (HBT.out _ L 7 w5 HL.out (by omega) hl2 (by omega)).mono ?_; rintro e w6 ⟨v6, M, rfl, hm, hm1, hm2, hb6⟩; have HM := hid hm; have HB6 := hid (qa1 HB5.out hb6); clear hb6 hm))
  go_ret
  exact ⟨_, M, rfl, HM.out, by omega, fun r hr => by have := hm2 r hr; omega, HB6.out⟩
 ·obtain ⟨hrr, hrc⟩ := HR.out.plainRows
  obtain ⟨A4, c4, rfl, hc4, hcm4, hcc⟩ := hrr.rows
  obtain ⟨g4, o4, tv4, hA4, -⟩ := hcc 0 (by omega)
  subst hA4
  have HRR := hid hrr
  have HRC := hid (fun r hr => Nat.le_trans (can_len HNS.out (hrc r hr)) (show 11 ≤ 11 by omega))
  clear hrr hrc hcc HR HRN hc4 hcm4
  obtain ⟨n, hn⟩ : ∃ n, R.length = n := ⟨_, rfl⟩
  have HN := hid hn
  rw [hn] at hRl h1 HRR ⊢
  clear hn
  by_cases h60 : 60 < n
  ·have z1 : decide ((60 : Int) < (n : Int)) = true := decide_eq_true (by omega)
   have z2 : decide (60 < n) = true := decide_eq_true h60
   clear h60
   go_wp2_with (first
    | (go_at_call 18; refine HRW.out.mono ?_; rintro e w5 ⟨v5, L, rfl, hl, hl1, hl2, hb5⟩; have HL := hid hl; have HB5 := hid (qa1 HBW.out hb5); clear hb5 hl)
    | (go_at_call 31; refine (HBT.out _ L 7 w5 HL.out (by omega) hl2 (by omega)).mono ?_; rintro e w6 ⟨v6, M, rfl, hm, hm1, hm2, hb6⟩; have HM := hid hm; have HB6 := hid (qa1 HB5.out hb6); clear hb6 hm))
   go_ret
   exact ⟨_, M, rfl, HM.out, by omega, fun r hr => by have := hm2 r hr; omega, HB6.out⟩
  ·have z1 : decide ((60 : Int) < (n : Int)) = false := decide_eq_false (by omega)
   have z2 : decide (60 < n) = false := decide_eq_false h60
   have hn60 : n ≤ 60 := by omega
   clear h60
   go_wp2_with (go_at_call 31; refine (HBT.out _ R 11 w4 HRR.out (by rw [HN.out]; omega) HRC.out (by omega)).mono ?_; rintro e w6 ⟨v6, M, rfl, hm, hm1, hm2, hb6⟩; rw [HN.out] at hm1; have HM := hid hm; have HB6 := hid (qa1 HBW.out hb6); clear hb6 hm)
   go_ret
   exact ⟨_, M, rfl, HM.out, by omega, fun r hr => by have := hm2 r hr; omega, HB6.out⟩
end Go.Proofs.YtbfbppjccbppiaaGreatDoor
