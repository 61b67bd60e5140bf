/- Contract: linchpinlaw32.StoryValues. -/
import Derived.Test.YtbfbppjccbppiaaGreatDoorK2
import Derived.Test.YtbfbppjccbppiaaGreatDoorzN
import Derived.Test.YtbfbppjccbppiaaGreatDoorzA
import Derived.Outline
namespace Go.Proofs.YtbfbppjccbppiaaGreatDoor
open Go Go.RowKit

theorem and_int (a : Int) (f : Nat) (hf : f ≤ 31) : ∃ A : Nat, bits .and .i64 a (f : Int) = (A : Int) ∧ A ≤ f ∧ A &&& f = A := by
 have h1 : nm a &&& nm (f : Int) ≤ f := by rw [ql1 (k := f) (by omega)]; exact Nat.and_le_right
 refine ⟨nm a &&& nm (f : Int), band a f (by omega), h1, ?_⟩
 rw [ql1 (k := f) (by omega), Nat.and_assoc, Nat.and_self]
def nothingB : ByteArray := ⟨#[110, 111, 116, 104, 105, 110, 103]⟩
def vt9Ok (vt : List ByteArray) : Bool := qt6 vt (qn7 nothingB ⟨#[44, 32]⟩) 0 == 0 && (qj3 vt 1).data.toList == [110, 111, 110, 101] && (List.range vt.length).all fun i => (qj3 vt (2 ^ (i + 1))).data.toList == ((vt[i]?).getD ⟨#[]⟩).data.toList
theorem vts9_ok : ([zeroT] :: subsL vtextL).all vt9Ok = true := by decide +kernel
section
variable {us : List UnitW}
theorem StW.vt9 (ho : StW us) {u : Nat} (hu : u < us.length) : vt9Ok (qh2 us u) = true := by
 have e : qh2 us u = (us[u].cands.map (·.v)).map qg5 := by
  rw [qk9 hu, List.map_map]
  rfl
 rcases ho.vers us[u] (List.getElem_mem hu) with h | h
 ·have h2 : (qh2 us u).Sublist vtextL := by
   rw [e, ← printB_L]
   exact List.Sublist.map _ h
  exact List.all_eq_true.1 vts9_ok _ (List.mem_cons_of_mem _ (mem_subs h2))
 ·rw [e, h, List.map_cons, List.map_nil, printB_0]
  exact List.all_eq_true.1 vts9_ok _ (List.mem_cons_self ..)
theorem StW.vt9s (ho : StW us) {u : Nat} (hu : u < us.length) : qt6 (qh2 us u) (qn7 nothingB ⟨#[44, 32]⟩) 0 = 0 ∧ qj3 (qh2 us u) 1 = noneB ∧ ∀ i, (hi : i < (qh2 us u).length) → qj3 (qh2 us u) (2 ^ (i + 1)) = (qh2 us u)[i] := by
 have h := ho.vt9 hu
 unfold vt9Ok at h
 simp only [Bool.and_eq_true, beq_iff_eq] at h
 obtain ⟨⟨h1, h2⟩, h3⟩ := h
 refine ⟨h1, qy9 h2, fun i hi => ?_⟩
 have h4 := List.all_eq_true.1 h3 i (List.mem_range.2 hi)
 rw [beq_iff_eq, List.getElem?_eq_getElem hi] at h4
 exact qy9 h4
theorem read_any (ho : StW us) {u m : Nat} (hu : u < us.length) (hm : m ≤ qb8 (nsOf us) u) : qt6 (qh2 us u) (qn7 (qj3 (qh2 us u) m) ⟨#[44, 32]⟩) 0 = m := by
 by_cases h0 : m = 0
 ·subst h0
  exact (ho.vt9s hu).1
 ·have h := read_values ho hu (by omega) hm
  unfold qr8 qf1 at h
  rw [full_andS hu hm] at h
  exact h
theorem values_inj (ho : StW us) {u a b : Nat} (hu : u < us.length) (ha : a ≤ qb8 (nsOf us) u) (hb : b ≤ qb8 (nsOf us) u) (h : qj3 (qh2 us u) a = qj3 (qh2 us u) b) : a = b := by
 rw [← read_any ho hu ha, ← read_any ho hu hb, h]
set_option maxRecDepth 100000 in
set_option maxHeartbeats 4000000 in
theorem storyValues_any (wv : Value) (ws : List Int) (unit_ a b : Int) (w : World) (hw : SliceRd tInt w (Lt w.heap.size) wv ws) (hun : I64 unit_) (_ha : I64 a) (_hb : I64 b) (hG : Glob w) :
  Calls Tryz.prog 7 #[wv, .int .i64 unit_, .int .i64 a, .int .i64 b] w fun e w' => e = .returned (.bool true) ∧ Below w.heap.size w w' := by
 have HW := hid hw
 have HG := hid (fun (W : World) (hb : Below w.heap.size w W) => hG.later hb)
 obtain ⟨Aw, cw, rfl, -⟩ := hw.ints
 have HAWK := hid (fun (W : World) (hb : Below w.heap.size w W) => awake32_any W (HG.out W hb))
 clear hw hG
 go_enter Tryz.func7, Tryz.ntmps7
 go_wp2_with fail
 refine (world_any _ ws 5 w HW.out (by decide) (by decide)).mono ?_
 rintro e w1 ⟨g, c, us0, nf, rfl, hB, h2, h11, hhd, hb1, R0, hdat⟩
 obtain ⟨us, h1, ho, hns, h0⟩ := world_data hB hdat h2 h11 hhd
 have hul : us0.length = us.length := by
  have := congrArg List.length hns
  simpa [nsOf] using this.symm
 have HWR := hid h1
 have HST := hid ho.st
 have HB1 := hid hb1
 rw [hul] at HWR h2 h11 ⊢
 clear hB hhd hb1 hdat h1 ho hns h0 hul
 go_upto_region 2 with fail
 obtain ⟨w2, hw2⟩ : ∃ w2 : World, w2 = w1.alloc (.cells #[.slice (some ⟨g, 0, none⟩) us.length c] 26) := ⟨_, rfl⟩
 have hb2 : Below w1.heap.size w1 w2 := hw2 ▸ qa0 (b0 w1) _
 have hz2 : w1.heap.size < w2.heap.size := by rw [hw2]; simp
 have q0 : w2.cell? ⟨w1.heap.size, 0, none⟩ = some (.slice (some ⟨g, 0, none⟩) us.length c) := by rw [hw2, qa6]; rfl
 have HB2 := hid (qa1 HB1.out hb2)
 have HWR2 := hid (HWR.out.lift hb2 hb2.size)
 rw [← hw2]
 clear hw2 hb2
 have hp1 := qf4 unit_ us.length
 have hp2 := qf3 unit_ us.length (by omega)
 have HPL := hid (fun W => qg4 unit_ us.length W hun (by unfold I64; omega))
 generalize qd7 unit_ us.length = p at hp1 hp2 HPL
 obtain ⟨u, rfl⟩ := Int.eq_ofNat_of_zero_le hp1
 have hu : u < us.length := by omega
 have hf31 := qi2 HST.out.ns u
 obtain ⟨A, hA1, hA2, hA3⟩ := and_int a (qb8 (nsOf us) u) hf31
 obtain ⟨B, hB1, hB2, hB3⟩ := and_int b (qb8 (nsOf us) u) hf31
 have HFU := hid (fun (W : World) (hb : Below w2.heap.size w2 W) => qj8 (.agg #[.slice (some ⟨g, 0, none⟩) us.length c]) (nsOf us) u W (Lt W.heap.size) (HWR2.out.lift hb hb.size).uni HST.out.ns ⟨by omega, by omega⟩ (fun _ h => h))
 rw [qj6] at HFU
 have HVS := hid (fun (M : Nat) (hm : M ≤ 31) (hf : M &&& qb8 (nsOf us) u = M) (W : World) (hb : Below w2.heap.size w2 W) => show Calls Tryz.prog 23 #[.agg #[.slice (some ⟨g, 0, none⟩) us.length c], .int .i64 u, .int .i64 M] W fun e w' => e = .returned (.string (qj3 (qh2 us u) M)) ∧ Below W.heap.size W w' from by
  have h := zj4 (.agg #[.slice (some ⟨g, 0, none⟩) us.length c]) us u M W (HWR2.out.lift hb hb.size) HST.out hu hm (HG.out W (qa1 HB2.out hb))
  rw [hf] at h
  exact h)
 have HINJ := hid (fun h => values_inj HST.out hu hA2 hB2 h)
 have hnn : qb8 (nsOf us) u = 2 ^ (us[u].cands.length + 1) - 1 := by
  rw [qr1 (by simpa [nsOf] using hu)]
  simp [nsOf]
 have HK1 := hid (show 1 &&& qb8 (nsOf us) u = 1 from full_andS hu (by
  rw [hnn]
  have : 2 ^ 1 ≤ 2 ^ (us[u].cands.length + 1) := Nat.pow_le_pow_right (by decide) (by omega)
  omega))
 have HKK := hid (fun k (hk : k < us[u].cands.length) => show 2 ^ (k + 1) ≤ 31 ∧ 2 ^ (k + 1) &&& qb8 (nsOf us) u = 2 ^ (k + 1) from by
  have h1 : 2 ^ (k + 1) < 2 ^ (us[u].cands.length + 1) := Nat.pow_lt_pow_right (by decide) (by omega)
  have h2 : 2 ^ (k + 1) ≤ qb8 (nsOf us) u := by rw [hnn]; omega
  exact ⟨Nat.le_trans h2 hf31, full_andS hu h2⟩)
 clear hnn
 generalize qb8 (nsOf us) u = f at *
 have HVA := hid (HVS.out A (by omega) hA3)
 have HVB := hid (HVS.out B (by omega) hB3)
 go_upto_region 5 with (first
  | (go_at_call 19; refine (HPL.out _).mono ?_; rintro e w' ⟨rfl, rfl⟩)
  | (go_at_call 22; refine (HFU.out w2 (b0 w2)).mono ?_; rintro e w3 ⟨rfl, hb3⟩; have HB3 := hid hb3; have q1 := cell_below hb3 hz2 q0; have hz3 := Nat.lt_of_lt_of_le hz2 hb3.size; clear hb3))
 have HB := hid (qa1 HB2.out HB3.out)
 have l0 := qa2 hz3 q1
 have HLA := hid (fun e : Later w3 => HVA.out e.w (qa1 HB3.out e.below))
 have HLB := hid (fun e : Later w3 => HVB.out e.w (qa1 HB3.out e.below))
 have e1 : ((qj3 (qh2 us u) A).toList == (qj3 (qh2 us u) B).toList) = decide (A = B) := by
  by_cases h : A = B
  ·rw [h, decide_eq_true rfl]; exact beq_self_eq_true _
  ·rw [decide_eq_false h]; exact neLL fun hh => h (HINJ.out hh)
 have e2 : ((A : Int) == (B : Int)) = decide (A = B) := by
  by_cases h : A = B
  ·rw [h, decide_eq_true rfl]; exact beq_self_eq_true _
  ·rw [decide_eq_false h, beq_eq_false_iff_ne]; omega
 generalize decide (A = B) = bq at e1 e2
 generalize qj3 (qh2 us u) A = SA at *
 generalize qj3 (qh2 us u) B = SB at *
 have e3 : (bq != bq) = false := by cases bq <;> rfl
 clear HINJ HVA HVB hA1 hB1 HPL HFU
 (refine qa3 (by kernel_rfl) (by kernel_rfl) ?_; (repeat (go_big_quiet_step ((first | (go_at_call_of 23 A; exact Calls.later (HLA.out _) rfl) | (go_at_call_of 23 B; exact Calls.later (HLB.out _) rfl))))); refine wpQuiet_nil ?_; rintro _ ⟨e9, rfl⟩)
 obtain ⟨w4, hw4⟩ : ∃ w4 : World, w4 = e9.w := ⟨_, rfl⟩
 have hb4 : Below w3.heap.size w3 w4 := hw4 ▸ e9.below
 rw [← hw4]
 have HB4 := hid (qa1 HB3.out hb4)
 have q2 := cell_below hb4 hz3 q1
 clear hw4 l0 HLA HLB
 go_wp2_with fail
 obtain ⟨g', cap', hv, hgF, hun2⟩ := HWR2.out.opened
 injection hv with hv
 injection hv with hv
 injection hv with hv _
 injection hv with hv1 hv2 hv3
 injection hv1 with hv1
 injection hv1 with hv1 _ _
 subst hv1 hv3
 obtain ⟨Ac, cc, hcu, hcd⟩ := hun2 u hu
 have HCD := hid hcd
 have hn4 : us[u].cands.length ≤ 4 := by
  have := HST.out.ns.le u (by simpa [nsOf] using hu)
  simpa [nsOf] using this
 have HV9 := hid (HST.out.vt9s hu)
 have HVT := hid (qk9 hu)
 have HVK := hid (fun k (hk : k < us[u].cands.length) (W : World) (hb : Below w2.heap.size w2 W) => show Calls Tryz.prog 23 #[.agg #[.slice (some ⟨g, 0, none⟩) us.length c], .int .i64 u, .int .i64 ((2 ^ (k + 1) : Nat) : Int)] W fun e w' => e = .returned (.string (qg5 us[u].cands[k].v)) ∧ Below W.heap.size W w' from by
  have h := HVS.out (2 ^ (k + 1)) (HKK.out k hk).1 (HKK.out k hk).2 W hb
  have hl : k < (qh2 us u).length := by rw [HVT.out, List.length_map]; exact hk
  rw [HV9.out.2.2 k hl] at h
  have e : (qh2 us u)[k] = qg5 us[u].cands[k].v := by simp [HVT.out]
  rw [e] at h
  exact h)
 have HVN := hid (fun (W : World) (hb : Below w2.heap.size w2 W) => show Calls Tryz.prog 23 #[.agg #[.slice (some ⟨g, 0, none⟩) us.length c], .int .i64 u, .int .i64 1] W fun e w' => e = .returned (.string noneB) ∧ Below W.heap.size W w' from by
  have h := HVS.out 1 (by omega) HK1.out W hb
  rw [HV9.out.2.1] at h
  exact h)
 clear HVS HV9 HVT HKK HK1 hcd hun2
 generalize us[u].cands = cs at *
 obtain ⟨n, hn⟩ : ∃ n, cs.length = n := ⟨_, rfl⟩
 have HN := hid hn
 rw [hn] at hcu hn4
 clear hn
 have u1 : (0 : Int) ≤ ↑u := by omega
 have u2 : (↑u : Int) < ↑us.length := by omega
 have hz4 := Nat.lt_of_lt_of_le hz3 hb4.size
 go_loopw [12] (fun kv wr => ∃ k : Nat, k ≤ n ∧ kv = .int .i64 k ∧ Hid (Below w2.heap.size w2 wr) ∧ Hid (w1.heap.size < wr.heap.size)) (fun kv _ => n - (intOf kv).toNat)
 case atStart => exact ⟨0, by omega, rfl, HB4, hid hz4⟩
 case round =>
  obtain ⟨k, hk, rfl, hb, hzr⟩ := hrel
  have x0 := cell_below hb.out hz2 q0
  have x1 := cell_below hb.out hgF hcu
  by_cases hlt : k < n
  ·have hkn : k < cs.length := by rw [HN.out]; exact hlt
   obtain ⟨gc, oc, nv, bv, hAc, hFc, hat, hvB, -, -⟩ := HCD.out k hkn
   subst hAc
   obtain ⟨y0, y1, y2, y3, y4, y5, y6, y7⟩ := hat.below hb.out hFc
   have HVKK := hid (fun e : Later wr => HVK.out k hkn e.w (qa1 hb.out e.below))
   have HPR := hid (fun e : Later wr => zo8 cs[k].v hvB e.w)
   generalize cs[k].v = cv at *
   have l0 := qa2 hzr.out x0
   have l1 := qa2 (Nat.lt_of_lt_of_le hgF hb.out.size) x1
   have hgc := Nat.lt_of_lt_of_le hFc hb.out.size
   have l2 := qa2 hgc y0
   have l3 := qa2 hgc y1
   have l4 := qa2 hgc y2
   have l5 := qa2 hgc y3
   have l6 := qa2 hgc y4
   have j0 : (0 : Int) ≤ ↑k := by omega
   have j1 : (↑k : Int) < ↑n := by omega
   have j2 : decide (k < n) = true := decide_eq_true hlt
   have hsh : wrap64 (2 * (2 : Int) ^ k) = ((2 ^ (k + 1) : Nat) : Int) := by
    rcases (show k = 0 ∨ k = 1 ∨ k = 2 ∨ k = 3 by omega) with rfl | rfl | rfl | rfl <;> simp [wrap64]
   generalize 2 ^ (k + 1) = P at *
   have hsb : ((qg5 cv).toList == (qg5 cv).toList) = true := beq_self_eq_true _
   have hsn : ((qg5 cv).toList != (qg5 cv).toList) = false := by unfold bne; rw [hsb]; rfl
   generalize qg5 cv = PB at *
   go_upto_region 10 with fail
   (refine qa3 (by kernel_rfl) (by kernel_rfl) ?_; (repeat (go_big_quiet_step ((first | (go_at_call 23; exact Calls.later (HVKK.out _) rfl) | (go_at_call 24; exact Calls.later (HPR.out _) rfl))))); refine wpQuiet_nil ?_; rintro _ ⟨e8, rfl⟩)
   obtain ⟨w5, hw5⟩ : ∃ w5 : World, w5 = e8.w := ⟨_, rfl⟩
   have hb5 : Below wr.heap.size wr w5 := hw5 ▸ e8.below
   rw [← hw5]
   have HB5 := hid (qa1 hb.out hb5)
   have HZ5 := hid (Nat.lt_of_lt_of_le hzr.out hb5.size)
   clear hw5 l0 l1 l2 l3 l4 l5 l6 HVKK HPR
   have j3 : IntKind.i64.wrap ((k : Int) + 1) = (k : Int) + 1 := IntWalk.i64_in _ (by omega)
   go_wp2_with fail
   exact ⟨⟨k + 1, by omega, by go_num, HB5, HZ5⟩, by simp [intOf]; omega⟩
  ·have j2 : decide (k < n) = false := decide_eq_false hlt
   have j1 : ¬ ((k : Int) < ↑n) := by omega
   have hnb : (noneB.toList == [110, 111, 110, 101]) = true := eqL rfl
   have HVNR := hid (HVN.out wr hb.out)
   generalize noneB = NB at *
   go_wp2_with (first
    | (go_at_call 23; refine HVNR.out.mono ?_; rintro e w6 ⟨rfl, hb6⟩; have HB6 := hid (qa1 (qa1 HB2.out hb.out) hb6); clear hb6)
    | (go_at_call 8; refine (HAWK.out _ HB6.out).mono ?_; rintro e w8 ⟨rfl, hb8⟩; have HB8 := hid (qa1 HB6.out hb8); clear hb8))
   go_ret
   exact ⟨rfl, HB8.out⟩
end
end Go.Proofs.YtbfbppjccbppiaaGreatDoor
