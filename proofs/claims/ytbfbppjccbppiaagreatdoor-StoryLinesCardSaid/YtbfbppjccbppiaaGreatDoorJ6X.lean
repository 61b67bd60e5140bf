import Derived.Test.YtbfbppjccbppiaaGreatDoorzJ7
import Derived.Test.YtbfbppjccbppiaaGreatDoorzPX
import Derived.Test.YtbfbppjccbppiaaGreatDoorzA8
import Derived.Outline
namespace Go.Proofs.YtbfbppjccbppiaaGreatDoor
open Go Go.RowKit
section
variable {us : List UnitW}
theorem unitV_succ {k : Nat} (s : ByteArray) : (if s = qe7 us k then some (Value.int .i64 k) else zl2 us k s) = zl2 us (k + 1) s := by
  unfold zl2
  rw [qs5]
  split <;> rfl
def ReadPost (us : List UnitW) (s : ByteArray) (w : World) (e : Ending) (w' : World) : Prop :=
  ∃ lv, e = .returned (.tuple #[lv, .int .i64 (qp0 us s).2.1, .int .i64 (qp0 us s).2.2]) ∧ SliceRd tRow w' (Lt w'.heap.size) lv (qp0 us s).1 ∧ Below w.heap.size w w'
set_option maxRecDepth 100000 in
set_option maxHeartbeats 4000000 in
theorem pread_any (v : Value) (s : ByteArray) (w : World) (h : qd0 w (Lt w.heap.size) v us) (ho : StW us) (h0 : 0 < us.length) (hG : Glob w) (hs : s.size ≤ 1048576) :
    Calls Tryz.prog 15 #[v, .string s] w (ReadPost us s w) := by
  have hmm := @run_makeMap Tryz.prog
  have HWR := hid h
  have HO := hid ho
  have HG := hid (fun (W : World) (hb : Below w.heap.size w W) => hG.later hb)
  obtain ⟨g, cap0, rfl, hg, -⟩ := h.opened
  have h11 : us.length ≤ 11 := by have := ho.ns.hi; simpa [nsOf] using this
  have z1 : decide (1048576 < s.size) = false := decide_eq_false (by omega)
  have z2 : decide ((1048576 : Int) < (s.size : Int)) = false := decide_eq_false (by omega)
  obtain ⟨ir, hir⟩ := info_parts za3
  have HIR := hid hir
  clear h ho hG hir
  go_enter Tryz.func15, Tryz.ntmps15
  go_wp2_with fail
  obtain ⟨w0, hw0⟩ : ∃ w0 : World, w0 = ((w.alloc (.cells #[.slice (some ⟨g, 0, none⟩) us.length cap0] 26)).alloc (.map #[] 0)).alloc (.cells #[.slice (some ⟨g, 0, none⟩) us.length cap0, .map (some (w.heap.size + 1))] 91) := ⟨_, rfl⟩
  have HB0 := hid (show Below w.heap.size w w0 from hw0 ▸ qa0 (qa0 (qa0 (b0 w) _) _) _)
  have hz0 : w0.heap.size = w.heap.size + 3 := by rw [hw0]; simp
  have hzz0 : w.heap.size + 2 < w0.heap.size := by omega
  have c0 : w0.cell? ⟨w.heap.size, 0, none⟩ = some (.slice (some ⟨g, 0, none⟩) us.length cap0) := by rw [hw0]; exact cell_below (qa0 (qa0 (b0 _) _) _) (by simp) (by rw [qa6]; rfl)
  have d0 : w0.cell? ⟨w.heap.size + 1 + 1, 0, none⟩ = some (.slice (some ⟨g, 0, none⟩) us.length cap0) := by
    have e : w.heap.size + 1 + 1 = ((w.alloc (.cells #[.slice (some ⟨g, 0, none⟩) us.length cap0] 26)).alloc (.map #[] 0)).heap.size := by simp
    rw [hw0, e, qa6]; rfl
  have d1 : w0.cell? ⟨w.heap.size + 1 + 1, 1, none⟩ = some (.map (some (w.heap.size + 1))) := by
    have e : w.heap.size + 1 + 1 = ((w.alloc (.cells #[.slice (some ⟨g, 0, none⟩) us.length cap0] 26)).alloc (.map #[] 0)).heap.size := by simp
    rw [hw0, e, qa6]; rfl
  have HM0 : Hid (MapF kStr w0 (w.heap.size + 1) 0 (zl2 us 0)) := hid (by
    have h1 := MapF.made kStr (w.alloc (.cells #[.slice (some ⟨g, 0, none⟩) us.length cap0] 26))
    have e : (w.alloc (.cells #[.slice (some ⟨g, 0, none⟩) us.length cap0] 26)).heap.size = w.heap.size + 1 := by simp
    rw [e] at h1
    rw [hw0]
    exact h1.below (qa0 (b0 _) _) (by simp))
  have HZ0 := hid hz0
  clear hz0
  rw [← hw0]
  clear hw0
  go_loopw [25] (fun kv wr => ∃ k : Nat, k ≤ us.length ∧ kv = .int .i64 k ∧ Hid (∃ nm, MapF kStr wr (w.heap.size + 1) nm (zl2 us k)) ∧ Hid (Below w.heap.size w wr) ∧ Hid (wr.cell? ⟨w.heap.size, 0, none⟩ = some (.slice (some ⟨g, 0, none⟩) us.length cap0) ∧ wr.cell? ⟨w.heap.size + 1 + 1, 0, none⟩ = some (.slice (some ⟨g, 0, none⟩) us.length cap0) ∧ wr.cell? ⟨w.heap.size + 1 + 1, 1, none⟩ = some (.map (some (w.heap.size + 1))) ∧ w.heap.size + 2 < wr.heap.size)) (fun kv _ => us.length - (intOf kv).toNat)
  case atStart => exact ⟨0, by omega, rfl, hid ⟨_, HM0.out⟩, HB0, hid ⟨c0, d0, d1, hzz0⟩⟩
  case round =>
    obtain ⟨k, hk, rfl, hmf, hb, hcs⟩ := hrel
    obtain ⟨nm, hm⟩ := hmf.out
    obtain ⟨x0, y0, y1, hzr⟩ := hcs.out
    by_cases hlt : k < us.length
    · have j0 : (0 : Int) ≤ ↑k := by omega
      have j1 : (↑k : Int) < ↑us.length := by omega
      have j2 : decide (k < us.length) = true := decide_eq_true hlt
      have j3 : IntKind.i64.wrap ((k : Int) + 1) = (k : Int) + 1 := IntWalk.i64_in _ (by omega)
      have HNM := hid (fun (W : World) (hb : Below w.heap.size w W) => qu2 (.agg #[.slice (some ⟨g, 0, none⟩) us.length cap0]) us k W (HWR.out.lift hb hb.size) HO.out hlt)
      have HPS := hid (unitV_succ (us := us) (k := k))
      generalize qe7 us k = nk at *
      have HM := hid hm
      have HBD := hid (hb.out.trans ((Below.refl wr.heap.size wr).drew.mono hb.out.size))
      clear hm hmf
      go_upto_region 7 with fail
      go_region_held3 (fun w' => w'.cell? ⟨w.heap.size, 0, none⟩ = some (.slice (some ⟨g, 0, none⟩) us.length cap0) ∧ w'.cell? ⟨w.heap.size + 1 + 1, 1, none⟩ = some (.map (some (w.heap.size + 1)))) (first | exact ⟨by assumption, by assumption⟩ | go_keep)
        (first
        | (go_at_call 39; refine (HNM.out _ HBD.out).mono ?_; rintro e w3 ⟨rfl, hb3⟩; have HB3 := hid (qa1 HBD.out hb3); have HM3 := hid ((HM.out.keep (show wr.drew.heap[w.heap.size + 1]? = wr.heap[w.heap.size + 1]? from rfl)).below hb3 (by show w.heap.size + 1 < wr.heap.size; omega)); have hz3 := hb3.size; have x3 := cell_below hb3 (show w.heap.size < wr.drew.heap.size by show _ < wr.heap.size; omega) (show wr.drew.cell? _ = _ from x0); have v0 := cell_below hb3 (show w.heap.size + 1 + 1 < wr.drew.heap.size by show _ < wr.heap.size; omega) (show wr.drew.cell? _ = _ from y0); have v1 := cell_below hb3 (show w.heap.size + 1 + 1 < wr.drew.heap.size by show _ < wr.heap.size; omega) (show wr.drew.cell? _ = _ from y1); obtain ⟨w5, n5, hr5, hm5, -, -, hg5, hs5⟩ := HM3.out.run_update (P := Tryz.prog) Tryz.underlying89 Tryz.underlying9 nk (.int .i64 k); replace hr5 : (Instr.mapUpdate 89 (.map (some (w.heap.size + 1))) (.string nk) (.int .i64 k)).run Tryz.prog w3 = .ok () w5 := hr5; have HM5 := hid (hm5.congr HPS.out); have HG5 := hid hg5; have HS5 := hid hs5; have hzz3 : w.heap.size + 2 < w3.heap.size := Nat.lt_of_lt_of_le hzr hz3; have x5 := (World.cell?_of_block (a := ⟨w.heap.size, 0, none⟩) (qx6 hg5 (by show w.heap.size < _; omega) (by show w.heap.size ≠ _; omega))).trans x3; have v50 := (World.cell?_of_block (a := ⟨w.heap.size + 1 + 1, 0, none⟩) (qx6 hg5 (by show w.heap.size + 1 + 1 < _; omega) (by show w.heap.size + 1 + 1 ≠ _; omega))).trans v0; have v51 := (World.cell?_of_block (a := ⟨w.heap.size + 1 + 1, 1, none⟩) (qx6 hg5 (by show w.heap.size + 1 + 1 < _; omega) (by show w.heap.size + 1 + 1 ≠ _; omega))).trans v1; clear hb3 hm5 hg5 hs5))
      have HB5 := hid (below_map HB3.out HG5.out (by omega) HB3.out.size)
      have HX5 := hid (show w5.cell? ⟨w.heap.size, 0, none⟩ = some (.slice (some ⟨g, 0, none⟩) us.length cap0) ∧ w5.cell? ⟨w.heap.size + 1 + 1, 0, none⟩ = some (.slice (some ⟨g, 0, none⟩) us.length cap0) ∧ w5.cell? ⟨w.heap.size + 1 + 1, 1, none⟩ = some (.map (some (w.heap.size + 1))) ∧ w.heap.size + 2 < w5.heap.size from ⟨x5, v50, v51, by rw [HS5.out]; exact hzz3⟩)
      rename_i hHeld
      clear hHeld hr5 x5 v50 v51 x3 v0 v1 x0 y0 y1
      go_wp2_with fail
      exact ⟨⟨k + 1, by omega, by go_num, hid ⟨_, HM5.out⟩, HB5, HX5⟩, by simp [intOf]; omega⟩
    · have hkl : k = us.length := by omega
      have j1 : ¬ ((k : Int) < ↑us.length) := by omega
      have j2 : decide (k < us.length) = false := decide_eq_false hlt
      have HMM := hid hm
      rw [hkl] at HMM
      have HB1 := hb
      clear hm hmf hb hcs c0 d0 d1 HM0 HB0 hzz0
      go_wp2_with fail
      clear j1 j2
      rename World => w1
      have HRR := hid (fun (L : ByteArray) (n : Nat) (W : World) (hb : Below w1.heap.size w1 W) (hl : L.size ≤ 1500000) (hn : 1 ≤ n) (hn2 : n ≤ 60000) => rdrow_any (us := us) (some ⟨g, 0, none⟩) us.length cap0 (w.heap.size + 1) nm L n W (HMM.out.below hb (by omega)) (HWR.out.lift (qa1 HB1.out hb) (qa1 HB1.out hb).size) HO.out h0 (HG.out W (qa1 HB1.out hb)) hl hn hn2)
      have HCU := hid (fun (S : ByteArray) (W : World) (hb : Below w1.heap.size w1 W) (hz : S.size ≤ 2000000) => show Calls Tryz.prog 40 #[.string S, .string ⟨#[10]⟩] W fun e w' => e = .returned (.tuple #[.string (cutB S [10]).1, .string (cutB S [10]).2.1, .bool (cutB S [10]).2.2]) ∧ Below W.heap.size W w' from qv5 S ⟨#[10]⟩ W hz (HG.out W (qa1 HB1.out hb)))
      unfold RowRd at HRR
      go_loopw [1, 9] (fun tx ov wr => ∃ (S : ByteArray) (out : List Row) (xs : List Value), tx = .string S ∧ 19 * out.length + S.size ≤ s.size ∧ Hid (ql0 us (s.size + 1) s [] = ql0 us (S.size + 1) S out) ∧ Hid (OwnT tRow 49 wr w1.heap.size ov out xs) ∧ Hid (Below w1.heap.size w1 wr)) (fun tx _ _ => match tx with | .string S => S.size | _ => 0)
      case atStart => exact ⟨s, [], [], rfl, by simp, hid rfl, hid (OwnT.nil _ _ _ _), hid (b0 _)⟩
      case round =>
        obtain ⟨S, out, xs, rfl, hS, hrd, how, hb⟩ := hrel
        obtain ⟨A, cap, rfl⟩ := qb1 how.out.own
        by_cases hS0 : S.data.toList = []
        · have hSe : S = ⟨#[]⟩ := qy9 hS0
          subst hSe
          have HRE : Hid (ql0 us (s.size + 1) s [] = (some out, 0)) := hid (by
            rw [hrd.out]
            unfold ql0
            exact if_pos rfl)
          have HMY := hid (may_any (.slice A out.length cap) out wr how.out.rd)
          by_cases hm : MayP out
          · have HF : Hid (qp0 us s = (out, 0, 0)) := hid (by unfold qp0; rw [HRE.out]; exact if_pos hm)
            rw [decide_eq_true hm] at HMY
            clear hm HRR HCU hrd HRE hS hS0
            go_wp2_with (go_at_call 32; refine HMY.out.mono ?_; rintro e w3 ⟨rfl, hb3⟩; have HB3 := hid hb3; clear hb3)
            go_ret3
            exact ⟨_, by rw [HF.out]; rfl, by rw [HF.out]; exact how.out.rd.lift HB3.out HB3.out.size, qa1 (qa1 HB1.out hb.out) HB3.out⟩
          · have HF : Hid (qp0 us s = ([], 33, 0)) := hid (by unfold qp0; rw [HRE.out]; exact if_neg hm)
            rw [decide_eq_false hm] at HMY
            clear hm HRR HCU hrd HRE hS hS0
            go_wp2_with (go_at_call 32; refine HMY.out.mono ?_; rintro e w3 ⟨rfl, hb3⟩; have HB3 := hid hb3; clear hb3)
            go_ret3
            exact ⟨_, by rw [HF.out]; rfl, by rw [HF.out]; exact SliceRd.nil _ _ _, qa1 (qa1 HB1.out hb.out) HB3.out⟩
        · have hS9 : S.toList.isEmpty = false := by
            rw [ByteArray.toList_eq]
            cases hl : S.data.toList with
            | nil => exact absurd hl hS0
            | cons _ _ => rfl
          have hSz : S.size ≠ 0 := fun e => hS0 (List.eq_nil_of_length_eq_zero (by rw [← zl7]; exact e))
          have hzb := hb.out.size
          have x1 := cell_below hb.out (by omega) x0
          have v10 := cell_below hb.out (by omega) y0
          have v11 := cell_below hb.out (by omega) y1
          have HC := hid (HCU.out S wr hb.out (by omega))
          have HRD : Hid (ql0 us (s.size + 1) s [] = if (cutB S [10]).2.2 = true then (match rowR us (cutB S [10]).1 (out.length + 1) with
            | none => (none, out.length + 1)
            | some r => ql0 us S.size (cutB S [10]).2.1 (out ++ [r])) else (none, out.length + 1)) := hid (by
            rw [hrd.out]
            conv => lhs; unfold ql0
            rw [if_neg hSz]
            cases rowR us (cutB S [10]).1 (out.length + 1) <;> rfl)
          have hcz := qt2 S [10]
          have hcl := fun h => ze5 (s := S) h
          have HR1 := hid (fun (W : World) (hb : Below w1.heap.size w1 W) => HRR.out (cutB S [10]).1 (out.length + 1) W hb (by omega) (by omega) (by omega))
          obtain ⟨R, hR⟩ : ∃ R, rowR us (cutB S [10]).1 (out.length + 1) = R := ⟨_, rfl⟩
          have HSP := hid (fun r (h : R = some r) => rowR_spec h0 (n := out.length + 1) (by omega) (hR.trans h))
          rw [hR] at HR1 HRD
          clear hR
          generalize (cutB S [10]).1 = ca at *
          generalize (cutB S [10]).2.1 = cb at *
          generalize (cutB S [10]).2.2 = cm at *
          have hw1 : IntKind.i64.wrap ((out.length : Int) + 1) = (out.length : Int) + 1 := IntWalk.i64_in _ (by omega)
          rw [show ((out.length + 1 : Nat) : Int) = (out.length : Int) + 1 by omega] at HR1
          clear HRR HCU hrd hS0 hSz x0 y0 y1
          go_upto_region 12 with (go_at_call 40; refine HC.out.mono ?_; rintro e w2 ⟨rfl, hb2⟩; have HB2 := hid (qa1 hb.out hb2); have x2 := cell_below hb2 (by omega) x1; have v20 := cell_below hb2 (by omega) v10; have v21 := cell_below hb2 (by omega) v11; have hz2 := hb2.size; have HOW2 := hid (how.out.later hb2); clear hb2)
          cases R with
          | none =>
            have HRN : Hid (ql0 us (s.size + 1) s [] = (none, out.length + 1)) := hid (by
              rw [HRD.out]
              split <;> rfl)
            have HF : Hid (qp0 us s = ([], 2, out.length + 1)) := hid (by unfold qp0; rw [HRN.out])
            clear HRD HRN
            cases cm <;>
            (go_wp2_with (go_at_call 41; refine (HR1.out w2 HB2.out).mono ?_; rintro e w3 ⟨kd, un, xa, xb, A3, m3, c3, rfl, hr3, hb3⟩; have HB3 := hid (qa1 (qa1 HB1.out HB2.out) hb3); clear hb3 hr3)
             go_ret3
             exact ⟨_, by rw [HF.out]; exact congrArg (fun x : Int => Ending.returned (.tuple #[.slice none 0 0, .int .i64 2, .int .i64 x])) (show (out.length : Int) + 1 = ((out.length + 1 : Nat) : Int) by omega), by rw [HF.out]; exact SliceRd.nil _ _ _, qa0 HB3.out _⟩)
          | some r =>
            cases cm with
            | false =>
              have HRN : Hid (ql0 us (s.size + 1) s [] = (none, out.length + 1)) := hid (by
                rw [HRD.out]
                exact if_neg (by decide))
              have HF : Hid (qp0 us s = ([], 2, out.length + 1)) := hid (by unfold qp0; rw [HRN.out])
              clear HRD HRN
              go_wp2_with (go_at_call 41; refine (HR1.out w2 HB2.out).mono ?_; rintro e w3 ⟨kd, un, xa, xb, A3, m3, c3, rfl, hr3, hb3⟩; have HB3 := hid (qa1 (qa1 HB1.out HB2.out) hb3); clear hb3 hr3)
              go_ret3
              exact ⟨_, by rw [HF.out]; exact congrArg (fun x : Int => Ending.returned (.tuple #[.slice none 0 0, .int .i64 2, .int .i64 x])) (show (out.length : Int) + 1 = ((out.length + 1 : Nat) : Int) by omega), by rw [HF.out]; exact SliceRd.nil _ _ _, qa0 HB3.out _⟩
            | true =>
              have HRN : Hid (ql0 us (s.size + 1) s [] = ql0 us S.size cb (out ++ [r])) := hid (by
                rw [HRD.out]
                exact if_pos rfl)
              have hcl2 := hcl rfl
              obtain ⟨hrp, hln⟩ := HSP.out r rfl
              have hlow := line_low us r (out.length + 1)
              rw [hln] at hlow
              have HRP := hid hrp
              clear hrp hln HRD HSP hcl
              go_upto_region 15 with (go_at_call 41; refine (HR1.out w2 HB2.out).mono ?_; rintro e w3 ⟨kd, un, xa, xb, A3, m3, c3, rfl, hr3, hb3⟩; obtain ⟨rfl, rfl, rfl, rfl, ht3⟩ := hr3 r rfl; have HT3 := hid ht3; have HB3 := hid (qa1 HB2.out hb3); have HOW3 := hid (HOW2.out.later hb3); have hz3 := hb3.size; clear hb3 hr3 ht3)
              obtain ⟨w4, hw4⟩ : ∃ w4 : World, w4 = w3.alloc (.cells #[.int .i64 r.kind, .int .i64 r.unit, .int .i64 r.a, .int .i64 r.b, .slice A3 m3 c3] 49) := ⟨_, rfl⟩
              have hb4 : Below w3.heap.size w3 w4 := hw4 ▸ qa0 (b0 _) _
              have hz4 : w3.heap.size < w4.heap.size := by rw [hw4]; simp
              have q0 : w4.cell? ⟨w3.heap.size, 0, none⟩ = some (.int .i64 r.kind) := by rw [hw4, qa6]; rfl
              have q1 : w4.cell? ⟨w3.heap.size, 1, none⟩ = some (.int .i64 r.unit) := by rw [hw4, qa6]; rfl
              have q2 : w4.cell? ⟨w3.heap.size, 2, none⟩ = some (.int .i64 r.a) := by rw [hw4, qa6]; rfl
              have q3 : w4.cell? ⟨w3.heap.size, 3, none⟩ = some (.int .i64 r.b) := by rw [hw4, qa6]; rfl
              have q4 : w4.cell? ⟨w3.heap.size, 4, none⟩ = some (.slice A3 m3 c3) := by rw [hw4, qa6]; rfl
              have HB4 := hid (HB3.out.trans (hb4.mono HB3.out.size))
              have HOW4 := hid (HOW3.out.later hb4)
              have HT4 := hid (HT3.out.below hb4 (Nat.le_refl _))
              have HHD := hid (fun (W : World) (hb : Below w4.heap.size w4 W) => show SliceRd qg1 W (fun b => w1.heap.size ≤ b ∧ b < W.heap.size ∧ (Value.slice A out.length cap).ownBlock ≠ some b) (.slice A3 m3 c3) r.terms from
                ((qf8 (F := fun b => w2.heap.size ≤ b ∧ b < w4.heap.size) HT4.out.1 HT4.out.2 (fun g hg => HT4.out.1.lt g hg)).keep (qn2.of_below hb fun _ h => h.2)).more fun b h => ⟨Nat.le_trans HB2.out.size h.1, Nat.lt_of_lt_of_le h.2 hb.size, fun e => by have h9 := (HOW2.out.own.lt b e).2; omega⟩)
              rw [← hw4]
              clear hw4 HT3 HOW3 hb4
              have hsz9 : out.length < 100000 := by omega
              have HI := hid (show I64 r.kind ∧ I64 r.unit ∧ I64 r.a ∧ I64 r.b from by
                have h1 := HRP.out.s.kind
                have h2 := HRP.out.s.unit
                have h3 := HRP.out.s.a
                have h4 := HRP.out.s.b
                refine ⟨⟨?_, ?_⟩, ⟨?_, ?_⟩, ⟨?_, ?_⟩, ⟨?_, ?_⟩⟩ <;> omega)
              go_wp2_with (at_builtin; go_must (refine qa5 _ rfl (.tmp 61) (.tmp 63) _ rfl w1.heap.size 49 ir _ 5 56 Tryz.underlying28 HIR.out.1 HIR.out.2.1 HIR.out.2.2.1 HIR.out.2.2.2 rfl (by omega) (.slice A out.length cap) out.length xs (by rfl) (by exact (HOW4.out.later (qa0 (b0 w4) _)).own) (some ⟨w4.heap.size, 0, none⟩) 1 1 [.int .i64 r.kind, .int .i64 r.unit, .int .i64 r.a, .int .i64 r.b, .slice A3 m3 c3] (by rfl) (by exact qe1 _ _ rfl 5 _ rfl rfl) (by simp [Value.oneCell']) (by unfold maxLen; omega) (by omega) (by have := HB4.out.size; simp; omega) ?_; intro v5 w5 hown5 hg5 hat5; have HR5 := hid (OwnT.snoc (t := tRow) (x := r) (cs := [.int .i64 r.kind, .int .i64 r.unit, .int .i64 r.a, .int .i64 r.b, .slice A3 m3 c3]) (HOW4.out.later (qa0 (b0 w4) _)) rfl ⟨_, rfl, HI.out.1, HI.out.2.1, HI.out.2.2.1, HI.out.2.2.2, HHD.out _ (qa0 (b0 w4) _)⟩ hown5 hg5 hat5); have HB5 := hid hg5; clear hown5 hat5 hg5))
              refine ⟨⟨cb, out ++ [r], _, rfl, ?_, hid ?_, HR5, hid ?_⟩, ?_⟩
              · rw [List.length_append, List.length_cons, List.length_nil]
                omega
              · exact HRN.out.trans (zd1 _ _ _ _ (by omega) (by omega))
              · exact (qa0 HB4.out _).grown HB5.out (by have := HB4.out.size; simp; omega) (fun k hk => (HOW4.out.own.lt k hk).1)
              · show cb.size < S.size
                omega
end
end Go.Proofs.YtbfbppjccbppiaaGreatDoor
