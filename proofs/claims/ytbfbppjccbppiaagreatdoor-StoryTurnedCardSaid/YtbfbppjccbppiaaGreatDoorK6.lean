/- Contract: linchpinlaw32.reads. -/
import Derived.Test.YtbfbppjccbppiaaGreatDoorK2
import Derived.Test.YtbfbppjccbppiaaGreatDoorzI11
import Derived.Outline
namespace Go.Proofs.YtbfbppjccbppiaaGreatDoor
open Go Go.RowKit

theorem lines_take {s : ByteArray} {k : Nat} (hk : k < s.size) : zn5 (s.data.toList.take (k + 1)) = zn5 (s.data.toList.take k) + if s[k] = 10 then 1 else 0 := by
 have hk' : k < s.data.toList.length := by rw [← zl7]; exact hk
 rw [List.take_succ_eq_append_getElem hk']
 unfold zn5
 rw [List.count_append]
 have e : s.data.toList[k] = s[k] := rfl
 rw [e]
 by_cases h : s[k] = 10
 ·rw [if_pos h, h]; rfl
 ·rw [if_neg h, List.count_eq_zero.2 (fun hm => h (List.mem_singleton.1 hm).symm)]
theorem lines_le (l : List UInt8) : zn5 l ≤ l.length := List.count_le_length
section
variable {us : List UnitW}
set_option maxRecDepth 100000 in
set_option maxHeartbeats 4000000 in
theorem reads_any (v : Value) (s : ByteArray) (w : World) (h : qd0 w (Lt w.heap.size) v us) (ho : StW us) (hG : Glob w) (hs : s.size ≤ 1048576) :
  Calls Tryz.prog 20 #[v, .string s] w fun e w' => e = .returned (.bool true) ∧ Below w.heap.size w w' := by
 have HWR := hid h
 have HO := hid ho
 have HG := hid (fun (W : World) (hb : Below w.heap.size w W) => hG.later hb)
 have h02 : 0 < us.length := by have := ho.ns.lo; simp only [nsOf, List.length_map] at this; omega
 obtain ⟨g, c, rfl, hg, -⟩ := h.opened
 obtain ⟨w2, hw2⟩ : ∃ w2 : World, w2 = w.alloc (.cells #[.slice (some ⟨g, 0, none⟩) us.length c] 26) := ⟨_, rfl⟩
 have hb2 : Below w.heap.size w w2 := hw2 ▸ qa0 (b0 w) _
 have hz2 : w.heap.size < w2.heap.size := by rw [hw2]; simp
 have q0 : w2.cell? ⟨w.heap.size, 0, none⟩ = some (.slice (some ⟨g, 0, none⟩) us.length c) := by rw [hw2, qa6]; rfl
 have HB2 := hid hb2
 have HW2 := hid hw2
 have HWR2 := hid (HWR.out.lift hb2 hb2.size)
 have HRD := hid (pread_any _ s w2 HWR2.out HO.out h02 (HG.out w2 HB2.out) hs)
 clear h ho hG hw2 hb2
 have hor : (∃ l, qp0 us s = (l, 0, 0)) ∨ ∃ E n, qp0 us s = ([], E, n) ∧ ((E = 2 ∧ 1 ≤ n ∧ n ≤ 1 + zn5 s.data.toList) ∨ (E = 33 ∧ n = 0)) := by
  rcases readF_cases (us := us) s with h | ⟨n, hf, hn1, hn2⟩ | hf
  ·exact .inl h
  ·exact .inr ⟨2, n, hf, .inl ⟨rfl, hn1, hn2⟩⟩
  ·exact .inr ⟨33, 0, hf, .inr ⟨rfl, rfl⟩⟩
 rcases hor with ⟨l, hf⟩ | ⟨E, n, hf, hor⟩
 ·obtain ⟨-, ht⟩ := tell_readF h02 hs hf
  have HF := hid hf
  have HT := hid ht
  have hT : (s.toList == s.toList) = true := beq_self_eq_true _
  have HTR := hid (fun (v : Value) (W : World) (hb : Below w2.heap.size w2 W) (hl : SliceRd tRow W (Lt W.heap.size) v l) => rtell_any _ v l W (HWR2.out.lift hb hb.size) HO.out hl)
  rw [ht] at HTR
  clear hf ht
  go_enter Tryz.func20, Tryz.ntmps20
  go_upto_region 1 with fail
  rw [← HW2.out]
  go_wp2_with (first
   | (go_at_call 15; refine HRD.out.mono ?_; rintro e w3 ⟨lv, rfl, hrd, hb3⟩; rw [HF.out] at hrd ⊢; have HR3 := hid hrd; have HB3 := hid hb3; have q1 := cell_below hb3 hz2 q0; clear hb3 hrd)
   | (go_at_call 13; refine (HTR.out lv w3 HB3.out HR3.out).mono ?_; rintro e w4 ⟨rfl, hb4⟩; have HB4 := hid (qa1 (qa1 HB2.out HB3.out) hb4); clear hb4))
  go_ret
  exact ⟨rfl, HB4.out⟩
 ·have HF := hid hf
  have HOR := hid hor
  have hE0 : (E == 0) = false := by rw [beq_eq_false_iff_ne]; omega
  clear hf hor
  have hll : zn5 s.data.toList ≤ s.size := by rw [zl7]; exact lines_le _
  go_enter Tryz.func20, Tryz.ntmps20
  go_upto_region 1 with fail
  rw [← HW2.out]
  go_wp2_with (go_at_call 15; refine HRD.out.mono ?_; rintro e w3 ⟨lv, rfl, hrd, hb3⟩; rw [HF.out] at hrd ⊢; obtain ⟨A3, c3, hlv, -⟩ := hrd.shape; replace hlv : lv = .slice A3 0 c3 := hlv; subst hlv; have HB3 := hid (qa1 HB2.out hb3); clear hb3 hrd)
  go_loopw [10, 11] (fun nv kv wr => ∃ k : Nat, k ≤ s.size ∧ kv = .int .i64 k ∧ nv = .int .i64 ((1 + zn5 (s.data.toList.take k) : Nat) : Int) ∧ Hid (Below w.heap.size w wr)) (fun _ kv _ => s.size - (intOf kv).toNat)
  case atStart => exact ⟨0, by omega, rfl, rfl, HB3⟩
  case round =>
   obtain ⟨k, hk, rfl, rfl, hb⟩ := hrel
   have hlk : zn5 (s.data.toList.take k) ≤ k := by
    have := lines_le (s.data.toList.take k)
    rw [List.length_take] at this
    omega
   by_cases hlt : k < s.size
   ·have j0 : (0 : Int) ≤ ↑k := by omega
    have j1 : (↑k : Int) < ↑s.size := by omega
    have j2 : decide (k < s.size) = true := decide_eq_true hlt
    have j3 : IntKind.i64.wrap ((k : Int) + 1) = (k : Int) + 1 := IntWalk.i64_in _ (by omega)
    have HLT := hid (lines_take hlt)
    generalize zn5 (s.data.toList.take k) = m at *
    have j4 : IntKind.i64.wrap (((1 + m : Nat) : Int) + 1) = ((1 + m + 1 : Nat) : Int) := by rw [IntWalk.i64_in _ (by omega)]; omega
    go_wp2_with fail
    ·rename_i h9
     have h10 : s[k] = 10 := by
      have h8 : ((s[k].toNat : Int)) = 10 := beq_iff_eq.1 h9
      exact UInt8.toNat_inj.1 (show s[k].toNat = 10 by omega)
     have hl := HLT.out
     rw [if_pos h10] at hl
     refine ⟨⟨k + 1, by omega, by go_num, ?_, hb⟩, by simp [intOf]; omega⟩
     rw [hl]
     exact congrArg (Value.int .i64) (by omega)
    ·rename_i h9
     have h10 : ¬ s[k] = 10 := fun e => by
      rw [e] at h9
      exact absurd h9 (by decide)
     have hl := HLT.out
     rw [if_neg h10] at hl
     refine ⟨⟨k + 1, by omega, by go_num, ?_, hb⟩, by simp [intOf]; omega⟩
     rw [hl]
     exact congrArg (Value.int .i64) (by omega)
   ·have hks : k = s.size := by omega
    have hta : s.data.toList.take k = s.data.toList := List.take_of_length_le (by rw [← zl7]; omega)
    have j1 : ¬ ((k : Int) < ↑s.size) := by omega
    have j2 : decide (k < s.size) = false := decide_eq_false hlt
    rw [hta]
    have HOR2 := HOR.out
    clear HOR hta hks hlk
    generalize zn5 s.data.toList = m at *
    rcases HOR2 with ⟨rfl, h1, h2⟩ | ⟨rfl, rfl⟩
    ·have z1 : decide ((1 : Int) ≤ (n : Int)) = true := decide_eq_true (by omega)
     have z2 : decide ((n : Int) ≤ ((1 + m : Nat) : Int)) = true := decide_eq_true (by omega)
     have z3 : decide ((n : Int) ≤ 1 + (m : Int)) = true := decide_eq_true (by omega)
     have z4 : decide (1 ≤ n) = true := decide_eq_true h1
     have z5 : decide (n ≤ 1 + m) = true := decide_eq_true h2
     go_wp2_with fail
     go_ret
     exact ⟨rfl, hb.out⟩
    ·go_wp2_with fail
     go_ret
     exact ⟨rfl, hb.out⟩
end
end Go.Proofs.YtbfbppjccbppiaaGreatDoor
