import Derived.Test.YtbfbppjccbppiaaGreatDoorRows
import Derived.Test.YtbfbppjccbppiaaGreatDoorzA
namespace Go.Proofs.YtbfbppjccbppiaaGreatDoor
open Go Go.RowKit
section
def qp3 (l : List Term) (k : Nat) : Bool :=
 decide (l[k]!.unit < 0) || decide (48 ≤ l[k]!.unit) || decide (l[k]!.mask < 1) || decide (131072 ≤ l[k]!.mask) || (decide (0 < k) && decide (l[k]!.unit ≤ l[k-1]!.unit))
def qk8 (l : List Term) : Bool := (List.range l.length).all fun k => !qp3 l k
theorem qc8 {l : List Term} {k : Nat} (hk : k < l.length) (h : qp3 l k = true) : Ending.returned (.bool false) = .returned (.bool (qk8 l)) := by
 have : qk8 l = false := by
  unfold qk8
  rw [List.all_eq_false]
  exact ⟨k, List.mem_range.2 hk, by simp [h]⟩
 rw [this]
theorem zb1 {l : List Term} (h : ∀ k, k < l.length → qp3 l k = false) : Ending.returned (.bool true) = .returned (.bool (qk8 l)) := by
 have : qk8 l = true := by
  unfold qk8
  rw [List.all_eq_true]
  intro k hk
  simp [h k (List.mem_range.1 hk)]
 rw [this]
theorem qe3 {l : List Term} {k : Nat} (hk : k < l.length) (h : l[k].unit < 0 ∨ 48 ≤ l[k].unit ∨ l[k].mask < 1 ∨ 131072 ≤ l[k].mask ∨ (0 < k ∧ l[k].unit ≤ l[k-1].unit)) : qp3 l k = true := by
 unfold qp3
 rw [getElem!_pos l k hk, getElem!_pos l (k-1) (by omega)]
 simp only [Bool.or_eq_true, decide_eq_true_eq, Bool.and_eq_true]
 omega
theorem qr5 {l : List Term} {k : Nat} (hk : k < l.length) (h : ¬ (l[k].unit < 0 ∨ 48 ≤ l[k].unit ∨ l[k].mask < 1 ∨ 131072 ≤ l[k].mask ∨ (0 < k ∧ l[k].unit ≤ l[k-1].unit))) : qp3 l k = false := by
 cases hb : qp3 l k with
 | false => rfl
 | true =>
  unfold qp3 at hb
  rw [getElem!_pos l k hk, getElem!_pos l (k-1) (by omega)] at hb
  simp only [Bool.or_eq_true, decide_eq_true_eq, Bool.and_eq_true] at hb
  omega
set_option maxHeartbeats 400000 in
theorem termsMay_any (v : Value) (l : List Term) (w : World) (h : SliceRd qg1 w (Lt w.heap.size) v l) :
  Calls Tryz.prog 110 #[v] w fun e w' => e = .returned (.bool (qk8 l)) ∧ Below w.heap.size w w' := by
 obtain ⟨A, cap, rfl, hcap, hmax, hc⟩ := h.terms
 unfold maxLen at hmax
 have HC := hid hc
 clear hc h
 go_enter Tryz.func110, Tryz.ntmps110
 go_wp2
 go_loopw [3] (fun v wr => ∃ k : Nat, k ≤ l.length ∧ v = .int .i64 k ∧ Below w.heap.size w wr ∧ Hid (∀ i, i < k → qp3 l i = false)) (fun v _ => l.length - (intOf v).toNat)
 case atStart => exact ⟨0, Nat.zero_le _, rfl, Below.refl _ _, hid (fun i h => absurd h (by omega))⟩
 case round =>
  obtain ⟨k, hk, rfl, hb, hgood⟩ := hrel
  by_cases hlt : k < l.length
  ·obtain ⟨g, o, hA, hF, g0, g1, hi, hj⟩ := HC.out k hlt
   cases hA
   have hbb : g < wr.heap.size := Nat.lt_of_lt_of_le hF hb.size
   have g0' := cell_below hb hF g0
   have g1' := cell_below hb hF g1
   clear g0 g1
   by_cases hk0 : 0 < k
   ·obtain ⟨g2, o2, hA2, hF2, g2c, g3c, hi2, hj2⟩ := HC.out (k-1) (by omega)
    cases hA2
    have g2' := cell_below hb hF2 g2c
    clear g2c g3c
    go_wp2
    by_cases c1 : l[k].unit < 0
    ·go_quiet (fail)
     go_wp2
     go_ret
     exact ⟨qc8 hlt (qe3 hlt (by omega)), below_drewN (hb.alloc hb.size _) _⟩
    ·by_cases c2 : 48 ≤ l[k].unit
     ·go_quiet (fail)
      go_wp2
      go_ret
      exact ⟨qc8 hlt (qe3 hlt (by omega)), below_drewN (hb.alloc hb.size _) _⟩
     ·by_cases c3 : l[k].mask < 1
      ·go_quiet (fail)
       go_wp2
       go_ret
       exact ⟨qc8 hlt (qe3 hlt (by omega)), below_drewN (hb.alloc hb.size _) _⟩
      ·by_cases c4 : 131072 ≤ l[k].mask
       ·go_quiet (fail)
        go_wp2
        go_ret
        exact ⟨qc8 hlt (qe3 hlt (by omega)), below_drewN (hb.alloc hb.size _) _⟩
       ·by_cases c5 : l[k].unit ≤ l[k-1].unit
        ·go_quiet (fail)
         go_wp2
         go_ret
         exact ⟨qc8 hlt (qe3 hlt (by omega)), below_drewN (hb.alloc hb.size _) _⟩
        ·go_quiet (fail)
         go_wp2
         go_roundw
         case rel => exact ⟨k + 1, by omega, by go_num, below_drewN (hb.alloc hb.size _) _, hid (fun i hi => if e : i = k then by subst e; exact qr5 hlt (by omega) else hgood.out i (by omega))⟩
         case measure => simp [intOf]; omega
   ·go_wp2
    by_cases c1 : l[k].unit < 0
    ·go_quiet (fail)
     go_wp2
     go_ret
     exact ⟨qc8 hlt (qe3 hlt (by omega)), below_drewN (hb.alloc hb.size _) _⟩
    ·by_cases c2 : 48 ≤ l[k].unit
     ·go_quiet (fail)
      go_wp2
      go_ret
      exact ⟨qc8 hlt (qe3 hlt (by omega)), below_drewN (hb.alloc hb.size _) _⟩
     ·by_cases c3 : l[k].mask < 1
      ·go_quiet (fail)
       go_wp2
       go_ret
       exact ⟨qc8 hlt (qe3 hlt (by omega)), below_drewN (hb.alloc hb.size _) _⟩
      ·by_cases c4 : 131072 ≤ l[k].mask
       ·go_quiet (fail)
        go_wp2
        go_ret
        exact ⟨qc8 hlt (qe3 hlt (by omega)), below_drewN (hb.alloc hb.size _) _⟩
       ·go_quiet (fail)
        go_wp2
        go_roundw
        case rel => exact ⟨k + 1, by omega, by go_num, below_drewN (hb.alloc hb.size _) _, hid (fun i hi => if e : i = k then by subst e; exact qr5 hlt (by omega) else hgood.out i (by omega))⟩
        case measure => simp [intOf]; omega
  ·go_wp2
   go_ret
   exact ⟨zb1 (fun i hi => hgood.out i (by omega)), hb⟩
end
section
set_option maxHeartbeats 400000 in
theorem terms_any (v : Value) (l : List Term) (w : World) (h : SliceRd qg1 w (Lt w.heap.size) v l) :
  Calls Tryz.prog 107 #[v] w fun e w' => e = .returned (.bool (qk8 l)) ∧ Below w.heap.size w w' := by
 obtain ⟨A, cap, rfl, hcap, hmax, hc⟩ := h.terms
 unfold maxLen at hmax
 have HC := hid hc
 clear hc h
 go_enter Tryz.func107, Tryz.ntmps107
 go_wp2
 go_loopw [7] (fun v wr => ∃ k : Nat, k ≤ l.length ∧ v = .int .i64 k ∧ Below w.heap.size w wr ∧ Hid (∀ i, i < k → qp3 l i = false)) (fun v _ => l.length - (intOf v).toNat)
 case atStart => exact ⟨0, Nat.zero_le _, rfl, Below.refl _ _, hid (fun i h => absurd h (by omega))⟩
 case round =>
  obtain ⟨k, hk, rfl, hb, hgood⟩ := hrel
  by_cases hlt : k < l.length
  ·obtain ⟨g, o, hA, hF, g0, g1, hi, hj⟩ := HC.out k hlt
   cases hA
   have hbb : g < wr.heap.size := Nat.lt_of_lt_of_le hF hb.size
   have g0' := cell_below hb hF g0
   have g1' := cell_below hb hF g1
   clear g0 g1
   by_cases hk0 : 0 < k
   ·obtain ⟨g2, o2, hA2, hF2, g2c, g3c, hi2, hj2⟩ := HC.out (k-1) (by omega)
    cases hA2
    have g2' := cell_below hb hF2 g2c
    clear g2c g3c
    go_wp2
    by_cases c1 : l[k].unit < 0
    ·go_quiet (fail)
     go_wp2
     go_ret
     exact ⟨qc8 hlt (qe3 hlt (by omega)), below_drewN (hb.alloc hb.size _) _⟩
    ·by_cases c2 : 48 ≤ l[k].unit
     ·go_quiet (fail)
      go_wp2
      go_ret
      exact ⟨qc8 hlt (qe3 hlt (by omega)), below_drewN (hb.alloc hb.size _) _⟩
     ·by_cases c3 : l[k].mask < 1
      ·go_quiet (fail)
       go_wp2
       go_ret
       exact ⟨qc8 hlt (qe3 hlt (by omega)), below_drewN (hb.alloc hb.size _) _⟩
      ·by_cases c4 : 131072 ≤ l[k].mask
       ·go_quiet (fail)
        go_wp2
        go_ret
        exact ⟨qc8 hlt (qe3 hlt (by omega)), below_drewN (hb.alloc hb.size _) _⟩
       ·by_cases c5 : l[k].unit ≤ l[k-1].unit
        ·go_quiet (fail)
         go_wp2
         go_ret
         exact ⟨qc8 hlt (qe3 hlt (by omega)), below_drewN (hb.alloc hb.size _) _⟩
        ·go_quiet (fail)
         go_wp2
         go_roundw
         case rel => exact ⟨k + 1, by omega, by go_num, below_drewN (hb.alloc hb.size _) _, hid (fun i hi => if e : i = k then by subst e; exact qr5 hlt (by omega) else hgood.out i (by omega))⟩
         case measure => simp [intOf]; omega
   ·go_wp2
    by_cases c1 : l[k].unit < 0
    ·go_quiet (fail)
     go_wp2
     go_ret
     exact ⟨qc8 hlt (qe3 hlt (by omega)), below_drewN (hb.alloc hb.size _) _⟩
    ·by_cases c2 : 48 ≤ l[k].unit
     ·go_quiet (fail)
      go_wp2
      go_ret
      exact ⟨qc8 hlt (qe3 hlt (by omega)), below_drewN (hb.alloc hb.size _) _⟩
     ·by_cases c3 : l[k].mask < 1
      ·go_quiet (fail)
       go_wp2
       go_ret
       exact ⟨qc8 hlt (qe3 hlt (by omega)), below_drewN (hb.alloc hb.size _) _⟩
      ·by_cases c4 : 131072 ≤ l[k].mask
       ·go_quiet (fail)
        go_wp2
        go_ret
        exact ⟨qc8 hlt (qe3 hlt (by omega)), below_drewN (hb.alloc hb.size _) _⟩
       ·go_quiet (fail)
        go_wp2
        go_roundw
        case rel => exact ⟨k + 1, by omega, by go_num, below_drewN (hb.alloc hb.size _) _, hid (fun i hi => if e : i = k then by subst e; exact qr5 hlt (by omega) else hgood.out i (by omega))⟩
        case measure => simp [intOf]; omega
  ·go_wp2
   go_ret
   exact ⟨zb1 (fun i hi => hgood.out i (by omega)), hb⟩
end
section
def qn3 (r : Row) (n : Nat) : Prop :=
  1 ≤ r.kind ∧ r.kind ≤ 5 ∧ 0 ≤ r.unit ∧ r.unit < 48 ∧ qk8 r.terms = true ∧
  (r.kind = 5 → 0 ≤ r.a ∧ r.a < n ∧ 0 ≤ r.b ∧ r.b < n) ∧ (r.kind ≠ 5 → r.a = 0 ∧ r.b = 0) ∧ (r.kind = 1 → r.unit = 0) ∧
  (r.kind = 4 → r.terms.length = 0 ∨ (r.terms.length = 1 ∧ (r.terms.headD default).unit = r.unit))
instance (r : Row) (n : Nat) : Decidable (qn3 r n) := by unfold qn3; infer_instance
def qv8 (r : Row) (n : Nat) (len : Nat) : Prop := qn3 r n ∧ (r.terms.length = 0 ↔ n + 1 = len)
instance (r : Row) (n len : Nat) : Decidable (qv8 r n len) := by unfold qv8; infer_instance
theorem zn2 {l : List Term} (h : l.length = 1) : (l.headD default).unit = (l[0]'(by omega)).unit := by
  match l, h with
  | [x], _ => rfl
set_option maxHeartbeats 1000000 in
theorem fits_any (v : Value) (l : List Row) (k : Nat) (w : World) (h : SliceRd tRow w (Lt w.heap.size) v l) (hk : k < l.length) :
    Calls Tryz.prog 64 #[v, .int .i64 k] w fun e w' => e = .returned (.bool (decide (qv8 l[k] k l.length))) ∧ Below w.heap.size w w' := by
  obtain ⟨A, cap, rfl, hcap, hmax, hc⟩ := h.rows
  unfold maxLen at hmax
  obtain ⟨g, o, tv, hA, hF, g0, g1, g2, g3, g4, ⟨i0, i1, i2, i3⟩, ht⟩ := hc k hk
  cases hA
  clear hc h
  obtain ⟨TA, tcap, rfl, htcap, htmax, htc⟩ := ht.terms
  have HT := hid ht
  have HC := hid htc
  clear ht htc
  have hgl : g < w.heap.size := hF
  generalize l[k] = r at *
  go_enter Tryz.func64, Tryz.ntmps64
  go_wp2_with (go_at_call 107; refine (terms_any _ _ _ (by exact HT.out.lift (by go_grown) (by simp))).mono ?_; rintro e w1 ⟨rfl, hb1⟩; obtain ⟨hbc, hbf⟩ := qb4 hb1; have hz : w.heap.size < w1.heap.size := by have := hb1.size; simp at this; omega)
  all_goals try go_ret
  all_goals try (refine ⟨qa4 (Bool.eq_iff_iff.2 ?_), ?_⟩)
  all_goals try first
    | (with_reducible exact (Below.refl _ _).alloc (Nat.le_refl _) _)
    | (exact ((Below.refl _ _).alloc (Nat.le_refl _) _).trans (hb1.mono (by simp)))
    | (clear HT HC g0 g1 g2 g3 g4; (try clear hbc hbf hb1); grind [qv8, qn3])
  rcases Bool.eq_false_or_eq_true (r.a == 0) with c3 | c3
  · rcases Bool.eq_false_or_eq_true (r.b == 0) with c4 | c4
    · rcases Bool.eq_false_or_eq_true ((r.terms.length : Int) == 0) with c2 | c2
      · go_quiet (fail)
        go_wp2
        go_ret
        refine ⟨qa4 (Bool.eq_iff_iff.2 ?_), below_drewN (((Below.refl _ _).alloc (Nat.le_refl _) _).trans (hb1.mono (by simp))) _⟩
        clear HT HC g0 g1 g2 g3 g4 hbc hbf hb1
        grind [qv8, qn3]
      · rcases Bool.eq_false_or_eq_true ((r.terms.length : Int) == 1) with c1 | c1
        · have h0l : 0 < r.terms.length := by have : ((r.terms.length : Int) == 1) = true := by assumption
                                              simp at this; omega
          obtain ⟨gt, ot, hTA, hFt, t0, t1, _, _⟩ := HC.out 0 h0l
          cases hTA
          have HL : Hid (r.terms.length = 1) := by have : ((r.terms.length : Int) == 1) = true := by assumption
                                                   simp at this; exact hid (by omega)
          have HH := hid (zn2 HL.out)
          have hgt : gt < w.heap.size := hFt
          simp only [Nat.zero_mul, Nat.add_zero] at t0
          go_quiet (fail)
          go_wp2
          go_ret
          refine ⟨qa4 (Bool.eq_iff_iff.2 ?_), below_drewN (((Below.refl _ _).alloc (Nat.le_refl _) _).trans (hb1.mono (by simp))) _⟩
          have e1 := HH.out
          have e2 := HL.out
          clear HT HC g0 g1 g2 g3 g4 hbc hbf hb1
          grind [qv8, qn3]
        · go_quiet (fail)
          go_wp2
          go_ret
          refine ⟨qa4 (Bool.eq_iff_iff.2 ?_), below_drewN (((Below.refl _ _).alloc (Nat.le_refl _) _).trans (hb1.mono (by simp))) _⟩
          clear HT HC g0 g1 g2 g3 g4 hbc hbf hb1
          grind [qv8, qn3]
    · go_quiet (fail)
      go_wp2
      go_ret
      refine ⟨qa4 (Bool.eq_iff_iff.2 ?_), below_drewN (((Below.refl _ _).alloc (Nat.le_refl _) _).trans (hb1.mono (by simp))) _⟩
      clear HT HC g0 g1 g2 g3 g4 hbc hbf hb1
      grind [qv8, qn3]
  · go_quiet (fail)
    go_wp2
    go_ret
    refine ⟨qa4 (Bool.eq_iff_iff.2 ?_), below_drewN (((Below.refl _ _).alloc (Nat.le_refl _) _).trans (hb1.mono (by simp))) _⟩
    clear HT HC g0 g1 g2 g3 g4 hbc hbf hb1
    grind [qv8, qn3]
end
section
def MayP (l : List Row) : Prop := 1 ≤ l.length ∧ l.length ≤ 20000 ∧ ∀ i, (h : i < l.length) → qv8 l[i] i l.length
instance (l : List Row) : Decidable (MayP l) := by unfold MayP; infer_instance
set_option maxHeartbeats 400000 in
theorem may_any (v : Value) (l : List Row) (w : World) (h : SliceRd tRow w (Lt w.heap.size) v l) :
  Calls Tryz.prog 32 #[v] w fun e w' => e = .returned (.bool (decide (MayP l))) ∧ Below w.heap.size w w' := by
 have HH := hid h
 obtain ⟨A, cap, rfl, hcap, hmax, -⟩ := h.rows
 unfold maxLen at hmax
 clear h
 go_enter Tryz.func32, Tryz.ntmps32
 go_wp2
 go_loopw [6] (fun v wr => ∃ k : Nat, k ≤ l.length ∧ v = .int .i64 k ∧ Below w.heap.size w wr ∧ Hid (∀ i, (h : i < l.length) → i < k → qv8 l[i] i l.length)) (fun v _ => l.length - (intOf v).toNat)
 case atStart => exact ⟨0, Nat.zero_le _, rfl, Below.refl _ _, hid (fun i _ h => absurd h (by omega))⟩
 case round =>
  obtain ⟨k, hk, rfl, hb, hgood⟩ := hrel
  by_cases hlt : k < l.length
  ·go_wp2_with (go_at_call 64; refine (fits_any _ l k _ (HH.out.lift hb hb.size) hlt).mono ?_; rintro e w1 ⟨rfl, hb1⟩)
   ·go_ret
    refine ⟨qa4 ?_, hb.trans (hb1.mono hb.size)⟩
    symm
    refine decide_eq_false (fun hm => ?_)
    exact absurd (hm.2.2 k hlt) (not_dec_t (by assumption))
   ·go_roundw
    case rel => exact ⟨k + 1, by omega, by go_num, hb.trans (hb1.mono hb.size), hid (fun i hi hik => if e : i = k then by subst e; exact not_dec_f (by assumption) else hgood.out i hi (by omega))⟩
    case measure => simp [intOf]; omega
  ·have H : Hid (∀ i, (h : i < l.length) → qv8 l[i] i l.length) := hid (fun i hi => hgood.out i hi (by omega))
   go_wp2
   all_goals
    go_ret
    refine ⟨qa4 (Bool.eq_iff_iff.2 ?_), hb⟩
    have h2 := H.out
    clear H hgood HH
    simp only [decide_eq_true_eq, MayP]
    grind
end
section
set_option maxHeartbeats 1000000 in
theorem rowMay_any (tv : Value) (r : Row) (k : Nat) (w : World) (ht : SliceRd qg1 w (Lt w.heap.size) tv r.terms) :
    Calls Tryz.prog 74 #[.agg #[.int .i64 r.kind, .int .i64 r.unit, .int .i64 r.a, .int .i64 r.b, tv], .int .i64 k] w fun e w' => e = .returned (.bool (decide (qn3 r k))) ∧ Below w.heap.size w w' := by
  obtain ⟨TA, tcap, rfl, htcap, htmax, htc⟩ := ht.terms
  have HT := hid ht
  have HC := hid htc
  clear ht htc
  go_enter Tryz.func74, Tryz.ntmps74
  go_wp2_with (go_at_call 110; refine (termsMay_any _ _ _ (by exact HT.out.lift (by go_grown) (by simp))).mono ?_; rintro e w1 ⟨rfl, hb1⟩; obtain ⟨hbc, hbf⟩ := qb4 hb1; have hz : w.heap.size < w1.heap.size := by have := hb1.size; simp at this; omega)
  all_goals try go_ret
  all_goals try (refine ⟨qa4 (Bool.eq_iff_iff.2 ?_), ?_⟩)
  all_goals try first
    | (with_reducible exact (Below.refl _ _).alloc (Nat.le_refl _) _)
    | (exact ((Below.refl _ _).alloc (Nat.le_refl _) _).trans (hb1.mono (by simp)))
    | (clear HT HC; (try clear hbc hbf hb1); grind [qn3])
  all_goals
    rcases Bool.eq_false_or_eq_true (r.kind != 4) with c3 | c3
    · go_quiet (fail)
      go_wp2
      go_ret
      refine ⟨qa4 (Bool.eq_iff_iff.2 ?_), below_drewN (((Below.refl _ _).alloc (Nat.le_refl _) _).trans (hb1.mono (by simp))) _⟩
      clear HT HC hbc hbf hb1
      grind [qn3]
    · rcases Bool.eq_false_or_eq_true ((r.terms.length : Int) == 0) with c2 | c2
      · go_quiet (fail)
        go_wp2
        go_ret
        refine ⟨qa4 (Bool.eq_iff_iff.2 ?_), below_drewN (((Below.refl _ _).alloc (Nat.le_refl _) _).trans (hb1.mono (by simp))) _⟩
        clear HT HC hbc hbf hb1
        grind [qn3]
      · rcases Bool.eq_false_or_eq_true ((r.terms.length : Int) == 1) with c1 | c1
        · have h0l : 0 < r.terms.length := by have : ((r.terms.length : Int) == 1) = true := by assumption
                                              simp at this; omega
          obtain ⟨gt, ot, hTA, hFt, t0, t1, _, _⟩ := HC.out 0 h0l
          cases hTA
          have HL : Hid (r.terms.length = 1) := by have : ((r.terms.length : Int) == 1) = true := by assumption
                                                   simp at this; exact hid (by omega)
          have HH := hid (zn2 HL.out)
          have hgt : gt < w.heap.size := hFt
          simp only [Nat.zero_mul, Nat.add_zero] at t0
          go_quiet (fail)
          go_wp2
          go_ret
          refine ⟨qa4 (Bool.eq_iff_iff.2 ?_), below_drewN (((Below.refl _ _).alloc (Nat.le_refl _) _).trans (hb1.mono (by simp))) _⟩
          have e1 := HH.out
          have e2 := HL.out
          clear HT HC hbc hbf hb1
          grind [qn3]
        · go_quiet (fail)
          go_wp2
          go_ret
          refine ⟨qa4 (Bool.eq_iff_iff.2 ?_), below_drewN (((Below.refl _ _).alloc (Nat.le_refl _) _).trans (hb1.mono (by simp))) _⟩
          clear HT HC hbc hbf hb1
          grind [qn3]
set_option maxHeartbeats 400000 in
theorem rmay_any (v : Value) (l : List Row) (w : World) (h : SliceRd tRow w (Lt w.heap.size) v l) :
    Calls Tryz.prog 36 #[v] w fun e w' => e = .returned (.bool (decide (MayP l))) ∧ Below w.heap.size w w' := by
  have HH := hid h
  obtain ⟨A, cap, rfl, hcap, hmax, hc⟩ := h.rows
  have HC := hid hc
  unfold maxLen at hmax
  clear h hc
  go_enter Tryz.func36, Tryz.ntmps36
  by_cases h1 : l.length < 1
  · go_wp2
    go_ret
    exact ⟨qa4 (decide_eq_false (fun hm => by have := hm.1; omega)).symm, Below.refl _ _⟩
  · by_cases h2 : 20000 < l.length
    · go_wp2
      go_ret
      exact ⟨qa4 (decide_eq_false (fun hm => by have := hm.2.1; omega)).symm, Below.refl _ _⟩
    · go_wp2
      go_loopw [3] (fun v wr => ∃ k : Nat, k ≤ l.length ∧ v = .int .i64 k ∧ Below w.heap.size w wr ∧ Hid (∀ i, (h : i < l.length) → i < k → qv8 l[i] i l.length)) (fun v _ => l.length - (intOf v).toNat)
      case atStart => exact ⟨0, Nat.zero_le _, rfl, Below.refl _ _, hid (fun i _ h => absurd h (by omega))⟩
      case round =>
        obtain ⟨k, hk, rfl, hb, hgood⟩ := hrel
        by_cases hlt : k < l.length
        · obtain ⟨g, o, tv, hA, hF, g0, g1, g2, g3, g4, ⟨i0, i1, i2, i3⟩, ht⟩ := HC.out k hlt
          cases hA
          have c0 := cell_below hb hF g0
          have c1 := cell_below hb hF g1
          have c2 := cell_below hb hF g2
          have c3 := cell_below hb hF g3
          have c4 := cell_below hb hF g4
          have HT := hid ht
          clear g0 g1 g2 g3 g4 ht
          have hbb : g < wr.heap.size := Nat.lt_of_lt_of_le hF hb.size
          obtain ⟨TA, tcap, rfl, htcap, htmax, -⟩ := HT.out.terms
          have HRO : Hid (SliceRd qg1 wr (Lt wr.heap.size) (.slice TA l[k].terms.length tcap) l[k].terms) := hid (HT.out.lift hb hb.size)
          go_wp2_with (go_at_call 74; refine (rowMay_any _ l[k] k _ HRO.out).mono ?_; rintro e w1 ⟨rfl, hb1⟩; obtain ⟨hbc, hbf⟩ := qb4 hb1)
          all_goals have hB := hb.trans (hb1.mono hb.size)
          all_goals first
            | (go_ret
               refine ⟨qa4 (decide_eq_false (fun hm => ?_)).symm, hB⟩
               have h2 := hm.2.2 k hlt
               clear hm hgood HC HT HRO hbc hbf HH
               unfold qv8 at h2
               grind)
            | (go_roundw
               case rel => exact ⟨k + 1, by omega, by go_num, hB, hid (fun i hi hik => if e : i = k then by subst e; clear hgood HC HT HRO hbc hbf HH; unfold qv8; grind else hgood.out i hi (by omega))⟩
               case measure => simp [intOf]; omega)
        · have H : Hid (∀ i, (h : i < l.length) → qv8 l[i] i l.length) := hid (fun i hi => hgood.out i hi (by omega))
          go_wp2
          go_ret
          refine ⟨qa4 (Bool.eq_iff_iff.2 ?_), hb⟩
          have h2 := H.out
          clear H hgood HH
          simp only [MayP]
          grind
end
end Go.Proofs.YtbfbppjccbppiaaGreatDoor
