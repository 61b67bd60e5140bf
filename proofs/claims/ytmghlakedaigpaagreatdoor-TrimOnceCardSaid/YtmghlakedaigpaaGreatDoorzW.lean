import Derived.Test.YtmghlakedaigpaaGreatDoorRows
import Derived.Test.YtmghlakedaigpaaGreatDoorzA
import Derived.Lib.AppendStr
import Derived.Lib.UnsafeStr
import Derived.Lib.OthersKept
import Derived.MapKept
import Derived.Lib.ItoaLen
import Derived.Lib.BufferRead
import Derived.Laws.IdiomStrings
section
namespace Go.Proofs.YtmghlakedaigpaaGreatDoor
open Go Go.RowKit

/-- May term number k of l be? -/
def termBad (l : List Term) (k : Nat) : Bool :=
  decide (l[k]!.unit < 0) || decide (48 ≤ l[k]!.unit) || decide (l[k]!.mask < 1) || decide (131072 ≤ l[k]!.mask) || (decide (0 < k) && decide (l[k]!.unit ≤ l[k-1]!.unit))
def termsMayF (l : List Term) : Bool := (List.range l.length).all fun k => !termBad l k
theorem termsMay_bad {l : List Term} {k : Nat} (hk : k < l.length) (h : termBad l k = true) : Ending.returned (.bool false) = .returned (.bool (termsMayF l)) := by
  have : termsMayF l = false := by
    unfold termsMayF
    rw [List.all_eq_false]
    exact ⟨k, List.mem_range.2 hk, by simp [h]⟩
  rw [this]
theorem termsMay_good {l : List Term} (h : ∀ k, k < l.length → termBad l k = false) : Ending.returned (.bool true) = .returned (.bool (termsMayF l)) := by
  have : termsMayF l = true := by
    unfold termsMayF
    rw [List.all_eq_true]
    intro k hk
    simp [h k (List.mem_range.1 hk)]
  rw [this]
theorem termBad_of {l : List Term} {k : Nat} (hk : k < l.length) (h : l[k].unit < 0 ∨ 48 ≤ l[k].unit ∨ l[k].mask < 1 ∨ 131072 ≤ l[k].mask ∨ (0 < k ∧ l[k].unit ≤ l[k-1].unit)) : termBad l k = true := by
  unfold termBad
  rw [getElem!_pos l k hk, getElem!_pos l (k-1) (by omega)]
  simp only [Bool.or_eq_true, decide_eq_true_eq, Bool.and_eq_true]
  omega
theorem termBad_not {l : List Term} {k : Nat} (hk : k < l.length) (h : ¬ (l[k].unit < 0 ∨ 48 ≤ l[k].unit ∨ l[k].mask < 1 ∨ 131072 ≤ l[k].mask ∨ (0 < k ∧ l[k].unit ≤ l[k-1].unit))) : termBad l k = false := by
  cases hb : termBad l k with
  | false => rfl
  | true =>
    unfold termBad at hb
    rw [getElem!_pos l k hk, getElem!_pos l (k-1) (by omega)] at hb
    simp only [Bool.or_eq_true, decide_eq_true_eq, Bool.and_eq_true] at hb
    omega

end Go.Proofs.YtmghlakedaigpaaGreatDoor
end
section
/- Contracts: proof.terms. -/
namespace Go.Proofs.YtmghlakedaigpaaGreatDoor
open Go Go.RowKit

set_option maxHeartbeats 400000 in
theorem terms_any (v : Value) (l : List Term) (w : World) (h : SliceRd tTerm w (Lt w.heap.size) v l) :
    Calls Tryz.prog 59 #[v] w fun e w' => e = .returned (.bool (termsMayF l)) ∧ Below w.heap.size w w' := by
  obtain ⟨A, cap, rfl, hcap, hmax, hc⟩ := h.terms
  unfold maxLen at hmax
  have HC := hid hc
  clear hc h
  go_enter Tryz.func59, Tryz.ntmps59
  go_wp2
  go_loopw [7] (fun v wr => ∃ k : Nat, k ≤ l.length ∧ v = .int .i64 k ∧ Below w.heap.size w wr ∧ Hid (∀ i, i < k → termBad l i = false)) (fun v _ => l.length - (intOf v).toNat)
  case atStart => exact ⟨0, Nat.zero_le _, rfl, Below.refl _ _, hid (fun i h => absurd h (by omega))⟩
  case round =>
    obtain ⟨k, hk, rfl, hb, hgood⟩ := hrel
    by_cases hlt : k < l.length
    · obtain ⟨g, o, hA, hF, g0, g1, hi, hj⟩ := HC.out k hlt
      cases hA
      have hbb : g < wr.heap.size := Nat.lt_of_lt_of_le hF hb.size
      have g0' := cell_below hb hF g0
      have g1' := cell_below hb hF g1
      clear g0 g1
      by_cases hk0 : 0 < k
      · obtain ⟨g2, o2, hA2, hF2, g2c, g3c, hi2, hj2⟩ := HC.out (k-1) (by omega)
        cases hA2
        have g2' := cell_below hb hF2 g2c
        clear g2c g3c
        go_wp2
        by_cases c1 : l[k].unit < 0
        · go_quiet (fail)
          go_wp2
          go_ret
          exact ⟨termsMay_bad hlt (termBad_of hlt (by omega)), below_drewN (hb.alloc hb.size _) _⟩
        · by_cases c2 : 48 ≤ l[k].unit
          · go_quiet (fail)
            go_wp2
            go_ret
            exact ⟨termsMay_bad hlt (termBad_of hlt (by omega)), below_drewN (hb.alloc hb.size _) _⟩
          · by_cases c3 : l[k].mask < 1
            · go_quiet (fail)
              go_wp2
              go_ret
              exact ⟨termsMay_bad hlt (termBad_of hlt (by omega)), below_drewN (hb.alloc hb.size _) _⟩
            · by_cases c4 : 131072 ≤ l[k].mask
              · go_quiet (fail)
                go_wp2
                go_ret
                exact ⟨termsMay_bad hlt (termBad_of hlt (by omega)), below_drewN (hb.alloc hb.size _) _⟩
              · by_cases c5 : l[k].unit ≤ l[k-1].unit
                · go_quiet (fail)
                  go_wp2
                  go_ret
                  exact ⟨termsMay_bad hlt (termBad_of hlt (by omega)), below_drewN (hb.alloc hb.size _) _⟩
                · go_quiet (fail)
                  go_wp2
                  go_roundw
                  case rel => exact ⟨k + 1, by omega, by go_num, below_drewN (hb.alloc hb.size _) _, hid (fun i hi => if e : i = k then by subst e; exact termBad_not hlt (by omega) else hgood.out i (by omega))⟩
                  case measure => simp [intOf]; omega
      · go_wp2
        by_cases c1 : l[k].unit < 0
        · go_quiet (fail)
          go_wp2
          go_ret
          exact ⟨termsMay_bad hlt (termBad_of hlt (by omega)), below_drewN (hb.alloc hb.size _) _⟩
        · by_cases c2 : 48 ≤ l[k].unit
          · go_quiet (fail)
            go_wp2
            go_ret
            exact ⟨termsMay_bad hlt (termBad_of hlt (by omega)), below_drewN (hb.alloc hb.size _) _⟩
          · by_cases c3 : l[k].mask < 1
            · go_quiet (fail)
              go_wp2
              go_ret
              exact ⟨termsMay_bad hlt (termBad_of hlt (by omega)), below_drewN (hb.alloc hb.size _) _⟩
            · by_cases c4 : 131072 ≤ l[k].mask
              · go_quiet (fail)
                go_wp2
                go_ret
                exact ⟨termsMay_bad hlt (termBad_of hlt (by omega)), below_drewN (hb.alloc hb.size _) _⟩
              · go_quiet (fail)
                go_wp2
                go_roundw
                case rel => exact ⟨k + 1, by omega, by go_num, below_drewN (hb.alloc hb.size _) _, hid (fun i hi => if e : i = k then by subst e; exact termBad_not hlt (by omega) else hgood.out i (by omega))⟩
                case measure => simp [intOf]; omega
    · go_wp2
      go_ret
      exact ⟨termsMay_good (fun i hi => hgood.out i (by omega)), hb⟩
end Go.Proofs.YtmghlakedaigpaaGreatDoor
end
section
/- Contracts: proof.fits. -/
namespace Go.Proofs.YtmghlakedaigpaaGreatDoor
open Go Go.RowKit

/-- May a row be at a place? -/
def RowOkW (r : Row) (n : Nat) : Prop :=
  1 ≤ r.kind ∧ r.kind ≤ 5 ∧ 0 ≤ r.unit ∧ r.unit < 48 ∧ termsMayF r.terms = true ∧
  (r.kind = 5 → 0 ≤ r.a ∧ r.a < n ∧ 0 ≤ r.b ∧ r.b < n) ∧ (r.kind ≠ 5 → r.a = 0 ∧ r.b = 0) ∧ (r.kind = 1 → r.unit = 0) ∧
  (r.kind = 4 → r.terms.length = 0 ∨ (r.terms.length = 1 ∧ (r.terms.headD default).unit = r.unit))
instance (r : Row) (n : Nat) : Decidable (RowOkW r n) := by unfold RowOkW; infer_instance
def FitsP (r : Row) (n : Nat) (len : Nat) : Prop := RowOkW r n ∧ (r.terms.length = 0 ↔ n + 1 = len)
instance (r : Row) (n len : Nat) : Decidable (FitsP r n len) := by unfold FitsP; infer_instance

theorem headD_unit {l : List Term} (h : l.length = 1) : (l.headD default).unit = (l[0]'(by omega)).unit := by
  match l, h with
  | [x], _ => rfl

set_option maxHeartbeats 1000000 in
theorem fits_any (v : Value) (l : List Row) (k : Nat) (w : World) (h : SliceRd tRow w (Lt w.heap.size) v l) (hk : k < l.length) :
    Calls Tryz.prog 40 #[v, .int .i64 k] w fun e w' => e = .returned (.bool (decide (FitsP l[k] k l.length))) ∧ Below w.heap.size w w' := by
  obtain ⟨A, cap, rfl, hcap, hmax, hc⟩ := h.rows
  unfold maxLen at hmax
  obtain ⟨g, o, tv, hA, hF, g0, g1, g2, g3, g4, ⟨i0, i1, i2, i3⟩, ht⟩ := hc k hk
  cases hA
  clear hc h
  obtain ⟨TA, tcap, rfl, htcap, htmax, htc⟩ := ht.terms
  have HT := hid ht
  have HC := hid htc
  clear ht htc
  have hgl : g < w.heap.size := hF
  generalize l[k] = r at *
  go_enter Tryz.func40, Tryz.ntmps40
  go_wp2_with (go_at_call 59; refine (terms_any _ _ _ (by exact HT.out.lift (by go_grown) (by simp))).mono ?_; rintro e w1 ⟨rfl, hb1⟩; obtain ⟨hbc, hbf⟩ := bcell hb1; have hz : w.heap.size < w1.heap.size := by have := hb1.size; simp at this; omega)
  all_goals try go_ret
  all_goals try (refine ⟨ret_bool (Bool.eq_iff_iff.2 ?_), ?_⟩)
  all_goals try first
    | (with_reducible exact (Below.refl _ _).alloc (Nat.le_refl _) _)
    | (exact ((Below.refl _ _).alloc (Nat.le_refl _) _).trans (hb1.mono (by simp)))
    | (clear HT HC g0 g1 g2 g3 g4; (try clear hbc hbf hb1); grind [FitsP, RowOkW])
  rcases Bool.eq_false_or_eq_true (r.a == 0) with c3 | c3
  · rcases Bool.eq_false_or_eq_true (r.b == 0) with c4 | c4
    · rcases Bool.eq_false_or_eq_true ((r.terms.length : Int) == 0) with c2 | c2
      · go_quiet (fail)
        go_wp2
        go_ret
        refine ⟨ret_bool (Bool.eq_iff_iff.2 ?_), below_drewN (((Below.refl _ _).alloc (Nat.le_refl _) _).trans (hb1.mono (by simp))) _⟩
        clear HT HC g0 g1 g2 g3 g4 hbc hbf hb1
        grind [FitsP, RowOkW]
      · rcases Bool.eq_false_or_eq_true ((r.terms.length : Int) == 1) with c1 | c1
        · have h0l : 0 < r.terms.length := by have : ((r.terms.length : Int) == 1) = true := by assumption
                                              simp at this; omega
          obtain ⟨gt, ot, hTA, hFt, t0, t1, _, _⟩ := HC.out 0 h0l
          cases hTA
          have HL : Hid (r.terms.length = 1) := by have : ((r.terms.length : Int) == 1) = true := by assumption
                                                   simp at this; exact hid (by omega)
          have HH := hid (headD_unit HL.out)
          have hgt : gt < w.heap.size := hFt
          simp only [Nat.zero_mul, Nat.add_zero] at t0
          go_quiet (fail)
          go_wp2
          go_ret
          refine ⟨ret_bool (Bool.eq_iff_iff.2 ?_), below_drewN (((Below.refl _ _).alloc (Nat.le_refl _) _).trans (hb1.mono (by simp))) _⟩
          have e1 := HH.out
          have e2 := HL.out
          clear HT HC g0 g1 g2 g3 g4 hbc hbf hb1
          grind [FitsP, RowOkW]
        · go_quiet (fail)
          go_wp2
          go_ret
          refine ⟨ret_bool (Bool.eq_iff_iff.2 ?_), below_drewN (((Below.refl _ _).alloc (Nat.le_refl _) _).trans (hb1.mono (by simp))) _⟩
          clear HT HC g0 g1 g2 g3 g4 hbc hbf hb1
          grind [FitsP, RowOkW]
    · go_quiet (fail)
      go_wp2
      go_ret
      refine ⟨ret_bool (Bool.eq_iff_iff.2 ?_), below_drewN (((Below.refl _ _).alloc (Nat.le_refl _) _).trans (hb1.mono (by simp))) _⟩
      clear HT HC g0 g1 g2 g3 g4 hbc hbf hb1
      grind [FitsP, RowOkW]
  · go_quiet (fail)
    go_wp2
    go_ret
    refine ⟨ret_bool (Bool.eq_iff_iff.2 ?_), below_drewN (((Below.refl _ _).alloc (Nat.le_refl _) _).trans (hb1.mono (by simp))) _⟩
    clear HT HC g0 g1 g2 g3 g4 hbc hbf hb1
    grind [FitsP, RowOkW]
end Go.Proofs.YtmghlakedaigpaaGreatDoor
end
section
/- Contracts: proof.May. -/
namespace Go.Proofs.YtmghlakedaigpaaGreatDoor
open Go Go.RowKit

/-- May rows be? -/
def MayP (l : List Row) : Prop := 1 ≤ l.length ∧ l.length ≤ 20000 ∧ ∀ i, (h : i < l.length) → FitsP l[i] i l.length
instance (l : List Row) : Decidable (MayP l) := by unfold MayP; infer_instance

set_option maxHeartbeats 400000 in
theorem may_any (v : Value) (l : List Row) (w : World) (h : SliceRd tRow w (Lt w.heap.size) v l) :
    Calls Tryz.prog 25 #[v] w fun e w' => e = .returned (.bool (decide (MayP l))) ∧ Below w.heap.size w w' := by
  have HH := hid h
  obtain ⟨A, cap, rfl, hcap, hmax, -⟩ := h.rows
  unfold maxLen at hmax
  clear h
  go_enter Tryz.func25, Tryz.ntmps25
  go_wp2
  go_loopw [6] (fun v wr => ∃ k : Nat, k ≤ l.length ∧ v = .int .i64 k ∧ Below w.heap.size w wr ∧ Hid (∀ i, (h : i < l.length) → i < k → FitsP l[i] i l.length)) (fun v _ => l.length - (intOf v).toNat)
  case atStart => exact ⟨0, Nat.zero_le _, rfl, Below.refl _ _, hid (fun i _ h => absurd h (by omega))⟩
  case round =>
    obtain ⟨k, hk, rfl, hb, hgood⟩ := hrel
    by_cases hlt : k < l.length
    · go_wp2_with (go_at_call 40; refine (fits_any _ l k _ (HH.out.lift hb hb.size) hlt).mono ?_; rintro e w1 ⟨rfl, hb1⟩)
      · go_ret
        refine ⟨ret_bool ?_, hb.trans (hb1.mono hb.size)⟩
        symm
        refine decide_eq_false (fun hm => ?_)
        exact absurd (hm.2.2 k hlt) (not_dec_t (by assumption))
      · go_roundw
        case rel => exact ⟨k + 1, by omega, by go_num, hb.trans (hb1.mono hb.size), hid (fun i hi hik => if e : i = k then by subst e; exact not_dec_f (by assumption) else hgood.out i hi (by omega))⟩
        case measure => simp [intOf]; omega
    · have H : Hid (∀ i, (h : i < l.length) → FitsP l[i] i l.length) := hid (fun i hi => hgood.out i hi (by omega))
      go_wp2
      all_goals
        go_ret
        refine ⟨ret_bool (Bool.eq_iff_iff.2 ?_), hb⟩
        have h2 := H.out
        clear H hgood HH
        simp only [decide_eq_true_eq, MayP]
        grind
end Go.Proofs.YtmghlakedaigpaaGreatDoor
end
section
/- A byte row that the call writes, bit by bit. No program stands here. -/
namespace Go.Proofs.YtmghlakedaigpaaGreatDoor
open Go Go.RowKit

/-- The bytes that the call has written, from 'w0' on; its own blocks begin at 'B'. -/
structure Wr (e : TypeId) (B : Nat) (w0 w : World) (v : Value) (s : List UInt8) : Prop where
  below : Below B w0 w
  kept : Lib.OthersKept e none w0 w
  own : w.ownsRow B e 1 v s.length (Lib.byteCells s)
  base : B ≤ w0.heap.size

theorem byteCells_append (s t : List UInt8) : Lib.byteCells (s ++ t) = Lib.byteCells s ++ Lib.byteCells t := by simp [Lib.byteCells]
theorem byteCells_length (s : List UInt8) : (Lib.byteCells s).length = s.length := by simp [Lib.byteCells]
theorem byteCells_one (s : List UInt8) : ∀ u ∈ Lib.byteCells s, u.oneCell' = true := by
  intro u hu
  simp only [Lib.byteCells, List.mem_map] at hu
  obtain ⟨b, _, rfl⟩ := hu
  rfl

variable {e : TypeId} {B : Nat} {w0 w w' : World} {v v' : Value} {s t : List UInt8}
theorem Wr.start (h : B ≤ w.heap.size) : Wr e B w w (.slice none 0 0) [] := ⟨Below.refl _ _, Lib.OthersKept.refl _ _ _, ⟨rfl, .inl ⟨rfl, rfl⟩⟩, h⟩
theorem Wr.size (h : Wr e B w0 w v s) : w0.heap.size ≤ w.heap.size ∧ B ≤ w.heap.size := ⟨h.below.size, Nat.le_trans h.base h.below.size⟩
theorem kept_alloc (e : TypeId) (w : World) (o : Obj) : Lib.OthersKept e none w (w.alloc o) := by
  intro k o' hk _ _
  have hlt : k < w.heap.size := (Array.getElem?_eq_some_iff.1 hk).1
  rw [Below.heap_alloc w o k hlt, hk]
theorem Wr.alloc (h : Wr e B w0 w v s) (o : Obj) : Wr e B w0 (w.alloc o) v s :=
  ⟨h.below.alloc (Nat.le_trans h.base h.below.size) _, h.kept.trans (kept_alloc _ _ _), h.own.alloc _, h.base⟩
theorem kept_drew (e : TypeId) (w : World) : Lib.OthersKept e none w w.drew := fun _ _ h _ _ => h
theorem Wr.drew (h : Wr e B w0 w v s) : Wr e B w0 w.drew v s :=
  ⟨h.below.drew, h.kept.trans (kept_drew _ _), h.own, h.base⟩
theorem kept_grown {n : Nat} {xs : List Value} (ho : w.ownsRow B e 1 v n xs) (hg : w.grownBy w' v.ownBlock) : Lib.OthersKept e none w w' := by
  intro k o hk _ hc
  refine (hg.block k (Array.getElem?_eq_some_iff.1 hk).1 ?_).trans hk
  intro he
  rcases ho.2 with ⟨rfl, _⟩ | ⟨g, cap, cur, rfl, hb, hgg, _⟩
  · cases he
  · injection he with he
    have hkg : k = g := he
    subst hkg
    rw [hgg] at hk
    injection hk with hk
    exact hc _ _ hk.symm
theorem Wr.grown (h : Wr e B w0 w v s) (hg : w.grownBy w' v.ownBlock) (ho : w'.ownsRow B e 1 v' (s.length + t.length) (Lib.byteCells s ++ Lib.byteCells t)) : Wr e B w0 w' v' (s ++ t) := by
  refine ⟨h.below.grown hg (Nat.le_trans h.base h.below.size) ?_, h.kept.trans (kept_grown h.own hg), ?_, h.base⟩
  · intro k hk
    rcases h.own.2 with ⟨rfl, _⟩ | ⟨g, cap, cur, rfl, hb, _⟩
    · cases hk
    · injection hk with hk
      exact hk ▸ hb
  · rw [List.length_append, byteCells_append]
    exact ho
theorem Wr.call (h : Wr e B w0 w v s) (hb : Below B w w') (hk : Lib.OthersKept e none w w') (ho : w'.ownsRow B e 1 v' (s.length + t.length) (Lib.byteCells s ++ Lib.byteCells t)) : Wr e B w0 w' v' (s ++ t) :=
  ⟨h.below.trans hb, h.kept.trans hk, by rw [List.length_append, byteCells_append]; exact ho, h.base⟩
theorem Wr.next (h : Wr e B w0 w v (s ++ t)) : ∃ S A c, v = .slice A S.length c ∧ Hid (S = s ++ t) ∧ S.length ≤ s.length + t.length ∧ Hid (Wr e B w0 w v S) := by
  obtain ⟨A, c, hv⟩ := own_form h.own
  exact ⟨s ++ t, A, c, hv, hid rfl, by simp, hid h⟩
/-- So much was written behind S. -/
def Grew (e : TypeId) (B : Nat) (w0 : World) (S t : List UInt8) (n : Nat) (v : Value) (w : World) : Prop := ∃ S' A c, v = .slice A S'.length c ∧ S' = S ++ t ∧ S'.length ≤ S.length + n ∧ Wr e B w0 w v S'
/-- A block that is no byte row stays. -/
theorem Wr.obj (h : Wr e B w0 w v s) {k : Nat} {o : Obj} (hk : w0.heap[k]? = some o) (ho : ∀ c fz, o ≠ .cells c e fz) : w.heap[k]? = some o := h.kept k o hk (by simp) ho
theorem Wr.comp {w1 : World} {o : Obj} (h : Wr e B w0 w v s) (h' : Wr e B w1 w' v' t) (hw : w1 = w.alloc o) : Wr e B w0 w' v' t := by
  subst hw
  exact ⟨((h.alloc o).below).trans h'.below, ((h.alloc o).kept).trans h'.kept, h'.own, h.base⟩
theorem two_cells {w : World} {b : Nat} {x y : Value} {eT : TypeId} (h : w.heap[b]? = some (.cells #[x, y] eT (0, 0))) : w.cell? ⟨b, 0, none⟩ = some x ∧ w.cell? ⟨b, 1, none⟩ = some y ∧ ∀ o, w.frozen? ⟨b, o, none⟩ = false := by
  refine ⟨?_, ?_, fun o => frozen_of_row w b o _ eT h⟩ <;> rw [cell_of_row w b _ _ eT (0, 0) h] <;> rfl
theorem own_lit {w : World} (b : UInt8) {c : Int} (hc : (b.toNat : Int) = c) : Src (w.alloc (.cells #[.int .u8 c] e)) (some ⟨w.heap.size, 0, none⟩) 1 1 (Lib.byteCells [b]) := by subst hc; exact src_new _ _ rfl 1 _ rfl rfl
end Go.Proofs.YtmghlakedaigpaaGreatDoor
end
section
/- A map that the call makes, as the walk meets it: an insertion of a new key, a look-up. No program stands here. -/
namespace Go.Proofs.YtmghlakedaigpaaGreatDoor
open Go Go.RowKit

theorem run_insert_new {P : Program} {w : World} {T kt et : TypeId} {d : TypeDesc} (hT : P.underlying T = some (.map kt et)) (hk : P.underlying kt = some d) (es : Array MapEntry) (clock : Nat) (key x : Value) (hkey : Go.MapKept.IsKey d key)
    (hf : Instr.findNow d key es.toList 0 = some none) :
    (Instr.mapUpdate T (.map (some w.heap.size)) key x).run P (w.alloc (.map es clock)) = .ok () (w.alloc (.map (es.push { key := key, val := x, born := clock }) (clock + 1))) := by
  have hb : (w.alloc (.map es clock)).heap[w.heap.size]? = some (.map es clock) := heap_alloc_new w _
  unfold Instr.mapUpdate
  simp only [Sem.run_bind, run_underlying hT, Result.andThen_ok, Go.MapKept.run_getObj_map hb, Go.MapKept.run_checkKey hk hkey false 9999, Go.MapKept.run_findKey hk hf, Go.MapKept.run_setObj_map _ hb]
  have e : ∀ (h : Array Obj) (x y : Obj), (h.push x).setIfInBounds h.size y = h.push y := by
    intro h x y
    apply Array.ext_getElem?
    intro i
    by_cases hi : i = h.size
    · subst hi; simp
    · simp [Array.getElem?_push, hi, Ne.symm hi]
  simp only [World.alloc, e]
theorem run_lookup_hit {P : Program} {w : World} {T kt et : TypeId} {d : TypeDesc} (hT : P.underlying T = some (.map kt et)) (hk : P.underlying kt = some d) {b : Nat} {es : Array MapEntry} {clock : Nat} (hb : w.heap[b]? = some (.map es clock)) (key : Value) (hkey : Go.MapKept.IsKey d key) {i : Nat} {v : Value}
    (hf : Instr.findNow d key es.toList 0 = some (some (i, v))) :
    (Instr.lookup T (.map (some b)) key false).run P w = .ok v w := by
  unfold Instr.lookup
  simp only [Sem.run_bind, run_underlying hT, Result.andThen_ok, Go.MapKept.run_getObj_map hb, Sem.run_pure, Go.MapKept.run_checkKey hk hkey _ 9999, Go.MapKept.run_findKey hk hf]
  rfl
end Go.Proofs.YtmghlakedaigpaaGreatDoor
end
section
/- What proof.Print prints; how long it is. No program stands here. -/
namespace Go.Proofs.YtmghlakedaigpaaGreatDoor
open Go Go.RowKit

def kindWord (k : Int) : List UInt8 :=
  if k = 1 then [114, 111, 111, 116] else if k = 2 then [110, 101, 101, 100] else if k = 3 then [98, 97, 114] else if k = 4 then [97, 115, 107] else [98, 111, 116, 104]
def termF (t : Term) : List UInt8 := 32 :: Lib.itoa t.unit ++ 58 :: Lib.itoa t.mask
def bothF (r : Row) : List UInt8 := if r.kind = 5 then 32 :: Lib.itoa r.a ++ 32 :: Lib.itoa r.b else []
def headF (r : Row) : List UInt8 := kindWord r.kind ++ 32 :: Lib.itoa r.unit
def lineF (r : Row) : List UInt8 := headF r ++ bothF r ++ r.terms.flatMap termF
def printF (l : List Row) : List UInt8 := l.flatMap fun r => lineF r ++ [10]

def kindEs1 : Array MapEntry := #[⟨.int .i64 1, .string ⟨#[114, 111, 111, 116]⟩, 0⟩]
def kindEs2 : Array MapEntry := #[⟨.int .i64 1, .string ⟨#[114, 111, 111, 116]⟩, 0⟩, ⟨.int .i64 2, .string ⟨#[110, 101, 101, 100]⟩, 1⟩]
def kindEs3 : Array MapEntry := #[⟨.int .i64 1, .string ⟨#[114, 111, 111, 116]⟩, 0⟩, ⟨.int .i64 2, .string ⟨#[110, 101, 101, 100]⟩, 1⟩, ⟨.int .i64 3, .string ⟨#[98, 97, 114]⟩, 2⟩]
def kindEs4 : Array MapEntry := #[⟨.int .i64 1, .string ⟨#[114, 111, 111, 116]⟩, 0⟩, ⟨.int .i64 2, .string ⟨#[110, 101, 101, 100]⟩, 1⟩, ⟨.int .i64 3, .string ⟨#[98, 97, 114]⟩, 2⟩, ⟨.int .i64 4, .string ⟨#[97, 115, 107]⟩, 3⟩]
def kindEs5 : Array MapEntry := #[⟨.int .i64 1, .string ⟨#[114, 111, 111, 116]⟩, 0⟩, ⟨.int .i64 2, .string ⟨#[110, 101, 101, 100]⟩, 1⟩, ⟨.int .i64 3, .string ⟨#[98, 97, 114]⟩, 2⟩, ⟨.int .i64 4, .string ⟨#[97, 115, 107]⟩, 3⟩, ⟨.int .i64 5, .string ⟨#[98, 111, 116, 104]⟩, 4⟩]

theorem kind_hit {k : Int} (h1 : 1 ≤ k) (h5 : k ≤ 5) : ∃ i, Instr.findNow (.int .i64) (.int .i64 k) kindEs5.toList 0 = some (some (i, .string ⟨(kindWord k).toArray⟩)) := by
  have : k = 1 ∨ k = 2 ∨ k = 3 ∨ k = 4 ∨ k = 5 := by omega
  rcases this with rfl | rfl | rfl | rfl | rfl
  · exact ⟨0, by rfl⟩
  · exact ⟨1, by rfl⟩
  · exact ⟨2, by rfl⟩
  · exact ⟨3, by rfl⟩
  · exact ⟨4, by rfl⟩

theorem strCells_of (l : List UInt8) : Lib.strCells ⟨l.toArray⟩ = Lib.byteCells l := by simp [Lib.strCells, Lib.byteCells]

theorem terms_le {l : List Term} (h : termsMayF l = true) : l.length ≤ 48 ∧ ∀ t ∈ l, 0 ≤ t.unit ∧ t.unit < 48 ∧ 1 ≤ t.mask ∧ t.mask < 131072 := by
  have hg : ∀ k, (hk : k < l.length) → ¬ (l[k].unit < 0 ∨ 48 ≤ l[k].unit ∨ l[k].mask < 1 ∨ 131072 ≤ l[k].mask ∨ (0 < k ∧ l[k].unit ≤ l[k-1].unit)) := by
    intro k hk hbad
    have := termBad_of hk hbad
    unfold termsMayF at h
    rw [List.all_eq_true] at h
    have h2 := h k (List.mem_range.2 hk)
    simp [this] at h2
  refine ⟨?_, fun t ht => ?_⟩
  · have hi : ∀ k, (hk : k < l.length) → (k : Int) ≤ l[k].unit := by
      intro k
      induction k with
      | zero => intro hk; have := hg 0 hk; omega
      | succ k ih =>
        intro hk
        have h1 := ih (by omega)
        have h2 := hg (k + 1) hk
        simp only [Nat.add_sub_cancel] at h2
        omega
    by_cases hz : l.length = 0
    · omega
    · have h1 := hi (l.length - 1) (by omega)
      have h2 := hg (l.length - 1) (by omega)
      omega
  · obtain ⟨k, hk, rfl⟩ := List.getElem_of_mem ht
    have := hg k hk
    omega

theorem kindWord_len (k : Int) : (kindWord k).length ≤ 4 := by
  unfold kindWord
  repeat' split
  all_goals decide
theorem termF_len {t : Term} (h : I64 t.unit ∧ I64 t.mask) : (termF t).length ≤ 44 := by
  have h1 := Lib.itoa_length_le t.unit h.1.1 h.1.2
  have h2 := Lib.itoa_length_le t.mask h.2.1 h.2.2
  simp [termF]
  omega
theorem flat_len {α : Type} {f : α → List UInt8} {m : Nat} {l : List α} (h : ∀ x ∈ l, (f x).length ≤ m) : (l.flatMap f).length ≤ l.length * m := by
  induction l with
  | nil => simp
  | cons x l ih =>
    have h1 := h x (by simp)
    have h2 := ih (fun y hy => h y (by simp [hy]))
    simp only [List.flatMap_cons, List.length_append, List.length_cons, Nat.add_mul]
    omega
theorem lineF_len {r : Row} (h : I64 r.unit ∧ I64 r.a ∧ I64 r.b ∧ (∀ t ∈ r.terms, I64 t.unit ∧ I64 t.mask) ∧ r.terms.length ≤ 48) : (lineF r).length ≤ 2299 := by
  obtain ⟨h1, h2, h3, h4, h5⟩ := h
  have k0 := kindWord_len r.kind
  have k1 := Lib.itoa_length_le r.unit h1.1 h1.2
  have k2 := Lib.itoa_length_le r.a h2.1 h2.2
  have k3 := Lib.itoa_length_le r.b h3.1 h3.2
  have k4 := flat_len (f := termF) (m := 44) (l := r.terms) (fun t ht => termF_len (h4 t ht))
  have k5 : (bothF r).length ≤ 44 := by
    unfold bothF
    split
    · simp; omega
    · simp
  simp only [lineF, headF, List.length_append, List.length_cons]
  omega
theorem printF_take {l : List Row} {k : Nat} (h : k < l.length) : printF (l.take (k + 1)) = printF (l.take k) ++ lineF l[k] ++ [10] := by
  unfold printF
  rw [List.take_succ_eq_append_getElem h]
  simp only [List.flatMap_append, List.flatMap_cons, List.flatMap_nil, List.append_nil, List.append_assoc]
theorem termF_take {l : List Term} {k : Nat} (h : k < l.length) : (l.take (k + 1)).flatMap termF = (l.take k).flatMap termF ++ termF l[k] := by
  rw [List.take_succ_eq_append_getElem h]
  simp only [List.flatMap_append, List.flatMap_cons, List.flatMap_nil, List.append_nil]
theorem conv_own {P : Program} {w : World} {src e dst : TypeId} {B : Nat} {v : Value} {l : List UInt8} (hs : P.underlying src = some (.slice e)) (he : P.underlying e = some (.int .u8)) (hd : P.underlying dst = some .string)
    (h : w.ownsRow B e 1 v l.length (Lib.byteCells l)) : (convert src dst v).run P w = .ok (.string ⟨l.toArray⟩) w := by
  have hc := fun g (hg : v.ownBlock = some g) => h.cells hg
  rcases h.2 with ⟨rfl, h0⟩ | ⟨g, cap, cur, rfl, _⟩
  · have : l = [] := List.eq_nil_of_length_eq_zero h0
    subst this
    exact Lib.run_convert_nil_bytes w src dst e 0 hs he hd
  · refine run_convert_bytes_back w src dst e _ cap l hs he hd fun j hj => ?_
    refine hc g rfl j _ ?_
    simp [Lib.byteCells, hj]
theorem printF_len {l : List Row} {n : Nat} (h : ∀ r ∈ l, (I64 r.unit ∧ I64 r.a ∧ I64 r.b ∧ (∀ t ∈ r.terms, I64 t.unit ∧ I64 t.mask) ∧ r.terms.length ≤ 48)) (hn : l.length ≤ n) : (printF l).length ≤ n * 2300 := by
  refine Nat.le_trans (flat_len (m := 2300) fun r hr => ?_) (Nat.mul_le_mul_right _ hn)
  have := lineF_len (h r hr)
  simp
  omega
end Go.Proofs.YtmghlakedaigpaaGreatDoor
end
