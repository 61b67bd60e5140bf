import Derived.Test.YthneiolcljnbeaaGreatDoorzV13
import Derived.Deep.RegionHeld3
import Derived.Deep.DeepMust
namespace Go.Proofs.YthneiolcljnbeaaGreatDoor
open Go Go.RowKit
section
def leastB (a b c : Int) : Bool := decide (a = 0) && (decide (b = 0) && decide (c = 0))
set_option maxHeartbeats 400000 in
theorem least_any (a b c : Int) (p q : ByteArray) (w : World) :
  Calls Tryz.prog 72 #[.agg #[.int .i64 a, .int .i64 b, .int .i64 c, .string p, .string q]] w fun e w' => e = .returned (.bool (leastB a b c)) ∧ Below w.heap.size w w' := by
 by_cases h1 : a = 0
 ·have z1 : (a == 0) = true := by rw [h1]; rfl
  by_cases h2 : b = 0
  ·have z2 : (b == 0) = true := by rw [h2]; rfl
   by_cases h3 : c = 0
   ·have z3 : (c == 0) = true := by rw [h3]; rfl
    have H : Hid (leastB a b c = true) := hid (by simp [leastB, h1, h2, h3])
    clear h1 h2 h3
    go_enter Tryz.func72, Tryz.ntmps72
    go_wp2
    go_ret
    exact ⟨ret_bool H.out.symm, balloc (b0 w) _⟩
   ·have z3 : (c == 0) = false := by rw [beq_eq_false_iff_ne]; exact h3
    have H : Hid (leastB a b c = false) := hid (by simp [leastB, h3])
    clear h1 h2 h3
    go_enter Tryz.func72, Tryz.ntmps72
    go_wp2
    go_ret
    exact ⟨ret_bool H.out.symm, balloc (b0 w) _⟩
  ·have z2 : (b == 0) = false := by rw [beq_eq_false_iff_ne]; exact h2
   have H : Hid (leastB a b c = false) := hid (by simp [leastB, h2])
   clear h1 h2
   go_enter Tryz.func72, Tryz.ntmps72
   go_wp2
   go_ret
   exact ⟨ret_bool H.out.symm, balloc (b0 w) _⟩
 ·have z1 : (a == 0) = false := by rw [beq_eq_false_iff_ne]; exact h1
  have H : Hid (leastB a b c = false) := hid (by simp [leastB, h1])
  clear h1
  go_enter Tryz.func72, Tryz.ntmps72
  go_wp2
  go_ret
  exact ⟨ret_bool H.out.symm, balloc (b0 w) _⟩
def rightB (c : Cut) : Bool := decide (c.en ≠ 0) || (!c.after && (decide (c.v.pre.size = 0) && !leastB c.v.major c.v.minor c.v.patch))
set_option maxHeartbeats 1000000 in
theorem right_any (u : Cut) (w : World) :
  Calls Tryz.prog 114 #[.agg #[.int .i64 u.en, .int .i64 u.v.major, .int .i64 u.v.minor, .int .i64 u.v.patch, .string u.v.pre, .string u.v.build, .bool u.after]] w fun e w' => e = .returned (.bool (rightB u)) ∧ Below w.heap.size w w' := by
 obtain ⟨n, ⟨a, b, c, p, q⟩, f⟩ := u
 by_cases h1 : n = 0
 ·have z1 : (n != 0) = false := by rw [h1]; rfl
  cases f with
  | true =>
   have H : Hid (rightB ⟨n, ⟨a, b, c, p, q⟩, true⟩ = false) := hid (by simp [rightB, h1])
   clear h1
   go_enter Tryz.func114, Tryz.ntmps114
   go_wp2
   go_ret
   exact ⟨ret_bool H.out.symm, balloc (b0 w) _⟩
  | false =>
   by_cases h2 : p.size = 0
   ·have e2 : p.toList.isEmpty = true := by rw [empty_toList h2]; rfl
    have H : Hid (rightB ⟨n, ⟨a, b, c, p, q⟩, false⟩ = !leastB a b c) := hid (by simp [rightB, h1, h2])
    clear h1 h2
    cases hl : leastB a b c
    all_goals
     have HL := hid hl
     clear hl
     go_enter Tryz.func114, Tryz.ntmps114
     go_wp2_with (go_at_call 72; (with_reducible refine (least_any a b c p q _).mono ?_); rintro e w1 ⟨rfl, hb1⟩; rw [HL.out])
     go_ret
     exact ⟨ret_bool (by rw [H.out, HL.out]; rfl), bstep (balloc (b0 w) _) hb1⟩
   ·have e2 := nonempty_toList (s := p) (by omega)
    have H : Hid (rightB ⟨n, ⟨a, b, c, p, q⟩, false⟩ = false) := hid (by simp [rightB, h1, h2])
    clear h1 h2
    go_enter Tryz.func114, Tryz.ntmps114
    go_wp2
    go_ret
    exact ⟨ret_bool H.out.symm, balloc (b0 w) _⟩
 ·have z1 : (n != 0) = true := by rw [bne_iff_ne]; exact h1
  have H : Hid (rightB ⟨n, ⟨a, b, c, p, q⟩, f⟩ = true) := hid (by simp [rightB, h1])
  clear h1
  go_enter Tryz.func114, Tryz.ntmps114
  go_wp2
  go_ret
  exact ⟨ret_bool H.out.symm, balloc (b0 w) _⟩
def setMayB (l m : List Span) : Bool := rowMayB l && (rowMayB m && l.all fun s => rightB s.lo && rightB s.hi)
set_option maxRecDepth 100000 in
set_option maxHeartbeats 2000000 in
theorem setMay_any (lv mv : Value) (l m : List Span) (w : World) (h : SliceRd fSpan.ty w (Lt w.heap.size) lv l) (h' : SliceRd fSpan.ty w (Lt w.heap.size) mv m) :
  Calls Tryz.prog 97 #[.agg #[lv, mv]] w fun e w' => e = .returned (.bool (setMayB l m)) ∧ Below w.heap.size w w' := by
 obtain ⟨A, cap, rfl, hcap, hmax, hc⟩ := h.spans
 obtain ⟨A', cap', rfl, hcap', hmax', -⟩ := h'.flat
 have HC := hid hc
 have HL := hid h
 have HM := hid h'
 unfold maxLen at hmax
 clear h h' hc
 cases h1 : rowMayB l with
 | false =>
  have H1 := hid h1
  have H : Hid (setMayB l m = false) := hid (by unfold setMayB; rw [h1]; rfl)
  clear h1
  go_enter Tryz.func97, Tryz.ntmps97
  go_wp2_with (go_at_call 113; (refine (rmay4_any _ l _ (HL.out.lift (balloc (b0 w) _) (balloc (b0 w) _).size)).mono ?_); rintro e w1 ⟨rfl, hb1⟩; rw [H1.out])
  go_ret
  exact ⟨ret_bool H.out.symm, bstep (balloc (b0 w) _) hb1⟩
 | true =>
  have H1 := hid h1
  cases h2 : rowMayB m with
  | false =>
   have H2 := hid h2
   have H : Hid (setMayB l m = false) := hid (by unfold setMayB; rw [h1, h2]; rfl)
   clear h1 h2
   go_enter Tryz.func97, Tryz.ntmps97
   have tok := hid True.intro
   go_wp2_with (first
    | (go_at_call 113; clear tok; (refine (rmay4_any _ l _ (HL.out.lift (balloc (b0 w) _) (balloc (b0 w) _).size)).mono ?_); rintro e w1 ⟨rfl, hb1⟩; rw [H1.out]; obtain ⟨hbc, hbf⟩ := bcell hb1; have hz0 : w.heap.size < w1.heap.size := Nat.lt_of_lt_of_le (by simp) hb1.size; have HB1 := hid (bstep (balloc (b0 w) _) hb1))
    | (go_at_call 113; (refine (rmay4_any _ m _ (HM.out.lift HB1.out HB1.out.size)).mono ?_); rintro e w2 ⟨rfl, hb2⟩; rw [H2.out]; have HB2 := hid (bstep HB1.out hb2)))
   go_ret
   exact ⟨ret_bool H.out.symm, HB2.out⟩
  | true =>
   have H2 := hid h2
   have H : Hid (setMayB l m = l.all fun s => rightB s.lo && rightB s.hi) := hid (by unfold setMayB; rw [h1, h2]; rfl)
   clear h1 h2
   go_enter Tryz.func97, Tryz.ntmps97
   have tok := hid True.intro
   go_wp2_with (first
    | (go_at_call 113; clear tok; (refine (rmay4_any _ l _ (HL.out.lift (balloc (b0 w) _) (balloc (b0 w) _).size)).mono ?_); rintro e w1 ⟨rfl, hb1⟩; rw [H1.out]; obtain ⟨hbc, hbf⟩ := bcell hb1; have hz0 : w.heap.size < w1.heap.size := Nat.lt_of_lt_of_le (by simp) hb1.size; have HB1 := hid (bstep (balloc (b0 w) _) hb1))
    | (go_at_call 113; (refine (rmay4_any _ m _ (HM.out.lift HB1.out HB1.out.size)).mono ?_); rintro e w2 ⟨rfl, hb2⟩; rw [H2.out]; have HB2 := hid (bstep HB1.out hb2); have HX := hid (cell_below hb2 hz0 ((hbc w.heap.size 0 (by simp)).trans (show _ = some (Value.slice A l.length cap) by go_simp))); have hz2 := Nat.lt_of_lt_of_le hz0 hb2.size))
   clear hbc hbf
   go_loopw [3] (fun iv wr => ∃ k : Nat, k ≤ l.length ∧ iv = .int .i64 k ∧ Hid ((l.take k).all (fun s => rightB s.lo && rightB s.hi) = true) ∧ Hid (Below w2.heap.size w2 wr)) (fun iv _ => l.length - (intOf iv).toNat)
   case atStart => exact ⟨0, Nat.zero_le _, rfl, hid rfl, hid (b0 _)⟩
   case round =>
    obtain ⟨k, hk, rfl, hall, hb⟩ := hrel
    have cx := cell_below hb.out hz2 HX.out
    have hzr : w.heap.size < wr.heap.size := Nat.lt_of_lt_of_le hz2 hb.out.size
    have HBR := hid (bstep HB2.out hb.out)
    by_cases hlt : k < l.length
    ·obtain ⟨g, o, hA, hF, -, hat⟩ := HC.out k hlt
     cases hA
     have hgw : g < wr.heap.size := Nat.lt_of_lt_of_le hF HBR.out.size
     have HAT := hid (show (l.take (k + 1)).all (fun s => rightB s.lo && rightB s.hi) = ((l.take k).all (fun s => rightB s.lo && rightB s.hi) && (rightB l[k].lo && rightB l[k].hi)) by rw [List.take_succ_eq_append_getElem hlt, List.all_append]; simp)
     have HBAD : Hid ((rightB l[k].lo && rightB l[k].hi) = false → setMayB l m = false) := hid (fun hf => by
      rw [H.out, List.all_eq_false]
      exact ⟨l[k], List.getElem_mem hlt, by rw [hf]; simp⟩)
     generalize l[k] = s at *
     have HSP := hid (hat.below HBR.out hF)
     obtain ⟨c0, c1, c2, c3, c4, c5, c6, c7, c8, c9, c10, c11, c12, c13⟩ := HSP.out
     clear hat
     have i1 : (0 : Int) ≤ ↑k := by omega
     have i2 : (↑k : Int) < ↑l.length := by omega
     cases q1 : rightB s.lo with
     | false =>
      have Q1 := hid q1
      clear q1
      go_wp2_with (go_at_call 114; (with_reducible refine (right_any s.lo _).mono ?_); rintro e w3 ⟨rfl, hb3⟩; rw [Q1.out])
      go_ret
      exact ⟨ret_bool (HBAD.out (by rw [Q1.out]; rfl)).symm, bstep HBR.out hb3⟩
     | true =>
      have Q1 := hid q1
      clear q1
      cases q2 : rightB s.hi with
      | false =>
       have Q2 := hid q2
       clear q2
       go_wp2_with (first
        | (go_at_call 114; (with_reducible refine (right_any s.lo _).mono ?_); rintro e w3 ⟨rfl, hb3⟩; rw [Q1.out]; have cx3 := cell_below hb3 hzr cx; obtain ⟨d0, d1, d2, d3, d4, d5, d6, d7, d8, d9, d10, d11, d12, d13⟩ := HSP.out.below hb3 hgw; have HB3 := hid (bstep HBR.out hb3); clear hb3)
        | (go_at_call 114; (with_reducible refine (right_any s.hi _).mono ?_); rintro e w4 ⟨rfl, hb4⟩; rw [Q2.out]))
       go_ret
       exact ⟨ret_bool (HBAD.out (by rw [Q1.out, Q2.out]; rfl)).symm, bstep HB3.out hb4⟩
      | true =>
       have Q2 := hid q2
       clear q2
       go_wp2_with (first
        | (go_at_call 114; (with_reducible refine (right_any s.lo _).mono ?_); rintro e w3 ⟨rfl, hb3⟩; rw [Q1.out]; have cx3 := cell_below hb3 hzr cx; obtain ⟨d0, d1, d2, d3, d4, d5, d6, d7, d8, d9, d10, d11, d12, d13⟩ := HSP.out.below hb3 hgw; have HB3 := hid (bstep hb.out hb3); clear hb3)
        | (go_at_call 114; (with_reducible refine (right_any s.hi _).mono ?_); rintro e w4 ⟨rfl, hb4⟩; rw [Q2.out]))
       exact ⟨⟨k + 1, by omega, by go_num, hid (by rw [HAT.out, hall.out, Q1.out, Q2.out]; rfl), hid (bstep HB3.out hb4)⟩, by simp [intOf]; omega⟩
    ·have HA : Hid (setMayB l m = true) := hid (by
      have := hall.out
      rw [List.take_of_length_le (by omega)] at this
      rw [H.out, this])
     go_wp2
     go_ret
     exact ⟨ret_bool HA.out.symm, HBR.out⟩
set_option maxHeartbeats 400000 in
theorem none5_any (w : World) : Calls Tryz.prog 37 #[] w fun e w' => e = .returned (.agg #[.slice none 0 0, .slice none 0 0]) ∧ Below w.heap.size w w' := by
 go_enter Tryz.func37, Tryz.ntmps37
 go_wp2
 exact bodyPost_ret (v := .agg #[.slice none 0 0, .slice none 0 0]) (by simp [results, Tryz.results37, go_sem]) rfl ⟨rfl, balloc (b0 w) _⟩
def wholeSpan : Span := ⟨endCut (-1), endCut 1⟩
def WholePost (w : World) (e : Ending) (w' : World) : Prop := ∃ v, e = .returned v ∧ OwnSpans w.heap.size w' v [wholeSpan] ∧ Below w.heap.size w w'
set_option maxHeartbeats 1000000 in
theorem whole_any (w : World) : Calls Tryz.prog 91 #[] w (WholePost w) := by
 go_enter Tryz.func91, Tryz.ntmps91
 go_wp2_with (first
  | (go_at_call 73; refine (first_any _).mono ?_; rintro e w1 ⟨rfl, hb1⟩)
  | (go_at_call 75; refine (last_any _).mono ?_; rintro e w2 ⟨rfl, hb2⟩; have HB2 := hid (bstep hb1 hb2)))
 go_ret
 refine ⟨.slice (some ⟨w2.heap.size, 0, none⟩) 1 1, rfl, ⟨⟨rfl, .inr ⟨w2.heap.size, 1, _, rfl, HB2.out.size, heap_alloc_new w2 _, Nat.le_refl _, by unfold maxLen; omega, by decide, rfl⟩⟩, ?_⟩, balloc HB2.out _⟩
 intro s hs
 have : s = wholeSpan := by simpa using hs
 subst this
 exact ⟨endCut_B (.inl rfl), endCut_B (.inr rfl)⟩
theorem OwnSpans.set {B : Nat} {w : World} {v : Value} {l : List Span} (h : OwnSpans B w v l) {p : Addr} (hp : p.block < B) (x : Value) : OwnSpans B (w.setCell p x) v l :=
 ⟨ownsRow_keep h.1 fun g hg => heap_setCell_other _ _ _ _ (by have := (h.1.lt g hg).1; omega), h.2⟩
theorem whole_may : setMayB [wholeSpan] [wholeSpan] = true := by decide +kernel
theorem setMay_iff {l m : List Span} : setMayB l m = true ↔ rowMayB l = true ∧ rowMayB m = true ∧ ∀ s ∈ l, rightB s.lo = true ∧ rightB s.hi = true := by
 unfold setMayB
 rw [Bool.and_eq_true, Bool.and_eq_true, List.all_eq_true]
 refine and_congr_right fun _ => and_congr_right fun _ => ⟨fun h s hs => ?_, fun h s hs => ?_⟩
 ·have := h s hs; rwa [Bool.and_eq_true] at this
 ·rw [Bool.and_eq_true]; exact h s hs
theorem none_may : setMayB [] [] = true := rfl
theorem end_right : rightB (endCut (-1)) = true ∧ rightB (endCut 1) = true := by decide +kernel
theorem or_may {l m l' m' : List Span} (h : setMayB l m = true) (h' : setMayB l' m' = true) : setMayB (orF l l') (orF m m') = true :=
 setMay_iff.2 ⟨orF_may _ _, orF_may _ _, orF_all (P := fun c => rightB c = true) end_right.1 end_right.2 (setMay_iff.1 h).2.2 (setMay_iff.1 h').2.2⟩
theorem not_may {l m : List Span} (h : setMayB l m = true) : setMayB (notF l) (notF m) = true :=
 setMay_iff.2 ⟨notF_may _, notF_may _, notF_all (P := fun c => rightB c = true) end_right.1 end_right.2 (setMay_iff.1 h).2.2⟩
def SetPost (n : Nat) (w : World) (e : Ending) (w' : World) : Prop := ∃ rv pv L M, e = .returned (.agg #[rv, pv]) ∧ OwnSpans w.heap.size w' rv L ∧ OwnSpans w.heap.size w' pv M ∧ L.length ≤ n ∧ M.length ≤ n ∧ setMayB L M = true ∧ Below w.heap.size w w'
set_option maxHeartbeats 1000000 in
theorem all5_any (w : World) : Calls Tryz.prog 68 #[] w (SetPost 1 w) := by
 go_enter Tryz.func68, Tryz.ntmps68
 have tok := hid True.intro
 go_wp2_with (first
  | (go_at_call 91; clear tok; refine (whole_any _).mono ?_; rintro e w1 ⟨v1, rfl, ho1, hb1⟩; obtain ⟨A1, c1, rfl⟩ := ho1.form; have HO1 := hid ho1; obtain ⟨hbc, hbf⟩ := bcell hb1; have hz0 : w.heap.size < w1.heap.size := Nat.lt_of_lt_of_le (by simp) hb1.size; have HB1 := hid (bstep (balloc (b0 w) _) hb1); clear ho1)
  | (go_at_call 91; refine (whole_any _).mono ?_; rintro e w2 ⟨v2, rfl, ho2, hb2⟩; obtain ⟨A2, c2, rfl⟩ := ho2.form; have HO2 := hid ho2; obtain ⟨hbc2, hbf2⟩ := bcell hb2; have hy0 : w.heap.size < w2.heap.size := Nat.lt_of_lt_of_le hz0 hb2.size; have HB2 := hid (bstep HB1.out hb2); have HO3 := hid (HO1.out.below hb2 (Nat.le_refl _)); clear ho2))
 exact bodyPost_ret (v := .agg #[.slice A1 1 c1, .slice A2 1 c2]) (by simp [results, Tryz.results68, go_sem, hbc, hz0, hbc2]) rfl ⟨.slice A1 1 c1, .slice A2 1 c2, [wholeSpan], [wholeSpan], rfl, ((HO3.out.set (p := ⟨w.heap.size, 0, none⟩) (by simp) _).set (p := ⟨w.heap.size, 1, none⟩) (by simp) _).mono (by simp), ((HO2.out.set (p := ⟨w.heap.size, 0, none⟩) hz0 _).set (p := ⟨w.heap.size, 1, none⟩) hz0 _).mono (Nat.le_of_lt hz0), by decide, by decide, whole_may, by repeat (first | (with_reducible exact HB2.out) | (with_reducible exact b0 _) | (with_reducible refine bset ?_ (by first | exact Nat.le_refl _ | (simp; done) | omega | (simp; omega)) _) | (with_reducible refine balloc ?_ _) | (with_reducible refine bdrew ?_))⟩
end
section
def BoxV (w : World) (g : Nat) (a b c : Int) (p q : ByteArray) : Prop := w.cell? ⟨g, 0, none⟩ = some (.int .i64 a) ∧ w.cell? ⟨g, 1, none⟩ = some (.int .i64 b) ∧ w.cell? ⟨g, 2, none⟩ = some (.int .i64 c) ∧ w.cell? ⟨g, 3, none⟩ = some (.string p) ∧ w.cell? ⟨g, 4, none⟩ = some (.string q)
theorem BoxV.below {B : Nat} {w w' : World} (hb : Below B w w') {g : Nat} (hg : g < B) {a b c : Int} {p q : ByteArray} (h : BoxV w g a b c p q) : BoxV w' g a b c p q := by
 obtain ⟨h0, h1, h2, h3, h4⟩ := h
 exact ⟨cell_below hb hg h0, cell_below hb hg h1, cell_below hb hg h2, cell_below hb hg h3, cell_below hb hg h4⟩
theorem BoxV.new (w : World) (a b c : Int) (p q : ByteArray) (T : TypeId) : BoxV (w.alloc (.cells #[.int .i64 a, .int .i64 b, .int .i64 c, .string p, .string q] T)) w.heap.size a b c p q := by
 have h := heap_alloc_new w (.cells #[.int .i64 a, .int .i64 b, .int .i64 c, .string p, .string q] T)
 refine ⟨?_, ?_, ?_, ?_, ?_⟩ <;> (rw [cell_of_row _ _ _ _ T (0, 0) h]; rfl)
theorem cut0 {v : Ver} {f : Bool} (hv : v.B) : (⟨0, v, f⟩ : Cut).B := ⟨by show -100000 ≤ (0 : Int) ∧ (0 : Int) ≤ 100000; omega, hv⟩
def CutPost (Q : Cut → Prop) (w : World) (e : Ending) (w' : World) : Prop := ∃ u : Cut, e = .returned (.agg #[.int .i64 u.en, .int .i64 u.v.major, .int .i64 u.v.minor, .int .i64 u.v.patch, .string u.v.pre, .string u.v.build, .bool u.after]) ∧ u.B ∧ Q u ∧ Below w.heap.size w w'
def numCut (a b c : Int) : Cut := ⟨0, ⟨a, b, c, ⟨#[]⟩, ⟨#[]⟩⟩, false⟩
def aheadC (a b c : Int) : Cut := if leastB a b c = true then endCut (-1) else numCut a b c
def BehindC (a b c : Int) (u : Cut) : Prop := u = endCut 1 ∨ ∃ a' b' c', u = numCut a' b' c' ∧ mayV ⟨a', b', c', ⟨#[]⟩, ⟨#[]⟩⟩ = true ∧ NextOk a b c a' b' c'
theorem mayV_num {v : Ver} (h : mayV v = true) : mayV ⟨v.major, v.minor, v.patch, ⟨#[]⟩, ⟨#[]⟩⟩ = true := by
 unfold mayV at h ⊢
 simp only [Bool.and_eq_true] at h ⊢
 exact ⟨⟨h.1.1, rfl⟩, rfl⟩
theorem mayV_pre {v : Ver} (h : mayV v = true) : mayV ⟨v.major, v.minor, v.patch, v.pre, ⟨#[]⟩⟩ = true := by
 unfold mayV at h ⊢
 simp only [Bool.and_eq_true] at h ⊢
 exact ⟨h.1, rfl⟩
theorem numCut_may {a b c : Int} (h : mayV ⟨a, b, c, ⟨#[]⟩, ⟨#[]⟩⟩ = true) : cutMay (numCut a b c) = true := by
 unfold cutMay numCut
 rw [if_pos rfl, h]
 rfl
theorem ahead_may {a b c : Int} (h : mayV ⟨a, b, c, ⟨#[]⟩, ⟨#[]⟩⟩ = true) : cutMay (aheadC a b c) = true ∧ rightB (aheadC a b c) = true := by
 unfold aheadC
 split
 ·exact ⟨by decide +kernel, end_right.1⟩
 ·rename_i hl
  refine ⟨numCut_may h, ?_⟩
  unfold rightB numCut
  dsimp only
  simp only [Bool.not_eq_true] at hl
  rw [hl]
  rfl
theorem fits_ge {a b c : Int} (h : mayV ⟨a, b, c, ⟨#[]⟩, ⟨#[]⟩⟩ = true) : 0 ≤ a ∧ 0 ≤ b ∧ 0 ≤ c := by
 have := may_bd h
 exact ⟨this.1.1, this.2.1.1, this.2.2.1⟩
theorem behind_may {a b c : Int} {u : Cut} (h : mayV ⟨a, b, c, ⟨#[]⟩, ⟨#[]⟩⟩ = true) (hu : BehindC a b c u) : cutMay u = true ∧ rightB u = true ∧ cmpC (aheadC a b c) u < 0 := by
 have ha := ahead_may h
 have h0 := fits_ge h
 rcases hu with rfl | ⟨a', b', c', rfl, hm, hn⟩
 ·have he : cutMay (endCut 1) = true := by decide +kernel
  refine ⟨he, end_right.2, ?_⟩
  rw [cmpC_eq ha.1 he]
  unfold aheadC
  split
  ·decide +kernel
  ·unfold cmpC0
   rw [lex1 (f := fun u v : Cut => intsF u.en v.en) (by show intsF 0 1 ≠ 0; decide)]
   show intsF 0 1 < 0
   decide
 ·have hc := numCut_may hm
  have hl : leastB a' b' c' = false := by
   unfold leastB
   simp only [Bool.and_eq_false_iff, decide_eq_false_iff_not]
   rcases hn with ⟨h1, h2, h3⟩ | ⟨h1, h2, h3⟩ | ⟨h1, h2, h3⟩
   ·exact .inl (by omega)
   ·exact .inr (.inl (by omega))
   ·exact .inr (.inr (by omega))
  refine ⟨hc, by unfold rightB numCut; dsimp only; rw [hl]; rfl, ?_⟩
  rw [cmpC_eq ha.1 hc]
  unfold aheadC
  split
  ·unfold cmpC0
   rw [lex1 (f := fun u v : Cut => intsF u.en v.en) (by show intsF (-1) 0 ≠ 0; decide)]
   show intsF (-1) 0 < 0
   decide
  ·unfold cmpC0
   rw [lex0 (f := fun u v : Cut => intsF u.en v.en) (show intsF 0 0 = 0 by decide)]
   have k : cmpV0 ⟨a, b, c, ⟨#[]⟩, ⟨#[]⟩⟩ ⟨a', b', c', ⟨#[]⟩, ⟨#[]⟩⟩ < 0 := by
    have z : ∀ x : Int, intsF x x = 0 := fun x => ints_to.refl x
    have y : ∀ x : Int, intsF x (x + 1) = -1 := fun x => if_pos (by omega)
    unfold cmpV0
    rcases hn with ⟨rfl, rfl, rfl⟩ | ⟨rfl, rfl, rfl⟩ | ⟨rfl, rfl, rfl⟩
    ·rw [lex1 (f := fun u v : Ver => intsF u.major v.major) (by show intsF a (a + 1) ≠ 0; rw [y]; decide)]
     show intsF a (a + 1) < 0
     rw [y]; decide
    ·rw [lex0 (f := fun u v : Ver => intsF u.major v.major) (show intsF a' a' = 0 from z _), lex1 (f := fun u v : Ver => intsF u.minor v.minor) (by show intsF b (b + 1) ≠ 0; rw [y]; decide)]
     show intsF b (b + 1) < 0
     rw [y]; decide
    ·rw [lex0 (f := fun u v : Ver => intsF u.major v.major) (show intsF a' a' = 0 from z _), lex0 (f := fun u v : Ver => intsF u.minor v.minor) (show intsF b' b' = 0 from z _), lex1 (f := fun u v : Ver => intsF u.patch v.patch) (by show intsF c (c + 1) ≠ 0; rw [y]; decide)]
     show intsF c (c + 1) < 0
     rw [y]; decide
   rw [lex1 (f := fun u v : Cut => cmpV0 u.v v.v) (by show cmpV0 ⟨a, b, c, ⟨#[]⟩, ⟨#[]⟩⟩ ⟨a', b', c', ⟨#[]⟩, ⟨#[]⟩⟩ ≠ 0; omega)]
   exact k
theorem row_one {s : Span} (h : spanMay s = true) : rowMayB [s] = true := by
 have : RowR [s] := h
 rw [rowR_rev] at this
 exact this
theorem exact_rel {a b c : Int} {p q : ByteArray} {u v : Cut} (h : mayV ⟨a, b, c, p, q⟩ = true) (hu : u = aheadC a b c) (hv : BehindC a b c v) : setMayB [⟨u, v⟩] [] = true := by
 subst hu
 have h2 := mayV_num h
 have hb := behind_may h2 hv
 have ha := ahead_may h2
 refine setMay_iff.2 ⟨row_one (span_iff.2 ⟨ha.1, hb.1, hb.2.2⟩), rfl, fun s hs => ?_⟩
 rw [List.mem_singleton.1 hs]
 exact ⟨ha.2, hb.2.1⟩
theorem exact_pre {a b c : Int} {p q : ByteArray} (h : mayV ⟨a, b, c, p, q⟩ = true) : setMayB [] [⟨⟨0, ⟨a, b, c, p, ⟨#[]⟩⟩, false⟩, ⟨0, ⟨a, b, c, p, ⟨#[]⟩⟩, true⟩⟩] = true := by
 have h2 := mayV_pre h
 have c1 : ∀ f, cutMay ⟨0, ⟨a, b, c, p, ⟨#[]⟩⟩, f⟩ = true := fun f => by
  unfold cutMay
  rw [if_pos rfl, h2]
  rfl
 refine setMay_iff.2 ⟨rfl, row_one (span_iff.2 ⟨c1 _, c1 _, ?_⟩), fun s hs => by cases hs⟩
 rw [cmpC_eq (c1 _) (c1 _)]
 unfold cmpC0
 rw [lex0 (f := fun u v : Cut => intsF u.en v.en) (show intsF 0 0 = 0 by decide), lex0 (f := fun u v : Cut => cmpV0 u.v v.v) (a := (⟨0, ⟨a, b, c, p, ⟨#[]⟩⟩, false⟩ : Cut)) (b := (⟨0, ⟨a, b, c, p, ⟨#[]⟩⟩, true⟩ : Cut)) (cmpV0_to.refl _)]
 show intsF 0 1 < 0
 decide
theorem vb_num {a b c : Int} {p q : ByteArray} (h : VB a b c p q) : VB a b c ⟨#[]⟩ ⟨#[]⟩ := ⟨h.1, h.2.1, h.2.2.1, by decide, by decide⟩
set_option maxRecDepth 100000 in
set_option maxHeartbeats 1000000 in
theorem ahead_any (a b c : Int) (p q : ByteArray) (w : World) (h : VB a b c p q) :
  Calls Tryz.prog 40 #[.agg #[.int .i64 a, .int .i64 b, .int .i64 c, .string p, .string q]] w (CutPost (fun u => u = aheadC a b c) w) := by
 have HV := hid (vb_num h)
 clear h
 cases hl : leastB a b c with
 | true =>
  have HL := hid hl
  clear hl
  go_enter Tryz.func40, Tryz.ntmps40
  go_wp2_with (first
   | (go_at_call 72; (with_reducible refine (least_any a b c p q _).mono ?_); rintro e w1 ⟨rfl, hb1⟩; rw [HL.out]; obtain ⟨hbc, hbf⟩ := bcell hb1; have hz : w.heap.size + 1 < w1.heap.size := Nat.lt_of_lt_of_le (by simp) hb1.size; have hz0 : w.heap.size < w1.heap.size := Nat.lt_of_succ_lt hz; have HB1 := hid (bstep (balloc (balloc (b0 w) _) _) hb1))
   | (go_at_call 73; refine (first_any _).mono ?_; rintro e w2 ⟨rfl, hb2⟩; obtain ⟨hbc2, hbf2⟩ := bcell hb2; have HB2 := hid (bstep HB1.out hb2); have hy : w.heap.size + 1 < w2.heap.size := Nat.lt_of_lt_of_le hz hb2.size))
  exact bodyPost_ret (v := .agg #[.int .i64 (endCut (-1)).en, .int .i64 (endCut (-1)).v.major, .int .i64 (endCut (-1)).v.minor, .int .i64 (endCut (-1)).v.patch, .string (endCut (-1)).v.pre, .string (endCut (-1)).v.build, .bool (endCut (-1)).after]) (by simp [results, Tryz.results40, go_sem, hbc, hz, hbc2, endCut]) rfl ⟨endCut (-1), rfl, endCut_B (.inl rfl), (if_pos HL.out).symm, by repeat (first | (with_reducible exact HB2.out) | (with_reducible exact b0 _) | (with_reducible refine bset ?_ (by first | exact Nat.le_refl _ | (simp; done) | omega | (simp; omega)) _) | (with_reducible refine balloc ?_ _) | (with_reducible refine bdrew ?_))⟩
 | false =>
  have HL := hid hl
  clear hl
  go_enter Tryz.func40, Tryz.ntmps40
  go_wp2_with (first
   | (go_at_call 72; (with_reducible refine (least_any a b c p q _).mono ?_); rintro e w1 ⟨rfl, hb1⟩; rw [HL.out]; obtain ⟨hbc, hbf⟩ := bcell hb1; have hz : w.heap.size + 1 < w1.heap.size := Nat.lt_of_lt_of_le (by simp) hb1.size; have hz0 : w.heap.size < w1.heap.size := Nat.lt_of_succ_lt hz; have HB1 := hid (bstep (balloc (balloc (b0 w) _) _) hb1))
   | (go_at_call 38; refine (before_any a b c _ _ _).mono ?_; rintro e w2 ⟨rfl, hb2⟩; obtain ⟨hbc2, hbf2⟩ := bcell hb2; have HB2 := hid (bstep HB1.out hb2); have hy : w.heap.size + 1 < w2.heap.size := Nat.lt_of_lt_of_le hz hb2.size))
  exact bodyPost_ret (v := .agg #[.int .i64 0, .int .i64 a, .int .i64 b, .int .i64 c, .string ⟨#[]⟩, .string ⟨#[]⟩, .bool false]) (by simp [results, Tryz.results40, go_sem, hbc, hz, hbc2]) rfl ⟨⟨0, ⟨a, b, c, ⟨#[]⟩, ⟨#[]⟩⟩, false⟩, rfl, cut0 HV.out, (if_neg (by rw [HL.out]; decide)).symm, by repeat (first | (with_reducible exact HB2.out) | (with_reducible exact b0 _) | (with_reducible refine bset ?_ (by first | exact Nat.le_refl _ | (simp; done) | omega | (simp; omega)) _) | (with_reducible refine balloc ?_ _) | (with_reducible refine bdrew ?_))⟩
set_option maxRecDepth 100000 in
set_option maxHeartbeats 1000000 in
theorem behind_any (a b c : Int) (p q : ByteArray) (w : World) (h : VB a b c p q) :
  Calls Tryz.prog 41 #[.agg #[.int .i64 a, .int .i64 b, .int .i64 c, .string p, .string q]] w (CutPost (BehindC a b c) w) := by
 have HV := hid (vb_num h)
 clear h
 go_enter Tryz.func41, Tryz.ntmps41
 go_wp2_with (first
  | (go_at_call 74; refine (next_any a b c _ _ _ HV.out).mono ?_; rintro e w1 ⟨a2, b2, c2, p2, q2, ok, rfl, hvb, hnx, hb1⟩; have HVB := hid hvb; have HNX := hid hnx; obtain ⟨hbc, hbf⟩ := bcell hb1; have hz : w.heap.size + 1 < w1.heap.size := Nat.lt_of_lt_of_le (by simp) hb1.size; have hz0 : w.heap.size < w1.heap.size := Nat.lt_of_succ_lt hz; have HB1 := hid (bstep (balloc (balloc (b0 w) _) _) hb1); clear hvb hnx)
  | (go_at_call 75; refine (last_any _).mono ?_; rintro e w2 ⟨rfl, hb2⟩; obtain ⟨hbc2, hbf2⟩ := bcell hb2; have HB2 := hid (bstep (balloc HB1.out _) hb2); have hy : w.heap.size + 1 < w2.heap.size := Nat.lt_of_lt_of_le (by simp; omega) hb2.size)
  | (go_at_call 38; refine (before_any a2 b2 c2 p2 q2 _).mono ?_; rintro e w2 ⟨rfl, hb2⟩; obtain ⟨hbc2, hbf2⟩ := bcell hb2; have HB2 := hid (bstep (balloc HB1.out _) hb2); have hy : w.heap.size + 1 < w2.heap.size := Nat.lt_of_lt_of_le (by simp; omega) hb2.size))
 ·exact bodyPost_ret (v := .agg #[.int .i64 (endCut 1).en, .int .i64 (endCut 1).v.major, .int .i64 (endCut 1).v.minor, .int .i64 (endCut 1).v.patch, .string (endCut 1).v.pre, .string (endCut 1).v.build, .bool (endCut 1).after]) (by simp [results, Tryz.results41, go_sem, hbc, hz, hz0, hbc2, endCut]) rfl ⟨endCut 1, rfl, endCut_B (.inr rfl), .inl rfl, by repeat (first | (with_reducible exact HB2.out) | (with_reducible exact b0 _) | (with_reducible refine bset ?_ (by first | exact Nat.le_refl _ | (simp; done) | omega | (simp; omega)) _) | (with_reducible refine balloc ?_ _) | (with_reducible refine bdrew ?_))⟩
 ·exact bodyPost_ret (v := .agg #[.int .i64 0, .int .i64 a2, .int .i64 b2, .int .i64 c2, .string p2, .string ⟨#[]⟩, .bool false]) (by simp [results, Tryz.results41, go_sem, hbc, hz, hz0, hbc2]) rfl ⟨⟨0, ⟨a2, b2, c2, p2, ⟨#[]⟩⟩, false⟩, rfl, cut0 (show VB a2 b2 c2 p2 ⟨#[]⟩ from ⟨HVB.out.1, HVB.out.2.1, HVB.out.2.2.1, HVB.out.2.2.2.1, by decide⟩), (by obtain ⟨n1, n2, n3, n4⟩ := HNX.out (by decide) (by first | rfl | trivial | assumption | exact bnot_f (by assumption)); subst n2 n3; exact .inr ⟨a2, b2, c2, rfl, n1, n4⟩), by repeat (first | (with_reducible exact HB2.out) | (with_reducible exact b0 _) | (with_reducible refine bset ?_ (by first | exact Nat.le_refl _ | (simp; done) | omega | (simp; omega)) _) | (with_reducible refine balloc ?_ _) | (with_reducible refine bdrew ?_))⟩
theorem OwnSpans.one {B : Nat} {w : World} {s : Span} {cs : Array Value} (hs : s.B) (hB : B ≤ w.heap.size) (hc : cs.toList = spanCells s) : OwnSpans B (w.alloc (.cells cs 106)) (.slice (some ⟨w.heap.size, 0, none⟩) 1 1) [s] := by
 refine ⟨⟨rfl, .inr ⟨w.heap.size, 1, cs, rfl, hB, heap_alloc_new w _, Nat.le_refl _, by unfold maxLen; omega, ?_, ?_⟩⟩, fun x hx => ?_⟩
 ·rw [← Array.length_toList, hc]; rfl
 ·rw [hc]; rfl
 ·have : x = s := by simpa using hx
  subst this; exact hs
theorem OwnSpans.oneAt {B n : Nat} {w : World} {s : Span} {cs : Array Value} (hn : w.heap.size = n) (hs : s.B) (hB : B ≤ n) (hc : cs.toList = spanCells s) : OwnSpans B (w.alloc (.cells cs 106)) (.slice (some ⟨n, 0, none⟩) 1 1) [s] := by
 subst hn
 exact OwnSpans.one hs hB hc
set_option maxRecDepth 100000 in
set_option maxHeartbeats 2000000 in
theorem exact_any (a b c : Int) (p q : ByteArray) (w : World) (h : VB a b c p q) :
  Calls Tryz.prog 16 #[.agg #[.int .i64 a, .int .i64 b, .int .i64 c, .string p, .string q]] w (SetPost 1 w) := by
 have HV := hid h
 have HVE := hid (show VB a b c p ⟨#[]⟩ from ⟨h.1, h.2.1, h.2.2.1, h.2.2.2.1, by decide⟩)
 clear h
 cases hm : mayV ⟨a, b, c, p, q⟩ with
 | false =>
  have HM := hid hm
  clear hm
  go_enter Tryz.func16, Tryz.ntmps16
  go_wp2_with (first
   | (go_at_call 36; (with_reducible refine (vmay_any a b c p q _ HV.out).mono ?_); rintro e w1 ⟨rfl, hb1⟩; rw [HM.out]; obtain ⟨hbc, hbf⟩ := bcell hb1; have hz : w.heap.size + 1 < w1.heap.size := Nat.lt_of_lt_of_le (by simp) hb1.size; have hz0 : w.heap.size < w1.heap.size := Nat.lt_of_succ_lt hz; have HB1 := hid (bstep (balloc (balloc (b0 w) _) _) hb1))
   | (go_at_call 37; refine (none5_any _).mono ?_; rintro e w2 ⟨rfl, hb2⟩; obtain ⟨hbc2, hbf2⟩ := bcell hb2; have HB2 := hid (bstep HB1.out hb2); have hy : w.heap.size + 1 < w2.heap.size := Nat.lt_of_lt_of_le hz hb2.size))
  exact bodyPost_ret (v := .agg #[.slice none 0 0, .slice none 0 0]) (by simp [results, Tryz.results16, go_sem, hbc, hz, hbc2]) rfl ⟨.slice none 0 0, .slice none 0 0, [], [], rfl, OwnSpans.nil _ _, OwnSpans.nil _ _, by decide, by decide, none_may, by repeat (first | (with_reducible exact HB2.out) | (with_reducible exact b0 _) | (with_reducible refine bset ?_ (by first | exact Nat.le_refl _ | (simp; done) | omega | (simp; omega)) _) | (with_reducible refine balloc ?_ _) | (with_reducible refine bdrew ?_))⟩
 | true =>
  have HM := hid hm
  clear hm
  by_cases hp : p.size = 0
  ·have e0 : p.toList.isEmpty = true := by rw [empty_toList hp]; rfl
   have e1 : (!p.toList.isEmpty) = false := by rw [e0]; rfl
   clear hp
   go_enter Tryz.func16, Tryz.ntmps16
   go_wp2_with (first
    | (go_at_call 36; (with_reducible refine (vmay_any a b c p q _ HV.out).mono ?_); rintro e w1 ⟨rfl, hb1⟩; rw [HM.out]; obtain ⟨hbc, hbf⟩ := bcell hb1; have hz : w.heap.size + 1 < w1.heap.size := Nat.lt_of_lt_of_le (by simp) hb1.size; have hz0 : w.heap.size < w1.heap.size := Nat.lt_of_succ_lt hz; have HB1 := hid (bstep (balloc (balloc (b0 w) _) _) hb1)))
   have HX := hid (((BoxV.new w a b c p q 52).below (balloc (b0 _) (.cells #[.slice none 0 0, .slice none 0 0] 62)) (by simp)).below hb1 (by simp; omega))
   obtain ⟨x0, x1, x2, x3, x4⟩ := HX.out
   first
    | go_must (go_region_held3 (fun w' => w'.cell? ⟨w.heap.size, 0, none⟩ = some (.int .i64 a) ∧ w'.cell? ⟨w.heap.size, 1, none⟩ = some (.int .i64 b) ∧ w'.cell? ⟨w.heap.size, 2, none⟩ = some (.int .i64 c) ∧ w'.cell? ⟨w.heap.size, 3, none⟩ = some (.string p) ∧ w'.cell? ⟨w.heap.size, 4, none⟩ = some (.string q)) (first | exact ⟨by assumption, by assumption, by assumption, by assumption, by assumption⟩ | go_keep)
      ((first
       | (go_at_call 40; go_must (refine (ahead_any a b c p q _ HV.out).mono ?_; rintro e wa ⟨ua, rfl, hua, hqa, hba⟩; have HQA := hid hqa; clear hqa; (first | replace hba : Below w1.heap.size w1 wa := (b0 w1).drew.trans hba | skip); have HUA := hid hua; have HBA := hid (by first | exact bstep HBB.out hba | exact bstep HB1.out hba); obtain ⟨hbca, hbfa⟩ := bcell hba; have hza := Nat.lt_of_lt_of_le (show w.heap.size + 1 < _ by first | exact hzb | exact hz) hba.size; have hza0 := Nat.lt_of_succ_lt hza; have HXA := hid (show BoxV wa w.heap.size a b c p q by first | exact HXB.out.below hba hzb0 | exact HX.out.below hba hz0); obtain ⟨y0, y1, y2, y3, y4⟩ := HXA.out; clear hua))
       | (go_at_call 41; go_must (refine (behind_any a b c p q _ HV.out).mono ?_; rintro e wb ⟨ub, rfl, hub, hqb, hbb⟩; have HQB := hid hqb; clear hqb; (first | replace hbb : Below w1.heap.size w1 wb := (b0 w1).drew.trans hbb | skip); have HUB := hid hub; have HBB := hid (by first | exact bstep HBA.out hbb | exact bstep HB1.out hbb); obtain ⟨hbcb, hbfb⟩ := bcell hbb; have hzb := Nat.lt_of_lt_of_le (show w.heap.size + 1 < _ by first | exact hza | exact hz) hbb.size; have hzb0 := Nat.lt_of_succ_lt hzb; have HXB := hid (show BoxV wb w.heap.size a b c p q by first | exact HXA.out.below hbb hza0 | exact HX.out.below hbb hz0); obtain ⟨u0, u1, u2, u3, u4⟩ := HXB.out; clear hub)))))
    | fail
   ·go_wp2
    exact bodyPost_ret (v := .agg #[.slice (some ⟨wb.heap.size, 0, none⟩) 1 1, .slice none 0 0]) (by simp [results, Tryz.results16, go_sem, hbc, hz, hbca, hza, hbcb, hzb]) rfl ⟨.slice (some ⟨wb.heap.size, 0, none⟩) 1 1, .slice none 0 0, [⟨ua, ub⟩], [], rfl, OwnSpans.oneAt (s := ⟨ua, ub⟩) (by simp) ⟨HUA.out, HUB.out⟩ (by omega) rfl, OwnSpans.nil _ _, by simp, by simp, exact_rel HM.out HQA.out HQB.out, by repeat (first | (with_reducible exact HBB.out) | (with_reducible exact b0 _) | (with_reducible refine bset ?_ (by first | exact Nat.le_refl _ | (simp; done) | omega | (simp; omega)) _) | (with_reducible refine balloc ?_ _) | (with_reducible refine bdrew ?_))⟩
  ·have e0 := nonempty_toList (s := p) (by omega)
   have e1 : (!p.toList.isEmpty) = true := by rw [e0]; rfl
   clear hp
   go_enter Tryz.func16, Tryz.ntmps16
   go_wp2_with (first
    | (go_at_call 36; (with_reducible refine (vmay_any a b c p q _ HV.out).mono ?_); rintro e w1 ⟨rfl, hb1⟩; rw [HM.out]; obtain ⟨hbc, hbf⟩ := bcell hb1; have hz : w.heap.size + 1 < w1.heap.size := Nat.lt_of_lt_of_le (by simp) hb1.size; have hz0 : w.heap.size < w1.heap.size := Nat.lt_of_succ_lt hz; have HB1 := hid (bstep (balloc (balloc (b0 w) _) _) hb1)))
   have HX := hid (((BoxV.new w a b c p q 52).below (balloc (b0 _) (.cells #[.slice none 0 0, .slice none 0 0] 62)) (by simp)).below hb1 (by simp; omega))
   obtain ⟨x0, x1, x2, x3, x4⟩ := HX.out
   first
    | go_must (go_region_held3 (fun w' => w'.cell? ⟨w.heap.size, 0, none⟩ = some (.int .i64 a) ∧ w'.cell? ⟨w.heap.size, 1, none⟩ = some (.int .i64 b) ∧ w'.cell? ⟨w.heap.size, 2, none⟩ = some (.int .i64 c) ∧ w'.cell? ⟨w.heap.size, 3, none⟩ = some (.string p) ∧ w'.cell? ⟨w.heap.size, 4, none⟩ = some (.string q)) (first | exact ⟨by assumption, by assumption, by assumption, by assumption, by assumption⟩ | go_keep)
      ((first
       | (go_at_call 38; go_must (refine (before_any a b c p q _).mono ?_; rintro e wa ⟨rfl, hba⟩; (first | replace hba : Below w1.heap.size w1 wa := (b0 w1).drew.trans hba | skip); have HBA := hid (by first | exact bstep HBB.out hba | exact bstep HB1.out hba); obtain ⟨hbca, hbfa⟩ := bcell hba; have hza := Nat.lt_of_lt_of_le (show w.heap.size + 1 < _ by first | exact hzb | exact hz) hba.size; have hza0 := Nat.lt_of_succ_lt hza; have HXA := hid (show BoxV wa w.heap.size a b c p q by first | exact HXB.out.below hba hzb0 | exact HX.out.below hba hz0); obtain ⟨y0, y1, y2, y3, y4⟩ := HXA.out))
       | (go_at_call 39; go_must (refine (behind3_any a b c p q _).mono ?_; rintro e wb ⟨rfl, hbb⟩; (first | replace hbb : Below w1.heap.size w1 wb := (b0 w1).drew.trans hbb | skip); have HBB := hid (by first | exact bstep HBA.out hbb | exact bstep HB1.out hbb); obtain ⟨hbcb, hbfb⟩ := bcell hbb; have hzb := Nat.lt_of_lt_of_le (show w.heap.size + 1 < _ by first | exact hza | exact hz) hbb.size; have hzb0 := Nat.lt_of_succ_lt hzb; have HXB := hid (show BoxV wb w.heap.size a b c p q by first | exact HXA.out.below hbb hza0 | exact HX.out.below hbb hz0); obtain ⟨u0, u1, u2, u3, u4⟩ := HXB.out)))))
    | fail
   ·go_wp2
    exact bodyPost_ret (v := .agg #[.slice none 0 0, .slice (some ⟨wb.heap.size, 0, none⟩) 1 1]) (by simp [results, Tryz.results16, go_sem, hbc, hz, hbca, hza, hbcb, hzb]) rfl ⟨.slice none 0 0, .slice (some ⟨wb.heap.size, 0, none⟩) 1 1, [], [⟨⟨0, ⟨a, b, c, p, ⟨#[]⟩⟩, false⟩, ⟨0, ⟨a, b, c, p, ⟨#[]⟩⟩, true⟩⟩], rfl, OwnSpans.nil _ _, OwnSpans.oneAt (s := ⟨⟨0, ⟨a, b, c, p, ⟨#[]⟩⟩, false⟩, ⟨0, ⟨a, b, c, p, ⟨#[]⟩⟩, true⟩⟩) (by simp) ⟨cut0 (show Ver.B ⟨a, b, c, p, ⟨#[]⟩⟩ from HVE.out), cut0 (show Ver.B ⟨a, b, c, p, ⟨#[]⟩⟩ from HVE.out)⟩ (by omega) rfl, by simp, by simp, exact_pre HM.out, by repeat (first | (with_reducible exact HBB.out) | (with_reducible exact b0 _) | (with_reducible refine bset ?_ (by first | exact Nat.le_refl _ | (simp; done) | omega | (simp; omega)) _) | (with_reducible refine balloc ?_ _) | (with_reducible refine bdrew ?_))⟩
end
end Go.Proofs.YthneiolcljnbeaaGreatDoor
