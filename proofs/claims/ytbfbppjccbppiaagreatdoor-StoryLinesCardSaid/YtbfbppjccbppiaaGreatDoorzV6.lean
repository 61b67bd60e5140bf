import Derived.Test.YtbfbppjccbppiaaGreatDoorzV1
import Derived.Outline
namespace Go.Proofs.YtbfbppjccbppiaaGreatDoor
open Go Go.RowKit
section
theorem zl4 (s : ByteArray) (w : World) (hs : s.size ≤ 1000) : Calls Tryz.prog 128 #[.string s, .int .u8 46] w (qy6 46 s w) := words_any s 46 w hs
def cmpL : List ByteArray → List ByteArray → Int
 | x :: l, y :: m => if oneF x y = 0 then cmpL l m else oneF x y
 | l, m => qh0 l.length m.length
def qu6 (s : ByteArray) : List ByteArray := (qe8 46 s.data.toList).map fun l => ⟨l.toArray⟩
theorem words_eq {WB : List ByteArray} {s : ByteArray} (h : WB.map (fun x => x.data.toList) = qe8 46 s.data.toList) : WB = qu6 s := by
 unfold qu6
 rw [← h, List.map_map]
 have : ((fun l : List UInt8 => (⟨l.toArray⟩ : ByteArray)) ∘ fun x : ByteArray => x.data.toList) = id := by
  funext x
  simp
 rw [this, List.map_id]
def za1 (a b : ByteArray) : Int := if a = b then 0 else if a.size = 0 then 1 else if b.size = 0 then -1 else cmpL (qu6 a) (qu6 b)
theorem cmpL_drop {l m : List ByteArray} {k : Nat} (hk : k < l.length) (hk' : k < m.length) : cmpL (l.drop k) (m.drop k) = if oneF l[k] m[k] = 0 then cmpL (l.drop (k + 1)) (m.drop (k + 1)) else oneF l[k] m[k] := by
 rw [List.drop_eq_getElem_cons hk, List.drop_eq_getElem_cons hk', cmpL]
theorem intsF_sub (a b k : Nat) (ha : k ≤ a) (hb : k ≤ b) : qh0 ((a - k : Nat) : Int) ((b - k : Nat) : Int) = qh0 a b := by
 unfold qh0
 by_cases h1 : (a : Int) < b
 ·rw [if_pos h1, if_pos (by omega)]
 ·rw [if_neg h1, if_neg (by omega)]
  by_cases h2 : (b : Int) < a
  ·rw [if_pos h2, if_pos (by omega)]
  ·rw [if_neg h2, if_neg (by omega)]
theorem cmpL_end {l m : List ByteArray} {k : Nat} (hk : k ≤ l.length) (hk' : k ≤ m.length) (h : k = l.length ∨ k = m.length) : cmpL (l.drop k) (m.drop k) = qh0 l.length m.length := by
 have e : cmpL (l.drop k) (m.drop k) = qh0 (l.drop k).length (m.drop k).length := by
  rcases h with h | h
  ·have : l.drop k = [] := List.eq_nil_of_length_eq_zero (by simp; omega)
   rw [this]
   simp [cmpL]
  ·have : m.drop k = [] := List.eq_nil_of_length_eq_zero (by simp; omega)
   rw [this]
   cases l.drop k <;> simp [cmpL]
 rw [e, List.length_drop, List.length_drop, intsF_sub _ _ _ hk hk']
theorem ba_eq {a b : ByteArray} : (a.toList == b.toList) = decide (a = b) := by
 rw [Bool.eq_iff_iff, beq_iff_eq, decide_eq_true_iff, ByteArray.toList_eq, ByteArray.toList_eq]
 constructor
 ·intro h
  cases a; cases b
  congr
  exact Array.toList_inj.1 h
 ·rintro rfl; rfl
set_option maxRecDepth 100000 in
set_option maxHeartbeats 1000000 in
theorem qv3 (a b : ByteArray) (w : World) (ha : a.size ≤ 1000) (hb : b.size ≤ 1000) :
  Calls Tryz.prog 203 #[.string a, .string b] w fun e w' => e = .returned (.int .i64 (za1 a b)) ∧ Below w.heap.size w w' := by
 by_cases h0 : a = b
 ·have e0 : (a.toList == b.toList) = true := by rw [ba_eq]; exact decide_eq_true h0
  have H : Hid (za1 a b = 0) := hid (by unfold za1; rw [if_pos h0])
  clear h0
  go_enter Tryz.func203, Tryz.ntmps203
  go_wp2
  go_ret
  exact ⟨qb7 H.out.symm, b0 w⟩
 ·have e0 : (a.toList == b.toList) = false := by rw [ba_eq]; exact decide_eq_false h0
  have H0 : Hid (za1 a b = if a.size = 0 then 1 else if b.size = 0 then -1 else cmpL (qu6 a) (qu6 b)) := hid (by unfold za1; rw [if_neg h0])
  clear h0
  by_cases h1 : a.size = 0
  ·have e1 : a.toList.isEmpty = true := by rw [qe2 h1]; rfl
   have H : Hid (za1 a b = 1) := hid (by rw [H0.out, if_pos h1])
   clear h1
   go_enter Tryz.func203, Tryz.ntmps203
   go_wp2
   go_ret
   exact ⟨qb7 H.out.symm, b0 w⟩
  ·have e1 := qb9 (s := a) (by omega)
   by_cases h2 : b.size = 0
   ·have e2 : b.toList.isEmpty = true := by rw [qe2 h2]; rfl
    have H : Hid (za1 a b = -1) := hid (by rw [H0.out, if_neg h1, if_pos h2])
    clear h1 h2
    go_enter Tryz.func203, Tryz.ntmps203
    go_wp2
    go_ret
    exact ⟨qb7 H.out.symm, b0 w⟩
   ·have e2 := qb9 (s := b) (by omega)
    have H1 : Hid (za1 a b = cmpL (qu6 a) (qu6 b)) := hid (by rw [H0.out, if_neg h1, if_neg h2])
    clear h1 h2 H0
    go_enter Tryz.func203, Tryz.ntmps203
    go_wp2_with (first
     | (go_at_call 128; (with_reducible refine (zl4 a _ ha).mono ?_); rintro e w1 ⟨L, A, cap, rfl, hrd, hsp, hx, hlen, -, hb1⟩; have HB1 := hid hb1; have HR := hid hrd; have HS := hid (words_eq hsp); have HX := hid hx; clear hsp hrd hx hb1)
     | (go_at_call 128; (with_reducible refine (zl4 b _ hb).mono ?_); rintro e w2 ⟨M, A', cap', rfl, hrd, hsp, hx, hlen', -, hb2⟩; have HB2 := hid hb2; have HR' := hid hrd; have HS' := hid (words_eq hsp); have HX' := hid hx; clear hsp hrd hx hb2))
    obtain ⟨_, _, hv, hcap, hmax, hc⟩ := (HR.out.lift HB2.out HB2.out.size).flat
    injection hv with q1 q2 q3
    subst q1
    have HC := hid hc
    obtain ⟨_, _, hv, hcap', hmax', hc'⟩ := HR'.out.flat
    injection hv with q1' q2' q3'
    subst q1'
    have HC' := hid hc'
    clear hc hc' q2 q3 q2' q3'
    have H2 : Hid (za1 a b = cmpL L M) := hid (by rw [H1.out, HS.out, HS'.out])
    go_loopw [7] (fun iv wr => ∃ k : Nat, k ≤ L.length ∧ k ≤ M.length ∧ iv = .int .i64 k ∧ Hid (cmpL L M = cmpL (L.drop k) (M.drop k)) ∧ Hid (Below w2.heap.size w2 wr)) (fun iv _ => L.length - (intOf iv).toNat)
    case atStart => exact ⟨0, Nat.zero_le _, Nat.zero_le _, rfl, hid (by simp), hid (b0 _)⟩
    case round =>
     obtain ⟨k, hk, hk', rfl, hcmp, hbr⟩ := hrel
     have HBW := hid (qa1 (qa1 HB1.out HB2.out) hbr.out)
     by_cases hlt : k < L.length ∧ k < M.length
     ·obtain ⟨hl1, hl2⟩ := hlt
      obtain ⟨g, o, hA, hF, -, hcell⟩ := HC.out k hl1
      cases hA
      obtain ⟨g', o', hA', hF', -, hcell'⟩ := HC'.out k hl2
      cases hA'
      have c0 := cell_below hbr.out hF (hcell 0 _ rfl)
      have c0' := cell_below hbr.out hF' (hcell' 0 _ rfl)
      have hxk : (L[k]).size ≤ 1000 := by have := HX.out _ (List.getElem_mem hl1); omega
      have hxk' : (M[k]).size ≤ 1000 := by have := HX'.out _ (List.getElem_mem hl2); omega
      simp only [fStr, Nat.mul_one, Nat.add_zero] at c0 c0'
      have HD := hid (cmpL_drop hl1 hl2)
      clear hcell hcell'
      have i1 : (0 : Int) ≤ ↑k := by omega
      have i2 : (↑k : Int) < ↑L.length := by omega
      have i3 : (↑k : Int) < ↑M.length := by omega
      have i4 : decide (k < M.length) = true := decide_eq_true hl2
      generalize L[k] = x at *
      generalize M[k] = y at *
      by_cases h1 : oneF x y = 0
      ·have e3 : (oneF x y != 0) = false := by rw [h1]; rfl
       have HE : Hid (cmpL L M = cmpL (L.drop (k + 1)) (M.drop (k + 1))) := hid (by rw [hcmp.out, HD.out, if_pos h1])
       clear h1
       go_wp2
       go_quiet ((go_at_call 204; exact Calls.quiet_of_same (one_any x y _ hxk hxk')))
       go_wp2
       go_roundw
       case rel => exact ⟨k + 1, by omega, by omega, by go_num, HE, hid (below_drewN hbr.out _)⟩
       case measure => simp [intOf]; omega
      ·have e3 : (oneF x y != 0) = true := by rw [bne_iff_ne]; exact h1
       have HE : Hid (za1 a b = oneF x y) := hid (by rw [H2.out, hcmp.out, HD.out, if_neg h1])
       clear h1
       go_wp2
       go_quiet ((go_at_call 204; exact Calls.quiet_of_same (one_any x y _ hxk hxk')))
       go_wp2
       go_ret
       exact ⟨qb7 HE.out.symm, below_drewN HBW.out _⟩
     ·have HE : Hid (za1 a b = qh0 L.length M.length) := hid (by rw [H2.out, hcmp.out]; exact cmpL_end hk hk' (by omega))
      by_cases hl1 : k < L.length
      ·have i4 : decide (k < M.length) = false := decide_eq_false (by omega)
       have hl2 : M.length ≤ k := by omega
       clear hlt
       go_wp2_with (go_at_call 195; refine (qg6 _ _ _).mono ?_; rintro e w' ⟨rfl, rfl⟩)
       go_ret
       exact ⟨qb7 HE.out.symm, HBW.out⟩
      ·clear hlt
       go_wp2_with (go_at_call 195; refine (qg6 _ _ _).mono ?_; rintro e w' ⟨rfl, rfl⟩)
       go_ret
       exact ⟨qb7 HE.out.symm, HBW.out⟩
def cmpV (u v : Ver) : Int :=
 if mayV u = true ∧ mayV v = true then
  (if qh0 u.major v.major ≠ 0 then qh0 u.major v.major else if qh0 u.minor v.minor ≠ 0 then qh0 u.minor v.minor else if qh0 u.patch v.patch ≠ 0 then qh0 u.patch v.patch else za1 u.pre v.pre)
 else 0
set_option maxRecDepth 100000 in
set_option maxHeartbeats 1000000 in
theorem qh9 (a b c : Int) (p q : ByteArray) (a' b' c' : Int) (p' q' : ByteArray) (w : World) (h : VB a b c p q) (h' : VB a' b' c' p' q') :
  Calls Tryz.prog 196 #[.agg #[.int .i64 a, .int .i64 b, .int .i64 c, .string p, .string q], .agg #[.int .i64 a', .int .i64 b', .int .i64 c', .string p', .string q']] w fun e w' => e = .returned (.int .i64 (cmpV ⟨a, b, c, p, q⟩ ⟨a', b', c', p', q'⟩)) ∧ Below w.heap.size w w' := by
 have hp : p.size ≤ 1000 := h.2.2.2.1
 have hp' : p'.size ≤ 1000 := h'.2.2.2.1
 have HV := hid h
 have HV' := hid h'
 clear h h'
 cases h1 : mayV ⟨a, b, c, p, q⟩ with
 | false =>
  have H1 := hid h1
  have H : Hid (cmpV ⟨a, b, c, p, q⟩ ⟨a', b', c', p', q'⟩ = 0) := hid (by unfold cmpV; rw [if_neg (by rw [h1]; simp)])
  clear h1
  go_enter Tryz.func196, Tryz.ntmps196
  go_wp2_with (first
   | (go_at_call 54; (with_reducible refine (qb6 a b c p q _ HV.out).mono ?_); rintro e w1 ⟨rfl, hb1⟩; rw [H1.out]; obtain ⟨hbc, hbf⟩ := qb4 hb1; have hz : w.heap.size + 1 < w1.heap.size := Nat.lt_of_lt_of_le (by simp) hb1.size; have hz0 : w.heap.size < w1.heap.size := Nat.lt_of_succ_lt hz; have HB1 := hid (qa1 (qa0 (qa0 (b0 w) _) _) hb1))
   | (go_at_call 54; (with_reducible refine (qb6 a' b' c' p' q' _ HV'.out).mono ?_); rintro e w2 ⟨rfl, hb2⟩; obtain ⟨hbc2, hbf2⟩ := qb4 hb2; have HB2 := hid (qa1 HB1.out hb2); have hz2 : w1.heap.size ≤ w2.heap.size := hb2.size)
   | (go_at_call 195; refine (qg6 _ _ _).mono ?_; rintro e w' ⟨rfl, rfl⟩)
   | (go_at_call 203; refine (qv3 p p' _ hp hp').mono ?_; rintro e w3 ⟨rfl, hb3⟩))
  go_ret
  exact ⟨qb7 H.out.symm, HB1.out⟩
 | true =>
  have H1 := hid h1
  cases h2 : mayV ⟨a', b', c', p', q'⟩ with
  | false =>
   have H2 := hid h2
   have H : Hid (cmpV ⟨a, b, c, p, q⟩ ⟨a', b', c', p', q'⟩ = 0) := hid (by unfold cmpV; rw [if_neg (by rw [h2]; simp)])
   clear h1 h2
   go_enter Tryz.func196, Tryz.ntmps196
   go_wp2_with (first
    | (go_at_call 54; (with_reducible refine (qb6 a b c p q _ HV.out).mono ?_); rintro e w1 ⟨rfl, hb1⟩; rw [H1.out]; obtain ⟨hbc, hbf⟩ := qb4 hb1; have hz : w.heap.size + 1 < w1.heap.size := Nat.lt_of_lt_of_le (by simp) hb1.size; have hz0 : w.heap.size < w1.heap.size := Nat.lt_of_succ_lt hz; have HB1 := hid (qa1 (qa0 (qa0 (b0 w) _) _) hb1))
    | (go_at_call 54; (with_reducible refine (qb6 a' b' c' p' q' _ HV'.out).mono ?_); rintro e w2 ⟨rfl, hb2⟩; rw [H2.out]; obtain ⟨hbc2, hbf2⟩ := qb4 hb2; have HB2 := hid (qa1 HB1.out hb2); have hz2 : w1.heap.size ≤ w2.heap.size := hb2.size)
    | (go_at_call 195; refine (qg6 _ _ _).mono ?_; rintro e w' ⟨rfl, rfl⟩)
    | (go_at_call 203; refine (qv3 p p' _ hp hp').mono ?_; rintro e w3 ⟨rfl, hb3⟩))
   go_ret
   exact ⟨qb7 H.out.symm, HB2.out⟩
  | true =>
   have H2 := hid h2
   have H0 : Hid (cmpV ⟨a, b, c, p, q⟩ ⟨a', b', c', p', q'⟩ = if qh0 a a' ≠ 0 then qh0 a a' else if qh0 b b' ≠ 0 then qh0 b b' else if qh0 c c' ≠ 0 then qh0 c c' else za1 p p') := hid (by unfold cmpV; rw [if_pos ⟨h1, h2⟩])
   clear h1 h2
   by_cases k1 : qh0 a a' = 0
   ·have e1 : (qh0 a a' != 0) = false := by rw [k1]; rfl
    by_cases k2 : qh0 b b' = 0
    ·have e2 : (qh0 b b' != 0) = false := by rw [k2]; rfl
     by_cases k3 : qh0 c c' = 0
     ·have e3 : (qh0 c c' != 0) = false := by rw [k3]; rfl
      have H : Hid (cmpV ⟨a, b, c, p, q⟩ ⟨a', b', c', p', q'⟩ = za1 p p') := hid (by rw [H0.out, if_neg (by simp [k1]), if_neg (by simp [k2]), if_neg (by simp [k3])])
      clear k1 k2 k3
      go_enter Tryz.func196, Tryz.ntmps196
      go_wp2_with (first
       | (go_at_call 54; (with_reducible refine (qb6 a b c p q _ HV.out).mono ?_); rintro e w1 ⟨rfl, hb1⟩; rw [H1.out]; obtain ⟨hbc, hbf⟩ := qb4 hb1; have hz : w.heap.size + 1 < w1.heap.size := Nat.lt_of_lt_of_le (by simp) hb1.size; have hz0 : w.heap.size < w1.heap.size := Nat.lt_of_succ_lt hz; have HB1 := hid (qa1 (qa0 (qa0 (b0 w) _) _) hb1))
       | (go_at_call 54; (with_reducible refine (qb6 a' b' c' p' q' _ HV'.out).mono ?_); rintro e w2 ⟨rfl, hb2⟩; rw [H2.out]; obtain ⟨hbc2, hbf2⟩ := qb4 hb2; have HB2 := hid (qa1 HB1.out hb2); have hz2 : w1.heap.size ≤ w2.heap.size := hb2.size)
       | (go_at_call 195; refine (qg6 _ _ _).mono ?_; rintro e w' ⟨rfl, rfl⟩)
       | (go_at_call 203; refine (qv3 p p' _ hp hp').mono ?_; rintro e w3 ⟨rfl, hb3⟩))
      go_ret
      exact ⟨qb7 H.out.symm, qa1 HB2.out hb3⟩
     ·have e3 : (qh0 c c' != 0) = true := by rw [bne_iff_ne]; exact k3
      have H : Hid (cmpV ⟨a, b, c, p, q⟩ ⟨a', b', c', p', q'⟩ = qh0 c c') := hid (by rw [H0.out, if_neg (by simp [k1]), if_neg (by simp [k2]), if_pos k3])
      clear k1 k2 k3
      go_enter Tryz.func196, Tryz.ntmps196
      go_wp2_with (first
       | (go_at_call 54; (with_reducible refine (qb6 a b c p q _ HV.out).mono ?_); rintro e w1 ⟨rfl, hb1⟩; rw [H1.out]; obtain ⟨hbc, hbf⟩ := qb4 hb1; have hz : w.heap.size + 1 < w1.heap.size := Nat.lt_of_lt_of_le (by simp) hb1.size; have hz0 : w.heap.size < w1.heap.size := Nat.lt_of_succ_lt hz; have HB1 := hid (qa1 (qa0 (qa0 (b0 w) _) _) hb1))
       | (go_at_call 54; (with_reducible refine (qb6 a' b' c' p' q' _ HV'.out).mono ?_); rintro e w2 ⟨rfl, hb2⟩; rw [H2.out]; obtain ⟨hbc2, hbf2⟩ := qb4 hb2; have HB2 := hid (qa1 HB1.out hb2); have hz2 : w1.heap.size ≤ w2.heap.size := hb2.size)
       | (go_at_call 195; refine (qg6 _ _ _).mono ?_; rintro e w' ⟨rfl, rfl⟩)
       | (go_at_call 203; refine (qv3 p p' _ hp hp').mono ?_; rintro e w3 ⟨rfl, hb3⟩))
      go_ret
      exact ⟨qb7 H.out.symm, HB2.out⟩
    ·have e2 : (qh0 b b' != 0) = true := by rw [bne_iff_ne]; exact k2
     have H : Hid (cmpV ⟨a, b, c, p, q⟩ ⟨a', b', c', p', q'⟩ = qh0 b b') := hid (by rw [H0.out, if_neg (by simp [k1]), if_pos k2])
     clear k1 k2
     go_enter Tryz.func196, Tryz.ntmps196
     go_wp2_with (first
      | (go_at_call 54; (with_reducible refine (qb6 a b c p q _ HV.out).mono ?_); rintro e w1 ⟨rfl, hb1⟩; rw [H1.out]; obtain ⟨hbc, hbf⟩ := qb4 hb1; have hz : w.heap.size + 1 < w1.heap.size := Nat.lt_of_lt_of_le (by simp) hb1.size; have hz0 : w.heap.size < w1.heap.size := Nat.lt_of_succ_lt hz; have HB1 := hid (qa1 (qa0 (qa0 (b0 w) _) _) hb1))
      | (go_at_call 54; (with_reducible refine (qb6 a' b' c' p' q' _ HV'.out).mono ?_); rintro e w2 ⟨rfl, hb2⟩; rw [H2.out]; obtain ⟨hbc2, hbf2⟩ := qb4 hb2; have HB2 := hid (qa1 HB1.out hb2); have hz2 : w1.heap.size ≤ w2.heap.size := hb2.size)
      | (go_at_call 195; refine (qg6 _ _ _).mono ?_; rintro e w' ⟨rfl, rfl⟩)
      | (go_at_call 203; refine (qv3 p p' _ hp hp').mono ?_; rintro e w3 ⟨rfl, hb3⟩))
     go_ret
     exact ⟨qb7 H.out.symm, HB2.out⟩
   ·have e1 : (qh0 a a' != 0) = true := by rw [bne_iff_ne]; exact k1
    have H : Hid (cmpV ⟨a, b, c, p, q⟩ ⟨a', b', c', p', q'⟩ = qh0 a a') := hid (by rw [H0.out, if_pos k1])
    clear k1
    go_enter Tryz.func196, Tryz.ntmps196
    go_wp2_with (first
     | (go_at_call 54; (with_reducible refine (qb6 a b c p q _ HV.out).mono ?_); rintro e w1 ⟨rfl, hb1⟩; rw [H1.out]; obtain ⟨hbc, hbf⟩ := qb4 hb1; have hz : w.heap.size + 1 < w1.heap.size := Nat.lt_of_lt_of_le (by simp) hb1.size; have hz0 : w.heap.size < w1.heap.size := Nat.lt_of_succ_lt hz; have HB1 := hid (qa1 (qa0 (qa0 (b0 w) _) _) hb1))
     | (go_at_call 54; (with_reducible refine (qb6 a' b' c' p' q' _ HV'.out).mono ?_); rintro e w2 ⟨rfl, hb2⟩; rw [H2.out]; obtain ⟨hbc2, hbf2⟩ := qb4 hb2; have HB2 := hid (qa1 HB1.out hb2); have hz2 : w1.heap.size ≤ w2.heap.size := hb2.size)
     | (go_at_call 195; refine (qg6 _ _ _).mono ?_; rintro e w' ⟨rfl, rfl⟩)
     | (go_at_call 203; refine (qv3 p p' _ hp hp').mono ?_; rintro e w3 ⟨rfl, hb3⟩))
    go_ret
    exact ⟨qb7 H.out.symm, HB2.out⟩
end
section
set_option maxHeartbeats 400000 in
theorem core_any (a b c : Int) (p q : ByteArray) (w : World) :
  Calls Tryz.prog 100 #[.agg #[.int .i64 a, .int .i64 b, .int .i64 c, .string p, .string q]] w fun e w' => e = .returned (.agg #[.int .i64 a, .int .i64 b, .int .i64 c, .string p, .string ⟨#[]⟩]) ∧ Below w.heap.size w w' := by
 go_enter Tryz.func100, Tryz.ntmps100
 go_wp2
 exact bodyPost_ret (v := .agg #[.int .i64 a, .int .i64 b, .int .i64 c, .string p, .string ⟨#[]⟩]) (by simp [results, Tryz.results100, go_sem]) rfl ⟨rfl, qa0 (qa0 (b0 w) _) _⟩
def VerPost (w : World) (e : Ending) (w' : World) : Prop := ∃ (a b c : Int) (p q : ByteArray) (ok : Bool), e = .returned (.tuple #[.agg #[.int .i64 a, .int .i64 b, .int .i64 c, .string p, .string q], .bool ok]) ∧ VB a b c p q ∧ Below w.heap.size w w'
theorem may_bd {v : Ver} (h : mayV v = true) : (0 ≤ v.major ∧ v.major ≤ 9999) ∧ (0 ≤ v.minor ∧ v.minor ≤ 9999) ∧ (0 ≤ v.patch ∧ v.patch ≤ 9999) := by
 simp only [mayV, qr0, Bool.and_eq_true, decide_eq_true_eq] at h
 obtain ⟨⟨⟨⟨h1, h2⟩, h3⟩, _⟩, _⟩ := h
 exact ⟨h1, h2, h3⟩
theorem qp4 : VB 0 0 0 ⟨#[]⟩ ⟨#[]⟩ := by
 refine ⟨?_, ?_, ?_, ?_, ?_⟩ <;> first | omega | decide
set_option maxRecDepth 100000 in
set_option maxHeartbeats 1000000 in
theorem bump_any (a b c : Int) (p q : ByteArray) (part : Int) (w : World) (h : VB a b c p q) (_hpart : I64 part) :
  Calls Tryz.prog 133 #[.agg #[.int .i64 a, .int .i64 b, .int .i64 c, .string p, .string q], .int .i64 part] w (VerPost w) := by
 obtain ⟨ha, hb, hc, hp, hq⟩ := id h
 have HV := hid h
 clear h
 cases h1 : mayV ⟨a, b, c, p, q⟩ with
 | false =>
  have H1 := hid h1
  clear h1
  go_enter Tryz.func133, Tryz.ntmps133
  go_wp2_with (first
   | (go_at_call 54; (with_reducible refine (qb6 a b c p q _ HV.out).mono ?_); rintro e w1 ⟨rfl, hb1⟩; rw [H1.out]; obtain ⟨hbc, hbf⟩ := qb4 hb1; have hz : w.heap.size + 1 < w1.heap.size := Nat.lt_of_lt_of_le (by simp) hb1.size; have hz0 : w.heap.size < w1.heap.size := Nat.lt_of_succ_lt hz; have HB1 := hid (qa1 (qa0 (qa0 (b0 w) _) _) hb1)))
  exact bodyPost_ret (v := .tuple #[.agg #[.int .i64 0, .int .i64 0, .int .i64 0, .string ⟨#[]⟩, .string ⟨#[]⟩], .bool false]) (by simp [results, Tryz.results133, go_sem, hbc]) rfl ⟨0, 0, 0, ⟨#[]⟩, ⟨#[]⟩, false, rfl, qp4, (by repeat (first | (with_reducible exact HB1.out) | (with_reducible exact b0 _) | (with_reducible refine bset ?_ (by first | exact Nat.le_refl _ | simp) _) | (with_reducible refine qa0 ?_ _) | (with_reducible refine qe6 ?_)))⟩
 | true =>
  obtain ⟨hma, hmb, hmc⟩ := may_bd h1
  simp only at hma hmb hmc
  have H1 := hid h1
  clear h1
  go_enter Tryz.func133, Tryz.ntmps133
  go_wp2_with (first
   | (go_at_call 54; (with_reducible refine (qb6 a b c p q _ HV.out).mono ?_); rintro e w1 ⟨rfl, hb1⟩; rw [H1.out]; obtain ⟨hbc, hbf⟩ := qb4 hb1; have hz : w.heap.size + 1 < w1.heap.size := Nat.lt_of_lt_of_le (by simp) hb1.size; have hz0 : w.heap.size < w1.heap.size := Nat.lt_of_succ_lt hz; have HB1 := hid (qa1 (qa0 (qa0 (b0 w) _) _) hb1))
   | (go_at_call 54; (refine (qb6 _ _ _ _ _ _ (by refine ⟨?_, ?_, ?_, ?_, ?_⟩ <;> first | omega | decide)).mono ?_); rintro e w2 ⟨rfl, hb2⟩; obtain ⟨hbc2, hbf2⟩ := qb4 hb2; have HB2 := hid (qa1 (qa0 HB1.out _) hb2)))
  ·exact bodyPost_ret (v := .tuple #[.agg #[.int .i64 (0), .int .i64 (0), .int .i64 (0), .string ⟨#[]⟩, .string ⟨#[]⟩], .bool false]) (by simp [results, Tryz.results133, go_sem, hbc]) rfl ⟨0, 0, 0, ⟨#[]⟩, ⟨#[]⟩, false, rfl, qp4, (by repeat (first | (with_reducible exact HB1.out) | (with_reducible exact b0 _) | (with_reducible refine bset ?_ (by first | exact Nat.le_refl _ | simp) _) | (with_reducible refine qa0 ?_ _) | (with_reducible refine qe6 ?_)))⟩
  ·exact bodyPost_ret (v := .tuple #[.agg #[.int .i64 (0), .int .i64 (0), .int .i64 (0), .string ⟨#[]⟩, .string ⟨#[]⟩], .bool false]) (by simp [results, Tryz.results133, go_sem, hz, hz0, hbc2, hbc]) rfl ⟨0, 0, 0, ⟨#[]⟩, ⟨#[]⟩, false, rfl, qp4, (by repeat (first | (with_reducible exact HB2.out) | (with_reducible exact HB1.out) | (with_reducible exact b0 _) | (with_reducible refine bset ?_ (by first | exact Nat.le_refl _ | simp) _) | (with_reducible refine qa0 ?_ _) | (with_reducible refine qe6 ?_)))⟩
  ·exact bodyPost_ret (v := .tuple #[.agg #[.int .i64 (a + 1), .int .i64 (0), .int .i64 (0), .string ⟨#[]⟩, .string ⟨#[]⟩], .bool true]) (by simp [results, Tryz.results133, go_sem, hz, hz0, hbc2, hbc]) rfl ⟨a + 1, 0, 0, ⟨#[]⟩, ⟨#[]⟩, true, rfl, (by refine ⟨?_, ?_, ?_, ?_, ?_⟩ <;> first | omega | decide), (by repeat (first | (with_reducible exact HB2.out) | (with_reducible exact HB1.out) | (with_reducible exact b0 _) | (with_reducible refine bset ?_ (by first | exact Nat.le_refl _ | simp) _) | (with_reducible refine qa0 ?_ _) | (with_reducible refine qe6 ?_)))⟩
  ·exact bodyPost_ret (v := .tuple #[.agg #[.int .i64 (0), .int .i64 (0), .int .i64 (0), .string ⟨#[]⟩, .string ⟨#[]⟩], .bool false]) (by simp [results, Tryz.results133, go_sem, hz, hz0, hbc2, hbc]) rfl ⟨0, 0, 0, ⟨#[]⟩, ⟨#[]⟩, false, rfl, qp4, (by repeat (first | (with_reducible exact HB2.out) | (with_reducible exact HB1.out) | (with_reducible exact b0 _) | (with_reducible refine bset ?_ (by first | exact Nat.le_refl _ | simp) _) | (with_reducible refine qa0 ?_ _) | (with_reducible refine qe6 ?_)))⟩
  ·exact bodyPost_ret (v := .tuple #[.agg #[.int .i64 (a), .int .i64 (b + 1), .int .i64 (0), .string ⟨#[]⟩, .string ⟨#[]⟩], .bool true]) (by simp [results, Tryz.results133, go_sem, hz, hz0, hbc2, hbc]) rfl ⟨a, b + 1, 0, ⟨#[]⟩, ⟨#[]⟩, true, rfl, (by refine ⟨?_, ?_, ?_, ?_, ?_⟩ <;> first | omega | decide), (by repeat (first | (with_reducible exact HB2.out) | (with_reducible exact HB1.out) | (with_reducible exact b0 _) | (with_reducible refine bset ?_ (by first | exact Nat.le_refl _ | simp) _) | (with_reducible refine qa0 ?_ _) | (with_reducible refine qe6 ?_)))⟩
  ·exact bodyPost_ret (v := .tuple #[.agg #[.int .i64 (0), .int .i64 (0), .int .i64 (0), .string ⟨#[]⟩, .string ⟨#[]⟩], .bool false]) (by simp [results, Tryz.results133, go_sem, hz, hz0, hbc2, hbc]) rfl ⟨0, 0, 0, ⟨#[]⟩, ⟨#[]⟩, false, rfl, qp4, (by repeat (first | (with_reducible exact HB2.out) | (with_reducible exact HB1.out) | (with_reducible exact b0 _) | (with_reducible refine bset ?_ (by first | exact Nat.le_refl _ | simp) _) | (with_reducible refine qa0 ?_ _) | (with_reducible refine qe6 ?_)))⟩
  ·exact bodyPost_ret (v := .tuple #[.agg #[.int .i64 (a), .int .i64 (b), .int .i64 (c + 1), .string ⟨#[]⟩, .string ⟨#[]⟩], .bool true]) (by simp [results, Tryz.results133, go_sem, hz, hz0, hbc2, hbc]) rfl ⟨a, b, c + 1, ⟨#[]⟩, ⟨#[]⟩, true, rfl, (by refine ⟨?_, ?_, ?_, ?_, ?_⟩ <;> first | omega | decide), (by repeat (first | (with_reducible exact HB2.out) | (with_reducible exact HB1.out) | (with_reducible exact b0 _) | (with_reducible refine bset ?_ (by first | exact Nat.le_refl _ | simp) _) | (with_reducible refine qa0 ?_ _) | (with_reducible refine qe6 ?_)))⟩
  ·exact bodyPost_ret (v := .tuple #[.agg #[.int .i64 (0), .int .i64 (0), .int .i64 (0), .string ⟨#[]⟩, .string ⟨#[]⟩], .bool false]) (by simp [results, Tryz.results133, go_sem, hbc]) rfl ⟨0, 0, 0, ⟨#[]⟩, ⟨#[]⟩, false, rfl, qp4, (by repeat (first | (with_reducible exact HB1.out) | (with_reducible exact b0 _) | (with_reducible refine bset ?_ (by first | exact Nat.le_refl _ | simp) _) | (with_reducible refine qa0 ?_ _) | (with_reducible refine qe6 ?_)))⟩
set_option maxRecDepth 100000 in
set_option maxHeartbeats 1000000 in
theorem next_any (a b c : Int) (p q : ByteArray) (w : World) (h : VB a b c p q) :
  Calls Tryz.prog 103 #[.agg #[.int .i64 a, .int .i64 b, .int .i64 c, .string p, .string q]] w (VerPost w) := by
 obtain ⟨ha, hb, hc, hp, hq⟩ := id h
 have HV := hid h
 clear h
 cases h1 : mayV ⟨a, b, c, p, q⟩ with
 | false =>
  have H1 := hid h1
  clear h1
  go_enter Tryz.func103, Tryz.ntmps103
  go_wp2_with (first | (go_at_call 54; (with_reducible refine (qb6 a b c p q _ HV.out).mono ?_); rintro e w1 ⟨rfl, hb1⟩; rw [H1.out]; obtain ⟨hbc, hbf⟩ := qb4 hb1; have hz : w.heap.size + 1 < w1.heap.size := Nat.lt_of_lt_of_le (by simp) hb1.size; have hz0 : w.heap.size < w1.heap.size := Nat.lt_of_succ_lt hz; have HB1 := hid (qa1 (qa0 (qa0 (b0 w) _) _) hb1)))
  exact bodyPost_ret (v := .tuple #[.agg #[.int .i64 0, .int .i64 0, .int .i64 0, .string ⟨#[]⟩, .string ⟨#[]⟩], .bool false]) (by simp [results, Tryz.results103, go_sem, hbc]) rfl ⟨0, 0, 0, ⟨#[]⟩, ⟨#[]⟩, false, rfl, qp4, (by repeat (first | (with_reducible exact HB1.out) | (with_reducible exact b0 _) | (with_reducible refine bset ?_ (by first | exact Nat.le_refl _ | simp) _) | (with_reducible refine qa0 ?_ _) | (with_reducible refine qe6 ?_)))⟩
 | true =>
  have H1 := hid h1
  clear h1
  by_cases h0 : p.size = 0
  ·have e0 : p.toList.isEmpty = true := by rw [qe2 h0]; rfl
   have e1 : (!p.toList.isEmpty) = false := by rw [e0]; rfl
   clear h0
   go_enter Tryz.func103, Tryz.ntmps103
   go_wp2_with (first | (go_at_call 54; (with_reducible refine (qb6 a b c p q _ HV.out).mono ?_); rintro e w1 ⟨rfl, hb1⟩; rw [H1.out]; obtain ⟨hbc, hbf⟩ := qb4 hb1; have hz : w.heap.size + 1 < w1.heap.size := Nat.lt_of_lt_of_le (by simp) hb1.size; have hz0 : w.heap.size < w1.heap.size := Nat.lt_of_succ_lt hz; have HB1 := hid (qa1 (qa0 (qa0 (b0 w) _) _) hb1)))
   go_loopw [4] (fun v wr => ∃ n : Int, -1 ≤ n ∧ n ≤ 2 ∧ v = .int .i64 n ∧ Hid (Below w1.heap.size w1 wr)) (fun v _ => (intOf v + 1).toNat)
   case atStart => exact ⟨2, by omega, by omega, rfl, hid (b0 _)⟩
   case round =>
    obtain ⟨n, hn1, hn2, rfl, hbr⟩ := hrel
    obtain ⟨hrc, hrf⟩ := qb4 hbr.out
    have HBR := hid (qa1 HB1.out hbr.out)
    have hy : w.heap.size + 1 < wr.heap.size := Nat.lt_of_lt_of_le hz hbr.out.size
    have hy0 : w.heap.size < wr.heap.size := Nat.lt_of_succ_lt hy
    have HI : Hid (I64 n) := hid ⟨by omega, by omega⟩
    by_cases hn : 0 ≤ n
    ·go_wp2_with (first
      | (go_at_call 133; (with_reducible refine (bump_any a b c p q _ _ HV.out HI.out).mono ?_); rintro e w2 ⟨a2, b2, c2, p2, q2, ok, rfl, hvb, hb2⟩; have HVB := hid hvb; obtain ⟨hbc2, hbf2⟩ := qb4 hb2; have HB2 := hid (qa1 HBR.out hb2); have HW2 := hid (qa1 hbr.out hb2); have hy2 : w.heap.size + 1 < w2.heap.size := Nat.lt_of_lt_of_le hy hb2.size; have hy20 : w.heap.size < w2.heap.size := Nat.lt_of_succ_lt hy2; clear hvb))
     ·exact bodyPost_ret (v := .tuple #[.agg #[.int .i64 a2, .int .i64 b2, .int .i64 c2, .string p2, .string q2], .bool true]) (by simp [results, Tryz.results103, go_sem, hz, hbc, hrc, hy, hbc2, hy2]) rfl ⟨a2, b2, c2, p2, q2, true, rfl, HVB.out, (by repeat (first | (with_reducible exact HB2.out) | (with_reducible exact b0 _) | (with_reducible refine bset ?_ (by first | exact Nat.le_refl _ | simp) _) | (with_reducible refine qa0 ?_ _) | (with_reducible refine qe6 ?_)))⟩
     ·refine ⟨⟨n - 1, by omega, by omega, by go_num, hid (qa0 HW2.out _)⟩, by simp [intOf]; omega⟩
    ·go_wp2
     exact bodyPost_ret (v := .tuple #[.agg #[.int .i64 0, .int .i64 0, .int .i64 0, .string ⟨#[]⟩, .string ⟨#[]⟩], .bool false]) (by simp [results, Tryz.results103, go_sem, hz, hbc, hrc]) rfl ⟨0, 0, 0, ⟨#[]⟩, ⟨#[]⟩, false, rfl, qp4, (by repeat (first | (with_reducible exact HBR.out) | (with_reducible exact b0 _) | (with_reducible refine bset ?_ (by first | exact Nat.le_refl _ | simp) _) | (with_reducible refine qa0 ?_ _) | (with_reducible refine qe6 ?_)))⟩
  ·have e0 := qb9 (s := p) (by omega)
   have e1 : (!p.toList.isEmpty) = true := by rw [e0]; rfl
   clear h0
   go_enter Tryz.func103, Tryz.ntmps103
   go_wp2_with (first | (go_at_call 54; (with_reducible refine (qb6 a b c p q _ HV.out).mono ?_); rintro e w1 ⟨rfl, hb1⟩; rw [H1.out]; obtain ⟨hbc, hbf⟩ := qb4 hb1; have hz : w.heap.size + 1 < w1.heap.size := Nat.lt_of_lt_of_le (by simp) hb1.size; have hz0 : w.heap.size < w1.heap.size := Nat.lt_of_succ_lt hz; have HB1 := hid (qa1 (qa0 (qa0 (b0 w) _) _) hb1)))
   exact bodyPost_ret (v := .tuple #[.agg #[.int .i64 a, .int .i64 b, .int .i64 c, .string ⟨#[]⟩, .string ⟨#[]⟩], .bool true]) (by simp [results, Tryz.results103, go_sem, hbc]) rfl ⟨a, b, c, ⟨#[]⟩, ⟨#[]⟩, true, rfl, ⟨ha, hb, hc, by decide, by decide⟩, (by repeat (first | (with_reducible exact HB1.out) | (with_reducible exact b0 _) | (with_reducible refine bset ?_ (by first | exact Nat.le_refl _ | simp) _) | (with_reducible refine qa0 ?_ _) | (with_reducible refine qe6 ?_)))⟩
end
end Go.Proofs.YtbfbppjccbppiaaGreatDoor
