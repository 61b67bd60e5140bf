import Derived.Test.YtbfbppjccbppiaaGreatDoorzN9
import Derived.Outline
import Derived.Test.YtbfbppjccbppiaaGreatDoorzA6
namespace Go.Proofs.YtbfbppjccbppiaaGreatDoor
open Go Go.RowKit
section
def ze0 (m n : Nat) : List Int := ((List.range n).filter fun v => m.testBit v).map fun v : Nat => (v : Int) - 1
theorem eachL_succ (m n : Nat) : ze0 m (n + 1) = ze0 m n ++ (if m.testBit n = true then [(n : Int) - 1] else []) := by
 unfold ze0
 rw [List.range_succ, List.filter_append, List.map_append]
 by_cases h : m.testBit n = true
 ·simp [h]
 ·simp [h]
theorem eachL_len (m n : Nat) : (ze0 m n).length ≤ n := by
 unfold ze0
 rw [List.length_map]
 have := List.length_filter_le (fun v => m.testBit v) (List.range n)
 simpa using this
theorem and_pw {m n : Nat} (hm : m ≤ 31) (hn : n ≤ 16) : bits .and .i64 (m : Int) (pw n) = ((m &&& 2 ^ n : Nat) : Int) := by
 have h1 : nm (m : Int) = m := ql1 (by omega)
 have h3 : 2 ^ n ≤ 2 ^ 16 := Nat.pow_le_pow_right (by decide) hn
 have h2 : nm (pw n) = 2 ^ n := ql1 (by omega)
 have h4 : m &&& 2 ^ n ≤ m := Nat.and_le_left
 rw [band _ _ (by rw [h1, h2]; omega), h1, h2]
theorem and_pw0 {m n : Nat} (h : m.testBit n = false) : m &&& 2 ^ n = 0 := by
 by_cases h0 : m &&& 2 ^ n = 0
 ·exact h0
 ·rw [Nat.and_comm] at h0
  rw [(pow_and n m).1 h0] at h
  cases h
set_option maxHeartbeats 1000000 in
theorem reach_any (m : Nat) (w : World) (hm : m ≤ 31) :
  Calls Tryz.prog 89 #[.int .i64 m] w fun e w' => ∃ v, e = .returned v ∧ OwnF fInt 3 w.heap.size w' v (ze0 m 17) ∧ Below w.heap.size w w' := by
 obtain ⟨ii, hii⟩ := info_parts ze9
 have HII := hid hii
 clear hii
 go_enter Tryz.func89, Tryz.ntmps89
 go_wp2_with fail
 go_loopw [3, 4] (fun ov iv wr => ∃ n : Nat, n ≤ 17 ∧ iv = .int .i64 n ∧ Hid (OwnF fInt 3 w.heap.size wr ov (ze0 m n)) ∧ Hid (Below w.heap.size w wr)) (fun _ iv _ => 17 - (intOf iv).toNat)
 case atStart => exact ⟨0, by omega, rfl, hid (OwnF.nil _ _ _ _), hid (b0 _)⟩
 case round =>
  obtain ⟨n, hn, rfl, ho, hb⟩ := hrel
  have hlen := eachL_len m n
  obtain ⟨Ao, co, hov⟩ := ho.out.form
  by_cases hn17 : n < 17
  ·have n1 : (0 : Int) ≤ ↑n := by omega
   have z1 : decide ((n : Int) ≤ 16) = true := decide_eq_true (by omega)
   have HA := hid (and_pw hm (show n ≤ 16 by omega))
   have HSU := hid (eachL_succ m n)
   have hsr := hb.out.size
   generalize hL : ze0 m n = L at HSU ho hov hlen
   subst hov
   clear hL
   obtain ⟨p, hp⟩ : ∃ p, pw n = p := ⟨_, rfl⟩
   obtain ⟨x, hx⟩ : ∃ x, m &&& 2 ^ n = x := ⟨_, rfl⟩
   have hb2 := fun wx => zf2 n wx (by omega)
   rw [hp, hx] at HA
   rw [hp] at hb2
   have hand := HA.out
   cases hbit : m.testBit n with
   | true =>
    have hx0 : x ≠ 0 := by
     rw [← hx, Nat.and_comm]
     exact (pow_and n m).2 hbit
    have HE := hid (show ze0 m (n + 1) = L ++ [(n : Int) - 1] by rw [HSU.out, if_pos hbit])
    have hz : ((x : Int) == 0) = false := by simp; omega
    have HOK := hid (show fInt.ok ((n : Int) - 1) from ⟨by omega, by omega⟩)
    clear hbit HSU hx hx0 hp HA
    go_wp2_with (first
     | (go_at_call 50; refine (hb2 _).mono ?_; rintro e w2 ⟨rfl, hw2⟩; rw [hw2]; clear hw2)
     | (at_builtin; go_must (refine qa5 _ rfl (.tmp 14) (.tmp 17) _ rfl w.heap.size 3 ii _ 1 8 Tryz.underlying22 HII.out.1 HII.out.2.1 HII.out.2.2.1 HII.out.2.2.2 rfl (by omega) (.slice Ao L.length co) L.length (fInt.all L) (by rfl) (by exact ho.out.1.alloc _) (some ⟨wr.heap.size, 0, none⟩) 1 1 (fInt.cells ((n : Int) - 1)) (by rfl) (by exact qm2 (f := fInt) rfl) (by simp [fInt, Value.oneCell']) (by unfold maxLen; omega) (by omega) (by simp; omega) ?_; intro v2 w2 hown2 hg2 hat2; have HB2 := hid (ql6 (v2 := v2) (hb.out.alloc hsr _) (ho.out.alloc _) (by simp; omega) hg2 rfl); have HO2 := hid (ho.out.snoc HOK.out hown2); clear hown2 hg2 hat2)))
    exact ⟨⟨n + 1, by omega, by go_num, hid (by rw [HE.out]; exact HO2.out), HB2⟩, by simp [intOf]; omega⟩
   | false =>
    have hx0 : x = 0 := by rw [← hx]; exact and_pw0 hbit
    have HE := hid (show ze0 m (n + 1) = L by rw [HSU.out, if_neg (by rw [hbit]; decide), List.append_nil])
    have hz : ((x : Int) == 0) = true := by simp; omega
    clear hbit HSU hx hx0 hp HA
    go_wp2_with (first
     | (go_at_call 50; refine (hb2 _).mono ?_; rintro e w2 ⟨rfl, hw2⟩; rw [hw2]; clear hw2))
    exact ⟨⟨n + 1, by omega, by go_num, hid (by rw [HE.out]; exact ho.out), hb⟩, by simp [intOf]; omega⟩
  ·obtain rfl : n = 17 := by omega
   have z1 : decide (((17 : Nat) : Int) ≤ 16) = false := by decide
   go_wp2
   go_ret
   exact ⟨_, rfl, ho.out, hb.out⟩
end
section
def placeL (m : Nat) : Int := match ze0 m 17 with
 | [p] => p
 | _ => -1
end
section
theorem place_in (v : Int) {n : Nat} (h : 1 ≤ n) : ∃ u : Nat, qd7 v n = u ∧ u < n := by
 have h1 := qf4 v (n : Int)
 have h2 := qf3 v (n : Int) (by omega)
 exact ⟨(qd7 v n).toNat, by omega, by omega⟩
end
section
def ze1 (l : List Nat) : List Int := l.map fun (a : Nat) => (a : Int)
theorem qk5 (l : List Nat) : (ze1 l).length = l.length := by unfold ze1; rw [List.length_map]
theorem zc6 (l : List Nat) (a : Nat) : ze1 (l ++ [a]) = ze1 l ++ [(a : Int)] := by unfold ze1; rw [List.map_append]; rfl
def AllowPost (ns : List Nat) (w : World) (e : Ending) (w' : World) : Prop :=
 ∃ v al, e = .returned v ∧ SliceRd tInt w' (Lt w'.heap.size) v (ze1 al) ∧ (al.length = 0 ∨ al.length = ns.length) ∧ (∀ a ∈ al, a ≤ 31) ∧ Below w.heap.size w w'
set_option maxRecDepth 100000 in
set_option maxHeartbeats 4000000 in
theorem allow_any (v xv : Value) (ns : List Nat) (xs : List Int) (w : World) (h : qi7 w (Lt w.heap.size) v ns) (ho : NsOk ns) (hx : SliceRd tInt w (Lt w.heap.size) xv xs) :
  Calls Tryz.prog 17 #[v, xv] w (AllowPost ns w) := by
 obtain ⟨ii, hii⟩ := info_parts ze9
 have HII := hid hii
 have HH := hid h
 have HO := hid ho
 have HX := hid hx
 have h11 := ho.hi
 have HF31 := hid (fun x => qi2 ho x)
 obtain ⟨g, cap0, rfl, hg, -⟩ := h
 obtain ⟨Ax, cx, rfl, hcx, hcxm, -⟩ := hx.ints
 unfold maxLen at hcxm
 obtain ⟨ln, hln⟩ : ∃ ln, xs.length = ln := ⟨_, rfl⟩
 rw [hln] at hcx HX ⊢
 clear hii ho hx hln
 by_cases h0 : ln = 0
 ·subst h0
  go_enter Tryz.func17, Tryz.ntmps17
  go_wp2
  go_ret
  exact ⟨_, [], rfl, SliceRd.nil _ _ _, .inl rfl, fun a ha => (by cases ha), qa0 (b0 w) _⟩
 ·have hz : ((ln : Int) == 0) = false := by rw [beq_eq_false_iff_ne]; omega
  clear h0
  go_enter Tryz.func17, Tryz.ntmps17
  go_wp2_with fail
  obtain ⟨w0, hw0⟩ : ∃ w0 : World, w0 = w.alloc (.cells #[.slice (some ⟨g, 0, none⟩) ns.length cap0] 26) := ⟨_, rfl⟩
  have hb0 : Below w.heap.size w w0 := hw0 ▸ qa0 (b0 w) _
  have hz0 : w.heap.size < w0.heap.size := by rw [hw0]; simp
  have q0 : w0.cell? ⟨w.heap.size, 0, none⟩ = some (.slice (some ⟨g, 0, none⟩) ns.length cap0) := by rw [hw0, qa6]; rfl
  have HB0 := hid hb0
  rw [← hw0]
  clear hw0 hb0
  go_loopw [5, 6] (fun ov iv wr => ∃ al : List Nat, al.length ≤ ns.length ∧ iv = .int .i64 al.length ∧ Hid (OwnF fInt 3 w0.heap.size wr ov (ze1 al)) ∧ Hid (∀ a ∈ al, a ≤ 31) ∧ Hid (Below w0.heap.size w0 wr)) (fun _ iv _ => ns.length - (intOf iv).toNat)
  case atStart => exact ⟨[], Nat.zero_le _, rfl, hid (OwnF.nil _ _ _ _), hid (fun a ha => (by cases ha)), hid (b0 w0)⟩
  case round =>
   obtain ⟨al, hal, rfl, how, h31, hb⟩ := hrel
   have hbw := HB0.out.trans (hb.out.mono HB0.out.size)
   have HBW := hid hbw
   have qr := cell_below hb.out hz0 q0
   have hzr := Nat.lt_of_lt_of_le hz0 hb.out.size
   obtain ⟨Ao, co, hov⟩ := how.out.form
   rw [qk5] at hov
   subst hov
   obtain ⟨u, hu⟩ : ∃ u, al.length = u := ⟨_, rfl⟩
   have HU := hid hu
   rw [hu] at hal how ⊢
   by_cases hlt : u < ns.length
   ·have i0 : (0 : Int) ≤ ↑u := by omega
    have i1 : (↑u : Int) < ↑ns.length := by omega
    have hf := qj6 (ns := ns) u
    have hm31 := HF31.out u
    obtain ⟨ff, hff⟩ : ∃ ff, qb8 ns u = ff := ⟨_, rfl⟩
    rw [hff] at hf hm31
    have HFL := hid (qj8 (.agg #[.slice (some ⟨g, 0, none⟩) ns.length cap0]) ns u wr _ (qc0 HH.out hbw) HO.out ⟨by omega, by omega⟩ (fun _ h => h))
    rw [hf] at HFL
    clear hu hbw hff hf
    go_wp2_with fail
    refine HFL.out.mono ?_
    rintro e w2 ⟨rfl, hb2⟩
    have HBW2 := hid (qa1 HBW.out hb2)
    have HB2 := hid (qa1 hb.out hb2)
    have HOW2 := hid (how.out.below hb2 (Nat.le_refl _))
    have HX2 := hid (HX.out.lift HBW2.out HBW2.out.size)
    clear hb2
    go_wp2_with fail
    refine (at_any _ xs u w2 _ HX2.out ⟨by omega, by omega⟩).mono ?_
    rintro e w3 ⟨rfl, hw3⟩
    rw [← hw3]
    clear hw3
    have hat64 := atF_i64 (ints_i64 HX.out) (show I64 (u : Int) from ⟨by omega, by omega⟩)
    obtain ⟨kp, hkp, hkpl⟩ := place_in (atF xs u) (n := 300) (by omega)
    obtain ⟨av, hav⟩ : ∃ av, atF xs (u : Int) = av := ⟨_, rfl⟩
    rw [hav] at hat64 hkp ⊢
    have HPL := hid ((qg4 av 300 w2 hat64 ⟨by omega, by omega⟩).mono (fun e w' h => (show e = .returned (.int .i64 (kp : Int)) ∧ w' = w2 from ⟨by rw [h.1]; exact congrArg (fun z => Ending.returned (.int .i64 z)) hkp, h.2.symm⟩)))
    clear hkp hav
    go_wp2_with fail
    refine HPL.out.mono ?_
    rintro e w3 ⟨rfl, hw3⟩
    rw [hw3]
    clear hw3
    have hs2 := HB2.out.size
    have hcase : ¬ ((kp : Int) < 100) ∨ ((kp : Int) < 100 ∧ u = 0) ∨ ((kp : Int) < 100 ∧ (0 : Int) < u) := by omega
    rcases hcase with hc | ⟨hc, hu0⟩ | ⟨hc, hu0⟩
    ·have hcd : decide ((kp : Int) < 100) = false := decide_eq_false hc
     go_wp2_with (at_builtin; go_must (refine qa5 _ rfl (.tmp 35) (.tmp 37) _ rfl w0.heap.size 3 ii _ 1 8 Tryz.underlying22 HII.out.1 HII.out.2.1 HII.out.2.2.1 HII.out.2.2.2 rfl (by omega) (.slice Ao u co) u (fInt.all (ze1 al)) (by rfl) (by have h5 := fun o => HOW2.out.1.alloc o; rw [qk5, HU.out] at h5; exact h5 _) (some ⟨w2.heap.size, 0, none⟩) 1 1 (fInt.cells (ff : Int)) (by rfl) (by exact qm2 (f := fInt) rfl) (by simp [fInt, Value.oneCell']) (by unfold maxLen; omega) (by omega) (by simp; omega) ?_; intro v5 w5 hown5 hg5 hat5; have HO5 := hid (za0 (x := (ff : Int)) (by rw [qk5, HU.out]) HOW2.out.2 (qg9 hm31) hown5); have HB5 := hid (ql6 (v2 := v5) (HB2.out.alloc hs2 _) (HOW2.out.alloc _) (by simp; omega) hg5 rfl); clear hown5 hg5 hat5))
     exact ⟨⟨al ++ [ff], by rw [List.length_append, HU.out]; simp; omega, by rw [List.length_append, HU.out]; simp, hid (by rw [zc6]; exact HO5.out), hid (fun a ha => (List.mem_append.1 ha).elim (h31.out a) (fun h => by rw [List.mem_singleton.1 h]; exact hm31)), HB5⟩, by simp [intOf]; omega⟩
    ·have hcd : decide ((kp : Int) < 100) = true := decide_eq_true hc
     have hud : ¬ ((0 : Int) < ↑u) := by omega
     have hud2 : decide ((0 : Int) < ↑u) = false := decide_eq_false hud
     have hud3 : decide (0 < u) = false := decide_eq_false (by omega)
     clear hu0
     go_wp2_with (at_builtin; go_must (refine qa5 _ rfl (.tmp 35) (.tmp 37) _ rfl w0.heap.size 3 ii _ 1 8 Tryz.underlying22 HII.out.1 HII.out.2.1 HII.out.2.2.1 HII.out.2.2.2 rfl (by omega) (.slice Ao u co) u (fInt.all (ze1 al)) (by rfl) (by have h5 := fun o => HOW2.out.1.alloc o; rw [qk5, HU.out] at h5; exact h5 _) (some ⟨w2.heap.size, 0, none⟩) 1 1 (fInt.cells (ff : Int)) (by rfl) (by exact qm2 (f := fInt) rfl) (by simp [fInt, Value.oneCell']) (by unfold maxLen; omega) (by omega) (by simp; omega) ?_; intro v5 w5 hown5 hg5 hat5; have HO5 := hid (za0 (x := (ff : Int)) (by rw [qk5, HU.out]) HOW2.out.2 (qg9 hm31) hown5); have HB5 := hid (ql6 (v2 := v5) (HB2.out.alloc hs2 _) (HOW2.out.alloc _) (by simp; omega) hg5 rfl); clear hown5 hg5 hat5))
     exact ⟨⟨al ++ [ff], by rw [List.length_append, HU.out]; simp; omega, by rw [List.length_append, HU.out]; simp, hid (by rw [zc6]; exact HO5.out), hid (fun a ha => (List.mem_append.1 ha).elim (h31.out a) (fun h => by rw [List.mem_singleton.1 h]; exact hm31)), HB5⟩, by simp [intOf]; omega⟩
    ·have hcd : decide ((kp : Int) < 100) = true := decide_eq_true hc
     have hband := qy7 ff (kp : Int) hm31
     rw [ql1 (by omega)] at hband
     obtain ⟨mm, hmm⟩ : ∃ mm, ff &&& kp = mm := ⟨_, rfl⟩
     have hmm31 : mm ≤ 31 := by rw [← hmm]; exact Nat.le_trans Nat.and_le_left hm31
     rw [hmm] at hband
     clear hmm
     go_wp2_with (at_builtin; go_must (refine qa5 _ rfl (.tmp 35) (.tmp 37) _ rfl w0.heap.size 3 ii _ 1 8 Tryz.underlying22 HII.out.1 HII.out.2.1 HII.out.2.2.1 HII.out.2.2.2 rfl (by omega) (.slice Ao u co) u (fInt.all (ze1 al)) (by rfl) (by have h5 := fun o => HOW2.out.1.alloc o; rw [qk5, HU.out] at h5; exact h5 _) (some ⟨w2.heap.size, 0, none⟩) 1 1 (fInt.cells (mm : Int)) (by rfl) (by exact qm2 (f := fInt) rfl) (by simp [fInt, Value.oneCell']) (by unfold maxLen; omega) (by omega) (by simp; omega) ?_; intro v5 w5 hown5 hg5 hat5; have HO5 := hid (za0 (x := (mm : Int)) (by rw [qk5, HU.out]) HOW2.out.2 (qg9 hmm31) hown5); have HB5 := hid (ql6 (v2 := v5) (HB2.out.alloc hs2 _) (HOW2.out.alloc _) (by simp; omega) hg5 rfl); clear hown5 hg5 hat5))
     exact ⟨⟨al ++ [mm], by rw [List.length_append, HU.out]; simp; omega, by rw [List.length_append, HU.out]; simp, hid (by rw [zc6]; exact HO5.out), hid (fun a ha => (List.mem_append.1 ha).elim (h31.out a) (fun h => by rw [List.mem_singleton.1 h]; exact hmm31)), HB5⟩, by simp [intOf]; omega⟩
   ·have hun : u = ns.length := by omega
    have hrd := how.out.rd
    clear hbw hlt
    go_wp2
    go_ret
    exact ⟨_, al, rfl, hrd, .inr (by rw [HU.out]; exact hun), h31.out, HBW.out⟩
end
end Go.Proofs.YtbfbppjccbppiaaGreatDoor
