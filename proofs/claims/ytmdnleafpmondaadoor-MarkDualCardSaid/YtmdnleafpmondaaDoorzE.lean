import Derived.Test.YtmdnleafpmondaaDoorU9
import Derived.Test.YtmdnleafpmondaaDoorU12
import Derived.Laws.StructEq
import Derived.Test.YtmdnleafpmondaaDoorU19
import Derived.Test.YtmdnleafpmondaaDoorU23
section
/- Contracts: mark.Print, linchpinref10.Same. -/
namespace Go.Proofs.YtmdnleafpmondaaDoor
open Go Go.RowKit

def printV (l : List Node) : List UInt8 := if mayB l = true then wholeL l else []
theorem may_parts {l : List Node} (h : mayB l = true) : l.length ≤ 15 ∧ treeB l = true ∧ (wholeL l).length ≤ 96 := by
  unfold mayB at h
  rw [Bool.and_eq_true, Bool.and_eq_true, decide_eq_true_eq, decide_eq_true_eq] at h
  exact ⟨h.1.1, h.1.2, h.2⟩

set_option maxRecDepth 100000 in
set_option maxHeartbeats 2000000 in
theorem print_any (v : Value) (l : List Node) (w : World) (h : SliceRd tNode w (Lt w.heap.size) v l) :
    Calls Tryd.prog 16 #[.agg #[v]] w fun x w' => x = .returned (strV (printV l)) ∧ Below w.heap.size w w' := by
  have H := hid h
  obtain ⟨A, cap, rfl, -⟩ := h.shape
  clear h
  obtain ⟨n, hn⟩ : ∃ n, n = l.length := ⟨_, rfl⟩
  rw [← hn] at H
  rw [← hn]
  replace hn := hid hn
  have hbx : w.heap.size < (w.alloc (.cells #[.slice A n cap] 25)).heap.size := by simp
  have HB := hid (balloc (b0 w) (.cells #[.slice A n cap] 25))
  have HR := hid (H.out.lift HB.out HB.out.size)
  have HMAY := hid (may_any _ l _ HR.out)
  rcases Bool.eq_false_or_eq_true (mayB l) with hm | hm
  · have HV : Hid (printV l = wholeL l) := hid (if_pos hm)
    have HW := hid (fun (w2 : World) (hb : Below (w.alloc (.cells #[.slice A n cap] 25)).heap.size (w.alloc (.cells #[.slice A n cap] 25)) w2) => whole_any _ l w2 (HR.out.lift hb hb.size) (may_parts hm).1 (may_parts hm).2.1)
    replace hm := hid hm
    go_enter Tryd.func16, Tryd.ntmps16
    go_wp2_with (first
      | (go_at_call 15; refine HMAY.out.mono ?_; rintro x w2 ⟨rfl, hb2⟩; rw [hm.out]
         have c0 : w2.cell? ⟨w.heap.size, 0, none⟩ = some (.slice A n cap) := cell_below hb2 hbx (World.cell?_alloc_new ..))
      | (go_at_call 36; refine (HW.out _ hb2).mono ?_; rintro x w3 ⟨rfl, hb3⟩))
    go_ret
    exact ⟨by rw [HV.out]; rfl, HB.out.trans ((bstep hb2 hb3).mono HB.out.size)⟩
  · have HV : Hid (printV l = []) := hid (if_neg (by rw [hm]; simp))
    replace hm := hid hm
    go_enter Tryd.func16, Tryd.ntmps16
    go_wp2_with (first
      | (go_at_call 15; refine HMAY.out.mono ?_; rintro x w2 ⟨rfl, hb2⟩; rw [hm.out]))
    go_ret
    exact ⟨by rw [HV.out]; rfl, HB.out.trans (hb2.mono HB.out.size)⟩
theorem node_eq {a b : Node} (h0 : a.op = b.op) (h1 : a.a = b.a) (h2 : a.b = b.b) (h3 : a.key = b.key) (h4 : a.text = b.text) : a = b := by
  cases a; cases b; simp_all
theorem node_neq (s t : Node) (W : World) : (binOp .neq 49 (.agg #[.int .i64 s.op, .int .i64 s.a, .int .i64 s.b, .int .i64 s.key, .string s.text]) (.agg #[.int .i64 t.op, .int .i64 t.a, .int .i64 t.b, .int .i64 t.key, .string t.text])).run Tryd.prog W = .ok (.bool (!decide (s = t))) W := by
  have u3 := Tryd.underlying3
  have a3 := Tryd.isAgg3
  have z3 := Tryd.sizeOf3
  have u4 := Tryd.underlying9
  have a4 := Tryd.isAgg9
  have z4 := Tryd.sizeOf9
  have hS : Tryd.prog.underlying 49 = some (.struct (Tryd.prog.fieldsOf 49)) := by kernel_rfl
  have hp : Tryd.prog.stoodInHeld 49 = false := by kernel_rfl
  rw [run_neq_struct, show (10000 : Nat) = 9999 + 1 from rfl, run_equalIn_agg W 9999 49 _ _ hS hp]
  simp only [Program.fieldsOf, Tryd.underlying49]
  go_simp
  have e5 := eqS_iff s.text t.text
  obtain ⟨a, b, c, d, e⟩ := s
  obtain ⟨a', b', c', d', e'⟩ := t
  simp only at e5
  by_cases h1 : a = a' <;> by_cases h2 : b = b' <;> by_cases h3 : c = c' <;> by_cases h4 : d = d' <;> by_cases h5 : e = e' <;> simp [h1, h2, h3, h4, h5] <;> simp_all
theorem node_guard (op : BinOp) (x y : Operand) (xs ys : Array Value) (W : World) : (eqGuard op 49 x y (.agg xs) (.agg ys)).run Tryd.prog W = .ok () W :=
  run_eqGuard_agg W op 49 x y _ _ (by kernel_rfl)
theorem same_all {l m : List Node} (hl : l.length = m.length) (h : ∀ k, (h1 : k < l.length) → (h2 : k < m.length) → l[k] = m[k]) : l = m := List.ext_getElem hl fun k h1 h2 => h k h1 h2

set_option maxRecDepth 100000 in
set_option maxHeartbeats 4000000 in
theorem same_any (v v' : Value) (l m : List Node) (w : World) (h : SliceRd tNode w (Lt w.heap.size) v l) (h' : SliceRd tNode w (Lt w.heap.size) v' m) :
    Calls Tryd.prog 13 #[.agg #[v], .agg #[v']] w fun x w' => x = .returned (.bool (decide (l = m))) ∧ Below w.heap.size w w' := by
  obtain ⟨A, cap, rfl, hcap, hmax, hc⟩ := h.nodes
  obtain ⟨A', cap', rfl, hcap', hmax', hc'⟩ := h'.nodes
  have HC := hid hc
  have HC' := hid hc'
  unfold maxLen at hmax hmax'
  clear h h' hc hc'
  obtain ⟨n, hn⟩ : ∃ n, n = l.length := ⟨_, rfl⟩
  obtain ⟨n', hn'⟩ : ∃ n', n' = m.length := ⟨_, rfl⟩
  rw [← hn] at hcap
  rw [← hn'] at hcap'
  rw [← hn, ← hn']
  replace hn := hid hn
  replace hn' := hid hn'
  rcases eqI n n' with ⟨he, hne⟩ | ⟨he, hne⟩
  · have hbn := bne_t he
    have HE : Hid (n = n') := hid (by omega)
    clear hne
    go_enter Tryd.func13, Tryd.ntmps13
    go_wp2
    obtain ⟨wx, hwx⟩ : ∃ wx, wx = (w.alloc (.cells #[.slice A n cap] 25)).alloc (.cells #[.slice A' n' cap'] 25) := ⟨_, rfl⟩
    have hz0 : (w.alloc (.cells #[.slice A n cap] 25)).heap.size = w.heap.size + 1 := by simp
    have hzx : wx.heap.size = w.heap.size + 2 := by rw [hwx]; simp
    have HB := hid (show Below w.heap.size w wx by rw [hwx]; exact balloc (balloc (b0 w) _) _)
    have m0 : wx.cell? ⟨w.heap.size, 0, none⟩ = some (.slice A n cap) := by
      rw [hwx]
      exact (World.cell?_alloc_old _ _ _ (by show w.heap.size ≠ _; rw [hz0]; omega)).trans (World.cell?_alloc_new ..)
    have m1 : wx.cell? ⟨w.heap.size + 1, 0, none⟩ = some (.slice A' n' cap') := by
      rw [hwx, ← hz0]; exact World.cell?_alloc_new ..
    rw [← hwx]
    clear hwx
    go_loopw [5] (fun iv wr => ∃ k : Nat, k ≤ n ∧ iv = .int .i64 k ∧ Hid (∀ j, (h1 : j < l.length) → (h2 : j < m.length) → j < k → l[j] = m[j]) ∧ Hid (Below wx.heap.size wx wr)) (fun iv _ => n - (intOf iv).toNat)
    case atStart => exact ⟨0, Nat.zero_le _, rfl, hid (fun j h1 h2 h3 => by omega), hid (b0 wx)⟩
    case round =>
      obtain ⟨k, hk, rfl, hall, hb⟩ := hrel
      have i1 : (0 : Int) ≤ ↑k := by omega
      have HBO := hid (HB.out.trans (hb.out.mono HB.out.size))
      have x0 := cell_below hb.out (by omega) m0
      have x1 := cell_below hb.out (by omega) m1
      by_cases hlt : k < n
      · have h1 : k < l.length := by have := hn.out; omega
        have h2 : k < m.length := by have := hn'.out; have := HE.out; omega
        obtain ⟨g, o, hA, hF, g0, g1, g2, g3, g4, -⟩ := HC.out k h1
        obtain ⟨g', o', hA', hF', g0', g1', g2', g3', g4', -⟩ := HC'.out k h2
        subst hA; subst hA'
        have i2 : (↑k : Int) < ↑n := by omega
        have i3 : (↑k : Int) < ↑n' := by have := HE.out; omega
        obtain ⟨c0, c1, c2, c3, c4⟩ := cells5 HBO.out hF ⟨g0, g1, g2, g3, g4⟩
        obtain ⟨e0, e1, e2, e3, e4⟩ := cells5 HBO.out hF' ⟨g0', g1', g2', g3', g4'⟩
        clear g0 g1 g2 g3 g4 g0' g1' g2' g3' g4'
        have hnq := fun W => node_neq l[k] m[k] W
        have hgd := node_guard
        by_cases hx : l[k] = m[k]
        · rw [decide_eq_true hx] at hnq
          have HX := hid hx
          clear hx
          go_wp2_with fail
          go_quiet (fail)
          go_wp2
          exact ⟨⟨k + 1, by omega, by go_num, hid (fun j h1 h2 h3 => by
            by_cases hj : j = k
            · subst hj; exact HX.out
            · exact hall.out j h1 h2 (by omega)), hid (below_drewN hb.out _)⟩, by simp [intOf]; omega⟩
        · rw [decide_eq_false hx] at hnq
          have HX := hid hx
          clear hx
          go_wp2_with fail
          go_quiet (fail)
          go_wp2
          go_ret
          exact ⟨rbool (decide_eq_false (fun e => HX.out (by simp only [e]))).symm, below_drewN HBO.out _⟩
      · have HEND := hid (show l = m from same_all (by have := hn.out; have := hn'.out; have := HE.out; omega) fun j h1 h2 => hall.out j h1 h2 (by have := hn.out; omega))
        go_wp2
        go_ret
        exact ⟨rbool (decide_eq_true HEND.out).symm, HBO.out⟩
  · have hbn := bne_f he
    go_enter Tryd.func13, Tryd.ntmps13
    go_wp2
    go_ret
    exact ⟨rbool (decide_eq_false (fun e => by have := hn.out; have := hn'.out; rw [e] at *; omega)).symm, balloc (balloc (b0 w) _) _⟩
end Go.Proofs.YtmdnleafpmondaaDoor
end
section
/- Contract: linchpinlaw10.awake. -/
namespace Go.Proofs.YtmdnleafpmondaaDoor
open Go Go.RowKit

def sA : ByteArray := ⟨#[111, 115, 32, 61, 32, 120, 32, 97, 110, 100, 32, 110, 111, 116, 32, 40, 32, 97, 114, 99, 104, 32, 61, 32, 121, 32, 111, 114, 32, 97, 98, 105, 32, 33, 61, 32, 122, 32, 41]⟩
def sB : ByteArray := ⟨#[110, 111, 116, 32, 111, 115, 32, 61, 32, 120]⟩
def sC : ByteArray := ⟨#[111, 115, 32, 61, 32, 120, 32, 97, 110, 100]⟩
theorem pA : (parseF sA).2 = 0 := by decide +kernel
theorem pB : (parseF sB).2 = 0 := by decide +kernel
theorem pC : (parseF sC).2 = 7 := by decide +kernel
theorem tA : printV (parseF sA).1 = sA.data.toList := by decide +kernel
theorem tB : printV (parseF sB).1 = [111, 115, 32, 33, 61, 32, 120] := by decide +kernel
theorem vA : evalV (parseF sA).1 ⟨⟨#[119]⟩, ⟨#[]⟩, ⟨#[]⟩⟩ = 0 := by decide +kernel
theorem vN : evalV [] ⟨⟨#[]⟩, ⟨#[]⟩, ⟨#[]⟩⟩ = 2 := by decide +kernel
/-- What a parse of a text that is known gives. -/
def Given (s : ByteArray) (N : List Node) (n : Int) : Prop := ∀ w : World, MaxOk w → Calls Tryd.prog 11 #[.string s] w fun e w' => ∃ A c, e = .returned (.tuple #[.agg #[.slice A N.length c], .int .i64 n]) ∧ SliceRd tNode w' (Lt w'.heap.size) (.slice A N.length c) N ∧ Below w.heap.size w w'
theorem given (s : ByteArray) {n : Int} (h : (parseF s).2 = n) : Given s (parseF s).1 n := by
  intro w hm
  refine (parse_any s w hm).mono ?_
  rintro e w' ⟨v, h1, h2, h3⟩
  obtain ⟨A, c, rfl, _⟩ := h2.shape
  exact ⟨A, c, by rw [h1, h], h2, h3⟩
end Go.Proofs.YtmdnleafpmondaaDoor
end
section
/- Contract: linchpinlaw10.awake. -/
namespace Go.Proofs.YtmdnleafpmondaaDoor
open Go Go.RowKit

set_option maxRecDepth 100000 in
set_option maxHeartbeats 4000000 in
theorem awake_any (w : World) (hm : MaxOk w) : Calls Tryd.prog 10 #[] w fun e w' => e = .returned (.bool true) ∧ Below w.heap.size w w' := by
  have HA := hid (given sA pA)
  have HB := hid (given sB pB)
  have HC := hid (given sC pC)
  have HTA := hid tA
  have HTB := hid tB
  have HVA := hid vA
  have HVN := hid vN
  unfold sA at HTA
  obtain ⟨NA, hNA⟩ : ∃ NA, NA = (parseF sA).1 := ⟨_, rfl⟩
  obtain ⟨NB, hNB⟩ : ∃ NB, NB = (parseF sB).1 := ⟨_, rfl⟩
  obtain ⟨NC, hNC⟩ : ∃ NC, NC = (parseF sC).1 := ⟨_, rfl⟩
  rw [← hNA] at HA HVA
  rw [← hNB] at HB HTB
  rw [← hNC] at HC
  rw [show (parseF ⟨#[111, 115, 32, 61, 32, 120, 32, 97, 110, 100, 32, 110, 111, 116, 32, 40, 32, 97, 114, 99, 104, 32, 61, 32, 121, 32, 111, 114, 32, 97, 98, 105, 32, 33, 61, 32, 122, 32, 41]⟩).1 = NA from hNA.symm] at HTA
  clear hNA hNB hNC
  unfold Given sA at HA
  unfold Given sB at HB
  unfold Given sC at HC
  have HM := hid hm
  have hm0 := hm.1
  clear hm
  have HPA : Hid (strV (printV NA) = .string ⟨#[111, 115, 32, 61, 32, 120, 32, 97, 110, 100, 32, 110, 111, 116, 32, 40, 32, 97, 114, 99, 104, 32, 61, 32, 121, 32, 111, 114, 32, 97, 98, 105, 32, 33, 61, 32, 122, 32, 41]⟩) := hid (by rw [HTA.out]; rfl)
  have HPB : Hid (strV (printV NB) = .string ⟨#[111, 115, 32, 33, 61, 32, 120]⟩) := hid (by rw [HTB.out]; rfl)
  have ex1 : ((⟨#[111, 115, 32, 61, 32, 120, 32, 97, 110, 100, 32, 110, 111, 116, 32, 40, 32, 97, 114, 99, 104, 32, 61, 32, 121, 32, 111, 114, 32, 97, 98, 105, 32, 33, 61, 32, 122, 32, 41]⟩ : ByteArray).toList == [111, 115, 32, 61, 32, 120, 32, 97, 110, 100, 32, 110, 111, 116, 32, 40, 32, 97, 114, 99, 104, 32, 61, 32, 121, 32, 111, 114, 32, 97, 98, 105, 32, 33, 61, 32, 122, 32, 41]) = true := by rw [eqC]; exact decide_eq_true rfl
  have ex2 : ((⟨#[111, 115, 32, 33, 61, 32, 120]⟩ : ByteArray).toList == [111, 115, 32, 33, 61, 32, 120]) = true := by rw [eqC]; exact decide_eq_true rfl
  have tok1 := hid True.intro
  have tok2 := hid True.intro
  have eA : (⟨#[111, 115, 32, 61, 32, 120, 32, 97, 110, 100, 32, 110, 111, 116, 32, 40, 32, 97, 114, 99, 104, 32, 61, 32, 121, 32, 111, 114, 32, 97, 98, 105, 32, 33, 61, 32, 122, 32, 41]⟩ : ByteArray).data.toList = [111, 115, 32, 61, 32, 120, 32, 97, 110, 100, 32, 110, 111, 116, 32, 40, 32, 97, 114, 99, 104, 32, 61, 32, 121, 32, 111, 114, 32, 97, 98, 105, 32, 33, 61, 32, 122, 32, 41] := rfl
  rw [eA] at HTA
  clear eA
  go_enter Tryd.func10, Tryd.ntmps10
  go_wp2_with (first
    | (go_at_call 11; clear tok1; refine (HA.out w HM.out).mono ?_; rintro e w1 ⟨A1, c1, rfl, r1, hb1⟩; have R1 := hid r1; have HM1 := hid (HM.out.later hb1); have B1 := hid hb1; clear r1 hb1)
    | (go_at_call 11; clear tok2; refine (HB.out _ (HM1.out.later (balloc (b0 w1) _))).mono ?_; rintro e w2 ⟨A2, c2, rfl, r2, hb2⟩
       have R2 := hid r2; have HM2 := hid ((HM1.out.later (balloc (b0 w1) _)).later hb2); have B2 := hid (bstep (balloc (b0 w1) (.cells #[.slice A1 NA.length c1] 25)) hb2)
       have m1 : w2.cell? ⟨w1.heap.size, 0, none⟩ = some (.slice A1 NA.length c1) := cell_below hb2 (by simp) (World.cell?_alloc_new ..)
       have z2 : w1.heap.size < w2.heap.size := Nat.lt_of_lt_of_le (by simp) hb2.size
       clear r2 hb2)
    | (go_at_call 11; refine (HC.out _ (HM2.out.later (balloc (b0 w2) _))).mono ?_; rintro e w3 ⟨A3, c3, rfl, r3, hb3⟩
       have B3 := hid (bstep (balloc (b0 w2) (.cells #[.slice A2 NB.length c2] 25)) hb3)
       have m2 : w3.cell? ⟨w1.heap.size, 0, none⟩ = some (.slice A1 NA.length c1) := cell_below B3.out z2 m1
       have m3 : w3.cell? ⟨w2.heap.size, 0, none⟩ = some (.slice A2 NB.length c2) := cell_below hb3 (by simp) (World.cell?_alloc_new ..)
       have z3 : w2.heap.size < w3.heap.size := Nat.lt_of_lt_of_le (by simp) hb3.size
       have z13 : w1.heap.size < w3.heap.size := Nat.lt_trans z2 z3
       have tok3 := hid True.intro
       have tok4 := hid True.intro
       have B4 := hid (balloc (b0 w3) (.cells #[.slice A3 NC.length c3] 25))
       have y2 : w1.heap.size < (w3.alloc (.cells #[.slice A3 NC.length c3] 25)).heap.size := Nat.lt_of_lt_of_le z13 B4.out.size
       have y3 : w2.heap.size < (w3.alloc (.cells #[.slice A3 NC.length c3] 25)).heap.size := Nat.lt_of_lt_of_le z3 B4.out.size
       have x2 := cell_below B4.out z13 m2
       have x3 := cell_below B4.out z3 m3
       have RA := hid ((R1.out.lift (bstep (bstep B2.out B3.out) B4.out) (bstep (bstep B2.out B3.out) B4.out).size))
       have RB := hid (R2.out.lift (bstep B3.out B4.out) (bstep B3.out B4.out).size)
       have BW := hid (show Below w.heap.size w (w3.alloc (.cells #[.slice A3 NC.length c3] 25)) from bstep B1.out (bstep (bstep B2.out B3.out) B4.out))
       clear r3 hb3 m1 B1 B2 B3 B4 R1 R2)
    | (go_at_call 16; clear tok3; refine (print_any _ NA _ RA.out).mono ?_; rintro e w5 ⟨rfl, hb5⟩; rw [HPA.out]; have x4 := cell_below hb5 y2 x2; have x5 := cell_below hb5 y3 x3; have y4 : w1.heap.size < w5.heap.size := Nat.lt_of_lt_of_le y2 hb5.size; have y5 : w2.heap.size < w5.heap.size := Nat.lt_of_lt_of_le y3 hb5.size; have B5 := hid hb5; clear hb5)
    | (go_at_call 16; refine (print_any _ NB _ (RB.out.lift B5.out B5.out.size)).mono ?_; rintro e w6 ⟨rfl, hb6⟩; rw [HPB.out]; have x6 := cell_below hb6 y4 x4; have y6 : w1.heap.size < w6.heap.size := Nat.lt_of_lt_of_le y4 hb6.size; have B6 := hid (bstep B5.out hb6); clear hb6)
    | (go_at_call 20; clear tok4; refine (eval_any _ NA ⟨⟨#[119]⟩, ⟨#[]⟩, ⟨#[]⟩⟩ _ (RA.out.lift B6.out B6.out.size)).mono ?_; rintro e w7 ⟨rfl, hb7⟩; rw [HVA.out]; have B7 := hid (bstep B6.out hb7); clear hb7)
    | (go_at_call 20; refine (eval_any _ [] ⟨⟨#[]⟩, ⟨#[]⟩, ⟨#[]⟩⟩ _ (SliceRd.nil _ _ _)).mono ?_; rintro e w8 ⟨rfl, hb8⟩; rw [HVN.out]; have B8 := hid (bstep B7.out hb8); clear hb8))
  go_ret
  exact ⟨rfl, bstep BW.out B8.out⟩
end Go.Proofs.YtmdnleafpmondaaDoor
end
