/- Contract: linchpinlaw10.truth. -/
import Derived.Test.YtmdnleafpmondaaDoorU32
namespace Go.Proofs.YtmdnleafpmondaaDoor
open Go Go.RowKit

theorem al2_new {w : World} {o1 : Obj} {cs : Array Value} {e : TypeId} {i : Nat} {v : Value} (h : cs[i]? = some v) : ((w.alloc o1).alloc (.cells cs e)).cell? ⟨w.heap.size + 1, i, none⟩ = some v := by
  rw [show w.heap.size + 1 = (w.alloc o1).heap.size by simp, World.cell?_alloc_new]
  exact h
theorem al2_old {w : World} {o2 : Obj} {cs : Array Value} {e : TypeId} {i : Nat} {v : Value} (h : cs[i]? = some v) : ((w.alloc (.cells cs e)).alloc o2).cell? ⟨w.heap.size, i, none⟩ = some v := by
  refine cell_below (balloc (b0 (w.alloc (.cells cs e))) o2) (by simp) ?_
  rw [World.cell?_alloc_new]
  exact h
/-- A tree's truth is told wherever its nodes lie. -/
def TruthAt (f : FuncId) (g : Frm) : Prop := ∀ (G : List Frm) (l : List Node) (v : Value) (w : World) (j n : Nat) (en : EnvT), SliceRd tNode w (Lt w.heap.size) v l → TreeAt l G → G[j]? = some g → l.length ≤ 15 → g.size ≤ n → n ≤ 20 →
  Calls Tryd.prog f #[v, .int .i64 j, en.val, .int .i64 n] w fun e w' => e = .returned (.bool (truthF en.at g)) ∧ Below w.heap.size w w'
set_option maxRecDepth 100000 in
set_option maxHeartbeats 2000000 in
theorem truth_is (k : Nat) (s : ByteArray) : TruthAt 19 (.is k s) := by
  intro G l v w j n en h ht hg h15 hsz h20
  have hj : j < l.length := by rw [ht.len]; exact get_lt hg
  have H := hid h
  obtain ⟨g, o, cap, rfl, hcap, hmax, hF, hc⟩ := open_nodes h ht (by omega)
  obtain ⟨-, g0, g1, g2, g3, g4⟩ := hc j _ hg
  simp only [opI, nA, nB, nK, nT] at g0 g1 g2 g3 g4
  unfold maxLen at hmax
  have HL := hid (fun (W : World) (hb : Below w.heap.size w W) => (H.out.lift hb hb.size))
  have np := Frm.size_pos (.is k s)
  have n1 : ¬ (n : Int) < 1 := by omega
  clear np
  have i1 : (0 : Int) ≤ ↑j := by omega
  have i2 : (↑j : Int) < ↑l.length := by omega
  obtain ⟨k3, ks⟩ := ht.ok j _ hg
  simp only [Frm.size] at hsz
  have ec : Arr 38 (w.alloc (.cells #[.string en.a, .string en.b, .string en.c] 38)) w.heap.size en.cells := Arr.new 38 w en.cells
  have ek : ((w.alloc (.cells #[.string en.a, .string en.b, .string en.c] 38)).alloc (.cells #[.int .i64 1, .int .i64 0, .int .i64 0, .int .i64 k, .string s] 49)).cell? ⟨w.heap.size, k, none⟩ = some (.string (en.at k)) := EnvT.cell (ec.alloc _) k3
  have c1 : (0 : Int) ≤ ↑k := by omega
  have c2 : (↑k : Int) < 3 := by omega
  have d3 : ((w.alloc (.cells #[.string en.a, .string en.b, .string en.c] 38)).alloc (.cells #[.int .i64 1, .int .i64 0, .int .i64 0, .int .i64 k, .string s] 49)).cell? ⟨w.heap.size + 1, 3, none⟩ = some (.int .i64 k) := al2_new rfl
  have d4 : ((w.alloc (.cells #[.string en.a, .string en.b, .string en.c] 38)).alloc (.cells #[.int .i64 1, .int .i64 0, .int .i64 0, .int .i64 k, .string s] 49)).cell? ⟨w.heap.size + 1, 4, none⟩ = some (.string s) := al2_new rfl
  clear ec
  have HB := hid (show Below w.heap.size w ((w.alloc (.cells #[.string en.a, .string en.b, .string en.c] 38)).alloc (.cells #[.int .i64 1, .int .i64 0, .int .i64 0, .int .i64 k, .string s] 49)) from balloc (balloc (b0 w) _) _)
  have HQ := hid (fun (hh : en.at k = s) => show true = truthF en.at (.is k s) by simp only [truthF, hh, decide_true])
  have HQ' := hid (fun (hh : en.at k ≠ s) => show false = truthF en.at (.is k s) by simp only [truthF, hh, decide_false])
  obtain ⟨x, hx⟩ : ∃ x, x = en.at k := ⟨_, rfl⟩
  rw [← hx] at ek HQ HQ'
  clear hx
  clear h H hc ht hg ks
  unfold EnvT.val
  go_enter Tryd.func19, Tryd.ntmps19
  go_wp2_with fail
  obtain ⟨w0, hw0⟩ : ∃ w0, w0 = ((w.alloc (.cells #[.string en.a, .string en.b, .string en.c] 38)).alloc (.cells #[.int .i64 1, .int .i64 0, .int .i64 0, .int .i64 k, .string s] 49)) := ⟨_, rfl⟩
  rw [← hw0] at ek d3 d4 HB
  rw [← hw0]
  clear hw0
  by_cases hxs : x = s
  · have e9 := eqS_t hxs
    replace hxs := hid hxs
    go_region_law (fail)
    all_goals go_wp2
    all_goals go_ret
    all_goals exact ⟨rbool (HQ.out hxs.out), HB.out.drew⟩
  · have e9 := eqS_f hxs
    replace hxs := hid hxs
    go_region_law (fail)
    all_goals go_wp2
    all_goals go_ret
    all_goals exact ⟨rbool (HQ'.out hxs.out), HB.out.drew⟩
set_option maxRecDepth 100000 in
set_option maxHeartbeats 2000000 in
theorem truth_no (a : Frm) (ta : TruthAt 19 a) : TruthAt 19 (.no a) := by
  intro G l v w j n en h ht hg h15 hsz h20
  have hj : j < l.length := by rw [ht.len]; exact get_lt hg
  have H := hid h
  obtain ⟨g, o, cap, rfl, hcap, hmax, hF, hc⟩ := open_nodes h ht (by omega)
  obtain ⟨-, g0, g1, g2, g3, g4⟩ := hc j _ hg
  simp only [opI, nA, nB, nK, nT] at g0 g1 g2 g3 g4
  unfold maxLen at hmax
  have HL := hid (fun (W : World) (hb : Below w.heap.size w W) => (H.out.lift hb hb.size))
  have np := Frm.size_pos (.no a)
  have n1 : ¬ (n : Int) < 1 := by omega
  clear np
  have i1 : (0 : Int) ≤ ↑j := by omega
  have i2 : (↑j : Int) < ↑l.length := by omega
  have HT := hid ht
  have TA := hid ta
  have HGTA := hid (ht.no j a hg).2
  have j1 := (ht.no j a hg).1
  have s1 : IntKind.i64.wrap (n - 1) = n - 1 := IntWalk.i64_in _ (by omega)
  have n2 : ((n - 1 : Nat) : Int) = (n : Int) - 1 := by omega
  have j2 : ((j - 1 : Nat) : Int) = (j : Int) - 1 := by omega
  have HN2 := hid n2
  have HJ2 := hid j2
  clear n2 j2 ta
  clear h H hc ht hg
  unfold EnvT.val
  go_enter Tryd.func19, Tryd.ntmps19
  go_wp2_with (first
    | (go_at_call 19; rw [← HN2.out, ← HJ2.out]; refine (TA.out G l _ _ (j - 1) (n - 1) en (HL.out _ (balloc (balloc (b0 w) _) _)) HT.out HGTA.out h15 (by have := hsz; simp only [Frm.size] at this; omega) (by omega)).mono ?_; rintro e w1 ⟨rfl, hb1⟩))
  go_ret
  exact ⟨rbool (by simp [truthF]), bstep (balloc (balloc (b0 w) _) _) hb1⟩
set_option maxRecDepth 100000 in
set_option maxHeartbeats 2000000 in
theorem truth_two_false (a b : Frm) (ta : TruthAt 19 a) (tb : TruthAt 19 b) : TruthAt 19 (.two false a b) := by
  intro G l v w j n en h ht hg h15 hsz h20
  have hj : j < l.length := by rw [ht.len]; exact get_lt hg
  have H := hid h
  obtain ⟨g, o, cap, rfl, hcap, hmax, hF, hc⟩ := open_nodes h ht (by omega)
  obtain ⟨-, g0, g1, g2, g3, g4⟩ := hc j _ hg
  simp only [opI, nA, nB, nK, nT] at g0 g1 g2 g3 g4
  unfold maxLen at hmax
  have HL := hid (fun (W : World) (hb : Below w.heap.size w W) => (H.out.lift hb hb.size))
  have np := Frm.size_pos (.two false a b)
  have n1 : ¬ (n : Int) < 1 := by omega
  clear np
  have i1 : (0 : Int) ≤ ↑j := by omega
  have i2 : (↑j : Int) < ↑l.length := by omega
  have HT := hid ht
  have TA := hid ta
  have TB := hid tb
  have HGTA := hid (ht.two j false a b hg).2.2
  have HGTB := hid (ht.two j false a b hg).2.1
  have j1 : b.size + 1 ≤ j := (ht.two j false a b hg).1
  have s1 : IntKind.i64.wrap (n - 1) = n - 1 := IntWalk.i64_in _ (by omega)
  have n2 : ((n - 1 : Nat) : Int) = (n : Int) - 1 := by omega
  have j2 : ((j - 1 - b.size : Nat) : Int) = (j : Int) - 1 - b.size := by omega
  have j3 : ((j - 1 : Nat) : Int) = (j : Int) - 1 := by omega
  have HN2 := hid n2
  have HJ2 := hid j2
  have HJ3 := hid j3
  clear n2 j2 j3 ta tb
  clear h H hc ht hg
  unfold EnvT.val
  go_enter Tryd.func19, Tryd.ntmps19
  rcases Bool.eq_false_or_eq_true (truthF en.at a) with hta | hta
  · go_wp2_with (first
      | (go_at_call 19; rw [← HN2.out, ← HJ2.out]; refine (TA.out G l _ _ (j - 1 - b.size) (n - 1) en (HL.out _ (balloc (balloc (b0 w) _) _)) HT.out HGTA.out h15 (by have := hsz; simp only [Frm.size] at this; omega) (by omega)).mono ?_; clear TA; rintro e w1 ⟨rfl, hb1⟩
         rw [hta]
         have HB1 := hid (bstep (balloc (balloc (b0 w) _) _) hb1)
         have x0 : w1.cell? ⟨w.heap.size, 0, none⟩ = some (.string en.a) := cell_below hb1 (by simp; omega) (al2_old rfl)
         have x1 : w1.cell? ⟨w.heap.size, 1, none⟩ = some (.string en.b) := cell_below hb1 (by simp; omega) (al2_old rfl)
         have x2 : w1.cell? ⟨w.heap.size, 2, none⟩ = some (.string en.c) := cell_below hb1 (by simp; omega) (al2_old rfl)
         have x3 : w1.cell? ⟨w.heap.size + 1, 2, none⟩ = some (.int .i64 ((j : Int) - 1)) := cell_below hb1 (by simp) (al2_new rfl))
      | (go_at_call 19; rw [← HN2.out, ← HJ3.out]; refine (TB.out G l _ _ (j - 1) (n - 1) en (HL.out _ HB1.out) HT.out HGTB.out h15 (by have := hsz; simp only [Frm.size] at this; omega) (by omega)).mono ?_; rintro e w2 ⟨rfl, hb2⟩))
    go_ret
    exact ⟨rbool (by simp [truthF, hta]), bstep HB1.out hb2⟩
  · go_wp2_with (first
      | (go_at_call 19; rw [← HN2.out, ← HJ2.out]; refine (TA.out G l _ _ (j - 1 - b.size) (n - 1) en (HL.out _ (balloc (balloc (b0 w) _) _)) HT.out HGTA.out h15 (by have := hsz; simp only [Frm.size] at this; omega) (by omega)).mono ?_; clear TA; rintro e w1 ⟨rfl, hb1⟩
         rw [hta]
         have HB1 := hid (bstep (balloc (balloc (b0 w) _) _) hb1)))
    go_ret
    exact ⟨rbool (by simp [truthF, hta]), HB1.out⟩
set_option maxRecDepth 100000 in
set_option maxHeartbeats 2000000 in
theorem truth_two_true (a b : Frm) (ta : TruthAt 19 a) (tb : TruthAt 19 b) : TruthAt 19 (.two true a b) := by
  intro G l v w j n en h ht hg h15 hsz h20
  have hj : j < l.length := by rw [ht.len]; exact get_lt hg
  have H := hid h
  obtain ⟨g, o, cap, rfl, hcap, hmax, hF, hc⟩ := open_nodes h ht (by omega)
  obtain ⟨-, g0, g1, g2, g3, g4⟩ := hc j _ hg
  simp only [opI, nA, nB, nK, nT] at g0 g1 g2 g3 g4
  unfold maxLen at hmax
  have HL := hid (fun (W : World) (hb : Below w.heap.size w W) => (H.out.lift hb hb.size))
  have np := Frm.size_pos (.two true a b)
  have n1 : ¬ (n : Int) < 1 := by omega
  clear np
  have i1 : (0 : Int) ≤ ↑j := by omega
  have i2 : (↑j : Int) < ↑l.length := by omega
  have HT := hid ht
  have TA := hid ta
  have TB := hid tb
  have HGTA := hid (ht.two j true a b hg).2.2
  have HGTB := hid (ht.two j true a b hg).2.1
  have j1 : b.size + 1 ≤ j := (ht.two j true a b hg).1
  have s1 : IntKind.i64.wrap (n - 1) = n - 1 := IntWalk.i64_in _ (by omega)
  have n2 : ((n - 1 : Nat) : Int) = (n : Int) - 1 := by omega
  have j2 : ((j - 1 - b.size : Nat) : Int) = (j : Int) - 1 - b.size := by omega
  have j3 : ((j - 1 : Nat) : Int) = (j : Int) - 1 := by omega
  have HN2 := hid n2
  have HJ2 := hid j2
  have HJ3 := hid j3
  clear n2 j2 j3 ta tb
  clear h H hc ht hg
  unfold EnvT.val
  go_enter Tryd.func19, Tryd.ntmps19
  rcases Bool.eq_false_or_eq_true (truthF en.at a) with hta | hta
  · go_wp2_with (first
      | (go_at_call 19; rw [← HN2.out, ← HJ2.out]; refine (TA.out G l _ _ (j - 1 - b.size) (n - 1) en (HL.out _ (balloc (balloc (b0 w) _) _)) HT.out HGTA.out h15 (by have := hsz; simp only [Frm.size] at this; omega) (by omega)).mono ?_; clear TA; rintro e w1 ⟨rfl, hb1⟩
         rw [hta]
         have HB1 := hid (bstep (balloc (balloc (b0 w) _) _) hb1)))
    go_ret
    exact ⟨rbool (by simp [truthF, hta]), HB1.out⟩
  · go_wp2_with (first
      | (go_at_call 19; rw [← HN2.out, ← HJ2.out]; refine (TA.out G l _ _ (j - 1 - b.size) (n - 1) en (HL.out _ (balloc (balloc (b0 w) _) _)) HT.out HGTA.out h15 (by have := hsz; simp only [Frm.size] at this; omega) (by omega)).mono ?_; clear TA; rintro e w1 ⟨rfl, hb1⟩
         rw [hta]
         have HB1 := hid (bstep (balloc (balloc (b0 w) _) _) hb1)
         have x0 : w1.cell? ⟨w.heap.size, 0, none⟩ = some (.string en.a) := cell_below hb1 (by simp; omega) (al2_old rfl)
         have x1 : w1.cell? ⟨w.heap.size, 1, none⟩ = some (.string en.b) := cell_below hb1 (by simp; omega) (al2_old rfl)
         have x2 : w1.cell? ⟨w.heap.size, 2, none⟩ = some (.string en.c) := cell_below hb1 (by simp; omega) (al2_old rfl)
         have x3 : w1.cell? ⟨w.heap.size + 1, 2, none⟩ = some (.int .i64 ((j : Int) - 1)) := cell_below hb1 (by simp) (al2_new rfl))
      | (go_at_call 19; rw [← HN2.out, ← HJ3.out]; refine (TB.out G l _ _ (j - 1) (n - 1) en (HL.out _ HB1.out) HT.out HGTB.out h15 (by have := hsz; simp only [Frm.size] at this; omega) (by omega)).mono ?_; rintro e w2 ⟨rfl, hb2⟩))
    go_ret
    exact ⟨rbool (by simp [truthF, hta]), bstep HB1.out hb2⟩
theorem truth_any (g : Frm) : TruthAt 19 g := by
  induction g with
  | is k s => exact truth_is k s
  | no a ih => exact truth_no a ih
  | two c a b iha ihb =>
    cases c with
    | false => exact truth_two_false a b iha ihb
    | true => exact truth_two_true a b iha ihb
end Go.Proofs.YtmdnleafpmondaaDoor
