/- MarkUnder: few, short, and the walk of the law. -/
import Derived.Test.YtmdnleafpmondaaDoorU44
import Derived.Test.YtmdnleafpmondaaDoorU27
namespace Go.Proofs.YtmdnleafpmondaaDoor
open Go Go.RowKit

def fewB (l : List Node) : Bool := decide (l.length ≤ 21) && l.all fun n => decide (n.text.size ≤ 60)
theorem few_all {l : List Node} (h1 : l.length ≤ 21) (h2 : ∀ j (hj : j < l.length), l[j].text.size ≤ 60) : fewB l = true := by
  unfold fewB
  rw [decide_eq_true h1, Bool.true_and, List.all_eq_true]
  intro x hx
  obtain ⟨j, hj, rfl⟩ := List.getElem_of_mem hx
  exact decide_eq_true (h2 j hj)
theorem few_long {l : List Node} (h : ¬ l.length ≤ 21) : fewB l = false := by
  unfold fewB; rw [decide_eq_false h]; rfl
theorem few_text {l : List Node} {j : Nat} (hj : j < l.length) (h : ¬ l[j].text.size ≤ 60) : fewB l = false := by
  unfold fewB
  have : (l.all fun n => decide (n.text.size ≤ 60)) = false := by
    rw [List.all_eq_false]
    exact ⟨l[j], List.getElem_mem hj, by rw [decide_eq_false h]; simp⟩
  rw [this, Bool.and_false]

set_option maxRecDepth 100000 in
set_option maxHeartbeats 2000000 in
theorem few_any (v : Value) (l : List Node) (w : World) (h : SliceRd tNode w (Lt w.heap.size) v l) :
    Calls Tryd.prog 22 #[.agg #[v]] w fun x w' => x = .returned (.bool (fewB l)) ∧ Below w.heap.size w w' := by
  obtain ⟨A, cap, rfl, hcap, hmax, hc⟩ := h.nodes
  have HC := hid hc
  unfold maxLen at hmax
  clear h hc
  obtain ⟨n, hn⟩ : ∃ n, n = l.length := ⟨_, rfl⟩
  rw [← hn] at hcap
  rw [← hn]
  replace hn := hid hn
  go_enter Tryd.func22, Tryd.ntmps22
  go_wp2
  obtain ⟨wx, hwx⟩ : ∃ wx, wx = w.alloc (.cells #[.slice A n cap] 25) := ⟨_, rfl⟩
  have HB := hid (show Below w.heap.size w wx by rw [hwx]; exact balloc (b0 w) _)
  have hzx : w.heap.size < wx.heap.size := by rw [hwx]; simp
  have m0 : wx.cell? ⟨w.heap.size, 0, none⟩ = some (.slice A n cap) := by rw [hwx]; exact World.cell?_alloc_new ..
  rw [← hwx]
  clear hwx
  go_loopw [3] (fun iv wr => ∃ k : Nat, k ≤ n ∧ iv = .int .i64 k ∧ Hid (k ≤ 21) ∧ Hid (∀ j (hj : j < l.length), j < k → l[j].text.size ≤ 60) ∧ Hid (Below wx.heap.size wx wr)) (fun iv _ => n - (intOf iv).toNat)
  case atStart => exact ⟨0, Nat.zero_le _, rfl, hid (by omega), hid (fun j _ hj => by omega), hid (b0 wx)⟩
  case round =>
    obtain ⟨k, hk, rfl, HK, HA, HBR⟩ := hrel
    have m1 := cell_below HBR.out hzx m0
    have i1 : (0 : Int) ≤ ↑k := by omega
    have HBW := hid (HB.out.trans (HBR.out.mono HB.out.size))
    by_cases hlt : k < n
    · have hlt' : k < l.length := by rw [← hn.out]; exact hlt
      obtain ⟨g, o, rfl, hF, g0, g1, g2, g3, g4, -⟩ := HC.out k hlt'
      obtain ⟨c0, c1, c2, c3, c4⟩ := cells5 HBW.out hF ⟨g0, g1, g2, g3, g4⟩
      clear g0 g1 g2 g3 g4 c0 c1 c2 c3
      have i2 : (↑k : Int) < ↑n := by omega
      by_cases h20 : 20 < k
      · have d1 := decide_eq_true (show (20 : Int) < ↑k by omega)
        have d2 := decide_eq_true h20
        have HR := hid (few_long (l := l) (by have := hn.out; have := HK.out; omega))
        go_wp2
        go_ret
        exact ⟨rbool HR.out.symm, HBW.out⟩
      · have d1 := decide_eq_false (show ¬ (20 : Int) < ↑k by omega)
        have d2 := decide_eq_false h20
        obtain ⟨t, ht⟩ : ∃ t, t = l[k].text := ⟨_, rfl⟩
        rw [← ht] at c4
        by_cases h60 : 60 < t.size
        · have d3 := decide_eq_true (show (60 : Int) < ↑t.size by omega)
          have d4 := decide_eq_true h60
          have HR := hid (few_text hlt' (by rw [← ht]; omega))
          replace ht := hid ht
          go_wp2
          go_ret
          exact ⟨rbool HR.out.symm, HBW.out⟩
        · have d3 := decide_eq_false (show ¬ (60 : Int) < ↑t.size by omega)
          have d4 := decide_eq_false h60
          replace ht := hid ht
          go_wp2
          refine ⟨⟨k + 1, by omega, by go_num, hid (by omega), hid (fun j hj hjk => ?_), hid HBR.out⟩, by simp [intOf]; omega⟩
          by_cases e : j = k
          · subst e; rw [← ht.out]; omega
          · exact HA.out j hj (by omega)
    · obtain rfl : k = n := by omega
      have HR := hid (few_all (l := l) (by rw [← hn.out]; exact HK.out) (fun j hj => HA.out j hj (by rw [hn.out]; exact hj)))
      go_wp2
      go_ret
      exact ⟨rbool HR.out.symm, HBW.out⟩
def shortB (en : EnvT) : Bool := decide (en.a.size ≤ 60) && (decide (en.b.size ≤ 60) && decide (en.c.size ≤ 60))

set_option maxRecDepth 100000 in
set_option maxHeartbeats 2000000 in
theorem short_any (en : EnvT) (w : World) : Calls Tryd.prog 23 #[en.val] w fun x w' => x = .returned (.bool (shortB en)) ∧ Below w.heap.size w w' := by
  unfold EnvT.val
  obtain ⟨wx, hwx⟩ : ∃ wx, wx = w.alloc (.cells #[.string en.a, .string en.b, .string en.c] 38) := ⟨_, rfl⟩
  have HB := hid (show Below w.heap.size w wx by rw [hwx]; exact balloc (b0 w) _)
  have HV := hid (show shortB en = _ from rfl)
  by_cases ha : en.a.size ≤ 60
  · have a1 := decide_eq_true (show (↑en.a.size : Int) ≤ 60 by omega)
    have a2 := decide_eq_true ha
    by_cases hb : en.b.size ≤ 60
    · have b1 := decide_eq_true (show (↑en.b.size : Int) ≤ 60 by omega)
      have b2 := decide_eq_true hb
      by_cases hc : en.c.size ≤ 60
      · have c1 := decide_eq_true (show (↑en.c.size : Int) ≤ 60 by omega)
        have c2 := decide_eq_true hc
        have HR := hid (show shortB en = true by unfold shortB; rw [a2, b2, c2]; rfl)
        go_enter Tryd.func23, Tryd.ntmps23
        go_wp2
        go_ret
        exact ⟨rbool HR.out.symm, by rw [← hwx]; exact HB.out⟩
      · have c1 := decide_eq_false (show ¬ (↑en.c.size : Int) ≤ 60 by omega)
        have c2 := decide_eq_false hc
        have HR := hid (show shortB en = false by unfold shortB; rw [a2, b2, c2]; rfl)
        go_enter Tryd.func23, Tryd.ntmps23
        go_wp2
        go_ret
        exact ⟨rbool HR.out.symm, by rw [← hwx]; exact HB.out⟩
    · have b1 := decide_eq_false (show ¬ (↑en.b.size : Int) ≤ 60 by omega)
      have b2 := decide_eq_false hb
      have HR := hid (show shortB en = false by unfold shortB; rw [a2, b2]; rfl)
      go_enter Tryd.func23, Tryd.ntmps23
      go_wp2
      go_ret
      exact ⟨rbool HR.out.symm, by rw [← hwx]; exact HB.out⟩
  · have a1 := decide_eq_false (show ¬ (↑en.a.size : Int) ≤ 60 by omega)
    have a2 := decide_eq_false ha
    have HR := hid (show shortB en = false by unfold shortB; rw [a2]; rfl)
    go_enter Tryd.func23, Tryd.ntmps23
    go_wp2
    go_ret
    exact ⟨rbool HR.out.symm, by rw [← hwx]; exact HB.out⟩

set_option maxRecDepth 100000 in
set_option maxHeartbeats 4000000 in
theorem markUnder_any (v : Value) (m : List Node) (en : EnvT) (w : World) (h : SliceRd tNode w (Lt w.heap.size) v m) (hm : MaxOk w) : Calls Tryd.prog 7 #[.agg #[v], en.val] w fun e w' => e = .returned (.bool true) ∧ Below w.heap.size w w' := by
  have HM := hid hm
  have H := hid h
  obtain ⟨Am, cm, rfl, -⟩ := h.shape
  clear hm h
  obtain ⟨n, hn⟩ : ∃ n, n = m.length := ⟨_, rfl⟩
  rw [← hn] at H
  rw [← hn]
  replace hn := hid hn
  unfold EnvT.val
  obtain ⟨wx, hwx⟩ : ∃ wx, wx = (w.alloc (.cells #[.slice Am n cm] 25)).alloc (.cells #[.string en.a, .string en.b, .string en.c] 38) := ⟨_, rfl⟩
  have HB := hid (show Below w.heap.size w wx by rw [hwx]; exact balloc (balloc (b0 w) _) _)
  have hzx : wx.heap.size = w.heap.size + 2 := by rw [hwx]; simp
  have HR := hid (H.out.lift HB.out HB.out.size)
  have HMX := hid (HM.out.later HB.out)
  have zx0 : w.heap.size < wx.heap.size := by omega
  have zx1 : w.heap.size + 1 < wx.heap.size := by omega
  have m0 : wx.cell? ⟨w.heap.size, 0, none⟩ = some (.slice Am n cm) := by rw [hwx]; exact al2_old rfl
  have e0 : wx.cell? ⟨w.heap.size + 1, 0, none⟩ = some (.string en.a) := by rw [hwx]; exact al2_new rfl
  have e1 : wx.cell? ⟨w.heap.size + 1, 1, none⟩ = some (.string en.b) := by rw [hwx]; exact al2_new rfl
  have e2 : wx.cell? ⟨w.heap.size + 1, 2, none⟩ = some (.string en.c) := by rw [hwx]; exact al2_new rfl
  have HFEW := hid (few_any _ m wx HR.out)
  have HSH := hid (fun W => short_any en W)
  unfold EnvT.val at HSH
  obtain ⟨fb, hfb⟩ : ∃ fb, fb = fewB m := ⟨_, rfl⟩
  rw [← hfb] at HFEW
  clear hfb
  obtain ⟨sb, hsb⟩ : ∃ sb, sb = shortB en := ⟨_, rfl⟩
  rw [← hsb] at HSH
  clear hsb
  obtain ⟨L, hL⟩ : ∃ L, L = underV m en := ⟨_, rfl⟩
  obtain ⟨x, hx⟩ : ∃ x, x = evalV m en := ⟨_, rfl⟩
  have HU := hid (fun (W : World) (hb : Below wx.heap.size wx W) => under_any _ m en W (HR.out.lift hb hb.size))
  have HRU := hid (fun (W : World) (hb : Below wx.heap.size wx W) => runder_any _ m en W (HR.out.lift hb hb.size))
  unfold UnderPost EnvT.val at HU HRU
  rw [← hL, ← hx] at HU HRU
  clear hL hx
  obtain ⟨ll, hll⟩ : ∃ ll, ll = L.length := ⟨_, rfl⟩
  rw [← hll] at HU HRU
  replace hll := hid hll
  cases fb with
  | false =>
    go_enter Tryd.func7, Tryd.ntmps7
    go_wp2_with fail
    rw [← hwx]
    clear hwx
    go_wp2_with (first
      | (go_at_call 22; refine HFEW.out.mono ?_; rintro e w2 ⟨rfl, hb2⟩)
      | (go_at_call 10; refine (awake_any w2 (HMX.out.later hb2)).mono ?_; rintro e w3 ⟨rfl, hb3⟩))
    go_ret
    exact ⟨rfl, bstep HB.out (bstep hb2 hb3)⟩
  | true =>
    cases sb with
    | false =>
      go_enter Tryd.func7, Tryd.ntmps7
      go_wp2_with fail
      rw [← hwx]
      clear hwx
      go_wp2_with (first
        | (go_at_call 22; refine HFEW.out.mono ?_; rintro e w2 ⟨rfl, hb2⟩
           have f0 := cell_below hb2 zx1 e0; have f1 := cell_below hb2 zx1 e1; have f2 := cell_below hb2 zx1 e2)
        | (go_at_call 23; refine (HSH.out w2).mono ?_; rintro e w3 ⟨rfl, hb3⟩; have HM3 := hid (HMX.out.later (bstep hb2 hb3)))
        | (go_at_call 10; refine (awake_any w3 HM3.out).mono ?_; rintro e w4 ⟨rfl, hb4⟩))
      go_ret
      exact ⟨rfl, bstep HB.out (bstep (bstep hb2 hb3) hb4)⟩
    | true =>
      go_enter Tryd.func7, Tryd.ntmps7
      go_wp2_with fail
      rw [← hwx]
      clear hwx
      go_wp2_with (first
        | (go_at_call 22; refine HFEW.out.mono ?_; rintro e w2 ⟨rfl, hb2⟩
           have f0 := cell_below hb2 zx1 e0; have f1 := cell_below hb2 zx1 e1; have f2 := cell_below hb2 zx1 e2)
        | (go_at_call 23; refine (HSH.out w2).mono ?_; rintro e w3 ⟨rfl, hb3⟩
           have B3 := hid (bstep hb2 hb3)
           have m3 := cell_below B3.out zx0 m0
           have f30 := cell_below B3.out zx1 e0; have f31 := cell_below B3.out zx1 e1; have f32 := cell_below B3.out zx1 e2)
        | (go_at_call 24; refine (HU.out w3 B3.out).mono ?_; rintro e w4 ⟨A4, c4, rfl, r4, hb4⟩
           have HBA4 := hid (balloc (b0 w4) (.cells #[.slice A4 ll c4] 25))
           have B4 := hid (bstep (bstep B3.out hb4) HBA4.out)
           have R4 := hid (r4.lift HBA4.out HBA4.out.size)
           have o4 : (w4.alloc (.cells #[.slice A4 ll c4] 25)).cell? ⟨w4.heap.size, 0, none⟩ = some (.slice A4 ll c4) := World.cell?_alloc_new ..
           have m4 := cell_below B4.out zx0 m0
           have f40 := cell_below B4.out zx1 e0; have f41 := cell_below B4.out zx1 e1; have f42 := cell_below B4.out zx1 e2
           clear r4 hb4)
        | (go_at_call 25; refine (HRU.out _ B4.out).mono ?_; rintro e w5 ⟨A5, c5, rfl, r5, hb5⟩
           have HBA5 := hid (balloc (b0 w5) (.cells #[.slice A5 ll c5] 25))
           have B45 := hid (bstep hb5 HBA5.out)
           have B5 := hid (bstep B4.out B45.out)
           have R5 := hid (r5.lift HBA5.out HBA5.out.size)
           have R45 := hid (R4.out.lift B45.out B45.out.size)
           have o5 := cell_below B45.out (by simp) o4
           have p5 : (w5.alloc (.cells #[.slice A5 ll c5] 25)).cell? ⟨w5.heap.size, 0, none⟩ = some (.slice A5 ll c5) := World.cell?_alloc_new ..
           have z45 : w4.heap.size < (w5.alloc (.cells #[.slice A5 ll c5] 25)).heap.size := Nat.lt_of_lt_of_le (by simp) B45.out.size
           have HM5 := hid (HMX.out.later B5.out)
           clear r5 hb5)
        | (go_at_call 10; refine (awake_any _ HM5.out).mono ?_; rintro e w6 ⟨rfl, hb6⟩
           have o6 := cell_below hb6 z45 o5
           have p6 := cell_below hb6 (by simp) p5
           have R6 := hid (R5.out.lift hb6 hb6.size)
           have R46 := hid (R45.out.lift hb6 hb6.size))
        | (go_at_call 13; refine (same_self _ _ L w6 R46.out R6.out).mono ?_; rintro e w7 ⟨rfl, hb7⟩))
      go_ret
      exact ⟨rfl, bstep HB.out (bstep (bstep B5.out hb6) hb7)⟩
end Go.Proofs.YtmdnleafpmondaaDoor
