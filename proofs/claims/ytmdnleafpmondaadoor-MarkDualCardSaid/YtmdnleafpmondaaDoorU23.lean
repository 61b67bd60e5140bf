/- Contract: mark.Eval. -/
import Derived.Test.YtmdnleafpmondaaDoorU22
namespace Go.Proofs.YtmdnleafpmondaaDoor
open Go Go.RowKit

/-- What a marker says of a platform. -/
def evalV (l : List Node) (en : EnvT) : Int := if mayB l = true ∧ en.ok = true then (match treeF l with | some f => evalF en.at f | none => 2) else 0
theorem may_tree {l : List Node} (h : mayB l = true) (h0 : l.length ≠ 0) : l.length ≤ 15 ∧ ∃ f, treeF l = some f ∧ (textL f).length ≤ 96 := by
  unfold mayB at h
  rw [Bool.and_eq_true, Bool.and_eq_true, decide_eq_true_eq, decide_eq_true_eq] at h
  obtain ⟨⟨h1, h2⟩, h3⟩ := h
  unfold treeB at h2
  cases l with
  | nil => exact absurd rfl h0
  | cons n l =>
    obtain ⟨f, hf⟩ := Option.isSome_iff_exists.1 (show (treeF (n :: l)).isSome = true from h2)
    unfold wholeL at h3
    rw [hf] at h3
    exact ⟨h1, f, hf, h3⟩

set_option maxRecDepth 100000 in
set_option maxHeartbeats 4000000 in
theorem eval_any (v : Value) (l : List Node) (en : EnvT) (w : World) (h : SliceRd tNode w (Lt w.heap.size) v l) :
    Calls Tryd.prog 20 #[.agg #[v], en.val] w fun x w' => x = .returned (.int .i64 (evalV l en)) ∧ Below w.heap.size w w' := by
  have H := hid h
  obtain ⟨A, cap, rfl, hcap, hmax, -⟩ := h.shape
  unfold maxLen at hmax
  clear h
  obtain ⟨n, hn⟩ : ∃ n, n = l.length := ⟨_, rfl⟩
  rw [← hn] at H hcap
  rw [← hn]
  replace hn := hid hn
  obtain ⟨wx, hwx⟩ : ∃ wx, wx = (w.alloc (.cells #[.slice A n cap] 25)).alloc (.cells #[.string en.a, .string en.b, .string en.c] 38) := ⟨_, rfl⟩
  have hz0 : (w.alloc (.cells #[.slice A n cap] 25)).heap.size = w.heap.size + 1 := by simp
  have hzx : wx.heap.size = w.heap.size + 2 := by rw [hwx]; simp
  have HB := hid (show Below w.heap.size w wx by rw [hwx]; exact balloc (balloc (b0 w) _) _)
  have HR := hid (H.out.lift HB.out HB.out.size)
  have m0 : wx.cell? ⟨w.heap.size, 0, none⟩ = some (.slice A n cap) := by
    rw [hwx]
    exact (World.cell?_alloc_old _ _ _ (by show w.heap.size ≠ _; rw [hz0]; omega)).trans (World.cell?_alloc_new ..)
  have HEC : Hid (wx.cell? ⟨w.heap.size + 1, 0, none⟩ = some (.string en.a) ∧ wx.cell? ⟨w.heap.size + 1, 1, none⟩ = some (.string en.b) ∧ wx.cell? ⟨w.heap.size + 1, 2, none⟩ = some (.string en.c)) := hid (by
    rw [hwx, ← hz0]
    exact ⟨World.cell?_alloc_new .., World.cell?_alloc_new .., World.cell?_alloc_new ..⟩)
  obtain ⟨e0, e1, e2⟩ := HEC.out
  have hl0 : w.heap.size < wx.heap.size := by omega
  have hl1 : w.heap.size + 1 < wx.heap.size := by omega
  have HMAY := hid (may_any _ l wx HR.out)
  have HENV := hid (fun (w2 : World) => envMay_any en w2)
  unfold EnvT.val at HENV
  unfold EnvT.val
  rcases Bool.eq_false_or_eq_true (mayB l) with hm | hm
  · rcases Bool.eq_false_or_eq_true en.ok with ho | ho
    · have HV : Hid (evalV l en = match treeF l with | some f => evalF en.at f | none => 2) := hid (by unfold evalV; rw [if_pos ⟨hm, ho⟩])
      by_cases hn0 : n = 0
      · have HVV : Hid (evalV l en = 2) := hid (by
          rw [HV.out, show l = [] from List.eq_nil_of_length_eq_zero (by have := hn.out; omega)]
          rfl)
        have j0 : ((n : Int) == 0) = true := by rw [beq_iff_eq]; omega
        replace hn0 := hid hn0
        replace hm := hid hm
        replace ho := hid ho
        go_enter Tryd.func20, Tryd.ntmps20
        go_wp2_with fail
        rw [← hwx]
        clear hwx
        go_wp2_with (first
          | (go_at_call 15; refine HMAY.out.mono ?_; rintro x w2 ⟨rfl, hb2⟩; rw [hm.out]; have f0 := cell_below hb2 hl0 m0; have f1 := cell_below hb2 hl1 e0; have f2 := cell_below hb2 hl1 e1; have f3 := cell_below hb2 hl1 e2; have hl2 : w.heap.size + 1 < w2.heap.size := Nat.lt_of_lt_of_le hl1 hb2.size; have hl2' : w.heap.size < w2.heap.size := Nat.lt_of_lt_of_le hl0 hb2.size; replace hb2 := hid hb2)
          | (go_at_call 37; refine (HENV.out _).mono ?_; rintro x w3 ⟨rfl, hb3⟩; rw [ho.out]; have q0 := cell_below hb3 hl2' f0; have q1 := cell_below hb3 hl2 f1; have q2 := cell_below hb3 hl2 f2; have q3 := cell_below hb3 hl2 f3; have hl3 : w.heap.size + 1 < w3.heap.size := Nat.lt_of_lt_of_le hl2 hb3.size; replace hb3 := hid hb3))
        go_ret
        exact ⟨by rw [HVV.out]; rfl, HB.out.trans ((bstep hb2.out hb3.out).mono HB.out.size)⟩
      · obtain ⟨h15, f, hf, -⟩ := may_tree hm (by have := hn.out; omega)
        have HVV : Hid (evalV l en = evalF en.at f) := hid (by rw [HV.out, hf])
        have HTA := hid (treeF_at hf)
        have HGL : Hid ((Frm.subs f).length = n) := hid (by have := HTA.out.len; have := hn.out; omega)
        have HLAST := hid (show (Frm.subs f)[n - 1]? = some f by have := Frm.subs_last f; rw [← Frm.subs_length, HGL.out] at this; exact this)
        have HP : Hid (0 < l.length ∧ l.length ≤ 15) := hid ⟨by have := hn.out; omega, h15⟩
        have j0 : ((n : Int) == 0) = false := by rw [beq_eq_false_iff_ne]; omega
        have j1 : (0 : Int) ≤ ↑n - 1 := by omega
        have j2 : (↑n : Int) - 1 < ↑n := by omega
        have j3 : (1 : Int) ≤ ↑n := by omega
        have hwn : IntKind.i64.wrap ((n : Int) - 1) = (n : Int) - 1 := IntWalk.i64_in _ (by omega)
        have hn15 : n ≤ 15 := by have := hn.out; have := HP.out.2; omega
        clear hf HV h15
        replace hm := hid hm
        replace ho := hid ho
        go_enter Tryd.func20, Tryd.ntmps20
        go_wp2_with fail
        rw [← hwx]
        clear hwx
        go_wp2_with (first
          | (go_at_call 15; refine HMAY.out.mono ?_; rintro x w2 ⟨rfl, hb2⟩; rw [hm.out]; have f0 := cell_below hb2 hl0 m0; have f1 := cell_below hb2 hl1 e0; have f2 := cell_below hb2 hl1 e1; have f3 := cell_below hb2 hl1 e2; have hl2 : w.heap.size + 1 < w2.heap.size := Nat.lt_of_lt_of_le hl1 hb2.size; have hl2' : w.heap.size < w2.heap.size := Nat.lt_of_lt_of_le hl0 hb2.size; replace hb2 := hid hb2)
          | (go_at_call 37; refine (HENV.out _).mono ?_; rintro x w3 ⟨rfl, hb3⟩; rw [ho.out]; have q0 := cell_below hb3 hl2' f0; have q1 := cell_below hb3 hl2 f1; have q2 := cell_below hb3 hl2 f2; have q3 := cell_below hb3 hl2 f3; have hl3 : w.heap.size + 1 < w3.heap.size := Nat.lt_of_lt_of_le hl2 hb3.size; replace hb3 := hid hb3))
        have HR3 := hid (HR.out.lift (bstep hb2.out hb3.out) (bstep hb2.out hb3.out).size)
        have HANS := hid (fun (wq : World) (hb : Below w3.heap.size w3 wq) => show Calls Tryd.prog 38 #[.slice A n cap, en.val] wq fun e w' => ∃ b, e = .returned (.slice (some ⟨b, 0, none⟩) n n) ∧ Arr 3 w' b (iv ((Frm.subs f).map (evalF en.at))) ∧ wq.heap.size ≤ b ∧ Below wq.heap.size wq w' by
          have h := answers_any _ l (Frm.subs f) en wq (HR3.out.lift hb hb.size) HTA.out HP.out.1 HP.out.2
          unfold AnsPost at h
          rw [HGL.out] at h
          exact h)
        unfold EnvT.val at HANS
        have HB3 := hid (HB.out.trans ((bstep hb2.out hb3.out).mono HB.out.size))
        clear f0 f1 f2 f3 m0 e0 e1 e2 hl2 hl2' hl0 hl1
        go_region_law ((first
          | (go_simp; go_at_call 38; (with_reducible refine (HANS.out _ (by first | exact b0 _ | exact (b0 _).drew)).mono ?_); rintro x w4 ⟨b, rfl, har, hge, hb4⟩
             have hb4' : Below w3.heap.size w3 w4 := by first | exact hb4 | exact ((b0 w3).drew).trans hb4
             have s0 := cell_below hb4' (by omega) q0; have s1 := cell_below hb4' hl3 q1; have s2 := cell_below hb4' hl3 q2; have s3 := cell_below hb4' hl3 q3
             have har2 : w4.cell? ⟨b, n - 1, none⟩ = some (.int .i64 (evalF en.at f)) := iv_cell har (by rw [List.getElem?_map, HLAST.out]; rfl)
             replace hb4' := hid hb4'
             clear har hge hb4)))
        all_goals go_wp2
        all_goals go_ret
        all_goals exact ⟨by rw [HVV.out]; rfl, by first | exact HB3.out.trans (hb4'.out.mono HB3.out.size) | exact (HB3.out.trans (hb4'.out.mono HB3.out.size)).drew⟩
    · have HVV : Hid (evalV l en = 0) := hid (by unfold evalV; rw [if_neg]; rintro ⟨_, h⟩; rw [ho] at h; cases h)
      replace hm := hid hm
      replace ho := hid ho
      go_enter Tryd.func20, Tryd.ntmps20
      go_wp2_with fail
      rw [← hwx]
      clear hwx
      go_wp2_with (first
        | (go_at_call 15; refine HMAY.out.mono ?_; rintro x w2 ⟨rfl, hb2⟩; rw [hm.out]; have f0 := cell_below hb2 hl0 m0; have f1 := cell_below hb2 hl1 e0; have f2 := cell_below hb2 hl1 e1; have f3 := cell_below hb2 hl1 e2; have hl2 : w.heap.size + 1 < w2.heap.size := Nat.lt_of_lt_of_le hl1 hb2.size; have hl2' : w.heap.size < w2.heap.size := Nat.lt_of_lt_of_le hl0 hb2.size; replace hb2 := hid hb2)
        | (go_at_call 37; refine (HENV.out _).mono ?_; rintro x w3 ⟨rfl, hb3⟩; rw [ho.out]; have q0 := cell_below hb3 hl2' f0; have q1 := cell_below hb3 hl2 f1; have q2 := cell_below hb3 hl2 f2; have q3 := cell_below hb3 hl2 f3; have hl3 : w.heap.size + 1 < w3.heap.size := Nat.lt_of_lt_of_le hl2 hb3.size; replace hb3 := hid hb3))
      go_ret
      exact ⟨by rw [HVV.out]; rfl, HB.out.trans ((bstep hb2.out hb3.out).mono HB.out.size)⟩
  · have HVV : Hid (evalV l en = 0) := hid (by unfold evalV; rw [if_neg]; rintro ⟨h, _⟩; rw [hm] at h; cases h)
    replace hm := hid hm
    go_enter Tryd.func20, Tryd.ntmps20
    go_wp2_with fail
    rw [← hwx]
    clear hwx
    go_wp2_with (first
      | (go_at_call 15; refine HMAY.out.mono ?_; rintro x w2 ⟨rfl, hb2⟩; rw [hm.out]; have f0 := cell_below hb2 hl0 m0; have f1 := cell_below hb2 hl1 e0; have f2 := cell_below hb2 hl1 e1; have f3 := cell_below hb2 hl1 e2; have hl2 : w.heap.size + 1 < w2.heap.size := Nat.lt_of_lt_of_le hl1 hb2.size; have hl2' : w.heap.size < w2.heap.size := Nat.lt_of_lt_of_le hl0 hb2.size; replace hb2 := hid hb2))
    go_ret
    exact ⟨by rw [HVV.out]; rfl, HB.out.trans (hb2.out.mono HB.out.size)⟩
end Go.Proofs.YtmdnleafpmondaaDoor
