/- Contracts: linchpinref10.Eval, Under. -/
import Derived.Test.YtmdnleafpmondaaDoorU43
import Derived.Test.YtmdnleafpmondaaDoorU20
import Derived.Test.YtmdnleafpmondaaDoorU29
namespace Go.Proofs.YtmdnleafpmondaaDoor
open Go Go.RowKit

set_option maxRecDepth 100000 in
set_option maxHeartbeats 4000000 in
theorem reval_any (v : Value) (l : List Node) (en : EnvT) (w : World) (h : SliceRd tNode w (Lt w.heap.size) v l) :
    Calls Tryd.prog 40 #[.agg #[v], en.val] w fun x w' => x = .returned (.int .i64 (evalV l en)) ∧ Below w.heap.size w w' := by
  have H := hid h
  obtain ⟨A, cap, rfl, hcap, hmax, -⟩ := h.shape
  unfold maxLen at hmax
  clear h
  obtain ⟨n, hn⟩ : ∃ n, n = l.length := ⟨_, rfl⟩
  rw [← hn] at H hcap
  rw [← hn]
  replace hn := hid hn
  obtain ⟨wx, hwx⟩ : ∃ wx, wx = (w.alloc (.cells #[.slice A n cap] 25)).alloc (.cells #[.string en.a, .string en.b, .string en.c] 38) := ⟨_, rfl⟩
  have hz0 : (w.alloc (.cells #[.slice A n cap] 25)).heap.size = w.heap.size + 1 := by simp
  have hzx : wx.heap.size = w.heap.size + 2 := by rw [hwx]; simp
  have HB := hid (show Below w.heap.size w wx by rw [hwx]; exact balloc (balloc (b0 w) _) _)
  have HR := hid (H.out.lift HB.out HB.out.size)
  have m0 : wx.cell? ⟨w.heap.size, 0, none⟩ = some (.slice A n cap) := by
    rw [hwx]
    exact (World.cell?_alloc_old _ _ _ (by show w.heap.size ≠ _; rw [hz0]; omega)).trans (World.cell?_alloc_new ..)
  have HEC : Hid (wx.cell? ⟨w.heap.size + 1, 0, none⟩ = some (.string en.a) ∧ wx.cell? ⟨w.heap.size + 1, 1, none⟩ = some (.string en.b) ∧ wx.cell? ⟨w.heap.size + 1, 2, none⟩ = some (.string en.c)) := hid (by
    rw [hwx, ← hz0]
    exact ⟨World.cell?_alloc_new .., World.cell?_alloc_new .., World.cell?_alloc_new ..⟩)
  obtain ⟨e0, e1, e2⟩ := HEC.out
  have hl0 : w.heap.size < wx.heap.size := by omega
  have hl1 : w.heap.size + 1 < wx.heap.size := by omega
  have HMAY := hid (rmay_any _ l wx HR.out)
  have HENV := hid (fun (w2 : World) => renvMay_any en w2)
  unfold EnvT.val at HENV
  unfold EnvT.val
  rcases Bool.eq_false_or_eq_true (mayB l) with hm | hm
  · rcases Bool.eq_false_or_eq_true en.ok with ho | ho
    · have HV : Hid (evalV l en = match treeF l with | some f => evalF en.at f | none => 2) := hid (by unfold evalV; rw [if_pos ⟨hm, ho⟩]; rfl)
      by_cases hn0 : n = 0
      · have HVV : Hid (evalV l en = 2) := hid (by
          rw [HV.out, show l = [] from List.eq_nil_of_length_eq_zero (by have := hn.out; omega)]
          rfl)
        have j0 : ((n : Int) == 0) = true := by rw [beq_iff_eq]; omega
        replace hn0 := hid hn0
        replace hm := hid hm
        replace ho := hid ho
        go_enter Tryd.func40, Tryd.ntmps40
        go_wp2_with fail
        rw [← hwx]
        clear hwx
        go_wp2_with (first
          | (go_at_call 30; refine HMAY.out.mono ?_; rintro x w2 ⟨rfl, hb2⟩; rw [hm.out]; have f0 := cell_below hb2 hl0 m0; have f1 := cell_below hb2 hl1 e0; have f2 := cell_below hb2 hl1 e1; have f3 := cell_below hb2 hl1 e2; have hl2 : w.heap.size + 1 < w2.heap.size := Nat.lt_of_lt_of_le hl1 hb2.size; have hl2' : w.heap.size < w2.heap.size := Nat.lt_of_lt_of_le hl0 hb2.size; replace hb2 := hid hb2)
          | (go_at_call 54; refine (HENV.out _).mono ?_; rintro x w3 ⟨rfl, hb3⟩; rw [ho.out]; have q0 := cell_below hb3 hl2' f0; have q1 := cell_below hb3 hl2 f1; have q2 := cell_below hb3 hl2 f2; have q3 := cell_below hb3 hl2 f3; have hl3 : w.heap.size + 1 < w3.heap.size := Nat.lt_of_lt_of_le hl2 hb3.size; replace hb3 := hid hb3))
        go_ret
        exact ⟨by rw [HVV.out]; rfl, HB.out.trans ((bstep hb2.out hb3.out).mono HB.out.size)⟩
      · obtain ⟨h15, f, hf, -⟩ := may_tree hm (by have := hn.out; omega)
        have HVV : Hid (evalV l en = evalF en.at f) := hid (by rw [HV.out, hf])
        have HTA := hid (treeF_at hf)
        have HGL : Hid ((Frm.subs f).length = n) := hid (by have := HTA.out.len; have := hn.out; omega)
        have HLAST := hid (show (Frm.subs f)[n - 1]? = some f by have := Frm.subs_last f; rw [← Frm.subs_length, HGL.out] at this; exact this)
        have HP : Hid (0 < l.length ∧ l.length ≤ 15) := hid ⟨by have := hn.out; omega, h15⟩
        have j0 : ((n : Int) == 0) = false := by rw [beq_eq_false_iff_ne]; omega
        have j1 : (0 : Int) ≤ ↑n - 1 := by omega
        have j2 : (↑n : Int) - 1 < ↑n := by omega
        have j3 : (1 : Int) ≤ ↑n := by omega
        have hwn : IntKind.i64.wrap ((n : Int) - 1) = (n : Int) - 1 := IntWalk.i64_in _ (by omega)
        have hn15 : n ≤ 15 := by have := hn.out; have := HP.out.2; omega
        clear hf HV h15
        replace hm := hid hm
        replace ho := hid ho
        go_enter Tryd.func40, Tryd.ntmps40
        go_wp2_with fail
        rw [← hwx]
        clear hwx
        go_wp2_with (first
          | (go_at_call 30; refine HMAY.out.mono ?_; rintro x w2 ⟨rfl, hb2⟩; rw [hm.out]; have f0 := cell_below hb2 hl0 m0; have f1 := cell_below hb2 hl1 e0; have f2 := cell_below hb2 hl1 e1; have f3 := cell_below hb2 hl1 e2; have hl2 : w.heap.size + 1 < w2.heap.size := Nat.lt_of_lt_of_le hl1 hb2.size; have hl2' : w.heap.size < w2.heap.size := Nat.lt_of_lt_of_le hl0 hb2.size; replace hb2 := hid hb2)
          | (go_at_call 54; refine (HENV.out _).mono ?_; rintro x w3 ⟨rfl, hb3⟩; rw [ho.out]; have q0 := cell_below hb3 hl2' f0; have q1 := cell_below hb3 hl2 f1; have q2 := cell_below hb3 hl2 f2; have q3 := cell_below hb3 hl2 f3; have hl3 : w.heap.size + 1 < w3.heap.size := Nat.lt_of_lt_of_le hl2 hb3.size; replace hb3 := hid hb3))
        have HR3 := hid (HR.out.lift (bstep hb2.out hb3.out) (bstep hb2.out hb3.out).size)
        have HANS := hid (fun (wq : World) (hb : Below w3.heap.size w3 wq) => show Calls Tryd.prog 42 #[.agg #[.slice A n cap], en.val] wq fun e w' => ∃ g o c, e = .returned (.slice (some ⟨g, o, none⟩) n c) ∧ w'.cell? ⟨g, o + (n - 1), none⟩ = some (.int .i64 (evalF en.at f)) ∧ Below wq.heap.size wq w' by
          have h := rvalues_any _ l (Frm.subs f) en wq (HR3.out.lift hb hb.size) HTA.out HP.out.1 HP.out.2
          refine h.mono ?_
          rintro e w' ⟨A', c', h1, h2, h3⟩
          obtain ⟨-, g, o, rfl, -, h4⟩ := vals_full h2 HLAST.out
          exact ⟨g, o, c', by rw [h1, HGL.out], h4, h3⟩)
        unfold EnvT.val at HANS
        have HB3 := hid (HB.out.trans ((bstep hb2.out hb3.out).mono HB.out.size))
        clear f0 f1 f2 f3 m0 e0 e1 e2 hl2 hl2' hl0 hl1
        go_region_law ((first
          | (go_simp; go_at_call 42; (with_reducible refine (HANS.out _ (by first | exact b0 _ | exact (b0 _).drew)).mono ?_); rintro x w4 ⟨gv, sv, cv, rfl, har2, hb4⟩
             have hb4' : Below w3.heap.size w3 w4 := by first | exact hb4 | exact ((b0 w3).drew).trans hb4
             have s0 := cell_below hb4' (by omega) q0; have s1 := cell_below hb4' hl3 q1; have s2 := cell_below hb4' hl3 q2; have s3 := cell_below hb4' hl3 q3
             replace hb4' := hid hb4'
             clear hb4)))
        all_goals go_wp2
        all_goals go_ret
        all_goals exact ⟨by rw [HVV.out]; rfl, by first | exact HB3.out.trans (hb4'.out.mono HB3.out.size) | exact (HB3.out.trans (hb4'.out.mono HB3.out.size)).drew⟩
    · have HVV : Hid (evalV l en = 0) := hid (by unfold evalV; rw [if_neg]; rintro ⟨_, h⟩; rw [ho] at h; cases h)
      replace hm := hid hm
      replace ho := hid ho
      go_enter Tryd.func40, Tryd.ntmps40
      go_wp2_with fail
      rw [← hwx]
      clear hwx
      go_wp2_with (first
        | (go_at_call 30; refine HMAY.out.mono ?_; rintro x w2 ⟨rfl, hb2⟩; rw [hm.out]; have f0 := cell_below hb2 hl0 m0; have f1 := cell_below hb2 hl1 e0; have f2 := cell_below hb2 hl1 e1; have f3 := cell_below hb2 hl1 e2; have hl2 : w.heap.size + 1 < w2.heap.size := Nat.lt_of_lt_of_le hl1 hb2.size; have hl2' : w.heap.size < w2.heap.size := Nat.lt_of_lt_of_le hl0 hb2.size; replace hb2 := hid hb2)
        | (go_at_call 54; refine (HENV.out _).mono ?_; rintro x w3 ⟨rfl, hb3⟩; rw [ho.out]; have q0 := cell_below hb3 hl2' f0; have q1 := cell_below hb3 hl2 f1; have q2 := cell_below hb3 hl2 f2; have q3 := cell_below hb3 hl2 f3; have hl3 : w.heap.size + 1 < w3.heap.size := Nat.lt_of_lt_of_le hl2 hb3.size; replace hb3 := hid hb3))
      go_ret
      exact ⟨by rw [HVV.out]; rfl, HB.out.trans ((bstep hb2.out hb3.out).mono HB.out.size)⟩
  · have HVV : Hid (evalV l en = 0) := hid (by unfold evalV; rw [if_neg]; rintro ⟨h, _⟩; rw [hm] at h; cases h)
    replace hm := hid hm
    go_enter Tryd.func40, Tryd.ntmps40
    go_wp2_with fail
    rw [← hwx]
    clear hwx
    go_wp2_with (first
      | (go_at_call 30; refine HMAY.out.mono ?_; rintro x w2 ⟨rfl, hb2⟩; rw [hm.out]; have f0 := cell_below hb2 hl0 m0; have f1 := cell_below hb2 hl1 e0; have f2 := cell_below hb2 hl1 e1; have f3 := cell_below hb2 hl1 e2; have hl2 : w.heap.size + 1 < w2.heap.size := Nat.lt_of_lt_of_le hl1 hb2.size; have hl2' : w.heap.size < w2.heap.size := Nat.lt_of_lt_of_le hl0 hb2.size; replace hb2 := hid hb2))
    go_ret
    exact ⟨by rw [HVV.out]; rfl, HB.out.trans (hb2.out.mono HB.out.size)⟩
theorem runder_result {wx : World} {b : Nat} {v : Value} {n : Int} {tmps : Array Value} (h : Arr 25 wx b [v]) (h2 : tmps.getD 4 undef = .pointer (some ⟨b, 0, none⟩)) (h3 : tmps.getD 5 undef = .int .i64 n) :
    (results Tryd.f25 tmps).run Tryd.prog wx = .ok (.tuple #[.agg #[v], .int .i64 n]) wx := by
  rw [results_cell_tmp rfl, h2, h3]
  have := run_loadVar_row (P := Tryd.prog) wx b 25 25 _ (0, 0) _ h Tryd.underlying25 rfl (by kernel_rfl)
  simp [asAddr, Result.andThen, this]
set_option maxRecDepth 100000 in
set_option maxHeartbeats 4000000 in
theorem runder_any (v : Value) (l : List Node) (en : EnvT) (w : World) (h : SliceRd tNode w (Lt w.heap.size) v l) :
    Calls Tryd.prog 25 #[.agg #[v], en.val] w (UnderPost l en w) := by
  have H := hid h
  obtain ⟨A, cap, rfl, hcap, hmax, -⟩ := h.shape
  unfold maxLen at hmax
  clear h
  obtain ⟨n, hn⟩ : ∃ n, n = l.length := ⟨_, rfl⟩
  rw [← hn] at H hcap
  rw [← hn]
  replace hn := hid hn
  obtain ⟨wx, hwx⟩ : ∃ wx, wx = ((w.alloc (.cells #[.slice A n cap] 25)).alloc (.cells #[.string en.a, .string en.b, .string en.c] 38)).alloc (.cells #[.slice none 0 0] 25) := ⟨_, rfl⟩
  have hz0 : (w.alloc (.cells #[.slice A n cap] 25)).heap.size = w.heap.size + 1 := by simp
  have hz1 : ((w.alloc (.cells #[.slice A n cap] 25)).alloc (.cells #[.string en.a, .string en.b, .string en.c] 38)).heap.size = w.heap.size + 2 := by simp
  have hzx : wx.heap.size = w.heap.size + 3 := by rw [hwx]; simp
  have HB := hid (show Below w.heap.size w wx by rw [hwx]; exact balloc (balloc (balloc (b0 w) _) _) _)
  have HR := hid (H.out.lift HB.out HB.out.size)
  have HA0 : Hid (Arr 25 wx (w.heap.size + 2) [.slice none 0 0]) := hid (by rw [hwx, ← hz1]; exact Arr.new 25 _ [.slice none 0 0])
  have HM0 : Hid (Arr 25 wx w.heap.size [.slice A n cap]) := hid (by rw [hwx]; exact ((Arr.new 25 w [.slice A n cap]).alloc _).alloc _)
  have HE0 : Hid (Arr 38 wx (w.heap.size + 1) [.string en.a, .string en.b, .string en.c]) := hid (by rw [hwx, ← hz0]; exact (Arr.new 38 _ [.string en.a, .string en.b, .string en.c]).alloc _)
  have m0 := HM0.out.cell (i := 0) (by simp)
  have e0 := HE0.out.cell (i := 0) (by simp)
  have e1 := HE0.out.cell (i := 1) (by simp)
  have e2 := HE0.out.cell (i := 2) (by simp)
  simp only [List.getElem_cons_zero, List.getElem_cons_succ] at m0 e0 e1 e2
  have HEV := hid (reval_any _ l en wx HR.out)
  unfold EnvT.val at HEV
  obtain ⟨x, hx⟩ : ∃ x, x = evalV l en := ⟨_, rfl⟩
  rw [← hx] at HEV
  unfold EnvT.val
  rcases eqI x 1 with ⟨ex, px⟩ | ⟨ex, px⟩
  · have nx := bne_t ex
    obtain ⟨hmay, hok, f, hf, hef⟩ := eval_one (hx.symm.trans px)
    have hU : underV l en = (leftF en.at f).post 0 := by unfold underV; rw [if_pos (hx.symm.trans px), hf]
    have HU := hid hU
    have HX := hid (show x = 1 ∧ x = evalV l en from ⟨px, hx⟩)
    have HTA := hid (treeF_at hf)
    have h15 : l.length ≤ 15 := by
      unfold mayB at hmay
      rw [Bool.and_eq_true, Bool.and_eq_true, decide_eq_true_eq] at hmay
      exact hmay.1.1
    have HGL : Hid ((Frm.subs f).length = n) := hid (by have := HTA.out.len; have := hn.out; omega)
    have hfp := Frm.size_pos f
    have HLAST := hid (show (Frm.subs f)[n - 1]? = some f by have := Frm.subs_last f; rw [← Frm.subs_length, HGL.out] at this; exact this)
    have hn1 : 1 ≤ n := by have := HGL.out; rw [Frm.subs_length] at this; omega
    have HP : Hid (0 < l.length ∧ l.length ≤ 15 ∧ f.size = n) := hid ⟨by have := hn.out; omega, h15, by have := HGL.out; rw [Frm.subs_length] at this; exact this⟩
    have hn15 : n ≤ 15 := by have := hn.out; omega
    have hwn : IntKind.i64.wrap ((n : Int) - 1) = (n : Int) - 1 := IntWalk.i64_in _ (by omega)
    have HEF := hid hef
    clear hmay hok hf hef hU hx px h15
    go_enter Tryd.func25, Tryd.ntmps25
    go_wp2_with fail
    rw [← hwx]
    clear hwx
    go_wp2_with (first
      | (go_at_call 40; refine HEV.out.mono ?_; rintro e w2 ⟨rfl, hb2⟩; replace hb2 := hid hb2))
    have hw2 := hb2.out.size
    have HRB := hid ((HA0.out.below hb2.out (by omega)))
    have HM2 := hid ((HM0.out.below hb2.out (by omega)))
    have HE2 := hid ((HE0.out.below hb2.out (by omega)))
    have HR3 := hid (HR.out.lift hb2.out hb2.out.size)
    have HB3 := hid (HB.out.trans (hb2.out.mono HB.out.size))
    clear m0 e0 e1 e2
    have m0 := HM2.out.cell (i := 0) (by simp)
    have e0 := HE2.out.cell (i := 0) (by simp)
    have e1 := HE2.out.cell (i := 1) (by simp)
    have e2 := HE2.out.cell (i := 2) (by simp)
    simp only [List.getElem_cons_zero, List.getElem_cons_succ] at m0 e0 e1 e2
    have hs0 : w.heap.size < w2.heap.size := by omega
    have hs1 : w.heap.size + 1 < w2.heap.size := by omega
    have hs2 : w.heap.size + 2 < w2.heap.size := by omega
    have HANS := hid (fun (wq : World) (hb : Below w2.heap.size w2 wq) => show Calls Tryd.prog 42 #[.agg #[.slice A n cap], en.val] wq fun e w' => ∃ A c, e = .returned (.slice A n c) ∧ SliceRd tInt w' (Lt w'.heap.size) (.slice A n c) ((Frm.subs f).map (evalF en.at)) ∧ Below wq.heap.size wq w' by
      have h := rvalues_any _ l (Frm.subs f) en wq (HR3.out.lift hb hb.size) HTA.out HP.out.1 HP.out.2.1
      unfold ValsPost at h
      rw [HGL.out] at h
      exact h)
    unfold EnvT.val at HANS
    have HLEFT := hid (fun (w4 : World) (vv : Value) (hb4 : Below w2.heap.size w2 w4) (hv : SliceRd tInt w4 (Lt w4.heap.size) vv ((Frm.subs f).map (evalF en.at))) =>
      show Calls Tryd.prog 41 #[.slice A n cap, vv, .int .i64 ((n : Int) - 1), .slice none 0 0] w4 fun e w' =>
        ∃ A5 c5, e = .returned (.slice A5 ((leftF en.at f).post 0).length c5) ∧ Below w4.heap.size w4 w' ∧ OwnF fNode 49 w4.heap.size w' (.slice A5 ((leftF en.at f).post 0).length c5) ((leftF en.at f).post 0) by
        have h := rleft_any en f (Frm.subs f) l (.slice A n cap) vv (.slice none 0 0) w4 w4.heap.size (n - 1) [] (HR3.out.lift hb4 hb4.size) HTA.out HLAST.out HP.out.2.1 hv (OwnF.nil _ _ _ _) (Nat.le_refl _) HEF.out (by have := HP.out.2.2; simp only [List.length_nil]; omega)
        rw [show ((n - 1 : Nat) : Int) = (n : Int) - 1 by omega] at h
        refine h.mono ?_
        rintro e w' ⟨ov', h1, h2, h3⟩
        rw [List.nil_append, List.length_nil] at h3
        obtain ⟨A5, c5, rfl⟩ := h3.form
        exact ⟨A5, c5, h1, h2.below, h3⟩)
    obtain ⟨m, hm⟩ : ∃ m, m = ((leftF en.at f).post 0).length := ⟨_, rfl⟩
    rw [← hm] at HLEFT
    replace hm := hid hm
    go_region_held3 (fun w' => w'.cell? ⟨w.heap.size, 0, none⟩ = some (.slice A n cap) ∧ w'.cell? ⟨w.heap.size + 1, 0, none⟩ = some (.string en.a) ∧ w'.cell? ⟨w.heap.size + 1, 1, none⟩ = some (.string en.b) ∧ w'.cell? ⟨w.heap.size + 1, 2, none⟩ = some (.string en.c)) (first | exact ⟨by assumption, by assumption, by assumption, by assumption⟩ | go_keep)
      ((first
        | (go_at_call 42; (with_reducible refine (HANS.out _ (b0 w2).drew).mono ?_); rintro e w4 ⟨Av, cv, rfl, hvr, hb4⟩
           have hb4' : Below w2.heap.size w2 w4 := ((b0 w2).drew).trans hb4
           have s0 := cell_below hb4' hs0 m0; have s1 := cell_below hb4' hs1 e0; have s2 := cell_below hb4' hs1 e1; have s3 := cell_below hb4' hs1 e2)
        | (go_at_call 41; (with_reducible refine (HLEFT.out _ _ hb4' hvr).mono ?_); rintro e w5 ⟨A5, c5, rfl, hb5, O5⟩
           have hb5' : Below w2.heap.size w2 w5 := hb4'.trans (hb5.mono hb4'.size)
           have u0 := cell_below hb5' hs0 m0; have u1 := cell_below hb5' hs1 e0; have u2 := cell_below hb5' hs1 e1; have u3 := cell_below hb5' hs1 e2
           have HRB5 := hid (HRB.out.below hb5' hs2)
           have r0 := HRB5.out.cell (i := 0) (by simp)
           have r1 := HRB5.out.free
           simp only [List.getElem_cons_zero] at r0)))
    have HMU := hid (show m = (underV l en).length by rw [hm.out, HU.out])
    have HO5 := hid O5
    have HB5 := hid (HB3.out.trans ((hb5').mono HB3.out.size))
    clear O5 hvr u0 u1 u2 u3 s0 s1 s2 s3 m0 e0 e1 e2
    go_wp2
    refine bodyPost_ret (runder_result ((HRB5.out.set 0 _).congr rfl) rfl rfl) rfl ⟨A5, c5, by rw [← HMU.out, HX.out.2], ?_, HB5.out.setCell (p := ⟨w.heap.size + 2, 0, none⟩) (by show w.heap.size ≤ w.heap.size + 2; omega) _⟩
    rw [← HMU.out, HU.out]
    have hr := rd_of_ownF HO5.out.1 HO5.out.2 (F := fun g => w4.heap.size ≤ g ∧ g < w5.heap.size) fun g hg => HO5.out.lt g hg
    have h4 : w.heap.size + 2 < w4.heap.size := Nat.lt_of_lt_of_le hs2 hb4'.size
    exact (hr.keep fun g hg => heap_setCell_other _ _ _ _ (by have := hg.1; show g ≠ w.heap.size + 2; omega)).more fun g hg => by
      show g < (w5.setCell _ _).heap.size
      simp only [World.size_setCell]
      exact hg.2
  · have nx := bne_f ex
    have HU := hid (show underV l en = [] by unfold underV; rw [if_neg (fun h => px (hx.trans h))])
    have HX := hid hx
    clear hx px
    go_enter Tryd.func25, Tryd.ntmps25
    go_wp2_with fail
    rw [← hwx]
    clear hwx
    go_wp2_with (first
      | (go_at_call 40; refine HEV.out.mono ?_; rintro e w2 ⟨rfl, hb2⟩
         have HRB := hid (HA0.out.below hb2 (by omega)); have r0 := HRB.out.cell (i := 0) (by simp); have r1 := HRB.out.free; simp only [List.getElem_cons_zero] at r0; replace hb2 := hid hb2))
    refine bodyPost_ret (runder_result ((HRB.out.set 0 _).congr rfl) rfl rfl) rfl ⟨none, 0, by rw [HU.out, HX.out]; rfl, by rw [HU.out]; exact SliceRd.nil _ _ _, (HB.out.trans (hb2.out.mono HB.out.size)).setCell (p := ⟨w.heap.size + 2, 0, none⟩) (by show w.heap.size ≤ w.heap.size + 2; omega) _⟩
end Go.Proofs.YtmdnleafpmondaaDoor
