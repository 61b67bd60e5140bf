/- Contract: mark.Under. -/
import Derived.Test.YtmdnleafpmondaaDoorU28
import Derived.Test.YtmdnleafpmondaaDoorU23
namespace Go.Proofs.YtmdnleafpmondaaDoor
open Go Go.RowKit

/-- What is left of a marker. -/
def underV (l : List Node) (en : EnvT) : List Node := if evalV l en = 1 then (match treeF l with | some f => (leftF en.at f).post 0 | none => []) else []
theorem eval_one {l : List Node} {en : EnvT} (h : evalV l en = 1) : mayB l = true ∧ en.ok = true ∧ ∃ f, treeF l = some f ∧ evalF en.at f = 1 := by
  unfold evalV at h
  split at h
  · next hh =>
    cases hf : treeF l with
    | none => rw [hf] at h; cases h
    | some f => rw [hf] at h; exact ⟨hh.1, hh.2, f, rfl, h⟩
  · cases h
def UnderPost (l : List Node) (en : EnvT) (w : World) (e : Ending) (w' : World) : Prop :=
  ∃ A c, e = .returned (.tuple #[.agg #[.slice A (underV l en).length c], .int .i64 (evalV l en)]) ∧ SliceRd tNode w' (Lt w'.heap.size) (.slice A (underV l en).length c) (underV l en) ∧ Below w.heap.size w w'
theorem under_result {wx : World} {b : Nat} {v : Value} {n : Int} {tmps : Array Value} (h : Arr 25 wx b [v]) (h2 : tmps.getD 4 undef = .pointer (some ⟨b, 0, none⟩)) (h3 : tmps.getD 5 undef = .int .i64 n) :
    (results Tryd.f24 tmps).run Tryd.prog wx = .ok (.tuple #[.agg #[v], .int .i64 n]) wx := by
  rw [results_cell_tmp rfl, h2, h3]
  have := run_loadVar_row (P := Tryd.prog) wx b 25 25 _ (0, 0) _ h Tryd.underlying25 rfl (by kernel_rfl)
  simp [asAddr, Result.andThen, this]
theorem under_wrap {A : Option Addr} {n m c : Nat} (h : n = m) : (Value.agg #[.slice A n c]) = .agg #[.slice A m c] := by rw [h]

set_option maxRecDepth 100000 in
set_option maxHeartbeats 4000000 in
theorem under_any (v : Value) (l : List Node) (en : EnvT) (w : World) (h : SliceRd tNode w (Lt w.heap.size) v l) :
    Calls Tryd.prog 24 #[.agg #[v], en.val] w (UnderPost l en w) := by
  have H := hid h
  obtain ⟨A, cap, rfl, hcap, hmax, -⟩ := h.shape
  unfold maxLen at hmax
  clear h
  obtain ⟨n, hn⟩ : ∃ n, n = l.length := ⟨_, rfl⟩
  rw [← hn] at H hcap
  rw [← hn]
  replace hn := hid hn
  obtain ⟨wx, hwx⟩ : ∃ wx, wx = ((w.alloc (.cells #[.slice A n cap] 25)).alloc (.cells #[.string en.a, .string en.b, .string en.c] 38)).alloc (.cells #[.slice none 0 0] 25) := ⟨_, rfl⟩
  have hz0 : (w.alloc (.cells #[.slice A n cap] 25)).heap.size = w.heap.size + 1 := by simp
  have hz1 : ((w.alloc (.cells #[.slice A n cap] 25)).alloc (.cells #[.string en.a, .string en.b, .string en.c] 38)).heap.size = w.heap.size + 2 := by simp
  have hzx : wx.heap.size = w.heap.size + 3 := by rw [hwx]; simp
  have HB := hid (show Below w.heap.size w wx by rw [hwx]; exact balloc (balloc (balloc (b0 w) _) _) _)
  have HR := hid (H.out.lift HB.out HB.out.size)
  have HA0 : Hid (Arr 25 wx (w.heap.size + 2) [.slice none 0 0]) := hid (by rw [hwx, ← hz1]; exact Arr.new 25 _ [.slice none 0 0])
  have HM0 : Hid (Arr 25 wx w.heap.size [.slice A n cap]) := hid (by rw [hwx]; exact ((Arr.new 25 w [.slice A n cap]).alloc _).alloc _)
  have HE0 : Hid (Arr 38 wx (w.heap.size + 1) [.string en.a, .string en.b, .string en.c]) := hid (by rw [hwx, ← hz0]; exact (Arr.new 38 _ [.string en.a, .string en.b, .string en.c]).alloc _)
  have m0 := HM0.out.cell (i := 0) (by simp)
  have e0 := HE0.out.cell (i := 0) (by simp)
  have e1 := HE0.out.cell (i := 1) (by simp)
  have e2 := HE0.out.cell (i := 2) (by simp)
  simp only [List.getElem_cons_zero, List.getElem_cons_succ] at m0 e0 e1 e2
  have HEV := hid (eval_any _ l en wx HR.out)
  unfold EnvT.val at HEV
  obtain ⟨x, hx⟩ : ∃ x, x = evalV l en := ⟨_, rfl⟩
  rw [← hx] at HEV
  unfold EnvT.val
  rcases eqI x 1 with ⟨ex, px⟩ | ⟨ex, px⟩
  · have nx := bne_t ex
    obtain ⟨hmay, hok, f, hf, hef⟩ := eval_one (hx.symm.trans px)
    have hU : underV l en = (leftF en.at f).post 0 := by unfold underV; rw [if_pos (hx.symm.trans px), hf]
    have HU := hid hU
    have HX := hid (show x = 1 ∧ x = evalV l en from ⟨px, hx⟩)
    have HTA := hid (treeF_at hf)
    have h15 : l.length ≤ 15 := by
      unfold mayB at hmay
      rw [Bool.and_eq_true, Bool.and_eq_true, decide_eq_true_eq] at hmay
      exact hmay.1.1
    have HGL : Hid ((Frm.subs f).length = n) := hid (by have := HTA.out.len; have := hn.out; omega)
    have hfp := Frm.size_pos f
    have HLAST := hid (show (Frm.subs f)[n - 1]? = some f by have := Frm.subs_last f; rw [← Frm.subs_length, HGL.out] at this; exact this)
    have hn1 : 1 ≤ n := by have := HGL.out; rw [Frm.subs_length] at this; omega
    have HP : Hid (0 < l.length ∧ l.length ≤ 15 ∧ f.size = n) := hid ⟨by have := hn.out; omega, h15, by have := HGL.out; rw [Frm.subs_length] at this; exact this⟩
    have hn15 : n ≤ 15 := by have := hn.out; omega
    have hwn : IntKind.i64.wrap ((n : Int) - 1) = (n : Int) - 1 := IntWalk.i64_in _ (by omega)
    have HEF := hid hef
    clear hmay hok hf hef hU hx px h15
    go_enter Tryd.func24, Tryd.ntmps24
    go_wp2_with fail
    rw [← hwx]
    clear hwx
    go_wp2_with (first
      | (go_at_call 20; refine HEV.out.mono ?_; rintro e w2 ⟨rfl, hb2⟩; replace hb2 := hid hb2))
    have hw2 := hb2.out.size
    have HRB := hid ((HA0.out.below hb2.out (by omega)))
    have HM2 := hid ((HM0.out.below hb2.out (by omega)))
    have HE2 := hid ((HE0.out.below hb2.out (by omega)))
    obtain ⟨pb, hpb⟩ : ∃ pb, pb = w2.heap.size := ⟨_, rfl⟩
    rw [← hpb]
    obtain ⟨w3, hw3⟩ : ∃ w3, w3 = w2.alloc (.cells #[.slice none 0 0, .slice none 0 0, .bool false] 54) := ⟨_, rfl⟩
    rw [← hw3]
    have hz3 : w3.heap.size = pb + 1 := by rw [hw3, hpb]; simp
    have HPA : Hid (PAt w3 pb (.slice none 0 0) (.slice none 0 0) [] [] false) := hid (by
      rw [hw3, hpb]
      exact ⟨Arr.new 54 w2 [_, _, _], SliceRd.nil _ _ _, OwnF.nil _ _ _ _⟩)
    have B23 := hid (show Below w2.heap.size w2 w3 by rw [hw3]; exact balloc (b0 w2) _)
    have HM3 := hid (HM2.out.below B23.out (by omega))
    have HE3 := hid (HE2.out.below B23.out (by omega))
    have HRB3 := hid (HRB.out.below B23.out (by omega))
    have HR3 := hid (HR.out.lift (bstep hb2.out B23.out) (bstep hb2.out B23.out).size)
    have HRpb : Hid (SliceRd tNode w3 (Lt pb) (.slice A n cap) l) := hid ((HR.out.below (bstep hb2.out B23.out)).more fun k hk => by have : k < wx.heap.size := hk; show k < pb; omega)
    have HB3 := hid (HB.out.trans ((bstep hb2.out B23.out).mono HB.out.size))
    have hpw : w.heap.size + 3 ≤ pb := by omega
    clear hw3 hpb m0 e0 e1 e2
    have m0 := HM3.out.cell (i := 0) (by simp)
    have e0 := HE3.out.cell (i := 0) (by simp)
    have e1 := HE3.out.cell (i := 1) (by simp)
    have e2 := HE3.out.cell (i := 2) (by simp)
    simp only [List.getElem_cons_zero, List.getElem_cons_succ] at m0 e0 e1 e2
    have hs0 : w.heap.size < w3.heap.size := by omega
    have hs1 : w.heap.size + 1 < w3.heap.size := by omega
    have HANS := hid (fun (wq : World) (hb : Below w3.heap.size w3 wq) => show Calls Tryd.prog 38 #[.slice A n cap, en.val] wq fun e w' => ∃ b, e = .returned (.slice (some ⟨b, 0, none⟩) n n) ∧ Arr 3 w' b (iv ((Frm.subs f).map (evalF en.at))) ∧ wq.heap.size ≤ b ∧ Below wq.heap.size wq w' by
      have h := answers_any _ l (Frm.subs f) en wq (HR3.out.lift hb hb.size) HTA.out HP.out.1 HP.out.2.1
      unfold AnsPost at h
      rw [HGL.out] at h
      exact h)
    unfold EnvT.val at HANS
    have HLEFT := hid (fun (w4 : World) (b : Nat) (hb4 : Below w3.heap.size w3 w4) (har : Arr 3 w4 b (iv ((Frm.subs f).map (evalF en.at)))) (hge : w3.heap.size ≤ b) =>
      show Calls Tryd.prog 39 #[.pointer (some ⟨pb, 0, none⟩), .slice A n cap, .slice (some ⟨b, 0, none⟩) n n, .int .i64 ((n : Int) - 1)] w4 fun e w' =>
        ∃ nv' i, e = .returned (.int .i64 i) ∧ PTo w4 w' pb (.slice none 0 0) nv' ∧ PAt w' pb (.slice none 0 0) nv' [] ((leftF en.at f).post 0) false by
        have h := left_any en f (Frm.subs f) l (.slice A n cap) w4 pb b (n - 1) n (.slice none 0 0) (.slice none 0 0) [] (HRpb.out.keep (Keeps.of_below (hb4.mono (by omega)) fun _ h => h)) HTA.out HLAST.out HP.out.2.1 (HPA.out.later hb4) har (by omega) (by simp [Value.ownBlock]) HGL.out.symm HEF.out (by have := HP.out.2.2; simp only [List.length_nil]; omega)
        rw [show ((n - 1 : Nat) : Int) = (n : Int) - 1 by omega] at h
        refine h.mono ?_
        rintro e w' ⟨nv', h1, h2, h3⟩
        exact ⟨nv', _, h1, h2, h3⟩)
    go_region_held3 (fun w' => w'.cell? ⟨w.heap.size, 0, none⟩ = some (.slice A n cap) ∧ w'.cell? ⟨w.heap.size + 1, 0, none⟩ = some (.string en.a) ∧ w'.cell? ⟨w.heap.size + 1, 1, none⟩ = some (.string en.b) ∧ w'.cell? ⟨w.heap.size + 1, 2, none⟩ = some (.string en.c)) (first | exact ⟨by assumption, by assumption, by assumption, by assumption⟩ | go_keep)
      ((first
        | (go_at_call 38; (with_reducible refine (HANS.out _ (b0 w3).drew).mono ?_); rintro e w4 ⟨b, rfl, har, hge, hb4⟩
           have hb4' : Below w3.heap.size w3 w4 := ((b0 w3).drew).trans hb4
           have s0 := cell_below hb4' hs0 m0; have s1 := cell_below hb4' hs1 e0; have s2 := cell_below hb4' hs1 e1; have s3 := cell_below hb4' hs1 e2)
        | (go_at_call 39; (with_reducible refine (HLEFT.out _ b hb4' har (Nat.le_trans ((b0 w3).drew).size hge)).mono ?_); rintro e w5 ⟨nv5, i5, rfl, P5, A5⟩
           have u0 : w5.cell? ⟨w.heap.size, 0, none⟩ = some (.slice A n cap) := cell_below P5.below (by omega) s0; have u1 := cell_below P5.below (show w.heap.size + 1 < pb by omega) s1; have u2 := cell_below P5.below (show w.heap.size + 1 < pb by omega) s2; have u3 := cell_below P5.below (show w.heap.size + 1 < pb by omega) s3)))
    obtain ⟨wv5, hwv5⟩ : ∃ x, x = nv5 := ⟨_, rfl⟩
    have HP5 := hid P5
    have HA5 := hid A5
    have HRB5 : Hid (Arr 25 w5 (w.heap.size + 2) [.slice none 0 0]) := hid (((HRB3.out.below hb4' (by omega)).keep (P5.kept _ (Nat.lt_of_lt_of_le (show w.heap.size + 2 < w3.heap.size by omega) hb4'.size) (by omega) (by simp [Value.ownBlock]))))
    have HB5 := hid (HB3.out.trans ((hb4'.mono (show w.heap.size ≤ w3.heap.size by omega)).trans (P5.below.mono (show w.heap.size ≤ pb by omega))))
    have x1 := A5.box.cell (i := 1) (by simp)
    simp only [List.getElem_cons_zero, List.getElem_cons_succ] at x1
    obtain ⟨A1, c1, rfl⟩ := A5.nodes.form
    obtain ⟨m, hm⟩ : ∃ m, m = ((leftF en.at f).post 0).length := ⟨_, rfl⟩
    have HRDF : Hid (SliceRd tNode w5 (fun g => pb + 1 ≤ g ∧ g < w5.heap.size) (.slice A1 m c1) ((leftF en.at f).post 0)) := hid (by rw [hm]; exact rd_of_ownF A5.nodes.1 A5.nodes.2 fun g hg => A5.nodes.lt g hg)
    rw [← hm] at x1
    have HMU := hid (show m = (underV l en).length by rw [hm, HU.out])
    have r0 := HRB5.out.cell (i := 0) (by simp)
    have r1 := HRB5.out.free
    simp only [List.getElem_cons_zero] at r0
    clear hm hwv5 P5 A5 u0 u1 u2 u3 s0 s1 s2 s3 m0 e0 e1 e2
    go_wp2
    refine bodyPost_ret (under_result ((HRB5.out.set 0 _).congr rfl) rfl rfl) rfl ⟨A1, c1, by rw [← HMU.out, HX.out.2], ?_, HB5.out.setCell (p := ⟨w.heap.size + 2, 0, none⟩) (by show w.heap.size ≤ w.heap.size + 2; omega) _⟩
    rw [← HMU.out, HU.out]
    exact (HRDF.out.keep fun g hg => heap_setCell_other _ _ _ _ (by have := hg.1; show g ≠ w.heap.size + 2; omega)).more fun g hg => by
      show g < (w5.setCell _ _).heap.size
      simp only [World.size_setCell]
      exact hg.2
  · have nx := bne_f ex
    have HU := hid (show underV l en = [] by unfold underV; rw [if_neg (fun h => px (hx.trans h))])
    have HX := hid hx
    clear hx px
    go_enter Tryd.func24, Tryd.ntmps24
    go_wp2_with fail
    rw [← hwx]
    clear hwx
    go_wp2_with (first
      | (go_at_call 20; refine HEV.out.mono ?_; rintro e w2 ⟨rfl, hb2⟩
         have HRB := hid (HA0.out.below hb2 (by omega)); have r0 := HRB.out.cell (i := 0) (by simp); have r1 := HRB.out.free; simp only [List.getElem_cons_zero] at r0; replace hb2 := hid hb2))
    refine bodyPost_ret (under_result ((HRB.out.set 0 _).congr rfl) rfl rfl) rfl ⟨none, 0, by rw [HU.out, HX.out]; rfl, by rw [HU.out]; exact SliceRd.nil _ _ _, (HB.out.trans (hb2.out.mono HB.out.size)).setCell (p := ⟨w.heap.size + 2, 0, none⟩) (by show w.heap.size ≤ w.heap.size + 2; omega) _⟩
end Go.Proofs.YtmdnleafpmondaaDoor
