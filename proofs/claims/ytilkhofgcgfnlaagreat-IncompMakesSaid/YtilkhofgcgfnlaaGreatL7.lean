/- Contract: linchpinlaw22.IncompMakes. -/
import Derived.Test.YtilkhofgcgfnlaaGreatL2
import Derived.Test.YtilkhofgcgfnlaaGreatN15
import Derived.OpenShut
import Derived.Outline
namespace Go.Proofs.YtilkhofgcgfnlaaGreat
open Go Go.RowKit

theorem canon_range {ns : List Nat} (M : Nat → Nat) : ∀ t ∈ canon ns M, 0 ≤ t.unit ∧ t.unit < ns.length := fun t ht => by
  obtain ⟨u, hu, _, rfl⟩ := canon_mem.1 ht
  exact ⟨by dsimp only; omega, by dsimp only; omega⟩
end Go.Proofs.YtilkhofgcgfnlaaGreat
namespace Go.Proofs.YtilkhofgcgfnlaaGreat
open Go Go.RowKit

theorem terms_at {e : TypeId} {B : Nat} {w : World} {v : Value} {X : List Term} (h : OwnF fTerm e B w v X) {k : Nat} (hk : k < X.length) : ∃ g c, v = .slice (some ⟨g, 0, none⟩) X.length c ∧ B ≤ g ∧ g < w.heap.size ∧ (∀ o, w.frozen? ⟨g, o, none⟩ = false) ∧ w.cell? ⟨g, k * 2, none⟩ = some (.int .i64 X[k].unit) ∧ w.cell? ⟨g, k * 2 + 1, none⟩ = some (.int .i64 X[k].mask) := by
  obtain ⟨g, c, rfl, hB, hl, hf⟩ := h.block (by omega)
  obtain ⟨A, cap, hv, _, _, hc⟩ := SliceRd.terms h.rd
  injection hv with e1 _ _
  obtain ⟨g', o, hA, _, c0, c1, _⟩ := hc k hk
  rw [← e1] at hA
  injection hA with hA
  injection hA with h1 h2
  subst h1; subst h2
  exact ⟨g, c, rfl, hB, hl, hf, by simpa using c0, by simpa using c1⟩
theorem termCells_set0 : ∀ {X : List Term} {k : Nat} (u : Int) (hk : k < X.length), (termCells X).set (k * 2) (.int .i64 u) = termCells (X.set k ⟨u, X[k].mask⟩)
  | t :: X, 0, u, _ => rfl
  | t :: X, k + 1, u, h => by
    have := termCells_set0 (X := X) u (k := k) (by simpa using h)
    have e : (k + 1) * 2 = k * 2 + 1 + 1 := by omega
    rw [e]
    simp only [termCells, List.set_cons_succ, List.getElem_cons_succ, this]
theorem termCells_set1 : ∀ {X : List Term} {k : Nat} (m : Int) (hk : k < X.length), (termCells X).set (k * 2 + 1) (.int .i64 m) = termCells (X.set k ⟨X[k].unit, m⟩)
  | t :: X, 0, m, _ => rfl
  | t :: X, k + 1, m, h => by
    have := termCells_set1 (X := X) m (k := k) (by simpa using h)
    have e : (k + 1) * 2 + 1 = (k * 2 + 1) + 1 + 1 := by omega
    rw [e]
    simp only [termCells, List.set_cons_succ, List.getElem_cons_succ, this]
theorem terms_set {e : TypeId} {B : Nat} {w : World} {X : List Term} {g c k n : Nat} (h : OwnF fTerm e B w (.slice (some ⟨g, 0, none⟩) n c) X) (hn : n = X.length) (hk : k < X.length) (x : Int) (hx : I64 x) :
    (OwnF fTerm e B (w.setCell ⟨g, k * 2, none⟩ (.int .i64 x)) (.slice (some ⟨g, 0, none⟩) n c) (X.set k ⟨x, X[k].mask⟩)) ∧ (OwnF fTerm e B (w.setCell ⟨g, k * 2 + 1, none⟩ (.int .i64 x)) (.slice (some ⟨g, 0, none⟩) n c) (X.set k ⟨X[k].unit, x⟩)) := by
  subst hn
  have hi := h.2 _ (List.getElem_mem hk)
  refine ⟨⟨?_, fun y hy => ?_⟩, ⟨?_, fun y hy => ?_⟩⟩
  · have := own_put h.1 (g := g) rfl (i := k * 2) (by show k * 2 < X.length * 2; omega) (.int .i64 x)
    rw [fTerm_all, termCells_set0 x hk] at this
    rw [fTerm_all, List.length_set]
    exact this
  · rcases List.mem_or_eq_of_mem_set hy with h1 | h1
    · exact h.2 y h1
    · subst h1; exact ⟨hx, hi.2⟩
  · have := own_put h.1 (g := g) rfl (i := k * 2 + 1) (by show k * 2 + 1 < X.length * 2; omega) (.int .i64 x)
    rw [fTerm_all, termCells_set1 x hk] at this
    rw [fTerm_all, List.length_set]
    exact this
  · rcases List.mem_or_eq_of_mem_set hy with h1 | h1
    · exact h.2 y h1
    · subst h1; exact ⟨hi.1, hx⟩
theorem terms_set2 {e : TypeId} {B : Nat} {w : World} {X : List Term} {g c k n : Nat} (h : OwnF fTerm e B w (.slice (some ⟨g, 0, none⟩) n c) X) (hn : n = X.length) (hk : k < X.length) (x y : Int) (hx : I64 x) (hy : I64 y) :
    ∃ X2, OwnF fTerm e B ((w.setCell ⟨g, k * 2, none⟩ (.int .i64 x)).setCell ⟨g, k * 2 + 1, none⟩ (.int .i64 y)) (.slice (some ⟨g, 0, none⟩) n c) X2 ∧ X2.length = n := by
  have h1 := (terms_set h hn hk x hx).1
  obtain ⟨X1, hX1, hl⟩ : ∃ X1, OwnF fTerm e B (w.setCell ⟨g, k * 2, none⟩ (.int .i64 x)) (.slice (some ⟨g, 0, none⟩) n c) X1 ∧ X1.length = X.length := ⟨_, h1, List.length_set⟩
  exact ⟨_, (terms_set hX1 (by omega) (by omega) y hy).2, by rw [List.length_set, hl, hn]⟩
theorem sizeGo_le : ∀ (ns : List Nat) (n : Nat), (∀ k ∈ ns, k ≤ 4) → n ≤ 5000000 → sizeGo n ns ≤ 5000000
  | [], _, _, h => h
  | k :: r, n, hk, h => by
    unfold sizeGo
    split
    · have h4 := hk k (List.mem_cons_self ..)
      refine sizeGo_le r _ (fun j hj => hk j (List.mem_cons_of_mem _ hj)) ?_
      have : n * (k + 1) ≤ 1000000 * 5 := Nat.mul_le_mul (by omega) (by omega)
      omega
    · exact h
theorem inR_range {ns : List Nat} {l : List Term} (h : inR ns l = true) : ∀ t ∈ l, 0 ≤ t.unit ∧ t.unit < ns.length := fun t ht => by
  have := List.all_eq_true.1 h t ht
  simpa using this
theorem make_inR {ns : List Nat} {l r : List Term} (h : makeN ns l = some r) : inR ns l = true := by
  cases hr : inR ns l with
  | true => rfl
  | false => unfold makeN at h; rw [hr] at h; simp at h
theorem same_refl (v v' : Value) (l : List Term) (w : World) (h : SliceRd tTerm w (Lt w.heap.size) v l) (h' : SliceRd tTerm w (Lt w.heap.size) v' l) :
    Calls Tryz.prog 15 #[v, v'] w fun e w' => e = .returned (.bool true) ∧ Below w.heap.size w w' := by
  refine (sameTerms_any v v' l l w h h').mono ?_
  rintro e w' ⟨h1, h2⟩
  exact ⟨by rw [h1]; simp, h2⟩
theorem makes_law {ns : List Nat} (ho : NsOk ns) {X r : List Term} (h : makeN ns X = some r) {c : List Int} (hc : ChoiceOk ns c) : ∃ MM, IncOk ns MM ∧ r = canon ns MM ∧ inR ns X = true ∧ holdL c (canon ns MM) = holdL c X := by
  obtain ⟨h1, h2⟩ := make_some h
  have h3 := make_inR h
  exact ⟨_, h1, h2, h3, by rw [holdL_canon ho hc h1, holdL_make hc h3]⟩
theorem quo7 {m : Int} (h : I64 m) : I64 (m.tdiv 7) := by
  obtain ⟨h1, h2⟩ := h
  have := Int.tdiv_eq_ediv (a := m) (b := 7)
  have hs : Int.sign 7 = 1 := rfl
  rw [hs] at this
  unfold I64
  split at this <;> omega
set_option maxRecDepth 100000 in
set_option maxHeartbeats 8000000 in
theorem makes_any (wv lv : Value) (ws : List Int) (l : List Term) (near : Bool) (n : Int) (w : World) (hw : SliceRd tInt w (Lt w.heap.size) wv ws) (hl : SliceRd tTerm w (Lt w.heap.size) lv l) (hn : I64 n) :
    Calls Tryz.prog 3 #[wv, lv, .bool near, .int .i64 n] w fun e w' => e = .returned (.bool true) ∧ Below w.heap.size w w' := by
  have HW := hid hw
  have HL := hid hl
  obtain ⟨Aw, wcap, rfl, -⟩ := hw.ints
  obtain ⟨Al, lcap, rfl, hlc, hlm, -⟩ := hl.terms
  unfold maxLen at hlm
  obtain ⟨it, hit⟩ := info_parts term_info
  have HIT := hid hit
  clear hw hl hit
  by_cases hlen : l.length ≤ 60
  · have k1 : ¬ (60 < (l.length : Int)) := by omega
    go_enter Tryz.func3, Tryz.ntmps3
    go_wp2_with (first
      | (go_at_call 11; go_must (refine (worldRd_any _ ws 4 _ HW.out (by decide) (by decide)).mono ?_; rintro e w1 ⟨g, c, ns, rfl, hun, hns, hb1⟩; have HU1 := hid hun; have HNS := hid hns; have HB1 := hid hb1; have h11 := hns.hi; have h2 := hns.lo; have hb1l := hb1.size; have HLA := hid (fun o => HL.out.lift (balloc hb1 o) (balloc hb1 o).size); clear hun hns hb1))
      | (at_builtin; go_must (refine wpList_append_src _ rfl (.const (.slice none 0 0)) (.tmp 24) _ rfl (w1.heap.size + 1) 31 it _ 2 16 Tryz.underlying23 HIT.out.1 HIT.out.2.1 HIT.out.2.2.1 HIT.out.2.2.2 rfl (by omega) (.slice none 0 0) 0 [] (by rfl) (own_none _ _ _ _) Al _ lcap (termCells l) (by rfl) (by exact (HLA.out _).src.2.1) termCells_one (by unfold maxLen; omega) (by omega) (by simp) ?_; intro x5 w5 hown5 hg5 hat5; have HX5 := hid (own_copy HL.out.src.2.2 hown5); have HB5 := hid (Below.grown (Below.refl _ _) hg5 (Nat.le_refl _) (fun k hk => by cases hk) : Below (w1.alloc (.cells #[.slice (some ⟨g, 0, none⟩) ns.length c] 27)).heap.size _ w5); clear hown5 hg5 hat5)))
    obtain ⟨wb, hwb⟩ : ∃ wb : World, wb = w1.alloc (.cells #[.slice (some ⟨g, 0, none⟩) ns.length c] 27) := ⟨_, rfl⟩
    rw [← hwb] at HB5
    have hbb : Below w1.heap.size w1 wb := hwb ▸ balloc (b0 w1) _
    have hsb : wb.heap.size = w1.heap.size + 1 := by rw [hwb]; simp
    have hlb : w1.heap.size < wb.heap.size := by omega
    have qb : wb.cell? ⟨w1.heap.size, 0, none⟩ = some (.slice (some ⟨g, 0, none⟩) ns.length c) := by rw [hwb, alloc_cell]; rfl
    have HUB := hid (uni_later HU1.out hbb)
    have HBB := hid (bstep HB1.out hbb)
    rw [← hsb] at HX5
    clear hwb hbb hsb
    have hlen64 : I64 (ns.length : Int) := ⟨by omega, by omega⟩
    obtain ⟨A5, c5, he5⟩ := HX5.out.form
    subst he5
    go_loopw [11] (fun iv wr => ∃ (k : Nat) (X : List Term), k ≤ l.length ∧ iv = .int .i64 k ∧ X.length = l.length ∧ Hid (OwnF fTerm 31 wb.heap.size wr (.slice A5 l.length c5) X) ∧ Hid (Below wb.heap.size wb wr)) (fun iv _ => l.length - (intOf iv).toNat)
    case atStart => exact ⟨0, l, Nat.zero_le _, rfl, rfl, HX5, HB5⟩
    case round =>
      obtain ⟨k, X, hk, rfl, hX, hown, hb⟩ := hrel
      have HXL := hid hX
      clear hX
      have d0 := cell_below hb.out hlb qb
      by_cases hgo : k < l.length ∧ near = true
      · obtain ⟨hlt, rfl⟩ := hgo
        obtain ⟨gx, cx, hv, hgB, hgl, hgf, c0, c1⟩ := terms_at hown.out (k := k) (by rw [HXL.out]; exact hlt)
        injection hv with e1 e2 e3
        clear e2 e3
        subst e1
        have hown1 : OwnF fTerm 31 wb.heap.size wr (.slice (some ⟨gx, 0, none⟩) l.length c5) X := hown.out
        obtain ⟨u, hu⟩ : ∃ u, (X[k]'(by rw [HXL.out]; exact hlt)).unit = u := ⟨_, rfl⟩
        obtain ⟨m, hm⟩ : ∃ m, (X[k]'(by rw [HXL.out]; exact hlt)).mask = m := ⟨_, rfl⟩
        have hi := hown1.2 _ (List.getElem_mem (show k < X.length by rw [HXL.out]; exact hlt))
        have hu64 : I64 u := hu ▸ hi.1
        have hm64 : I64 m := hm ▸ hi.2
        rw [hu] at c0
        rw [hm] at c1
        obtain ⟨u2, hu2⟩ : ∃ u2, placeF u ns.length = u2 := ⟨_, rfl⟩
        have hu2i : I64 u2 := by
          have h3 := placeF_lo u ns.length
          have h4 := placeF_hi u ns.length (by omega)
          exact ⟨by omega, by omega⟩
        obtain ⟨p2, hp2⟩ : ∃ p2, placeF (m.tdiv 7) 64 = p2 := ⟨_, rfl⟩
        obtain ⟨m2, hm2⟩ : ∃ m2, bits .or .i64 m p2 = m2 := ⟨_, rfl⟩
        have hm2i : I64 m2 := hm2 ▸ int_wf (wf_bits .or .i64 m p2)
        have HP1 := hid (fun W => hu2 ▸ place_any u ns.length W hu64 hlen64)
        have HQ7 := hid (IntWalk.i64_quo' m 7 ⟨hm64.1, hm64.2, by decide⟩)
        have HP2 := hid (fun W => hp2 ▸ place_any (m.tdiv 7) 64 W (quo7 hm64) ⟨by decide, by decide⟩)
        obtain ⟨X2, hX2, hX2l⟩ := terms_set2 hown1 HXL.out.symm (show k < X.length by rw [HXL.out]; exact hlt) u2 m2 hu2i hm2i
        have HX2 := hid hX2
        have HX2L := hid hX2l
        have i1 : (0 : Int) ≤ ↑k := by omega
        have i2 : (↑k : Int) < ↑l.length := by omega
        clear hX2 hX2l hi hu hm hown1 hu2 hp2
        go_wp2_with fail
        go_region_law ((go_simp; go_at_call 12; refine (HP1.out _).mono ?_; rintro e wq ⟨rfl, rfl⟩))
        all_goals go_wp2_with fail
        all_goals go_region_law ((go_simp; go_at_call 12; rw [HQ7.out]; refine (HP2.out _).mono ?_; rintro e wq ⟨rfl, rfl⟩))
        all_goals go_wp2_with fail
        all_goals exact ⟨⟨k + 1, X2, by omega, by go_num, HX2L.out, hid HX2.out.drew.drew, hid (((hb.out.setCell hgB _).setCell hgB _).drew.drew)⟩, by simp [intOf]; omega⟩
      · have hex : ¬ (k < l.length) ∨ (k < l.length ∧ near = false) := by
          rcases Nat.lt_or_ge k l.length with h | h
          · exact .inr ⟨h, by cases near with | false => rfl | true => exact absurd ⟨h, rfl⟩ hgo⟩
          · exact .inl (by omega)
        have hlr : Below wb.heap.size wb wr := hb.out
        have HURR := hid (uni_later HUB.out hlr)
        have hls : w1.heap.size < wr.heap.size := Nat.lt_of_lt_of_le hlb hlr.size
        have HX := hown
        have HLX := hid (show X.length ≤ 60 by rw [HXL.out]; exact hlen)
        obtain ⟨mb, hmb⟩ : ∃ mb, (makeN ns X).isSome = mb := ⟨_, rfl⟩
        have HMB := hid hmb
        have zb : (mb != mb) = false := by simp
        obtain ⟨R, hR⟩ : ∃ R, (makeN ns X).getD [] = R := ⟨_, rfl⟩
        have HR := hid hR
        obtain ⟨m, hme, hml⟩ := place_nat n (sizeN_pos ns)
        have hsz : sizeN ns ≤ 5000000 := sizeGo_le ns 1 (fun k hk => by obtain ⟨i, hi, rfl⟩ := List.getElem_of_mem hk; exact HNS.out.le i hi) (by decide)
        have HME := hid (fun W => hme ▸ place_any n (sizeN ns : Nat) W hn ⟨by omega, by omega⟩)
        have HM := hid (show m ≤ 100000000 by omega)
        have HBWR := hid (bstep HBB.out hlr)
        obtain ⟨-, hsx, hokx⟩ := HX.out.rd.src
        have HSRC := hid (show Src wr A5 l.length 2 (termCells X) by rw [← HXL.out]; exact hsx)
        have HOKX := hid hokx
        have HRX := hid (show SliceRd tTerm wr (Lt wr.heap.size) (.slice A5 l.length c5) X from HX.out.rd)
        have t1 := hid True.intro
        clear hmb hR hme hml hsz hgo hsx hokx hlr hk hown hb
        rcases hex with hge | ⟨hlt, rfl⟩
        · have i2 : ¬ ((k : Int) < ↑l.length) := by omega
          clear hge
          go_wp2_with (first
            | (at_builtin; go_must (refine wpList_append_src _ rfl (.const (.slice none 0 0)) (.tmp 65) _ rfl wr.heap.size 31 it _ 2 16 Tryz.underlying23 HIT.out.1 HIT.out.2.1 HIT.out.2.2.1 HIT.out.2.2.2 rfl (by omega) (.slice none 0 0) 0 [] (by rfl) (own_none _ _ _ _) A5 _ c5 (termCells X) (by rfl) (by exact HSRC.out) termCells_one (by unfold maxLen; omega) (by omega) (Nat.le_refl _) ?_; intro y6 w6 hown6 hg6 hat6; have HY6 := hid (own_copy (l := X) HOKX.out (by rw [HXL.out]; exact hown6)).rd; have HB6 := hid (own_app (v2 := y6) (b0 wr) (OwnF.nil fTerm 31 wr.heap.size wr) (Nat.le_refl _) hg6 rfl); have q6 := cell_below HB6.out hls d0; have HRX6 := hid (HRX.out.lift HB6.out HB6.out.size); clear hown6 hg6 hat6))
            | (go_at_call 13; go_must (refine (make_any _ _ ns X _ (uni_later HURR.out HB6.out) HNS.out HY6.out (by have := HLX.out; omega)).mono ?_; rintro e w7 ⟨s1, rfl, r1, hb7⟩; rw [HMB.out]; rw [HR.out] at r1; have HR1 := hid r1; have HB7 := hid (bstep HB6.out hb7); have HY7 := hid (HY6.out.lift hb7 hb7.size); have HRX7 := hid (HRX6.out.lift hb7 hb7.size); have q7 := cell_below HB7.out hls d0; clear r1 hb7))
            | (go_at_call 14; go_must (refine (rmake22_any _ _ ns X _ (uni_later HURR.out HB7.out) HNS.out HRX7.out).mono ?_; rintro e w8 ⟨s2, rfl, r2, hb8⟩; rw [HMB.out]; rw [HR.out] at r2; have HR2 := hid r2; have HB8 := hid (bstep HB7.out hb8); have HR18 := hid (HR1.out.lift hb8 hb8.size); have HY8 := hid (HY7.out.lift hb8 hb8.size); have HRX8 := hid (HRX7.out.lift hb8 hb8.size); have q8 := cell_below HB8.out hls d0; clear r2 hb8))
            | (go_at_call 15; clear t1; go_must (refine (same_refl _ _ R _ HR18.out HR2.out).mono ?_; rintro e w9 ⟨rfl, hb9⟩; have HB9 := hid (bstep HB8.out hb9); have HR19 := hid (HR18.out.lift hb9 hb9.size); have HY9 := hid (HY8.out.lift hb9 hb9.size); have HRX9 := hid (HRX8.out.lift hb9 hb9.size); have q9 := cell_below HB9.out hls d0; clear hb9))
            | (go_at_call 15; go_must (refine (same_refl _ _ X _ HRX9.out HY9.out).mono ?_; rintro e wa ⟨rfl, hba⟩; have HBA := hid (bstep HB9.out hba); have HR1A := hid (HR19.out.lift hba hba.size); have HRXA := hid (HRX9.out.lift hba hba.size); have qa := cell_below HBA.out hls d0; have hla : w1.heap.size < wa.heap.size := Nat.lt_of_lt_of_le hls HBA.out.size; clear hba)))
          have hda : Below wa.heap.size wa wa.drew := (b0 wa).drew
          have HUA := hid (uni_later HURR.out HBA.out)
          have HSZ := hid (size_any _ ns wa.drew (uni_later HUA.out hda) HNS.out)
          go_region_law ((first
            | (go_simp; go_at_call 17; refine HSZ.out.mono ?_; rintro e wsz ⟨rfl, hbs⟩; have HBS := hid (bstep hda hbs); have ds := cell_below HBS.out hla qa; clear hbs)
            | (go_simp; go_at_call 12; refine (HME.out _).mono ?_; rintro e wq ⟨rfl, rfl⟩)
            | (go_simp; go_at_call 16; refine (choice_any _ ns m _ (uni_later HUA.out HBS.out) HNS.out HM.out).mono ?_; rintro e wc ⟨cv, rfl, hcv, hbc⟩; have HCV := hid hcv.rd; have HBC := hid (bstep HBS.out hbc); have dc := cell_below HBC.out hla qa; clear hcv hbc)))
          all_goals (try go_simp)
          all_goals go_wp2_with fail
          all_goals
            have HUC := hid (uni_later HUA.out HBC.out)
            have HRC := hid (HR1A.out.lift HBC.out HBC.out.size)
            have HRXC := hid (HRXA.out.lift HBC.out HBC.out.size)
            have lc := later_cell (Nat.lt_of_lt_of_le hla HBC.out.size) dc
            cases mb
            · (refine wp_region_later (by kernel_rfl) (by kernel_rfl) ?_; (repeat (go_big_quiet_step (((go_at_call 10; exact Calls.later (awake_any _) rfl))))); refine wpQuiet_nil ?_; rintro _ ⟨⟨we, hbe⟩, rfl⟩)
              go_wp2
              go_ret
              exact ⟨rfl, bstep HBWR.out (bstep HBA.out (bstep HBC.out hbe))⟩
            · obtain ⟨r, hr⟩ := Option.isSome_iff_exists.1 HMB.out
              have hRr : r = R := by have := HR.out; rw [hr] at this; exact this
              obtain ⟨MM, hMM, hRM, hin, hh⟩ := makes_law HNS.out hr (choice_ok ns m)
              have hRM2 : R = canon ns MM := hRr.symm.trans hRM
              have HRD := hid (show SliceRd tTerm wc (Lt wc.heap.size) s1 (canon ns MM) from hRM2 ▸ HRC.out)
              have HCO := hid (choice_ok ns m)
              obtain ⟨cc, hcc⟩ : ∃ cc, choiceF ns m = cc := ⟨_, rfl⟩
              rw [hcc] at hh HCO HCV
              obtain ⟨hv, hhv⟩ : ∃ hv, holdL cc X = hv := ⟨_, rfl⟩
              have HE1 := hid (hh.trans hhv)
              have HE2 := hid hhv
              have HMM := hid hMM
              have HIN := hid (inR_range hin)
              have zhv : (hv == hv) = true := by simp
              clear hr hRr hMM hRM hin hh hRM2 hcc hhv
              (refine wp_region_later (by kernel_rfl) (by kernel_rfl) ?_; (repeat (go_big_quiet_step (((first | (go_at_call 18; exact Calls.later (incMay_any _ _ ns MM _ (uni_lat HUC.out _) HNS.out HMM.out (HRD.out.lift (Later.below _) (Later.below _).size)) rfl) | (go_at_call 19; exact Calls.later (incHolds_any _ _ _ ns (canon ns MM) cc _ (uni_lat HUC.out _) HNS.out (HRD.out.lift (Later.below _) (Later.below _).size) (HCV.out.lift (Later.below _) (Later.below _).size) (fun _ => HCO.out) (canon_range MM)) (congrArg Value.bool HE1.out)) | (go_at_call 20; exact Calls.later (rhold_any _ _ _ ns X cc _ (uni_lat HUC.out _) HNS.out (HRXC.out.lift (Later.below _) (Later.below _).size) (HCV.out.lift (Later.below _) (Later.below _).size) HCO.out HIN.out) (congrArg Value.bool HE2.out)) | (go_at_call 10; exact Calls.later (awake_any _) rfl)))))); refine wpQuiet_nil ?_; rintro _ ⟨⟨we, hbe⟩, rfl⟩)
              go_wp2
              go_ret
              exact ⟨rfl, bstep HBWR.out (bstep HBA.out (bstep HBC.out hbe))⟩
        · have i2 : (k : Int) < ↑l.length := by omega
          clear hlt
          go_wp2_with (first
            | (at_builtin; go_must (refine wpList_append_src _ rfl (.const (.slice none 0 0)) (.tmp 65) _ rfl wr.heap.size 31 it _ 2 16 Tryz.underlying23 HIT.out.1 HIT.out.2.1 HIT.out.2.2.1 HIT.out.2.2.2 rfl (by omega) (.slice none 0 0) 0 [] (by rfl) (own_none _ _ _ _) A5 _ c5 (termCells X) (by rfl) (by exact HSRC.out) termCells_one (by unfold maxLen; omega) (by omega) (Nat.le_refl _) ?_; intro y6 w6 hown6 hg6 hat6; have HY6 := hid (own_copy (l := X) HOKX.out (by rw [HXL.out]; exact hown6)).rd; have HB6 := hid (own_app (v2 := y6) (b0 wr) (OwnF.nil fTerm 31 wr.heap.size wr) (Nat.le_refl _) hg6 rfl); have q6 := cell_below HB6.out hls d0; have HRX6 := hid (HRX.out.lift HB6.out HB6.out.size); clear hown6 hg6 hat6))
            | (go_at_call 13; go_must (refine (make_any _ _ ns X _ (uni_later HURR.out HB6.out) HNS.out HY6.out (by have := HLX.out; omega)).mono ?_; rintro e w7 ⟨s1, rfl, r1, hb7⟩; rw [HMB.out]; rw [HR.out] at r1; have HR1 := hid r1; have HB7 := hid (bstep HB6.out hb7); have HY7 := hid (HY6.out.lift hb7 hb7.size); have HRX7 := hid (HRX6.out.lift hb7 hb7.size); have q7 := cell_below HB7.out hls d0; clear r1 hb7))
            | (go_at_call 14; go_must (refine (rmake22_any _ _ ns X _ (uni_later HURR.out HB7.out) HNS.out HRX7.out).mono ?_; rintro e w8 ⟨s2, rfl, r2, hb8⟩; rw [HMB.out]; rw [HR.out] at r2; have HR2 := hid r2; have HB8 := hid (bstep HB7.out hb8); have HR18 := hid (HR1.out.lift hb8 hb8.size); have HY8 := hid (HY7.out.lift hb8 hb8.size); have HRX8 := hid (HRX7.out.lift hb8 hb8.size); have q8 := cell_below HB8.out hls d0; clear r2 hb8))
            | (go_at_call 15; clear t1; go_must (refine (same_refl _ _ R _ HR18.out HR2.out).mono ?_; rintro e w9 ⟨rfl, hb9⟩; have HB9 := hid (bstep HB8.out hb9); have HR19 := hid (HR18.out.lift hb9 hb9.size); have HY9 := hid (HY8.out.lift hb9 hb9.size); have HRX9 := hid (HRX8.out.lift hb9 hb9.size); have q9 := cell_below HB9.out hls d0; clear hb9))
            | (go_at_call 15; go_must (refine (same_refl _ _ X _ HRX9.out HY9.out).mono ?_; rintro e wa ⟨rfl, hba⟩; have HBA := hid (bstep HB9.out hba); have HR1A := hid (HR19.out.lift hba hba.size); have HRXA := hid (HRX9.out.lift hba hba.size); have qa := cell_below HBA.out hls d0; have hla : w1.heap.size < wa.heap.size := Nat.lt_of_lt_of_le hls HBA.out.size; clear hba)))
          have hda : Below wa.heap.size wa wa.drew := (b0 wa).drew
          have HUA := hid (uni_later HURR.out HBA.out)
          have HSZ := hid (size_any _ ns wa.drew (uni_later HUA.out hda) HNS.out)
          go_region_law ((first
            | (go_simp; go_at_call 17; refine HSZ.out.mono ?_; rintro e wsz ⟨rfl, hbs⟩; have HBS := hid (bstep hda hbs); have ds := cell_below HBS.out hla qa; clear hbs)
            | (go_simp; go_at_call 12; refine (HME.out _).mono ?_; rintro e wq ⟨rfl, rfl⟩)
            | (go_simp; go_at_call 16; refine (choice_any _ ns m _ (uni_later HUA.out HBS.out) HNS.out HM.out).mono ?_; rintro e wc ⟨cv, rfl, hcv, hbc⟩; have HCV := hid hcv.rd; have HBC := hid (bstep HBS.out hbc); have dc := cell_below HBC.out hla qa; clear hcv hbc)))
          all_goals (try go_simp)
          all_goals go_wp2_with fail
          all_goals
            have HUC := hid (uni_later HUA.out HBC.out)
            have HRC := hid (HR1A.out.lift HBC.out HBC.out.size)
            have HRXC := hid (HRXA.out.lift HBC.out HBC.out.size)
            have lc := later_cell (Nat.lt_of_lt_of_le hla HBC.out.size) dc
            cases mb
            · (refine wp_region_later (by kernel_rfl) (by kernel_rfl) ?_; (repeat (go_big_quiet_step (((go_at_call 10; exact Calls.later (awake_any _) rfl))))); refine wpQuiet_nil ?_; rintro _ ⟨⟨we, hbe⟩, rfl⟩)
              go_wp2
              go_ret
              exact ⟨rfl, bstep HBWR.out (bstep HBA.out (bstep HBC.out hbe))⟩
            · obtain ⟨r, hr⟩ := Option.isSome_iff_exists.1 HMB.out
              have hRr : r = R := by have := HR.out; rw [hr] at this; exact this
              obtain ⟨MM, hMM, hRM, hin, hh⟩ := makes_law HNS.out hr (choice_ok ns m)
              have hRM2 : R = canon ns MM := hRr.symm.trans hRM
              have HRD := hid (show SliceRd tTerm wc (Lt wc.heap.size) s1 (canon ns MM) from hRM2 ▸ HRC.out)
              have HCO := hid (choice_ok ns m)
              obtain ⟨cc, hcc⟩ : ∃ cc, choiceF ns m = cc := ⟨_, rfl⟩
              rw [hcc] at hh HCO HCV
              obtain ⟨hv, hhv⟩ : ∃ hv, holdL cc X = hv := ⟨_, rfl⟩
              have HE1 := hid (hh.trans hhv)
              have HE2 := hid hhv
              have HMM := hid hMM
              have HIN := hid (inR_range hin)
              have zhv : (hv == hv) = true := by simp
              clear hr hRr hMM hRM hin hh hRM2 hcc hhv
              (refine wp_region_later (by kernel_rfl) (by kernel_rfl) ?_; (repeat (go_big_quiet_step (((first | (go_at_call 18; exact Calls.later (incMay_any _ _ ns MM _ (uni_lat HUC.out _) HNS.out HMM.out (HRD.out.lift (Later.below _) (Later.below _).size)) rfl) | (go_at_call 19; exact Calls.later (incHolds_any _ _ _ ns (canon ns MM) cc _ (uni_lat HUC.out _) HNS.out (HRD.out.lift (Later.below _) (Later.below _).size) (HCV.out.lift (Later.below _) (Later.below _).size) (fun _ => HCO.out) (canon_range MM)) (congrArg Value.bool HE1.out)) | (go_at_call 20; exact Calls.later (rhold_any _ _ _ ns X cc _ (uni_lat HUC.out _) HNS.out (HRXC.out.lift (Later.below _) (Later.below _).size) (HCV.out.lift (Later.below _) (Later.below _).size) HCO.out HIN.out) (congrArg Value.bool HE2.out)) | (go_at_call 10; exact Calls.later (awake_any _) rfl)))))); refine wpQuiet_nil ?_; rintro _ ⟨⟨we, hbe⟩, rfl⟩)
              go_wp2
              go_ret
              exact ⟨rfl, bstep HBWR.out (bstep HBA.out (bstep HBC.out hbe))⟩
  · have k1 : 60 < (l.length : Int) := by omega
    clear hlen
    go_enter Tryz.func3, Tryz.ntmps3
    go_wp2_with (go_at_call 10; refine (awake_any _).mono ?_; rintro e wz ⟨rfl, hbz⟩)
    go_ret
    exact ⟨rfl, hbz⟩
end Go.Proofs.YtilkhofgcgfnlaaGreat
