import Derived.Test.YtbfbppjccbppiaaGreatDoorJ4
import Derived.Outline
namespace Go.Proofs.YtbfbppjccbppiaaGreatDoor
open Go Go.RowKit
section
variable {us : List UnitW}
def RowRd (us : List UnitW) (line : ByteArray) (n : Nat) (w : World) (e : Ending) (w' : World) : Prop :=
 ∃ (kd un a b : Int) (A : Option Addr) (m c : Nat), e = .returned (.tuple #[.agg #[.int .i64 kd, .int .i64 un, .int .i64 a, .int .i64 b, .slice A m c], .bool (rowR us line n).isSome]) ∧
  (∀ r, rowR us line n = some r → kd = r.kind ∧ un = r.unit ∧ a = r.a ∧ b = r.b ∧ OwnF qd9 66 w.heap.size w' (.slice A m c) r.terms) ∧ Below w.heap.size w w'
theorem za2 {line : ByteArray} {n : Nat} {R : Option (ByteArray × ByteArray)} (h : qu0 line n = R) (hR : R = none ∨ ∃ p, R = some p ∧ (qr2 us p.1 = none ∨ qq5 us p.2 = none)) : rowR us line n = none := by
 unfold rowR
 rcases hR with rfl | ⟨⟨hd, tl⟩, rfl, h1 | h1⟩
 ·rw [h]
 ·rw [h]; dsimp only; rw [h1]
 ·rw [h]; dsimp only
  rw [h1]
  cases qr2 us hd with
  | none => rfl
  | some x => rfl
theorem rowR_some {line hd tl : ByteArray} {n : Nat} {kd a b : Int} {u : Nat} {ts : List Term} (h : qu0 line n = some (hd, tl)) (h1 : qr2 us hd = some (kd, u, a, b)) (h2 : qq5 us tl = some ts) :
  rowR us line n = if mayL (nsOf us) ts = true ∧ (kd = 5 → qp5 n a b) ∧ qi4 us ⟨kd, u, a, b, ts⟩ n = line then some ⟨kd, u, a, b, ts⟩ else none := by
 unfold rowR
 rw [h]; dsimp only
 rw [h1, h2]
theorem headR_ok {hd : ByteArray} {kd a b : Int} {u : Nat} (h0 : 0 < us.length) (h : qr2 us hd = some (kd, u, a, b)) : 1 ≤ kd ∧ kd ≤ 5 ∧ u < us.length ∧ (kd ≠ 5 → a = 0 ∧ b = 0) := by
 have key : ∀ {o : Option Nat} {k : Int}, (∀ v, o = some v → v < us.length) → 1 ≤ k → k ≤ 4 → (o.map fun u : Nat => (k, u, (0 : Int), (0 : Int))) = some (kd, u, a, b) → 1 ≤ kd ∧ kd ≤ 5 ∧ u < us.length ∧ (kd ≠ 5 → a = 0 ∧ b = 0) := by
  intro o k ho hk1 hk2 hm
  obtain ⟨v, hv, he⟩ := Option.map_eq_some_iff.1 hm
  injection he with e1 he
  injection he with e2 he
  injection he with e3 e4
  subst e1 e2
  exact ⟨hk1, by omega, ho _ hv, fun _ => ⟨e3.symm, e4.symm⟩⟩
 unfold qr2 at h
 split at h
 ·injection h with he
  injection he with e1 he
  injection he with e2 he
  injection he with e3 e4
  subst e1 e2
  exact ⟨by omega, by omega, h0, fun _ => ⟨e3.symm, e4.symm⟩⟩
 ·split at h
  ·exact key (fun v hv => zf5 hv) (by omega) (by omega) h
  ·split at h
   ·unfold bothR at h
    split at h
    ·rename_i hu _ _
     injection h with he
     injection he with e1 he
     injection he with e2 he
     subst e1 e2
     exact ⟨by omega, by omega, zf5 hu, fun hk => absurd rfl hk⟩
    ·cases h
   ·split at h
    ·exact key (fun v hv => (zf0 hv).1) (by omega) (by omega) h
    ·split at h
     ·exact key (fun v hv => (zf0 hv).1) (by omega) (by omega) h
     ·cases h
theorem set5_other {w : World} {b g : Nat} {k u x y : Int} {tv : Value} (h : g ≠ b) : (set5 w b k u x y tv).heap[g]? = w.heap[g]? := by
 unfold set5
 rw [heap_setCell_other _ _ _ _ h, heap_setCell_other _ _ _ _ h, heap_setCell_other _ _ _ _ h, heap_setCell_other _ _ _ _ h, heap_setCell_other _ _ _ _ h]
theorem eqLL {s t : ByteArray} (h : s = t) : (s.toList == t.toList) = true := by rw [h]; exact beq_self_eq_true _
theorem neLL {s t : ByteArray} (h : ¬ s = t) : (s.toList == t.toList) = false := by
 rw [beq_eq_false_iff_ne]
 intro e
 rw [ByteArray.toList_eq, ByteArray.toList_eq] at e
 exact h (ByteArray.ext (Array.toList_inj.1 e))
theorem rowS_mk {kd xa xb : Int} {u n : Nat} {ts : List Term} (q1 : 1 ≤ kd) (q2 : kd ≤ 5) (hu : u < us.length) (hml : mayL (nsOf us) ts = true) (hah : kd = 5 → qp5 n xa xb) (q4 : kd ≠ 5 → xa = 0 ∧ xb = 0) (hn2 : n ≤ 60000) : RowS us ⟨kd, u, xa, xb, ts⟩ := by
 have key : 0 ≤ xa ∧ xa ≤ 100000 ∧ 0 ≤ xb ∧ xb ≤ 100000 := by
  by_cases h5 : kd = 5
  ·have h9 := hah h5
   unfold qp5 at h9
   omega
  ·have h9 := q4 h5
   omega
 exact ⟨⟨q1, q2⟩, ⟨Int.natCast_nonneg u, by show (u : Int) < us.length; omega⟩, hml, ⟨key.1, key.2.1⟩, ⟨key.2.2.1, key.2.2.2⟩⟩
set_option maxRecDepth 100000 in
set_option maxHeartbeats 16000000 in
theorem rdrow_any (sA : Option Addr) (sn sc b nm : Nat) (line : ByteArray) (n : Nat) (w : World) (hm : MapF kStr w b nm (zl2 us us.length)) (h : qd0 w (Lt w.heap.size) (.agg #[.slice sA sn sc]) us) (ho : StW us) (h0 : 0 < us.length) (hG : Glob w) (hs : line.size ≤ 1500000) (hn : 1 ≤ n) (hn2 : n ≤ 60000) :
  Calls Tryz.prog 41 #[.agg #[.slice sA sn sc, .map (some b)], .string line, .int .i64 n] w (RowRd us line n w) := by
 obtain ⟨w0, hw0⟩ : ∃ w0 : World, w0 = (w.alloc (.cells #[.slice sA sn sc, .map (some b)] 91)).alloc (.cells #[.int .i64 0, .int .i64 0, .int .i64 0, .int .i64 0, .slice none 0 0] 49) := ⟨_, rfl⟩
 have hb0 : Below w.heap.size w w0 := hw0 ▸ qa0 (qa0 (b0 w) _) _
 have hz0 : w.heap.size + 1 < w0.heap.size := by rw [hw0]; simp
 have c0 : w0.cell? ⟨w.heap.size, 0, none⟩ = some (.slice sA sn sc) := by rw [hw0]; exact qf0 rfl
 have c1 : w0.cell? ⟨w.heap.size, 1, none⟩ = some (.map (some b)) := by rw [hw0]; exact qf0 rfl
 have hbx : Box 49 w0 (w.heap.size + 1) ⟨0, 0, 0, 0, []⟩ (.slice none 0 0) := by
  have := Box.new 49 (w.alloc (.cells #[.slice sA sn sc, .map (some b)] 91)) ⟨0, 0, 0, 0, []⟩ (.slice none 0 0)
  rw [World.size_alloc] at this
  rw [hw0]
  exact this
 have HBX := hid hbx
 have HB0 := hid hb0
 have HW0 := hid hw0
 have HMM := hid (fun (W : World) (hb : Below w.heap.size w W) => hm.below hb hm.lt)
 have HWR := hid (fun (W : World) (hb : Below w.heap.size w W) => h.lift hb hb.size)
 have HO := hid ho
 have HG := hid (fun (W : World) (hb : Below w.heap.size w W) => hG.later hb)
 have hds := qj4 (n := n) (by omega)
 have HIT := hid (zr2 n w0 (by omega) (hG.later hb0))
 have HP := hid (fun W => za5 line (decB n ++ ⟨#[46, 32]⟩) W)
 have z1 := qs7 line (decB n ++ ⟨#[46, 32]⟩).data.toList
 obtain ⟨R, hR⟩ : ∃ R, qu0 line n = R := ⟨_, rfl⟩
 have HRR := hid hR
 unfold qu0 at hR
 obtain ⟨pa, pm, hp⟩ : ∃ pa pm, ahdB line (decB n ++ ⟨#[46, 32]⟩).data.toList = (pa, pm) := ⟨_, _, rfl⟩
 rw [hp] at HP hR z1
 dsimp only at HP hR z1
 clear hp
 have HS := hid (fun W => ssuf_any pa ⟨#[46]⟩ W (by omega))
 have e1 : (⟨#[46]⟩ : ByteArray).data.toList = [46] := rfl
 rw [e1] at HS
 have z2 := sufB_size pa [46]
 obtain ⟨qa, qm, hq⟩ : ∃ qa qm, sufB pa [46] = (qa, qm) := ⟨_, _, rfl⟩
 rw [hq] at HS hR z2
 dsimp only at HS hR z2
 clear hq e1
 have HC := hid (fun (W : World) (hb : Below w.heap.size w W) => qv5 qa ⟨#[58, 32]⟩ W (by omega) (HG.out W hb))
 have e1 : cutB qa (⟨#[58, 32]⟩ : ByteArray).data.toList = cutB qa [58, 32] := rfl
 rw [e1] at HC
 have z3 := qt2 qa [58, 32]
 obtain ⟨ha, ta, cm, hc⟩ : ∃ ha ta cm, cutB qa [58, 32] = (ha, ta, cm) := ⟨_, _, _, rfl⟩
 rw [hc] at HC hR z3
 dsimp only at HC hR z3
 clear hc e1
 have z4 : ha.size ≤ 1500000 := by omega
 have z5 : ta.size ≤ 1500000 := by omega
 have HHD := hid (fun (W : World) (hb : Below w.heap.size w W) => rdhead_any (us := us) sA sn sc b nm ha W (HMM.out W hb) (HG.out W hb) z4)
 have HTM := hid (fun (W : World) (hb : Below w.heap.size w W) => rdterms_any (us := us) (.slice sA sn sc) b nm ta W (HMM.out W hb) (HWR.out W hb) HO.out (HG.out W hb) z5)
 have s1 : ¬ 9223372036854775807 < (decB n).size + 2 := by omega
 generalize decB n = dn at *
 clear hw0 hb0 hG hm h ho hbx
 unfold HeadRd at HHD
 unfold TermsRd at HTM
 obtain ⟨HD, hHD⟩ : ∃ HD, qr2 us ha = HD := ⟨_, rfl⟩
 obtain ⟨TM, hTM⟩ : ∃ TM, qq5 us ta = TM := ⟨_, rfl⟩
 rw [hHD] at HHD
 rw [hTM] at HTM
 have HHE := hid hHD
 have HTE := hid hTM
 clear hHD hTM
 by_cases hok : pm = true ∧ qm = true ∧ cm = true ∧ HD.isSome = true ∧ TM.isSome = true
 ·obtain ⟨rfl, rfl, rfl, hHs, hTs⟩ := hok
  have hRs : some (ha, ta) = R := by rw [← hR]; rfl
  have HRS := hid hRs
  clear hR hRs
  cases HD with
  | none => cases hHs
  | some hd =>
  cases TM with
  | none => cases hTs
  | some ts =>
  clear hHs hTs
  obtain ⟨k0', u0', a0', b0'⟩ := hd
  have HRW := hid (rowR_some (HRR.out.trans HRS.out.symm) HHE.out HTE.out)
  have hok4 := headR_ok h0 HHE.out
  go_enter Tryz.func41, Tryz.ntmps41
  go_upto_region 9 with (first
   | (go_at_call 73; rw [← HW0.out]; refine HIT.out.mono ?_; rintro e w1 ⟨rfl, hb1⟩; have HB1 := hid (qa1 HB0.out hb1); have HX1 := hid (HBX.out.below hb1 hz0); have d0 := cell_below hb1 (by omega) c0; have d1 := cell_below hb1 (by omega) c1; have y1 := Nat.lt_of_lt_of_le hz0 hb1.size; clear hb1)
   | (go_at_call 78; refine (HP.out _).mono ?_; rintro e w2 ⟨rfl, rfl⟩)
   | (go_at_call 79; refine (HS.out _).mono ?_; rintro e w2 ⟨rfl, rfl⟩)
   | (go_at_call 40; refine (HC.out _ HB1.out).mono ?_; rintro e w3 ⟨rfl, hb3⟩; have HB3 := hid (qa1 HB1.out hb3); have HX3 := hid (HX1.out.below hb3 y1); have f0 := cell_below hb3 (by omega) d0; have f1 := cell_below hb3 (by omega) d1; have y3 := Nat.lt_of_lt_of_le y1 hb3.size; clear hb3)
   | (go_at_call 80; refine (HHD.out _ HB3.out).mono ?_; rintro e w4 ⟨kd, un, xa, xb, rfl, hhv, hb4⟩; have HHV := hid hhv; have HB4 := hid (qa1 HB3.out hb4); have HX4 := hid (HX3.out.below hb4 y3); have g0 := cell_below hb4 (by omega) f0; have g1 := cell_below hb4 (by omega) f1; have y4 := Nat.lt_of_lt_of_le y3 hb4.size; have y4b := Nat.lt_of_succ_lt y4; clear hb4 hhv)
   | (go_at_call 81; go_loud (refine (HTM.out _ (qa0 HB4.out _)).mono ?_; rintro e w5 ⟨tv, rfl, htv, hb5⟩; obtain ⟨htv1, htv2⟩ := htv ts rfl; obtain ⟨A5, c5, rfl⟩ := qb1 htv1.1; have HOT := hid htv1;  have HB5 := hid (qa1 (qa0 HB4.out _) hb5); have HX5 := hid (HX4.out.below (qa1 (qa0 (b0 w4) _) hb5) y4); have HXR := hid ((Box.new 49 w4 ⟨kd, un, xa, xb, []⟩ (.slice none 0 0)).below hb5 (by simp)); have k0 := cell_below (qa1 (qa0 (b0 w4) _) hb5) y4b g0; have k1 := cell_below (qa1 (qa0 (b0 w4) _) hb5) y4b g1; have y5 : w4.heap.size < w5.heap.size := Nat.lt_of_lt_of_le (by simp) hb5.size; obtain ⟨⟨m0, m1, m2, m3, m4⟩, mf⟩ := HX5.out.cells; obtain ⟨⟨n0, n1, n2, n3, n4⟩, nf⟩ := HXR.out.cells; clear hb5)))
  obtain ⟨e1, e2, e3, e4⟩ := HHV.out _ _ _ _ rfl
  subst e1 e2 e3 e4
  obtain ⟨q1, q2, q3, q4⟩ := hok4
  obtain ⟨w6, hw6⟩ : ∃ w6 : World, w6 = w5.setCell ⟨w4.heap.size, 4, none⟩ (.slice A5 ts.length c5) := ⟨_, rfl⟩
  have HB6 := hid (show Below w.heap.size w w6 from hw6 ▸ HB5.out.setCell (p := ⟨w4.heap.size, 4, none⟩) HB4.out.size _)
  have hoth : ∀ k, k ≠ w4.heap.size → w6.heap[k]? = w5.heap[k]? := fun k hk => by rw [hw6]; exact heap_setCell_other _ _ _ _ hk
  have HX6 := hid (HX5.out.keep (hoth _ (Nat.ne_of_lt y4)))
  have HXR6 := hid (show Box 49 w6 w4.heap.size ⟨kd, u0', xa, xb, ts⟩ (.slice A5 ts.length c5) from hw6 ▸ HXR.out.set.2.2.2.2 _ ts)
  have HO6 := hid (show OwnF qd9 66 w4.heap.size w6 (.slice A5 ts.length c5) ts from ⟨qb3 (HOT.out.mono (by simp)).1 fun g hg => hoth g (by have h9 := (HOT.out.1.lt g hg).1; rw [World.size_alloc] at h9; omega), HOT.out.2⟩)
  have j0 : w6.cell? ⟨w.heap.size, 0, none⟩ = some (.slice sA sn sc) := (World.cell?_of_block (hoth _ (Nat.ne_of_lt y4b))).trans k0
  have j1 : w6.cell? ⟨w.heap.size, 1, none⟩ = some (.map (some b)) := (World.cell?_of_block (hoth _ (Nat.ne_of_lt y4b))).trans k1
  have hs6 : w4.heap.size < w6.heap.size := by rw [hw6]; simp; exact y5
  have y6 := Nat.lt_trans y4 hs6
  have y6b := Nat.lt_of_succ_lt y6
  rw [← hw6]
  have HIM := hid (zh4 (.agg #[.slice sA sn sc]) (.slice A5 ts.length c5) (nsOf us) ts w6 (HWR.out w6 HB6.out).uni HO.out.ns HO6.out.rd)
  have hw1 : IntKind.i64.wrap ((n : Int) - 1) = (n : Int) - 1 := IntWalk.i64_in _ (by omega)
  clear hw6 hoth k0 k1 m0 m1 m2 m3 m4 mf n0 n1 n2 n3 n4 nf d0 d1 f0 f1 g0 g1 c0 c1
  obtain ⟨⟨p0, p1, p2, p3, p4⟩, pf⟩ := HXR6.out.cells
  dsimp only at p0 p1 p2 p3 p4
  by_cases hgd : mayL (nsOf us) ts = true ∧ (kd = 5 → qp5 n xa xb)
  ·obtain ⟨hml, hah⟩ := hgd
   rw [hml] at HIM
   have hor : (kd == 5) = false ∨ ((kd == 5) = true ∧ decide (xa < 0) = false ∧ decide ((n : Int) - 1 ≤ xa) = false ∧ decide (xb < 0) = false ∧ decide ((n : Int) - 1 ≤ xb) = false) := by
    by_cases hk5 : kd = 5
    ·have h9 := hah hk5
     unfold qp5 at h9
     exact .inr ⟨beq_iff_eq.2 hk5, decide_eq_false (by omega), decide_eq_false (by omega), decide_eq_false (by omega), decide_eq_false (by omega)⟩
    ·exact .inl (beq_eq_false_iff_ne.2 hk5)
   rcases hor with hkb | ⟨hkb, hd0, hd1, hd2, hd3⟩
   all_goals (
    have HRS9 := hid (rowS_mk q1 q2 q3 hml hah q4 hn2)
    have HPL := hid (fun (W : World) (hb : Below w.heap.size w W) (hr : SliceRd qg1 W (Lt W.heap.size) (.slice A5 ts.length c5) ts) => pline_any (.agg #[.slice sA sn sc]) (.slice A5 ts.length c5) ⟨kd, u0', xa, xb, ts⟩ n W (HWR.out W hb) HO.out HRS9.out hr (by omega) (HG.out W hb))
    unfold rowV at HPL
    dsimp only at HPL
    have HY := hid (fun h : qi4 us ⟨kd, u0', xa, xb, ts⟩ n = line => HRW.out.trans (if_pos ⟨hml, hah, h⟩))
    have HN := hid (fun h : ¬ qi4 us ⟨kd, u0', xa, xb, ts⟩ n = line => HRW.out.trans (if_neg (fun hh => h hh.2.2)))
    clear HRW
    obtain ⟨bq, heb⟩ : ∃ bq, ((qi4 us ⟨kd, u0', xa, xb, ts⟩ n).toList == line.toList) = bq := ⟨_, rfl⟩
    have HQ : Hid ((rowR us line n).isSome = bq ∧ ∀ r, rowR us line n = some r → r = ⟨kd, u0', xa, xb, ts⟩) := hid (by
     by_cases heq : qi4 us ⟨kd, u0', xa, xb, ts⟩ n = line
     ·rw [HY.out heq, ← heb, eqLL heq]
      exact ⟨rfl, fun r hr => (Option.some.inj hr).symm⟩
     ·rw [HN.out heq, ← heb, neLL heq]
      exact ⟨rfl, fun r hr => by cases hr⟩)
    generalize qi4 us ⟨kd, u0', xa, xb, ts⟩ n = LB at *
    clear hah HRS9 q1 q2 q3 q4 HY HN
    go_wp2_with (go_at_call 33; go_loud (refine HIM.out.mono ?_; rintro e w7 ⟨rfl, hb7⟩; have HB7 := hid (qa1 HB6.out hb7); have HX7 := hid (HX6.out.below hb7 y6); have HXR7 := hid (HXR6.out.below hb7 hs6); have i0 := cell_below hb7 y6b j0; have i1 := cell_below hb7 y6b j1; have HO7 := hid (HO6.out.below hb7 (Nat.le_refl _)); have y7 := Nat.lt_of_lt_of_le y6 hb7.size; have hs7 := Nat.lt_of_lt_of_le hs6 hb7.size; obtain ⟨⟨m0, m1, m2, m3, m4⟩, mf⟩ := HX7.out.cells; obtain ⟨⟨n0, n1, n2, n3, n4⟩, nf⟩ := HXR7.out.cells; clear hb7))
    have H35 := hid (HPL.out w7.drew (qe6 HB7.out) (own_terms (HO7.out.below (b0 w7).drew (Nat.le_refl _))))
    refine zm3 (S := fun w' => w'.cell? ⟨w.heap.size, 0, none⟩ = some (.slice sA sn sc) ∧ w'.cell? ⟨w4.heap.size, 0, none⟩ = some (.int .i64 kd) ∧ w'.cell? ⟨w4.heap.size, 1, none⟩ = some (.int .i64 u0') ∧ w'.cell? ⟨w4.heap.size, 2, none⟩ = some (.int .i64 xa) ∧ w'.cell? ⟨w4.heap.size, 3, none⟩ = some (.int .i64 xb) ∧ w'.cell? ⟨w4.heap.size, 4, none⟩ = some (.slice A5 ts.length c5)) 8 (by kernel_rfl) ⟨i0, n0, n1, n2, n3, n4⟩ (fun hHeld => ?_)
    try simp only [Act.put, List.setIfInBounds_toArray, List.set_cons_zero, List.set_cons_succ]
    refine Till.take 0 (v := ?_) rfl (by decide +kernel) (by decide +kernel) (by decide +kernel) (fun _ _ _ h => h) (by decide +kernel) (by decide +kernel) (by decide +kernel) (Or.inl ⟨by rfl, ?_⟩) (by assumption) ?_
    rotate_left 1
    ·intro w' hSw; (try dsimp only at hSw); go_simp; try with_reducible rfl
    try simp only [Act.put, List.setIfInBounds_toArray]
    refine Till.takeW 1 (v := ?_) rfl (by decide +kernel) (by decide +kernel) (by decide +kernel) (fun _ _ _ h => h) (by decide +kernel) (by assumption) (Or.inl ⟨by rfl, ?_⟩) ?_
    rotate_left 1
    ·intro w' hSw; (try dsimp only at hSw); go_simp; try with_reducible rfl
    try simp only [Act.put]
    refine Till.takeW 4 (v := ?_) rfl (by decide +kernel) (by decide +kernel) (by decide +kernel) (fun _ _ _ h => h) (by decide +kernel) (by assumption) (Or.inl ⟨by rfl, ?_⟩) ?_
    rotate_left 1
    ·intro w' hSw; (try dsimp only at hSw); go_simp; try with_reducible rfl
    try simp only [Act.put]
    refine Till.takeW 6 (v := ?_) rfl (by decide +kernel) (by decide +kernel) (by decide +kernel) (fun _ _ _ h => h) (by decide +kernel) (by assumption) (Or.inl ⟨by rfl, ?_⟩) ?_
    rotate_left 1
    ·intro w' hSw; (try dsimp only at hSw); go_simp; try with_reducible rfl
    try simp only [Act.put]
    iterate 2 all_goals (
     refine Till.over [2, 3] (by decide +kernel) (by decide +kernel) ?_
     (first | refine Steps.skip 2 (by decide +kernel) ?_ | (refine Steps.cons 2 rfl (fun K hK => ?_) ?_; (go_simp; refine hK.out _ _ (fun _ => hHeld) ?_; clear hK K; try simp only [Act.put, List.setIfInBounds_toArray, List.set_cons_zero, List.set_cons_succ]); rotate_left 1))
     (first | refine Steps.skip 3 (by decide +kernel) ?_ | (refine Steps.cons 3 rfl (fun K hK => ?_) ?_; (go_simp; refine hK.out _ _ (fun _ => hHeld) ?_; clear hK K; try simp only [Act.put, List.setIfInBounds_toArray, List.set_cons_zero, List.set_cons_succ]); rotate_left 1))
     exact Steps.nil)
    all_goals (
     refine Till.over [5] (by decide +kernel) (by decide +kernel) ?_
     refine Steps.cons 5 rfl (fun K hK => ?_) Steps.nil
     go_simp
     go_at_call 35; refine H35.out.mono ?_; rintro e w8 ⟨rfl, hb8⟩; have HB78 := hid (qa1 (b0 w7).drew hb8); have HB8 := hid (qa1 HB7.out HB78.out); have HX8 := hid (HX7.out.below HB78.out y7); have HO8 := hid (HO7.out.below HB78.out (Nat.le_refl _)); have l0 := cell_below HB78.out (Nat.lt_of_succ_lt y7) i0; obtain ⟨⟨v0, v1, v2, v3, v4⟩, vf⟩ := (HXR7.out.below HB78.out hs7).cells; obtain ⟨⟨t0, t1, t2, t3, t4⟩, tf⟩ := HX8.out.cells; clear hb8
     refine hK.out _ _ (fun _ => ⟨l0, v0, v1, v2, v3, v4⟩) ?_
     clear hK K
     try simp only [Act.put, List.setIfInBounds_toArray, List.set_cons_zero, List.set_cons_succ]
     have hH8 : (fun w' => w'.cell? ⟨w.heap.size, 0, none⟩ = some (.slice sA sn sc) ∧ w'.cell? ⟨w4.heap.size, 0, none⟩ = some (.int .i64 kd) ∧ w'.cell? ⟨w4.heap.size, 1, none⟩ = some (.int .i64 u0') ∧ w'.cell? ⟨w4.heap.size, 2, none⟩ = some (.int .i64 xa) ∧ w'.cell? ⟨w4.heap.size, 3, none⟩ = some (.int .i64 xb) ∧ w'.cell? ⟨w4.heap.size, 4, none⟩ = some (.slice A5 ts.length c5)) w8 := ⟨l0, v0, v1, v2, v3, v4⟩
     refine Till.takeW 7 (v := ?_) rfl (by decide +kernel) (by decide +kernel) (by decide +kernel) (fun _ _ _ h => h) (by decide +kernel) (by assumption) (Or.inl ⟨by rfl, ?_⟩) ?_
     rotate_left 1
     ·intro w' hSw; (try dsimp only at hSw); go_simp; try with_reducible rfl
     try simp only [Act.put, List.setIfInBounds_toArray]
     refine Till.over [8] (by decide +kernel) (by decide +kernel) ?_
     refine Steps.cons 8 rfl (fun K hK => ?_) Steps.nil
     go_simp
     refine hK.out _ _ (fun h2 => absurd h2 (by decide +kernel)) ?_
     clear hK K
     try simp only [Act.put, List.setIfInBounds_toArray, List.set_cons_zero, List.set_cons_succ]
     refine Till.over [9] (by decide +kernel) (by decide +kernel) ?_
     refine Steps.cons 9 rfl (fun K hK => ?_) Steps.nil
     go_simp
     refine hK.out _ _ (fun h2 => absurd h2 (by decide +kernel)) ?_
     clear hK K
     try simp only [Act.put, List.setIfInBounds_toArray, List.set_cons_zero, List.set_cons_succ]
     refine Till.done (by decide +kernel) ?_ _
     obtain ⟨wz, hwz⟩ : ∃ wz : World, wz = ((((w8.setCell ⟨w.heap.size + 1, 0, none⟩ (.int .i64 kd)).setCell ⟨w.heap.size + 1, 1, none⟩ (.int .i64 u0')).setCell ⟨w.heap.size + 1, 2, none⟩ (.int .i64 xa)).setCell ⟨w.heap.size + 1, 3, none⟩ (.int .i64 xb)).setCell ⟨w.heap.size + 1, 4, none⟩ (.slice A5 ts.length c5) := ⟨_, rfl⟩
     have HXF : Hid (Box 49 wz (w.heap.size + 1) ⟨kd, u0', xa, xb, []⟩ (.slice A5 ts.length c5)) := hid (by rw [hwz]; exact HX8.out.set5 kd u0' xa xb (.slice A5 ts.length c5))
     have HBZ : Hid (Below w.heap.size w wz) := hid (by rw [hwz]; exact qq8 HB8.out (by omega) _ _ _ _ _)
     have HOZ : Hid (OwnF qd9 66 w.heap.size wz (.slice A5 ts.length c5) ts) := hid (OwnF.mono (B := w4.heap.size) ⟨qb3 HO8.out.1 fun g hg => by rw [hwz]; exact set5_other (by have := (HO8.out.1.lt g hg).1; omega), HO8.out.2⟩ HB4.out.size)
     rw [← hwz]
     clear hwz
     simp only [Exit.then]
     go_at_K
     clear hHeld hH8 l0 v0 v1 v2 v3 v4 vf t0 t1 t2 t3 t4 tf
     go_wp2_with fail
     obtain ⟨⟨r0, r1, r2, r3, r4⟩, -⟩ := HXF.out.cells
     refine bodyPost_ret (v := .tuple #[.agg #[.int .i64 kd, .int .i64 u0', .int .i64 xa, .int .i64 xb, .slice A5 ts.length c5], .bool bq]) (by simp only [results, Tryz.results41, go_sem]; try simp [go_sem, r0, r1, r2, r3, r4]) rfl ⟨kd, u0', xa, xb, A5, ts.length, c5, by rw [HQ.out.1], fun r hr => ?_, HBZ.out⟩
     have hr := HQ.out.2 r hr
     subst hr
     exact ⟨rfl, rfl, rfl, rfl, HOZ.out⟩))
  ·have HNO : Hid (rowR us line n = none) := hid (by rw [HRW.out, if_neg (fun h => hgd ⟨h.1, h.2.1⟩)])
   have hor : mayL (nsOf us) ts = false ∨ (mayL (nsOf us) ts = true ∧ (kd == 5) = true ∧ (decide (xa < 0) = true ∨ (decide (xa < 0) = false ∧ (decide ((n : Int) - 1 ≤ xa) = true ∨ (decide ((n : Int) - 1 ≤ xa) = false ∧ (decide (xb < 0) = true ∨ (decide (xb < 0) = false ∧ decide ((n : Int) - 1 ≤ xb) = true))))))) := by
    cases hml : mayL (nsOf us) ts with
    | false => exact .inl rfl
    | true =>
     have hk5 : kd = 5 := Classical.byContradiction fun h => hgd ⟨hml, fun h2 => absurd h2 h⟩
     refine .inr ⟨rfl, beq_iff_eq.2 hk5, ?_⟩
     have h9 : ¬ qp5 n xa xb := fun h => hgd ⟨hml, fun _ => h⟩
     unfold qp5 at h9
     simp only [decide_eq_true_eq, decide_eq_false_iff_not]
     omega
   clear HRW hgd
   rcases hor with hml | ⟨hml, hkb, hd0 | ⟨hd0, hd1 | ⟨hd1, hd2 | ⟨hd2, hd3⟩⟩⟩⟩
   all_goals (
    rw [hml] at HIM
    go_wp2_with (go_at_call 33; go_loud (refine HIM.out.mono ?_; rintro e w7 ⟨rfl, hb7⟩; have HB7 := hid (qa1 HB6.out hb7); have HX7 := hid (HX6.out.below hb7 y6); have HXR7 := hid (HXR6.out.below hb7 hs6); have i0 := cell_below hb7 y6b j0; have i1 := cell_below hb7 y6b j1; have HO7 := hid (HO6.out.below hb7 (Nat.le_refl _)); have y7 := Nat.lt_of_lt_of_le y6 hb7.size; have hs7 := Nat.lt_of_lt_of_le hs6 hb7.size; obtain ⟨⟨m0, m1, m2, m3, m4⟩, mf⟩ := HX7.out.cells; obtain ⟨⟨n0, n1, n2, n3, n4⟩, nf⟩ := HXR7.out.cells; clear hb7))
    obtain ⟨wz, hwz⟩ : ∃ wz : World, wz = ((((w7.setCell ⟨w.heap.size + 1, 0, none⟩ (.int .i64 0)).setCell ⟨w.heap.size + 1, 1, none⟩ (.int .i64 0)).setCell ⟨w.heap.size + 1, 2, none⟩ (.int .i64 0)).setCell ⟨w.heap.size + 1, 3, none⟩ (.int .i64 0)).setCell ⟨w.heap.size + 1, 4, none⟩ (.slice none 0 0) := ⟨_, rfl⟩
    have HXF : Hid (Box 49 wz (w.heap.size + 1) ⟨0, 0, 0, 0, []⟩ (.slice none 0 0)) := hid (by rw [hwz]; exact HX7.out.set5 0 0 0 0 (.slice none 0 0))
    have HBZ : Hid (Below w.heap.size w wz) := hid (by rw [hwz]; exact qq8 HB7.out (by omega) _ _ _ _ _)
    rw [← hwz]
    clear hwz
    obtain ⟨⟨r0, r1, r2, r3, r4⟩, -⟩ := HXF.out.cells
    exact bodyPost_ret (v := .tuple #[.agg #[.int .i64 0, .int .i64 0, .int .i64 0, .int .i64 0, .slice none 0 0], .bool false]) (by simp only [results, Tryz.results41, go_sem]; try simp [go_sem, r0, r1, r2, r3, r4]) rfl ⟨0, 0, 0, 0, none, 0, 0, by rw [HNO.out]; rfl, fun r hr => (by rw [HNO.out] at hr; cases hr), HBZ.out⟩)
 ·have HNO : Hid (rowR us line n = none) := hid (by
   refine za2 HRR.out ?_
   by_cases hc : pm = true ∧ qm = true ∧ cm = true
   ·refine .inr ⟨(ha, ta), hR.symm.trans (if_pos hc), ?_⟩
    cases HD with
    | none => exact .inl HHE.out
    | some x =>
     cases TM with
     | none => exact .inr HTE.out
     | some y => exact absurd ⟨hc.1, hc.2.1, hc.2.2, rfl, rfl⟩ hok
   ·exact .inl (hR.symm.trans (if_neg hc)))
  clear hR
  have hor : pm = false ∨ (pm = true ∧ (qm = false ∨ (qm = true ∧ (cm = false ∨ (cm = true ∧ (HD.isSome = false ∨ (HD.isSome = true ∧ TM.isSome = false))))))) := by
   cases pm with
   | false => exact .inl rfl
   | true =>
   cases qm with
   | false => exact .inr ⟨rfl, .inl rfl⟩
   | true =>
   cases cm with
   | false => exact .inr ⟨rfl, .inr ⟨rfl, .inl rfl⟩⟩
   | true =>
   cases hsH : HD.isSome with
   | false => exact .inr ⟨rfl, .inr ⟨rfl, .inr ⟨rfl, .inl rfl⟩⟩⟩
   | true =>
   cases hsT : TM.isSome with
   | false => exact .inr ⟨rfl, .inr ⟨rfl, .inr ⟨rfl, .inr ⟨rfl, rfl⟩⟩⟩⟩
   | true => exact absurd ⟨rfl, rfl, rfl, hsH, hsT⟩ hok
  clear hok
  rcases hor with rfl | ⟨rfl, rfl | ⟨rfl, rfl | ⟨rfl, hsH | ⟨hsH, hsT⟩⟩⟩⟩
  all_goals (
   try rw [hsH] at HHD
   try rw [hsT] at HTM
   go_enter Tryz.func41, Tryz.ntmps41
   go_wp2_with (first
    | (go_at_call 73; rw [← HW0.out]; refine HIT.out.mono ?_; rintro e w1 ⟨rfl, hb1⟩; have HB1 := hid (qa1 HB0.out hb1); have HX1 := hid (HBX.out.below hb1 hz0); have d0 := cell_below hb1 (by omega) c0; have d1 := cell_below hb1 (by omega) c1; have y1 := Nat.lt_of_lt_of_le hz0 hb1.size; clear hb1)
    | (go_at_call 78; refine (HP.out _).mono ?_; rintro e w2 ⟨rfl, rfl⟩)
    | (go_at_call 79; refine (HS.out _).mono ?_; rintro e w2 ⟨rfl, rfl⟩)
    | (go_at_call 40; refine (HC.out _ HB1.out).mono ?_; rintro e w3 ⟨rfl, hb3⟩; have HB3 := hid (qa1 HB1.out hb3); have HX3 := hid (HX1.out.below hb3 y1); have f0 := cell_below hb3 (by omega) d0; have f1 := cell_below hb3 (by omega) d1; have y3 := Nat.lt_of_lt_of_le y1 hb3.size; clear hb3)
    | (go_at_call 80; refine (HHD.out _ HB3.out).mono ?_; rintro e w4 ⟨kd, un, xa, xb, rfl, hhv, hb4⟩; have HHV := hid hhv; have HB4 := hid (qa1 HB3.out hb4); have HX4 := hid (HX3.out.below hb4 y3); have g0 := cell_below hb4 (by omega) f0; have g1 := cell_below hb4 (by omega) f1; have y4 := Nat.lt_of_lt_of_le y3 hb4.size; have y4b := Nat.lt_of_succ_lt y4; clear hb4 hhv)
    | (go_at_call 81; go_loud (refine (HTM.out _ (qa0 HB4.out _)).mono ?_; rintro e w5 ⟨tv, rfl, htv, hb5⟩;  have HB5 := hid (qa1 (qa0 HB4.out _) hb5); have HX5 := hid (HX4.out.below (qa1 (qa0 (b0 w4) _) hb5) y4); have HXR := hid ((Box.new 49 w4 ⟨kd, un, xa, xb, []⟩ (.slice none 0 0)).below hb5 (by simp)); have k0 := cell_below (qa1 (qa0 (b0 w4) _) hb5) y4b g0; have k1 := cell_below (qa1 (qa0 (b0 w4) _) hb5) y4b g1; have y5 : w4.heap.size < w5.heap.size := Nat.lt_of_lt_of_le (by simp) hb5.size; obtain ⟨⟨m0, m1, m2, m3, m4⟩, mf⟩ := HX5.out.cells; obtain ⟨⟨n0, n1, n2, n3, n4⟩, nf⟩ := HXR.out.cells; clear hb5)))
   obtain ⟨wz, hwz⟩ : ∃ wz : World, wz = ((((w5.setCell ⟨w.heap.size + 1, 0, none⟩ (.int .i64 0)).setCell ⟨w.heap.size + 1, 1, none⟩ (.int .i64 0)).setCell ⟨w.heap.size + 1, 2, none⟩ (.int .i64 0)).setCell ⟨w.heap.size + 1, 3, none⟩ (.int .i64 0)).setCell ⟨w.heap.size + 1, 4, none⟩ (.slice none 0 0) := ⟨_, rfl⟩
   have HXF : Hid (Box 49 wz (w.heap.size + 1) ⟨0, 0, 0, 0, []⟩ (.slice none 0 0)) := hid (by rw [hwz]; exact HX5.out.set5 0 0 0 0 (.slice none 0 0))
   have HBZ : Hid (Below w.heap.size w wz) := hid (by rw [hwz]; exact qq8 HB5.out (by omega) _ _ _ _ _)
   rw [← hwz]
   clear hwz
   obtain ⟨⟨r0, r1, r2, r3, r4⟩, -⟩ := HXF.out.cells
   exact bodyPost_ret (v := .tuple #[.agg #[.int .i64 0, .int .i64 0, .int .i64 0, .int .i64 0, .slice none 0 0], .bool false]) (by simp only [results, Tryz.results41, go_sem]; try simp [go_sem, r0, r1, r2, r3, r4]) rfl ⟨0, 0, 0, 0, none, 0, 0, by rw [HNO.out]; rfl, fun r hr => (by rw [HNO.out] at hr; cases hr), HBZ.out⟩)
end
end Go.Proofs.YtbfbppjccbppiaaGreatDoor
