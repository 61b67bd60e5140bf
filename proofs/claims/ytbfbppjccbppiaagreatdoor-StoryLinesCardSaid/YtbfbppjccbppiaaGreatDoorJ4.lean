import Derived.Test.YtbfbppjccbppiaaGreatDoorzJ0
import Derived.Outline
namespace Go.Proofs.YtbfbppjccbppiaaGreatDoor
open Go Go.RowKit
abbrev set5 (w : World) (b : Nat) (k u x y : Int) (tv : Value) : World := ((((w.setCell ⟨b, 0, none⟩ (.int .i64 k)).setCell ⟨b, 1, none⟩ (.int .i64 u)).setCell ⟨b, 2, none⟩ (.int .i64 x)).setCell ⟨b, 3, none⟩ (.int .i64 y)).setCell ⟨b, 4, none⟩ tv
theorem Box.drew {eR : TypeId} {w : World} {b : Nat} {r : Row} {tv : Value} (h : Box eR w b r tv) : Box eR w.drew b r tv := h
theorem Box.below {eR : TypeId} {w w' : World} {b B : Nat} {r : Row} {tv : Value} (h : Box eR w b r tv) (hb : Below B w w') (hB : b < B) : Box eR w' b r tv := h.keep (hb.block b hB)
theorem Box.set5 {eR : TypeId} {w : World} {b : Nat} {r : Row} {tv : Value} (h : Box eR w b r tv) (k u x y : Int) (tv' : Value) : Box eR (set5 w b k u x y tv') b ⟨k, u, x, y, []⟩ tv' :=
 (((((h.set.1 k).set.2.1 u).set.2.2.1 x).set.2.2.2.1 y).set).2.2.2.2 tv' []
theorem qq8 {B : Nat} {w w1 : World} {b : Nat} (h : Below B w w1) (hb : B ≤ b) (k u x y : Int) (tv : Value) : Below B w (set5 w1 b k u x y tv) :=
 ((((h.setCell (p := ⟨b, 0, none⟩) hb _).setCell (p := ⟨b, 1, none⟩) hb _).setCell (p := ⟨b, 2, none⟩) hb _).setCell (p := ⟨b, 3, none⟩) hb _).setCell (p := ⟨b, 4, none⟩) hb _
theorem satoi_any (s : ByteArray) (w : World) (hs : s.size ≤ 2000000) (hG : Glob w) :
  Calls Tryz.prog 114 #[.string s] w fun e w' => ∃ v ev, e = .returned (.tuple #[.int .i64 v, ev]) ∧ Below w.heap.size w w' ∧ ((atoR s = some (IntKind.i64.wrap (v - 1)) ∧ ev = .nilIface) ∨ (atoR s = none ∧ ∃ t p, ev = .iface t p)) := by
 obtain ⟨-, -, -, ⟨e2, h2, h3⟩, e3, h4, h5⟩ := hG
 cases hr : Lib.atoiAll s.data.toList with
 | ok v =>
  refine (Tryz.strconv_Atoi_ok s (by omega) v hr w).mono ?_
  rintro e w' ⟨rfl, hw⟩
  refine ⟨v, _, rfl, ?_, .inl ⟨by unfold atoR; rw [hr], rfl⟩⟩
  rcases hw with rfl | ⟨t, rfl⟩
  ·exact b0 _
  ·exact Lib.bytesWorld_below w _ t
 | range =>
  refine (Tryz.strconv_Atoi_range s (by omega) hr e3 w h4 h5).mono ?_
  rintro e w' ⟨N, rfl, -, -, hb⟩
  exact ⟨_, _, rfl, hb, .inr ⟨by unfold atoR; rw [hr], _, _, rfl⟩⟩
 | _ =>
  refine (Tryz.strconv_Atoi_syntax s (by omega) (hr.trans rfl) e2 w h2 h3).mono ?_
  rintro e w' ⟨N, rfl, -, -, hb⟩
  exact ⟨_, _, rfl, hb, .inr ⟨by unfold atoR; rw [hr], _, _, rfl⟩⟩
theorem zs3 (s : ByteArray) (w : World) (hs : s.size ≤ 2000000) (hG : Glob w) {A : Int} (h : atoR s = some A) :
  Calls Tryz.prog 114 #[.string s] w fun e w' => ∃ v, e = .returned (.tuple #[.int .i64 v, .nilIface]) ∧ Below w.heap.size w w' ∧ IntKind.i64.wrap (v - 1) = A := by
 refine (satoi_any s w hs hG).mono ?_
 rintro e w' ⟨v, ev, rfl, hb, ⟨h1, rfl⟩ | ⟨h1, -⟩⟩
 ·rw [h] at h1
  injection h1 with h1
  exact ⟨v, rfl, hb, h1.symm⟩
 ·rw [h] at h1; cases h1
theorem zk0 (s : ByteArray) (w : World) (hs : s.size ≤ 2000000) (hG : Glob w) (h : atoR s = none) :
  Calls Tryz.prog 114 #[.string s] w fun e w' => ∃ v t p, e = .returned (.tuple #[.int .i64 v, .iface t p]) ∧ Below w.heap.size w w' := by
 refine (satoi_any s w hs hG).mono ?_
 rintro e w' ⟨v, ev, rfl, hb, ⟨h1, -⟩ | ⟨-, t, p, rfl⟩⟩
 ·rw [h] at h1; cases h1
 ·exact ⟨v, t, p, rfl, hb⟩
section
variable {us : List UnitW}
def HeadRd (us : List UnitW) (s : ByteArray) (w : World) (e : Ending) (w' : World) : Prop :=
 ∃ kd un a b : Int, e = .returned (.tuple #[.agg #[.int .i64 kd, .int .i64 un, .int .i64 a, .int .i64 b, .slice none 0 0], .bool (qr2 us s).isSome]) ∧ (∀ k u x y, qr2 us s = some (k, u, x, y) → kd = k ∧ un = (u : Nat) ∧ a = x ∧ b = y) ∧ Below w.heap.size w w'
set_option maxRecDepth 100000 in
set_option maxHeartbeats 16000000 in
theorem rdhead_any (sA : Option Addr) (sn sc b nm : Nat) (s : ByteArray) (w : World) (hm : MapF kStr w b nm (zl2 us us.length)) (hG : Glob w) (hs : s.size ≤ 1500000) :
  Calls Tryz.prog 80 #[.agg #[.slice sA sn sc, .map (some b)], .string s] w (HeadRd us s w) := by
 obtain ⟨w0, hw0⟩ : ∃ w0 : World, w0 = (w.alloc (.cells #[.slice sA sn sc, .map (some b)] 91)).alloc (.cells #[.int .i64 0, .int .i64 0, .int .i64 0, .int .i64 0, .slice none 0 0] 49) := ⟨_, rfl⟩
 have hb0 : Below w.heap.size w w0 := hw0 ▸ qa0 (qa0 (b0 w) _) _
 have hz0 : w.heap.size + 1 < w0.heap.size := by rw [hw0]; simp
 have c0 : w0.cell? ⟨w.heap.size, 0, none⟩ = some (.slice sA sn sc) := by rw [hw0]; exact qf0 rfl
 have c1 : w0.cell? ⟨w.heap.size, 1, none⟩ = some (.map (some b)) := by rw [hw0]; exact qf0 rfl
 have hbx : Box 49 w0 (w.heap.size + 1) ⟨0, 0, 0, 0, []⟩ (.slice none 0 0) := by
  have := Box.new 49 (w.alloc (.cells #[.slice sA sn sc, .map (some b)] 91)) ⟨0, 0, 0, 0, []⟩ (.slice none 0 0)
  rw [World.size_alloc] at this
  rw [hw0]
  exact this
 have HBX := hid hbx
 have HB0 := hid hb0
 have HW0 := hid hw0
 have HM0 := hid (hm.below hb0 hm.lt)
 have HG0 := hid (hG.later hb0)
 have hbz := Nat.lt_trans (Nat.lt_succ_of_lt hm.lt) hz0
 obtain ⟨R, hR⟩ : ∃ R, qr2 us s = R := ⟨_, rfl⟩
 have HRR := hid hR
 unfold qr2 at hR
 clear hw0 hb0 hG hm hbx
 by_cases hsn : s = wantedB
 ·have hsb : (s.toList == [84, 104, 101, 32, 112, 114, 111, 106, 101, 99, 116, 32, 105, 115, 32, 119, 97, 110, 116, 101, 100]) = true := eqL hsn
  rw [if_pos hsn] at hR
  have HRN := hid hR
  clear hR hsn
  go_enter Tryz.func80, Tryz.ntmps80
  go_wp2_with fail
  have HB1 := hid (qa0 (qa0 (b0 w) (.cells #[.slice sA sn sc, .map (some b)] 91)) (.cells #[.int .i64 1, .int .i64 0, .int .i64 0, .int .i64 0, .slice none 0 0] 49))
  have HXF := hid (by have h := Box.new 49 (w.alloc (.cells #[.slice sA sn sc, .map (some b)] 91)) ⟨1, 0, 0, 0, []⟩ (.slice none 0 0); rw [World.size_alloc] at h; exact h)
  obtain ⟨⟨r0, r1, r2, r3, r4⟩, -⟩ := HXF.out.cells
  refine bodyPost_ret (v := .tuple #[.agg #[.int .i64 (1), .int .i64 (0), .int .i64 (0), .int .i64 (0), .slice none 0 0], .bool true]) (by simp [results, Tryz.results80, go_sem, r0, r1, r2, r3, r4]) rfl ⟨1, 0, 0, 0, by rw [HRR.out, ← HRN.out]; rfl, fun k u x y hh => ?_, HB1.out⟩
  rw [HRR.out, ← HRN.out] at hh
  injection hh with hh; injection hh with g0 hh; injection hh with g1 hh; injection hh with g2 g3
  exact ⟨g0, by subst g1; rfl, g2, g3⟩
 ·have hsb : (s.toList == [84, 104, 101, 32, 112, 114, 111, 106, 101, 99, 116, 32, 105, 115, 32, 119, 97, 110, 116, 101, 100]) = false := neL hsn
  rw [if_neg hsn] at hR
  have HP1 := hid (fun W => za5 s ⟨#[73, 116, 32, 119, 97, 115, 32, 97, 115, 107, 101, 100, 32, 111, 102, 32]⟩ W)
  have e1 : (⟨#[73, 116, 32, 119, 97, 115, 32, 97, 115, 107, 101, 100, 32, 111, 102, 32]⟩ : ByteArray).data.toList = askP := rfl
  rw [e1] at HP1
  have z1 := qs7 s askP
  obtain ⟨pa, pm, hp⟩ : ∃ pa pm, ahdB s askP = (pa, pm) := ⟨_, _, rfl⟩
  rw [hp] at HP1 hR z1
  dsimp only at HP1 hR z1
  clear e1 hp hsn
  obtain ⟨⟨f0, f1, f2, f3, f4⟩, ff⟩ := HBX.out.cells
  cases pm with
  | true =>
   obtain ⟨o, ho⟩ : ∃ o, qs5 us us.length pa = o := ⟨_, rfl⟩
   have HK := hid (zf6 ho)
   rw [if_pos rfl, ho] at hR
   have HRN := hid hR
   clear hR ho
   go_enter Tryz.func80, Tryz.ntmps80
   cases o with
   | none =>
    go_wp2_with (first
     | (go_at_call 78; rw [← HW0.out]; refine (HP1.out _).mono ?_; rintro e w2 ⟨rfl, rfl⟩)
     | (at_lookup; refine qb0 rfl _ _ rfl kStr Tryz.underlying89 Tryz.underlying9 (.int .i64 0) (qf2 _) b nm _ rfl HM0.out pa rfl ?_; rw [HK.out]))
    have HXF := hid (HBX.out.set5 4 0 0 0 (.slice none 0 0))
    obtain ⟨⟨r0, r1, r2, r3, r4⟩, -⟩ := HXF.out.cells
    refine bodyPost_ret (v := .tuple #[.agg #[.int .i64 (4), .int .i64 (0), .int .i64 (0), .int .i64 (0), .slice none 0 0], .bool false]) (by simp [results, Tryz.results80, go_sem, r0, r1, r2, r3, r4]) rfl ⟨4, 0, 0, 0, by rw [HRR.out, ← HRN.out]; rfl, fun k u x y hh => ?_, qq8 HB0.out (by omega) _ _ _ _ _⟩
    rw [HRR.out, ← HRN.out] at hh
    cases hh
   | some u =>
    go_wp2_with (first
     | (go_at_call 78; rw [← HW0.out]; refine (HP1.out _).mono ?_; rintro e w2 ⟨rfl, rfl⟩)
     | (at_lookup; refine qb0 rfl _ _ rfl kStr Tryz.underlying89 Tryz.underlying9 (.int .i64 0) (qf2 _) b nm _ rfl HM0.out pa rfl ?_; rw [HK.out]))
    have HXF := hid (HBX.out.set5 4 (u : Nat) 0 0 (.slice none 0 0))
    obtain ⟨⟨r0, r1, r2, r3, r4⟩, -⟩ := HXF.out.cells
    refine bodyPost_ret (v := .tuple #[.agg #[.int .i64 (4), .int .i64 ((u : Nat)), .int .i64 (0), .int .i64 (0), .slice none 0 0], .bool true]) (by simp [results, Tryz.results80, go_sem, r0, r1, r2, r3, r4]) rfl ⟨4, (u : Nat), 0, 0, by rw [HRR.out, ← HRN.out]; rfl, fun k u x y hh => ?_, qq8 HB0.out (by omega) _ _ _ _ _⟩
    rw [HRR.out, ← HRN.out] at hh
    injection hh with hh; injection hh with g0 hh; injection hh with g1 hh; injection hh with g2 g3
    exact ⟨g0, by subst g1; rfl, g2, g3⟩
  | false =>
   rw [if_neg Bool.false_ne_true] at hR
   have t1 := hid True.intro
   have HP2 := hid (fun W => za5 s ⟨#[66, 121, 32]⟩ W)
   have e1 : (⟨#[66, 121, 32]⟩ : ByteArray).data.toList = [66, 121, 32] := rfl
   rw [e1] at HP2
   have z2 := qs7 s [66, 121, 32]
   obtain ⟨qa, qm, hp⟩ : ∃ qa qm, ahdB s [66, 121, 32] = (qa, qm) := ⟨_, _, rfl⟩
   rw [hp] at HP2 hR z2
   dsimp only at HP2 hR z2
   clear e1 hp
   cases qm with
   | true =>
    rw [if_pos rfl] at hR
    unfold bothR at hR
    have z3 := qt2 qa [44, 32, 97, 115, 32, 116, 111, 32]
    have HC1 := hid (qv5 qa ⟨#[44, 32, 97, 115, 32, 116, 111, 32]⟩ w0 (by omega) HG0.out)
    have e1 : cutB qa (⟨#[44, 32, 97, 115, 32, 116, 111, 32]⟩ : ByteArray).data.toList = cutB qa [44, 32, 97, 115, 32, 116, 111, 32] := rfl
    rw [e1] at HC1
    obtain ⟨na, nb, nc, hp⟩ : ∃ na nb nc, cutB qa [44, 32, 97, 115, 32, 116, 111, 32] = (na, nb, nc) := ⟨_, _, _, rfl⟩
    rw [hp] at HC1 hR z3
    dsimp only at HC1 hR z3
    have z4 := qt2 na [32, 97, 110, 100, 32]
    have HC2 := hid (fun (W : World) (hb : Below w0.heap.size w0 W) => qv5 na ⟨#[32, 97, 110, 100, 32]⟩ W (by omega) (HG0.out.later hb))
    have e2 : cutB na (⟨#[32, 97, 110, 100, 32]⟩ : ByteArray).data.toList = cutB na [32, 97, 110, 100, 32] := rfl
    rw [e2] at HC2
    obtain ⟨xa, ya, yc, hp2⟩ : ∃ xa ya yc, cutB na [32, 97, 110, 100, 32] = (xa, ya, yc) := ⟨_, _, _, rfl⟩
    rw [hp2] at HC2 hR z4
    dsimp only at HC2 hR z4
    have t2 := hid True.intro
    have t3 := hid True.intro
    obtain ⟨o, ho⟩ : ∃ o, qs5 us us.length nb = o := ⟨_, rfl⟩
    have HK := hid (zf6 ho)
    rw [ho] at hR
    clear e1 e2 hp hp2 ho
    cases hxa : atoR xa with
    | none =>
     have HA1 := hid (fun (W : World) (hb : Below w0.heap.size w0 W) => zk0 xa W (by omega) (HG0.out.later hb) hxa)
     rw [hxa] at hR
     clear hxa
     cases hya : atoR ya with
     | none =>
      have HA2 := hid (fun (W : World) (hb : Below w0.heap.size w0 W) => zk0 ya W (by omega) (HG0.out.later hb) hya)
      rw [hya] at hR
      clear hya
      cases o with
      | none =>
        have HRN := hid hR
        clear hR
        go_enter Tryz.func80, Tryz.ntmps80
        go_wp2_with (first
         | (clear t1; go_at_call 78; rw [← HW0.out]; refine (HP1.out _).mono ?_; rintro e w2 ⟨rfl, rfl⟩)
         | (go_at_call 78; refine (HP2.out _).mono ?_; rintro e w3 ⟨rfl, rfl⟩)
         | (clear t2; go_at_call 40; refine HC1.out.mono ?_; rintro e w3 ⟨rfl, hb3⟩; have HB3 := hid hb3; clear hb3)
         | (go_at_call 40; refine (HC2.out _ HB3.out).mono ?_; rintro e w4 ⟨rfl, hb4⟩; have HB4 := hid (qa1 HB3.out hb4); clear hb4)
         | (clear t3; go_at_call 114; refine (HA1.out _ HB4.out).mono ?_; rintro e w5 ⟨v1, ti1, tp1, rfl, hb5⟩; obtain ⟨x1, hv1⟩ : ∃ x1, IntKind.i64.wrap (v1 - 1) = x1 := ⟨_, rfl⟩; have HB5 := hid (qa1 HB4.out hb5); clear hb5)
         | (go_at_call 114; refine (HA2.out _ HB5.out).mono ?_; rintro e w6 ⟨v2, ti2, tp2, rfl, hb6⟩; obtain ⟨x2, hv2⟩ : ∃ x2, IntKind.i64.wrap (v2 - 1) = x2 := ⟨_, rfl⟩; have HB6 := hid (qa1 HB5.out hb6); have HM6 := hid (HM0.out.below HB6.out hbz); have HX6 := hid (HBX.out.below HB6.out hz0); have d1 := cell_below HB6.out (by omega) c1; obtain ⟨⟨k0, k1, k2, k3, k4⟩, kf⟩ := HX6.out.cells; clear hb6)
         | (at_lookup; refine qb0 rfl _ _ rfl kStr Tryz.underlying89 Tryz.underlying9 (.int .i64 0) (qf2 _) b nm _ rfl HM6.out nb rfl ?_; rw [HK.out]))
        go_region
        go_wp2_with fail
        obtain ⟨wz, hwz⟩ : ∃ wz : World, wz = (((((w6.setCell ⟨w.heap.size + 1, 0, none⟩ (.int .i64 5)).setCell ⟨w.heap.size + 1, 1, none⟩ (.int .i64 0)).setCell ⟨w.heap.size + 1, 2, none⟩ (.int .i64 x1)).setCell ⟨w.heap.size + 1, 3, none⟩ (.int .i64 x2)).setCell ⟨w.heap.size + 1, 4, none⟩ (.slice none 0 0)).drew := ⟨_, rfl⟩
        have HXF : Hid (Box 49 wz (w.heap.size + 1) ⟨5, 0, x1, x2, []⟩ (.slice none 0 0)) := hid (by rw [hwz]; exact (HX6.out.set5 5 0 x1 x2 (.slice none 0 0)).drew)
        have HBZ : Hid (Below w.heap.size w wz) := hid (by rw [hwz]; exact qe6 (qq8 (qa1 HB0.out HB6.out) (by omega) _ _ _ _ _))
        rw [← hwz]
        clear hwz
        obtain ⟨⟨r0, r1, r2, r3, r4⟩, -⟩ := HXF.out.cells
        refine bodyPost_ret (v := .tuple #[.agg #[.int .i64 (5), .int .i64 (0), .int .i64 (x1), .int .i64 (x2), .slice none 0 0], .bool false]) (by simp only [results, Tryz.results80, go_sem]; try simp [go_sem, r0, r1, r2, r3, r4]) rfl ⟨5, 0, x1, x2, by rw [HRR.out, ← HRN.out]; rfl, fun k u x y hh => ?_, HBZ.out⟩
        rw [HRR.out, ← HRN.out] at hh
        cases hh
      | some u =>
        have HRN := hid hR
        clear hR
        go_enter Tryz.func80, Tryz.ntmps80
        go_wp2_with (first
         | (clear t1; go_at_call 78; rw [← HW0.out]; refine (HP1.out _).mono ?_; rintro e w2 ⟨rfl, rfl⟩)
         | (go_at_call 78; refine (HP2.out _).mono ?_; rintro e w3 ⟨rfl, rfl⟩)
         | (clear t2; go_at_call 40; refine HC1.out.mono ?_; rintro e w3 ⟨rfl, hb3⟩; have HB3 := hid hb3; clear hb3)
         | (go_at_call 40; refine (HC2.out _ HB3.out).mono ?_; rintro e w4 ⟨rfl, hb4⟩; have HB4 := hid (qa1 HB3.out hb4); clear hb4)
         | (clear t3; go_at_call 114; refine (HA1.out _ HB4.out).mono ?_; rintro e w5 ⟨v1, ti1, tp1, rfl, hb5⟩; obtain ⟨x1, hv1⟩ : ∃ x1, IntKind.i64.wrap (v1 - 1) = x1 := ⟨_, rfl⟩; have HB5 := hid (qa1 HB4.out hb5); clear hb5)
         | (go_at_call 114; refine (HA2.out _ HB5.out).mono ?_; rintro e w6 ⟨v2, ti2, tp2, rfl, hb6⟩; obtain ⟨x2, hv2⟩ : ∃ x2, IntKind.i64.wrap (v2 - 1) = x2 := ⟨_, rfl⟩; have HB6 := hid (qa1 HB5.out hb6); have HM6 := hid (HM0.out.below HB6.out hbz); have HX6 := hid (HBX.out.below HB6.out hz0); have d1 := cell_below HB6.out (by omega) c1; obtain ⟨⟨k0, k1, k2, k3, k4⟩, kf⟩ := HX6.out.cells; clear hb6)
         | (at_lookup; refine qb0 rfl _ _ rfl kStr Tryz.underlying89 Tryz.underlying9 (.int .i64 0) (qf2 _) b nm _ rfl HM6.out nb rfl ?_; rw [HK.out]))
        go_region
        go_wp2_with fail
        obtain ⟨wz, hwz⟩ : ∃ wz : World, wz = (((((w6.setCell ⟨w.heap.size + 1, 0, none⟩ (.int .i64 5)).setCell ⟨w.heap.size + 1, 1, none⟩ (.int .i64 (u : Nat))).setCell ⟨w.heap.size + 1, 2, none⟩ (.int .i64 x1)).setCell ⟨w.heap.size + 1, 3, none⟩ (.int .i64 x2)).setCell ⟨w.heap.size + 1, 4, none⟩ (.slice none 0 0)).drew := ⟨_, rfl⟩
        have HXF : Hid (Box 49 wz (w.heap.size + 1) ⟨5, (u : Nat), x1, x2, []⟩ (.slice none 0 0)) := hid (by rw [hwz]; exact (HX6.out.set5 5 (u : Nat) x1 x2 (.slice none 0 0)).drew)
        have HBZ : Hid (Below w.heap.size w wz) := hid (by rw [hwz]; exact qe6 (qq8 (qa1 HB0.out HB6.out) (by omega) _ _ _ _ _))
        rw [← hwz]
        clear hwz
        obtain ⟨⟨r0, r1, r2, r3, r4⟩, -⟩ := HXF.out.cells
        refine bodyPost_ret (v := .tuple #[.agg #[.int .i64 (5), .int .i64 ((u : Nat)), .int .i64 (x1), .int .i64 (x2), .slice none 0 0], .bool false]) (by simp only [results, Tryz.results80, go_sem]; try simp [go_sem, r0, r1, r2, r3, r4]) rfl ⟨5, (u : Nat), x1, x2, by rw [HRR.out, ← HRN.out]; rfl, fun k u x y hh => ?_, HBZ.out⟩
        rw [HRR.out, ← HRN.out] at hh
        cases hh
     | some B =>
      have HA2 := hid (fun (W : World) (hb : Below w0.heap.size w0 W) => zs3 ya W (by omega) (HG0.out.later hb) hya)
      rw [hya] at hR
      clear hya
      cases o with
      | none =>
        have HRN := hid hR
        clear hR
        go_enter Tryz.func80, Tryz.ntmps80
        go_wp2_with (first
         | (clear t1; go_at_call 78; rw [← HW0.out]; refine (HP1.out _).mono ?_; rintro e w2 ⟨rfl, rfl⟩)
         | (go_at_call 78; refine (HP2.out _).mono ?_; rintro e w3 ⟨rfl, rfl⟩)
         | (clear t2; go_at_call 40; refine HC1.out.mono ?_; rintro e w3 ⟨rfl, hb3⟩; have HB3 := hid hb3; clear hb3)
         | (go_at_call 40; refine (HC2.out _ HB3.out).mono ?_; rintro e w4 ⟨rfl, hb4⟩; have HB4 := hid (qa1 HB3.out hb4); clear hb4)
         | (clear t3; go_at_call 114; refine (HA1.out _ HB4.out).mono ?_; rintro e w5 ⟨v1, ti1, tp1, rfl, hb5⟩; obtain ⟨x1, hv1⟩ : ∃ x1, IntKind.i64.wrap (v1 - 1) = x1 := ⟨_, rfl⟩; have HB5 := hid (qa1 HB4.out hb5); clear hb5)
         | (go_at_call 114; refine (HA2.out _ HB5.out).mono ?_; rintro e w6 ⟨v2, rfl, hb6, hv2⟩; have HB6 := hid (qa1 HB5.out hb6); have HM6 := hid (HM0.out.below HB6.out hbz); have HX6 := hid (HBX.out.below HB6.out hz0); have d1 := cell_below HB6.out (by omega) c1; obtain ⟨⟨k0, k1, k2, k3, k4⟩, kf⟩ := HX6.out.cells; clear hb6)
         | (at_lookup; refine qb0 rfl _ _ rfl kStr Tryz.underlying89 Tryz.underlying9 (.int .i64 0) (qf2 _) b nm _ rfl HM6.out nb rfl ?_; rw [HK.out]))
        go_region
        go_wp2_with fail
        obtain ⟨wz, hwz⟩ : ∃ wz : World, wz = (((((w6.setCell ⟨w.heap.size + 1, 0, none⟩ (.int .i64 5)).setCell ⟨w.heap.size + 1, 1, none⟩ (.int .i64 0)).setCell ⟨w.heap.size + 1, 2, none⟩ (.int .i64 x1)).setCell ⟨w.heap.size + 1, 3, none⟩ (.int .i64 B)).setCell ⟨w.heap.size + 1, 4, none⟩ (.slice none 0 0)).drew := ⟨_, rfl⟩
        have HXF : Hid (Box 49 wz (w.heap.size + 1) ⟨5, 0, x1, B, []⟩ (.slice none 0 0)) := hid (by rw [hwz]; exact (HX6.out.set5 5 0 x1 B (.slice none 0 0)).drew)
        have HBZ : Hid (Below w.heap.size w wz) := hid (by rw [hwz]; exact qe6 (qq8 (qa1 HB0.out HB6.out) (by omega) _ _ _ _ _))
        rw [← hwz]
        clear hwz
        obtain ⟨⟨r0, r1, r2, r3, r4⟩, -⟩ := HXF.out.cells
        refine bodyPost_ret (v := .tuple #[.agg #[.int .i64 (5), .int .i64 (0), .int .i64 (x1), .int .i64 (B), .slice none 0 0], .bool false]) (by simp only [results, Tryz.results80, go_sem]; try simp [go_sem, r0, r1, r2, r3, r4]) rfl ⟨5, 0, x1, B, by rw [HRR.out, ← HRN.out]; rfl, fun k u x y hh => ?_, HBZ.out⟩
        rw [HRR.out, ← HRN.out] at hh
        cases hh
      | some u =>
        have HRN := hid hR
        clear hR
        go_enter Tryz.func80, Tryz.ntmps80
        go_wp2_with (first
         | (clear t1; go_at_call 78; rw [← HW0.out]; refine (HP1.out _).mono ?_; rintro e w2 ⟨rfl, rfl⟩)
         | (go_at_call 78; refine (HP2.out _).mono ?_; rintro e w3 ⟨rfl, rfl⟩)
         | (clear t2; go_at_call 40; refine HC1.out.mono ?_; rintro e w3 ⟨rfl, hb3⟩; have HB3 := hid hb3; clear hb3)
         | (go_at_call 40; refine (HC2.out _ HB3.out).mono ?_; rintro e w4 ⟨rfl, hb4⟩; have HB4 := hid (qa1 HB3.out hb4); clear hb4)
         | (clear t3; go_at_call 114; refine (HA1.out _ HB4.out).mono ?_; rintro e w5 ⟨v1, ti1, tp1, rfl, hb5⟩; obtain ⟨x1, hv1⟩ : ∃ x1, IntKind.i64.wrap (v1 - 1) = x1 := ⟨_, rfl⟩; have HB5 := hid (qa1 HB4.out hb5); clear hb5)
         | (go_at_call 114; refine (HA2.out _ HB5.out).mono ?_; rintro e w6 ⟨v2, rfl, hb6, hv2⟩; have HB6 := hid (qa1 HB5.out hb6); have HM6 := hid (HM0.out.below HB6.out hbz); have HX6 := hid (HBX.out.below HB6.out hz0); have d1 := cell_below HB6.out (by omega) c1; obtain ⟨⟨k0, k1, k2, k3, k4⟩, kf⟩ := HX6.out.cells; clear hb6)
         | (at_lookup; refine qb0 rfl _ _ rfl kStr Tryz.underlying89 Tryz.underlying9 (.int .i64 0) (qf2 _) b nm _ rfl HM6.out nb rfl ?_; rw [HK.out]))
        go_region
        go_wp2_with fail
        obtain ⟨wz, hwz⟩ : ∃ wz : World, wz = (((((w6.setCell ⟨w.heap.size + 1, 0, none⟩ (.int .i64 5)).setCell ⟨w.heap.size + 1, 1, none⟩ (.int .i64 (u : Nat))).setCell ⟨w.heap.size + 1, 2, none⟩ (.int .i64 x1)).setCell ⟨w.heap.size + 1, 3, none⟩ (.int .i64 B)).setCell ⟨w.heap.size + 1, 4, none⟩ (.slice none 0 0)).drew := ⟨_, rfl⟩
        have HXF : Hid (Box 49 wz (w.heap.size + 1) ⟨5, (u : Nat), x1, B, []⟩ (.slice none 0 0)) := hid (by rw [hwz]; exact (HX6.out.set5 5 (u : Nat) x1 B (.slice none 0 0)).drew)
        have HBZ : Hid (Below w.heap.size w wz) := hid (by rw [hwz]; exact qe6 (qq8 (qa1 HB0.out HB6.out) (by omega) _ _ _ _ _))
        rw [← hwz]
        clear hwz
        obtain ⟨⟨r0, r1, r2, r3, r4⟩, -⟩ := HXF.out.cells
        refine bodyPost_ret (v := .tuple #[.agg #[.int .i64 (5), .int .i64 ((u : Nat)), .int .i64 (x1), .int .i64 (B), .slice none 0 0], .bool false]) (by simp only [results, Tryz.results80, go_sem]; try simp [go_sem, r0, r1, r2, r3, r4]) rfl ⟨5, (u : Nat), x1, B, by rw [HRR.out, ← HRN.out]; rfl, fun k u x y hh => ?_, HBZ.out⟩
        rw [HRR.out, ← HRN.out] at hh
        cases hh
    | some A =>
     have HA1 := hid (fun (W : World) (hb : Below w0.heap.size w0 W) => zs3 xa W (by omega) (HG0.out.later hb) hxa)
     rw [hxa] at hR
     clear hxa
     cases hya : atoR ya with
     | none =>
      have HA2 := hid (fun (W : World) (hb : Below w0.heap.size w0 W) => zk0 ya W (by omega) (HG0.out.later hb) hya)
      rw [hya] at hR
      clear hya
      cases o with
      | none =>
        have HRN := hid hR
        clear hR
        go_enter Tryz.func80, Tryz.ntmps80
        go_wp2_with (first
         | (clear t1; go_at_call 78; rw [← HW0.out]; refine (HP1.out _).mono ?_; rintro e w2 ⟨rfl, rfl⟩)
         | (go_at_call 78; refine (HP2.out _).mono ?_; rintro e w3 ⟨rfl, rfl⟩)
         | (clear t2; go_at_call 40; refine HC1.out.mono ?_; rintro e w3 ⟨rfl, hb3⟩; have HB3 := hid hb3; clear hb3)
         | (go_at_call 40; refine (HC2.out _ HB3.out).mono ?_; rintro e w4 ⟨rfl, hb4⟩; have HB4 := hid (qa1 HB3.out hb4); clear hb4)
         | (clear t3; go_at_call 114; refine (HA1.out _ HB4.out).mono ?_; rintro e w5 ⟨v1, rfl, hb5, hv1⟩; have HB5 := hid (qa1 HB4.out hb5); clear hb5)
         | (go_at_call 114; refine (HA2.out _ HB5.out).mono ?_; rintro e w6 ⟨v2, ti2, tp2, rfl, hb6⟩; obtain ⟨x2, hv2⟩ : ∃ x2, IntKind.i64.wrap (v2 - 1) = x2 := ⟨_, rfl⟩; have HB6 := hid (qa1 HB5.out hb6); have HM6 := hid (HM0.out.below HB6.out hbz); have HX6 := hid (HBX.out.below HB6.out hz0); have d1 := cell_below HB6.out (by omega) c1; obtain ⟨⟨k0, k1, k2, k3, k4⟩, kf⟩ := HX6.out.cells; clear hb6)
         | (at_lookup; refine qb0 rfl _ _ rfl kStr Tryz.underlying89 Tryz.underlying9 (.int .i64 0) (qf2 _) b nm _ rfl HM6.out nb rfl ?_; rw [HK.out]))
        go_region
        go_wp2_with fail
        obtain ⟨wz, hwz⟩ : ∃ wz : World, wz = (((((w6.setCell ⟨w.heap.size + 1, 0, none⟩ (.int .i64 5)).setCell ⟨w.heap.size + 1, 1, none⟩ (.int .i64 0)).setCell ⟨w.heap.size + 1, 2, none⟩ (.int .i64 A)).setCell ⟨w.heap.size + 1, 3, none⟩ (.int .i64 x2)).setCell ⟨w.heap.size + 1, 4, none⟩ (.slice none 0 0)).drew := ⟨_, rfl⟩
        have HXF : Hid (Box 49 wz (w.heap.size + 1) ⟨5, 0, A, x2, []⟩ (.slice none 0 0)) := hid (by rw [hwz]; exact (HX6.out.set5 5 0 A x2 (.slice none 0 0)).drew)
        have HBZ : Hid (Below w.heap.size w wz) := hid (by rw [hwz]; exact qe6 (qq8 (qa1 HB0.out HB6.out) (by omega) _ _ _ _ _))
        rw [← hwz]
        clear hwz
        obtain ⟨⟨r0, r1, r2, r3, r4⟩, -⟩ := HXF.out.cells
        refine bodyPost_ret (v := .tuple #[.agg #[.int .i64 (5), .int .i64 (0), .int .i64 (A), .int .i64 (x2), .slice none 0 0], .bool false]) (by simp only [results, Tryz.results80, go_sem]; try simp [go_sem, r0, r1, r2, r3, r4]) rfl ⟨5, 0, A, x2, by rw [HRR.out, ← HRN.out]; rfl, fun k u x y hh => ?_, HBZ.out⟩
        rw [HRR.out, ← HRN.out] at hh
        cases hh
      | some u =>
        have HRN := hid hR
        clear hR
        go_enter Tryz.func80, Tryz.ntmps80
        go_wp2_with (first
         | (clear t1; go_at_call 78; rw [← HW0.out]; refine (HP1.out _).mono ?_; rintro e w2 ⟨rfl, rfl⟩)
         | (go_at_call 78; refine (HP2.out _).mono ?_; rintro e w3 ⟨rfl, rfl⟩)
         | (clear t2; go_at_call 40; refine HC1.out.mono ?_; rintro e w3 ⟨rfl, hb3⟩; have HB3 := hid hb3; clear hb3)
         | (go_at_call 40; refine (HC2.out _ HB3.out).mono ?_; rintro e w4 ⟨rfl, hb4⟩; have HB4 := hid (qa1 HB3.out hb4); clear hb4)
         | (clear t3; go_at_call 114; refine (HA1.out _ HB4.out).mono ?_; rintro e w5 ⟨v1, rfl, hb5, hv1⟩; have HB5 := hid (qa1 HB4.out hb5); clear hb5)
         | (go_at_call 114; refine (HA2.out _ HB5.out).mono ?_; rintro e w6 ⟨v2, ti2, tp2, rfl, hb6⟩; obtain ⟨x2, hv2⟩ : ∃ x2, IntKind.i64.wrap (v2 - 1) = x2 := ⟨_, rfl⟩; have HB6 := hid (qa1 HB5.out hb6); have HM6 := hid (HM0.out.below HB6.out hbz); have HX6 := hid (HBX.out.below HB6.out hz0); have d1 := cell_below HB6.out (by omega) c1; obtain ⟨⟨k0, k1, k2, k3, k4⟩, kf⟩ := HX6.out.cells; clear hb6)
         | (at_lookup; refine qb0 rfl _ _ rfl kStr Tryz.underlying89 Tryz.underlying9 (.int .i64 0) (qf2 _) b nm _ rfl HM6.out nb rfl ?_; rw [HK.out]))
        go_region
        go_wp2_with fail
        obtain ⟨wz, hwz⟩ : ∃ wz : World, wz = (((((w6.setCell ⟨w.heap.size + 1, 0, none⟩ (.int .i64 5)).setCell ⟨w.heap.size + 1, 1, none⟩ (.int .i64 (u : Nat))).setCell ⟨w.heap.size + 1, 2, none⟩ (.int .i64 A)).setCell ⟨w.heap.size + 1, 3, none⟩ (.int .i64 x2)).setCell ⟨w.heap.size + 1, 4, none⟩ (.slice none 0 0)).drew := ⟨_, rfl⟩
        have HXF : Hid (Box 49 wz (w.heap.size + 1) ⟨5, (u : Nat), A, x2, []⟩ (.slice none 0 0)) := hid (by rw [hwz]; exact (HX6.out.set5 5 (u : Nat) A x2 (.slice none 0 0)).drew)
        have HBZ : Hid (Below w.heap.size w wz) := hid (by rw [hwz]; exact qe6 (qq8 (qa1 HB0.out HB6.out) (by omega) _ _ _ _ _))
        rw [← hwz]
        clear hwz
        obtain ⟨⟨r0, r1, r2, r3, r4⟩, -⟩ := HXF.out.cells
        refine bodyPost_ret (v := .tuple #[.agg #[.int .i64 (5), .int .i64 ((u : Nat)), .int .i64 (A), .int .i64 (x2), .slice none 0 0], .bool false]) (by simp only [results, Tryz.results80, go_sem]; try simp [go_sem, r0, r1, r2, r3, r4]) rfl ⟨5, (u : Nat), A, x2, by rw [HRR.out, ← HRN.out]; rfl, fun k u x y hh => ?_, HBZ.out⟩
        rw [HRR.out, ← HRN.out] at hh
        cases hh
     | some B =>
      have HA2 := hid (fun (W : World) (hb : Below w0.heap.size w0 W) => zs3 ya W (by omega) (HG0.out.later hb) hya)
      rw [hya] at hR
      clear hya
      cases o with
      | none =>
        have HRN := hid hR
        clear hR
        go_enter Tryz.func80, Tryz.ntmps80
        go_wp2_with (first
         | (clear t1; go_at_call 78; rw [← HW0.out]; refine (HP1.out _).mono ?_; rintro e w2 ⟨rfl, rfl⟩)
         | (go_at_call 78; refine (HP2.out _).mono ?_; rintro e w3 ⟨rfl, rfl⟩)
         | (clear t2; go_at_call 40; refine HC1.out.mono ?_; rintro e w3 ⟨rfl, hb3⟩; have HB3 := hid hb3; clear hb3)
         | (go_at_call 40; refine (HC2.out _ HB3.out).mono ?_; rintro e w4 ⟨rfl, hb4⟩; have HB4 := hid (qa1 HB3.out hb4); clear hb4)
         | (clear t3; go_at_call 114; refine (HA1.out _ HB4.out).mono ?_; rintro e w5 ⟨v1, rfl, hb5, hv1⟩; have HB5 := hid (qa1 HB4.out hb5); clear hb5)
         | (go_at_call 114; refine (HA2.out _ HB5.out).mono ?_; rintro e w6 ⟨v2, rfl, hb6, hv2⟩; have HB6 := hid (qa1 HB5.out hb6); have HM6 := hid (HM0.out.below HB6.out hbz); have HX6 := hid (HBX.out.below HB6.out hz0); have d1 := cell_below HB6.out (by omega) c1; obtain ⟨⟨k0, k1, k2, k3, k4⟩, kf⟩ := HX6.out.cells; clear hb6)
         | (at_lookup; refine qb0 rfl _ _ rfl kStr Tryz.underlying89 Tryz.underlying9 (.int .i64 0) (qf2 _) b nm _ rfl HM6.out nb rfl ?_; rw [HK.out]))
        go_region
        go_wp2_with fail
        obtain ⟨wz, hwz⟩ : ∃ wz : World, wz = (((((w6.setCell ⟨w.heap.size + 1, 0, none⟩ (.int .i64 5)).setCell ⟨w.heap.size + 1, 1, none⟩ (.int .i64 0)).setCell ⟨w.heap.size + 1, 2, none⟩ (.int .i64 A)).setCell ⟨w.heap.size + 1, 3, none⟩ (.int .i64 B)).setCell ⟨w.heap.size + 1, 4, none⟩ (.slice none 0 0)).drew := ⟨_, rfl⟩
        have HXF : Hid (Box 49 wz (w.heap.size + 1) ⟨5, 0, A, B, []⟩ (.slice none 0 0)) := hid (by rw [hwz]; exact (HX6.out.set5 5 0 A B (.slice none 0 0)).drew)
        have HBZ : Hid (Below w.heap.size w wz) := hid (by rw [hwz]; exact qe6 (qq8 (qa1 HB0.out HB6.out) (by omega) _ _ _ _ _))
        rw [← hwz]
        clear hwz
        obtain ⟨⟨r0, r1, r2, r3, r4⟩, -⟩ := HXF.out.cells
        refine bodyPost_ret (v := .tuple #[.agg #[.int .i64 (5), .int .i64 (0), .int .i64 (A), .int .i64 (B), .slice none 0 0], .bool false]) (by simp only [results, Tryz.results80, go_sem]; try simp [go_sem, r0, r1, r2, r3, r4]) rfl ⟨5, 0, A, B, by rw [HRR.out, ← HRN.out]; rfl, fun k u x y hh => ?_, HBZ.out⟩
        rw [HRR.out, ← HRN.out] at hh
        cases hh
      | some u =>
        have HRN := hid hR
        clear hR
        go_enter Tryz.func80, Tryz.ntmps80
        go_wp2_with (first
         | (clear t1; go_at_call 78; rw [← HW0.out]; refine (HP1.out _).mono ?_; rintro e w2 ⟨rfl, rfl⟩)
         | (go_at_call 78; refine (HP2.out _).mono ?_; rintro e w3 ⟨rfl, rfl⟩)
         | (clear t2; go_at_call 40; refine HC1.out.mono ?_; rintro e w3 ⟨rfl, hb3⟩; have HB3 := hid hb3; clear hb3)
         | (go_at_call 40; refine (HC2.out _ HB3.out).mono ?_; rintro e w4 ⟨rfl, hb4⟩; have HB4 := hid (qa1 HB3.out hb4); clear hb4)
         | (clear t3; go_at_call 114; refine (HA1.out _ HB4.out).mono ?_; rintro e w5 ⟨v1, rfl, hb5, hv1⟩; have HB5 := hid (qa1 HB4.out hb5); clear hb5)
         | (go_at_call 114; refine (HA2.out _ HB5.out).mono ?_; rintro e w6 ⟨v2, rfl, hb6, hv2⟩; have HB6 := hid (qa1 HB5.out hb6); have HM6 := hid (HM0.out.below HB6.out hbz); have HX6 := hid (HBX.out.below HB6.out hz0); have d1 := cell_below HB6.out (by omega) c1; obtain ⟨⟨k0, k1, k2, k3, k4⟩, kf⟩ := HX6.out.cells; clear hb6)
         | (at_lookup; refine qb0 rfl _ _ rfl kStr Tryz.underlying89 Tryz.underlying9 (.int .i64 0) (qf2 _) b nm _ rfl HM6.out nb rfl ?_; rw [HK.out]))
        go_region
        go_wp2_with fail
        obtain ⟨wz, hwz⟩ : ∃ wz : World, wz = (((((w6.setCell ⟨w.heap.size + 1, 0, none⟩ (.int .i64 5)).setCell ⟨w.heap.size + 1, 1, none⟩ (.int .i64 (u : Nat))).setCell ⟨w.heap.size + 1, 2, none⟩ (.int .i64 A)).setCell ⟨w.heap.size + 1, 3, none⟩ (.int .i64 B)).setCell ⟨w.heap.size + 1, 4, none⟩ (.slice none 0 0)).drew := ⟨_, rfl⟩
        have HXF : Hid (Box 49 wz (w.heap.size + 1) ⟨5, (u : Nat), A, B, []⟩ (.slice none 0 0)) := hid (by rw [hwz]; exact (HX6.out.set5 5 (u : Nat) A B (.slice none 0 0)).drew)
        have HBZ : Hid (Below w.heap.size w wz) := hid (by rw [hwz]; exact qe6 (qq8 (qa1 HB0.out HB6.out) (by omega) _ _ _ _ _))
        rw [← hwz]
        clear hwz
        obtain ⟨⟨r0, r1, r2, r3, r4⟩, -⟩ := HXF.out.cells
        refine bodyPost_ret (v := .tuple #[.agg #[.int .i64 (5), .int .i64 ((u : Nat)), .int .i64 (A), .int .i64 (B), .slice none 0 0], .bool true]) (by simp only [results, Tryz.results80, go_sem]; try simp [go_sem, r0, r1, r2, r3, r4]) rfl ⟨5, (u : Nat), A, B, by rw [HRR.out, ← HRN.out]; rfl, fun k u x y hh => ?_, HBZ.out⟩
        rw [HRR.out, ← HRN.out] at hh
        injection hh with hh; injection hh with g0 hh; injection hh with g1 hh; injection hh with g2 g3
        exact ⟨g0, by subst g1; rfl, g2, g3⟩
   | false =>
    rw [if_neg Bool.false_ne_true] at hR
    have z3 := zo5 s
    have HNM := hid (zo2 (us := us) (.slice sA sn sc) b nm s w0 HM0.out rfl HG0.out hs)
    have HS1 := hid (fun W => shas_any (qp1 s) ⟨#[32, 110, 101, 101, 100, 115]⟩ W (by omega))
    have HS2 := hid (fun W => shas_any (qp1 s) ⟨#[32, 98, 97, 114, 115]⟩ W (by omega))
    have e1 : (⟨#[32, 110, 101, 101, 100, 115]⟩ : ByteArray).data.toList = [32, 110, 101, 101, 100, 115] := rfl
    have e2 : (⟨#[32, 98, 97, 114, 115]⟩ : ByteArray).data.toList = [32, 98, 97, 114, 115] := rfl
    rw [e1] at HS1
    rw [e2] at HS2
    obtain ⟨n1, hn1⟩ : ∃ n1, (sufB (qp1 s) [32, 110, 101, 101, 100, 115]).2 = n1 := ⟨_, rfl⟩
    obtain ⟨n2, hn2⟩ : ∃ n2, (sufB (qp1 s) [32, 98, 97, 114, 115]).2 = n2 := ⟨_, rfl⟩
    rw [hn1] at HS1 hR
    rw [hn2] at HS2 hR
    generalize qp1 s = rs at *
    clear hn1 hn2 e1 e2
    have t2 := hid True.intro
    obtain ⟨us1, hus⟩ : ∃ us1, ((qs5 us us.length (wordR s)).getD 0) = us1 := ⟨_, rfl⟩
    have HUS := hid hus
    rw [hus] at HNM
    clear hus
    cases hnm : zc5 us s with
    | none =>
     rw [hnm] at HNM hR
     clear hnm
     cases n1 with
     | true =>
      have HRN := hid hR
      clear hR
      go_enter Tryz.func80, Tryz.ntmps80
      go_wp2_with (first
       | (clear t1; go_at_call 78; rw [← HW0.out]; refine (HP1.out _).mono ?_; rintro e w2 ⟨rfl, rfl⟩)
       | (go_at_call 78; refine (HP2.out _).mono ?_; rintro e w3 ⟨rfl, rfl⟩)
       | (go_at_call 115; refine HNM.out.mono ?_; rintro e w6 ⟨rfl, hb6⟩; have HB6 := hid hb6; have HX6 := hid (HBX.out.below HB6.out hz0); obtain ⟨⟨k0, k1, k2, k3, k4⟩, kf⟩ := HX6.out.cells; clear hb6)
       | (clear t2; go_at_call 116; refine (HS1.out _).mono ?_; rintro e w7 ⟨rfl, hw7⟩; have hw8 := hw7.symm; subst hw8)
       | (go_at_call 116; refine (HS2.out _).mono ?_; rintro e w8 ⟨rfl, hw9⟩; have hw10 := hw9.symm; subst hw10))
      obtain ⟨wz, hwz⟩ : ∃ wz : World, wz = ((((w6.setCell ⟨w.heap.size + 1, 0, none⟩ (.int .i64 2)).setCell ⟨w.heap.size + 1, 1, none⟩ (.int .i64 (us1 : Nat))).setCell ⟨w.heap.size + 1, 2, none⟩ (.int .i64 0)).setCell ⟨w.heap.size + 1, 3, none⟩ (.int .i64 0)).setCell ⟨w.heap.size + 1, 4, none⟩ (.slice none 0 0) := ⟨_, rfl⟩
      have HXF : Hid (Box 49 wz (w.heap.size + 1) ⟨2, (us1 : Nat), 0, 0, []⟩ (.slice none 0 0)) := hid (by rw [hwz]; exact HX6.out.set5 2 (us1 : Nat) 0 0 (.slice none 0 0))
      have HBZ : Hid (Below w.heap.size w wz) := hid (by rw [hwz]; exact qq8 (qa1 HB0.out HB6.out) (by omega) _ _ _ _ _)
      rw [← hwz]
      clear hwz
      obtain ⟨⟨r0, r1, r2, r3, r4⟩, -⟩ := HXF.out.cells
      refine bodyPost_ret (v := .tuple #[.agg #[.int .i64 (2), .int .i64 ((us1 : Nat)), .int .i64 (0), .int .i64 (0), .slice none 0 0], .bool false]) (by simp only [results, Tryz.results80, go_sem]; try simp [go_sem, r0, r1, r2, r3, r4]) rfl ⟨2, (us1 : Nat), 0, 0, by rw [HRR.out, ← HRN.out]; rfl, fun k u x y hh => ?_, HBZ.out⟩
      rw [HRR.out, ← HRN.out] at hh
      cases hh
     | false =>
      cases n2 with
      | true =>
       have HRN := hid hR
       clear hR
       go_enter Tryz.func80, Tryz.ntmps80
       go_wp2_with (first
        | (clear t1; go_at_call 78; rw [← HW0.out]; refine (HP1.out _).mono ?_; rintro e w2 ⟨rfl, rfl⟩)
        | (go_at_call 78; refine (HP2.out _).mono ?_; rintro e w3 ⟨rfl, rfl⟩)
        | (go_at_call 115; refine HNM.out.mono ?_; rintro e w6 ⟨rfl, hb6⟩; have HB6 := hid hb6; have HX6 := hid (HBX.out.below HB6.out hz0); obtain ⟨⟨k0, k1, k2, k3, k4⟩, kf⟩ := HX6.out.cells; clear hb6)
        | (clear t2; go_at_call 116; refine (HS1.out _).mono ?_; rintro e w7 ⟨rfl, hw7⟩; have hw8 := hw7.symm; subst hw8)
        | (go_at_call 116; refine (HS2.out _).mono ?_; rintro e w8 ⟨rfl, hw9⟩; have hw10 := hw9.symm; subst hw10))
       obtain ⟨wz, hwz⟩ : ∃ wz : World, wz = ((((w6.setCell ⟨w.heap.size + 1, 0, none⟩ (.int .i64 3)).setCell ⟨w.heap.size + 1, 1, none⟩ (.int .i64 (us1 : Nat))).setCell ⟨w.heap.size + 1, 2, none⟩ (.int .i64 0)).setCell ⟨w.heap.size + 1, 3, none⟩ (.int .i64 0)).setCell ⟨w.heap.size + 1, 4, none⟩ (.slice none 0 0) := ⟨_, rfl⟩
       have HXF : Hid (Box 49 wz (w.heap.size + 1) ⟨3, (us1 : Nat), 0, 0, []⟩ (.slice none 0 0)) := hid (by rw [hwz]; exact HX6.out.set5 3 (us1 : Nat) 0 0 (.slice none 0 0))
       have HBZ : Hid (Below w.heap.size w wz) := hid (by rw [hwz]; exact qq8 (qa1 HB0.out HB6.out) (by omega) _ _ _ _ _)
       rw [← hwz]
       clear hwz
       obtain ⟨⟨r0, r1, r2, r3, r4⟩, -⟩ := HXF.out.cells
       refine bodyPost_ret (v := .tuple #[.agg #[.int .i64 (3), .int .i64 ((us1 : Nat)), .int .i64 (0), .int .i64 (0), .slice none 0 0], .bool false]) (by simp only [results, Tryz.results80, go_sem]; try simp [go_sem, r0, r1, r2, r3, r4]) rfl ⟨3, (us1 : Nat), 0, 0, by rw [HRR.out, ← HRN.out]; rfl, fun k u x y hh => ?_, HBZ.out⟩
       rw [HRR.out, ← HRN.out] at hh
       cases hh
      | false =>
       have HRN := hid hR
       clear hR
       go_enter Tryz.func80, Tryz.ntmps80
       go_wp2_with (first
        | (clear t1; go_at_call 78; rw [← HW0.out]; refine (HP1.out _).mono ?_; rintro e w2 ⟨rfl, rfl⟩)
        | (go_at_call 78; refine (HP2.out _).mono ?_; rintro e w3 ⟨rfl, rfl⟩)
        | (go_at_call 115; refine HNM.out.mono ?_; rintro e w6 ⟨rfl, hb6⟩; have HB6 := hid hb6; have HX6 := hid (HBX.out.below HB6.out hz0); obtain ⟨⟨k0, k1, k2, k3, k4⟩, kf⟩ := HX6.out.cells; clear hb6)
        | (clear t2; go_at_call 116; refine (HS1.out _).mono ?_; rintro e w7 ⟨rfl, hw7⟩; have hw8 := hw7.symm; subst hw8)
        | (go_at_call 116; refine (HS2.out _).mono ?_; rintro e w8 ⟨rfl, hw9⟩; have hw10 := hw9.symm; subst hw10))
       obtain ⟨wz, hwz⟩ : ∃ wz : World, wz = ((((w6.setCell ⟨w.heap.size + 1, 0, none⟩ (.int .i64 3)).setCell ⟨w.heap.size + 1, 1, none⟩ (.int .i64 (us1 : Nat))).setCell ⟨w.heap.size + 1, 2, none⟩ (.int .i64 0)).setCell ⟨w.heap.size + 1, 3, none⟩ (.int .i64 0)).setCell ⟨w.heap.size + 1, 4, none⟩ (.slice none 0 0) := ⟨_, rfl⟩
       have HXF : Hid (Box 49 wz (w.heap.size + 1) ⟨3, (us1 : Nat), 0, 0, []⟩ (.slice none 0 0)) := hid (by rw [hwz]; exact HX6.out.set5 3 (us1 : Nat) 0 0 (.slice none 0 0))
       have HBZ : Hid (Below w.heap.size w wz) := hid (by rw [hwz]; exact qq8 (qa1 HB0.out HB6.out) (by omega) _ _ _ _ _)
       rw [← hwz]
       clear hwz
       obtain ⟨⟨r0, r1, r2, r3, r4⟩, -⟩ := HXF.out.cells
       refine bodyPost_ret (v := .tuple #[.agg #[.int .i64 (3), .int .i64 ((us1 : Nat)), .int .i64 (0), .int .i64 (0), .slice none 0 0], .bool false]) (by simp only [results, Tryz.results80, go_sem]; try simp [go_sem, r0, r1, r2, r3, r4]) rfl ⟨3, (us1 : Nat), 0, 0, by rw [HRR.out, ← HRN.out]; rfl, fun k u x y hh => ?_, HBZ.out⟩
       rw [HRR.out, ← HRN.out] at hh
       cases hh
    | some u =>
     rw [hnm] at HNM hR
     have husu : us1 = u := by
      have h1 := HUS.out
      rw [(zf0 hnm).2] at h1
      exact h1.symm
     rw [husu] at HNM
     clear HUS husu us1
     clear hnm
     cases n1 with
     | true =>
      have HRN := hid hR
      clear hR
      go_enter Tryz.func80, Tryz.ntmps80
      go_wp2_with (first
       | (clear t1; go_at_call 78; rw [← HW0.out]; refine (HP1.out _).mono ?_; rintro e w2 ⟨rfl, rfl⟩)
       | (go_at_call 78; refine (HP2.out _).mono ?_; rintro e w3 ⟨rfl, rfl⟩)
       | (go_at_call 115; refine HNM.out.mono ?_; rintro e w6 ⟨rfl, hb6⟩; have HB6 := hid hb6; have HX6 := hid (HBX.out.below HB6.out hz0); obtain ⟨⟨k0, k1, k2, k3, k4⟩, kf⟩ := HX6.out.cells; clear hb6)
       | (clear t2; go_at_call 116; refine (HS1.out _).mono ?_; rintro e w7 ⟨rfl, hw7⟩; have hw8 := hw7.symm; subst hw8)
       | (go_at_call 116; refine (HS2.out _).mono ?_; rintro e w8 ⟨rfl, hw9⟩; have hw10 := hw9.symm; subst hw10))
      obtain ⟨wz, hwz⟩ : ∃ wz : World, wz = ((((w6.setCell ⟨w.heap.size + 1, 0, none⟩ (.int .i64 2)).setCell ⟨w.heap.size + 1, 1, none⟩ (.int .i64 (u : Nat))).setCell ⟨w.heap.size + 1, 2, none⟩ (.int .i64 0)).setCell ⟨w.heap.size + 1, 3, none⟩ (.int .i64 0)).setCell ⟨w.heap.size + 1, 4, none⟩ (.slice none 0 0) := ⟨_, rfl⟩
      have HXF : Hid (Box 49 wz (w.heap.size + 1) ⟨2, (u : Nat), 0, 0, []⟩ (.slice none 0 0)) := hid (by rw [hwz]; exact HX6.out.set5 2 (u : Nat) 0 0 (.slice none 0 0))
      have HBZ : Hid (Below w.heap.size w wz) := hid (by rw [hwz]; exact qq8 (qa1 HB0.out HB6.out) (by omega) _ _ _ _ _)
      rw [← hwz]
      clear hwz
      obtain ⟨⟨r0, r1, r2, r3, r4⟩, -⟩ := HXF.out.cells
      refine bodyPost_ret (v := .tuple #[.agg #[.int .i64 (2), .int .i64 ((u : Nat)), .int .i64 (0), .int .i64 (0), .slice none 0 0], .bool true]) (by simp only [results, Tryz.results80, go_sem]; try simp [go_sem, r0, r1, r2, r3, r4]) rfl ⟨2, (u : Nat), 0, 0, by rw [HRR.out, ← HRN.out]; rfl, fun k u x y hh => ?_, HBZ.out⟩
      rw [HRR.out, ← HRN.out] at hh
      injection hh with hh; injection hh with g0 hh; injection hh with g1 hh; injection hh with g2 g3
      exact ⟨g0, by subst g1; rfl, g2, g3⟩
     | false =>
      cases n2 with
      | true =>
       have HRN := hid hR
       clear hR
       go_enter Tryz.func80, Tryz.ntmps80
       go_wp2_with (first
        | (clear t1; go_at_call 78; rw [← HW0.out]; refine (HP1.out _).mono ?_; rintro e w2 ⟨rfl, rfl⟩)
        | (go_at_call 78; refine (HP2.out _).mono ?_; rintro e w3 ⟨rfl, rfl⟩)
        | (go_at_call 115; refine HNM.out.mono ?_; rintro e w6 ⟨rfl, hb6⟩; have HB6 := hid hb6; have HX6 := hid (HBX.out.below HB6.out hz0); obtain ⟨⟨k0, k1, k2, k3, k4⟩, kf⟩ := HX6.out.cells; clear hb6)
        | (clear t2; go_at_call 116; refine (HS1.out _).mono ?_; rintro e w7 ⟨rfl, hw7⟩; have hw8 := hw7.symm; subst hw8)
        | (go_at_call 116; refine (HS2.out _).mono ?_; rintro e w8 ⟨rfl, hw9⟩; have hw10 := hw9.symm; subst hw10))
       obtain ⟨wz, hwz⟩ : ∃ wz : World, wz = ((((w6.setCell ⟨w.heap.size + 1, 0, none⟩ (.int .i64 3)).setCell ⟨w.heap.size + 1, 1, none⟩ (.int .i64 (u : Nat))).setCell ⟨w.heap.size + 1, 2, none⟩ (.int .i64 0)).setCell ⟨w.heap.size + 1, 3, none⟩ (.int .i64 0)).setCell ⟨w.heap.size + 1, 4, none⟩ (.slice none 0 0) := ⟨_, rfl⟩
       have HXF : Hid (Box 49 wz (w.heap.size + 1) ⟨3, (u : Nat), 0, 0, []⟩ (.slice none 0 0)) := hid (by rw [hwz]; exact HX6.out.set5 3 (u : Nat) 0 0 (.slice none 0 0))
       have HBZ : Hid (Below w.heap.size w wz) := hid (by rw [hwz]; exact qq8 (qa1 HB0.out HB6.out) (by omega) _ _ _ _ _)
       rw [← hwz]
       clear hwz
       obtain ⟨⟨r0, r1, r2, r3, r4⟩, -⟩ := HXF.out.cells
       refine bodyPost_ret (v := .tuple #[.agg #[.int .i64 (3), .int .i64 ((u : Nat)), .int .i64 (0), .int .i64 (0), .slice none 0 0], .bool true]) (by simp only [results, Tryz.results80, go_sem]; try simp [go_sem, r0, r1, r2, r3, r4]) rfl ⟨3, (u : Nat), 0, 0, by rw [HRR.out, ← HRN.out]; rfl, fun k u x y hh => ?_, HBZ.out⟩
       rw [HRR.out, ← HRN.out] at hh
       injection hh with hh; injection hh with g0 hh; injection hh with g1 hh; injection hh with g2 g3
       exact ⟨g0, by subst g1; rfl, g2, g3⟩
      | false =>
       have HRN := hid hR
       clear hR
       go_enter Tryz.func80, Tryz.ntmps80
       go_wp2_with (first
        | (clear t1; go_at_call 78; rw [← HW0.out]; refine (HP1.out _).mono ?_; rintro e w2 ⟨rfl, rfl⟩)
        | (go_at_call 78; refine (HP2.out _).mono ?_; rintro e w3 ⟨rfl, rfl⟩)
        | (go_at_call 115; refine HNM.out.mono ?_; rintro e w6 ⟨rfl, hb6⟩; have HB6 := hid hb6; have HX6 := hid (HBX.out.below HB6.out hz0); obtain ⟨⟨k0, k1, k2, k3, k4⟩, kf⟩ := HX6.out.cells; clear hb6)
        | (clear t2; go_at_call 116; refine (HS1.out _).mono ?_; rintro e w7 ⟨rfl, hw7⟩; have hw8 := hw7.symm; subst hw8)
        | (go_at_call 116; refine (HS2.out _).mono ?_; rintro e w8 ⟨rfl, hw9⟩; have hw10 := hw9.symm; subst hw10))
       obtain ⟨wz, hwz⟩ : ∃ wz : World, wz = ((((w6.setCell ⟨w.heap.size + 1, 0, none⟩ (.int .i64 3)).setCell ⟨w.heap.size + 1, 1, none⟩ (.int .i64 (u : Nat))).setCell ⟨w.heap.size + 1, 2, none⟩ (.int .i64 0)).setCell ⟨w.heap.size + 1, 3, none⟩ (.int .i64 0)).setCell ⟨w.heap.size + 1, 4, none⟩ (.slice none 0 0) := ⟨_, rfl⟩
       have HXF : Hid (Box 49 wz (w.heap.size + 1) ⟨3, (u : Nat), 0, 0, []⟩ (.slice none 0 0)) := hid (by rw [hwz]; exact HX6.out.set5 3 (u : Nat) 0 0 (.slice none 0 0))
       have HBZ : Hid (Below w.heap.size w wz) := hid (by rw [hwz]; exact qq8 (qa1 HB0.out HB6.out) (by omega) _ _ _ _ _)
       rw [← hwz]
       clear hwz
       obtain ⟨⟨r0, r1, r2, r3, r4⟩, -⟩ := HXF.out.cells
       refine bodyPost_ret (v := .tuple #[.agg #[.int .i64 (3), .int .i64 ((u : Nat)), .int .i64 (0), .int .i64 (0), .slice none 0 0], .bool false]) (by simp only [results, Tryz.results80, go_sem]; try simp [go_sem, r0, r1, r2, r3, r4]) rfl ⟨3, (u : Nat), 0, 0, by rw [HRR.out, ← HRN.out]; rfl, fun k u x y hh => ?_, HBZ.out⟩
       rw [HRR.out, ← HRN.out] at hh
       cases hh
end
end Go.Proofs.YtbfbppjccbppiaaGreatDoor
