import Derived.Test.YtbfbppjccbppiaaGreatDoorzA6
import Derived.Deep.RegionHeld3
import Derived.Outline
namespace Go.Proofs.YtbfbppjccbppiaaGreatDoor
open Go Go.RowKit
section
theorem za3 : (Tryz.prog.info? 49).map (fun i => (i.zero, i.size, i.bytes)) = some (some (.agg #[.int .i64 0, .int .i64 0, .int .i64 0, .int .i64 0, .slice none 0 0]), 5, 56) := by kernel_rfl
theorem or_nat {a b : Nat} (ha : a ≤ 31) (hb : b ≤ 31) : bits .or .i64 (a : Int) (b : Int) = ((a ||| b : Nat) : Int) := by
 have h := zi8 ha hb
 have := bor (a : Int) (b : Int) (by rw [ql1 (by omega), ql1 (by omega)]; omega)
 rwa [ql1 (by omega), ql1 (by omega)] at this
def PutRows (ns : List Nat) (B : Nat) (rv0 : Value) (rows : List RowN) (w : World) (e : Ending) (w' : World) : Prop :=
 ∃ rv xs, e = .returned rv ∧ OwnT (qw1 ns) 49 w' B rv rows xs ∧ w.grownBy w' rv0.ownBlock ∧ ∀ k, rv.ownBlock = some k → rv0.ownBlock = some k ∨ w.heap.size ≤ k
set_option maxRecDepth 100000 in
set_option maxHeartbeats 8000000 in
theorem put23_any (v rv tv : Value) (ns : List Nat) (rows : List RowN) (r : RowN) (xs : List Value) (B : Nat) (w : World) (h : qi7 w (Lt B) v ns) (ho : NsOk ns) (hB : B ≤ w.heap.size) (hrows : OwnT (qw1 ns) 49 w B rv rows xs) (hall : ∀ x ∈ rows, x.Ok ns) (hlen : rows.length ≤ 900) (htv : SliceRd qg1 w (fun b => B ≤ b ∧ b < w.heap.size ∧ rv.ownBlock ≠ some b) tv (canon ns r.M)) (hr : r.Ok ns) (hk1 : r.kind ≠ 1) :
  Calls Tryz.prog 83 #[v, rv, .agg #[.int .i64 r.kind, .int .i64 r.u, .int .i64 0, .int .i64 0, tv]] w (PutRows ns B rv (putN ns rows r) w) := by
 obtain ⟨it, hit⟩ := info_parts qk7
 have HIT := hid hit
 obtain ⟨ir, hir⟩ := info_parts za3
 have HIR := hid hir
 have hul : r.u < ns.length := hr.u
 have h11 := ho.hi
 have hrk := hr.kind
 have HO := hid ho
 have HALL := hid hall
 have HR := hid hr
 have HROWS := hid hrows
 have hwW : qi7 w (Lt w.heap.size) v ns := h.more fun _ hb => Nat.lt_of_lt_of_le hb hB
 have HW := hid hwW
 have HTV := hid (htv.more (F' := Lt w.heap.size) fun _ hb => hb.2.1)
 have HTVF := hid htv
 obtain ⟨g0, cap0, rfl, hg0, -⟩ := h
 obtain ⟨A, c, hrv, -⟩ := hrows.rows
 subst hrv
 obtain ⟨At, ct, htve, -⟩ := htv.terms
 generalize (canon ns r.M).length = tl at htve
 subst htve
 obtain ⟨n, hn⟩ : ∃ n, rows.length = n := ⟨_, rfl⟩
 have HN := hid hn
 rw [hn] at hlen HROWS HTVF ⊢
 have HMISS := hid (fun h => put_miss (ns := ns) (rows := rows) (r := r) h)
 have HHIT := hid (fun k (hlt : k < rows.length) h1 h2 => put_hit (ns := ns) (r := r) hlt h1 h2)
 obtain ⟨kr, ur, Mr⟩ := r
 dsimp only at hul hrk hk1 ⊢
 have HMr31 := hid (HR.out.inc.le ho ur hul)
 clear hit hir ho hall hr hrows hwW htv hn
 go_enter Tryz.func83, Tryz.ntmps83
 go_wp2_with fail
 obtain ⟨w0, hw0⟩ : ∃ w0 : World, w0 = (w.alloc (.cells #[.slice (some ⟨g0, 0, none⟩) ns.length cap0] 26)).alloc (.cells #[.int .i64 kr, .int .i64 ur, .int .i64 0, .int .i64 0, .slice At tl ct] 49) := ⟨_, rfl⟩
 have hb0 : Below w.heap.size w w0 := hw0 ▸ qa0 (qa0 (b0 w) _) _
 have hz0 : w.heap.size + 1 < w0.heap.size := by rw [hw0]; simp
 have q0 : w0.cell? ⟨w.heap.size, 0, none⟩ = some (.slice (some ⟨g0, 0, none⟩) ns.length cap0) := by rw [hw0]; exact qf0 rfl
 have r0 : w0.cell? ⟨w.heap.size + 1, 0, none⟩ = some (.int .i64 kr) := by rw [hw0]; exact qa7 rfl
 have r1 : w0.cell? ⟨w.heap.size + 1, 1, none⟩ = some (.int .i64 ur) := by rw [hw0]; exact qa7 rfl
 have r2 : w0.cell? ⟨w.heap.size + 1, 2, none⟩ = some (.int .i64 0) := by rw [hw0]; exact qa7 rfl
 have r3 : w0.cell? ⟨w.heap.size + 1, 3, none⟩ = some (.int .i64 0) := by rw [hw0]; exact qa7 rfl
 have r4 : w0.cell? ⟨w.heap.size + 1, 4, none⟩ = some (.slice At tl ct) := by rw [hw0]; exact qa7 rfl
 have HB0 := hid hb0
 rw [← hw0]
 clear hw0 hb0
 go_loopw [7] (fun iv wr => ∃ k : Nat, k ≤ n ∧ iv = .int .i64 k ∧ Hid (Below w0.heap.size w0 wr) ∧ Hid (∀ i, (h : i < rows.length) → i < k → qt4 ns rows[i] ⟨kr, ur, Mr⟩ = false)) (fun iv _ => n - (intOf iv).toNat)
 case atStart => exact ⟨0, Nat.zero_le _, rfl, hid (b0 w0), hid (fun i _ hi => absurd hi (by omega))⟩
 case round =>
  obtain ⟨k, hk, rfl, hb, hno⟩ := hrel
  have hbw := HB0.out.trans (hb.out.mono HB0.out.size)
  have HBW := hid hbw
  have hzr := Nat.lt_of_lt_of_le hz0 hb.out.size
  have p0 := cell_below hb.out hz0 r0
  have p1 := cell_below hb.out hz0 r1
  have p2 := cell_below hb.out hz0 r2
  have p3 := cell_below hb.out hz0 r3
  have p4 := cell_below hb.out hz0 r4
  have pq := cell_below hb.out (by omega) q0
  by_cases hlt : k < n
  ·have i0 : (0 : Int) ≤ ↑k := by omega
   have i1 : (↑k : Int) < ↑n := by omega
   obtain ⟨A', c', hv', hel⟩ := (HROWS.out.later hbw).rows
   obtain ⟨g, tvx, hA, hOB, hgB, hgs, hfz, c0, c1, c2, c3, c4, hsx⟩ := hel k (by rw [HN.out]; exact hlt)
   injection hv' with hv1 hv2 hv3
   clear hv2 hv3
   subst hv1
   subst hA
   have hgw : g < w.heap.size := (HROWS.out.own.lt g hOB).2
   have HXOK := hid (HALL.out _ (List.getElem_mem (show k < rows.length by rw [HN.out]; exact hlt)))
   have HSX := hid (hsx.more (F' := Lt wr.heap.size) fun _ hb => hb.2.1)
   obtain ⟨Ax, cx, htx, -⟩ := hsx.terms
   have HHK := hid (HHIT.out k (by rw [HN.out]; exact hlt) hno.out)
   generalize (canon ns (rows[k]'(by rw [HN.out]; exact hlt)).M).length = tlx at htx
   subst htx
   obtain ⟨x, hx⟩ : ∃ x, rows[k]'(by rw [HN.out]; exact hlt) = x := ⟨_, rfl⟩
   have HX := hid hx
   rw [hx] at c0 c1 HSX HXOK HHK
   obtain ⟨kx, ux, Mx⟩ := x
   dsimp only at c0 c1 HSX
   clear hel hsx hx
   go_wp2_with fail
   obtain ⟨wa, hwa⟩ : ∃ wa : World, wa = wr.alloc (.cells #[.int .i64 kx, .int .i64 ux, .int .i64 0, .int .i64 0, .slice Ax tlx cx] 49) := ⟨_, rfl⟩
   have hba : Below wr.heap.size wr wa := hwa ▸ qa0 (b0 wr) _
   have hza : wr.heap.size < wa.heap.size := by rw [hwa]; simp
   have z0 : wa.cell? ⟨wr.heap.size, 0, none⟩ = some (.int .i64 kx) := by rw [hwa, qa6]; rfl
   have z1 : wa.cell? ⟨wr.heap.size, 1, none⟩ = some (.int .i64 ux) := by rw [hwa, qa6]; rfl
   have z4 : wa.cell? ⟨wr.heap.size, 4, none⟩ = some (.slice Ax tlx cx) := by rw [hwa, qa6]; rfl
   have s0 := cell_below hba hzr p0
   have s1 := cell_below hba hzr p1
   have s4 := cell_below hba hzr p4
   have sq := cell_below hba (by omega) pq
   have hbaw := hbw.trans (hba.mono hbw.size)
   have HBA := hid hbaw
   have HBA0 := hid (hb.out.trans (hba.mono hb.out.size))
   have hzra := Nat.lt_of_lt_of_le hzr hba.size
   rw [← hwa]
   clear hwa c0 c1 c2 c3
   by_cases e1 : kx = kr
   ·by_cases e2 : ux = ur
    ·have e1' := e1.symm
     subst e1'
     have e2' := e2.symm
     subst e2'
     have y1 : (kr == kr) = true := beq_self_eq_true _
     have y2 : ((ur : Int) == (ur : Int)) = true := beq_self_eq_true _
     clear e1 e2
     obtain ⟨b1, hb1⟩ : ∃ b1, butL (canon ns Mx) (ur : Int) = b1 := ⟨_, rfl⟩
     obtain ⟨b2, hb2⟩ : ∃ b2, butL (canon ns Mr) (ur : Int) = b2 := ⟨_, rfl⟩
     obtain ⟨bb, hbb⟩ : ∃ bb, decide (b1 = b2) = bb := ⟨_, rfl⟩
     have HBX := hid hbb
     have HLK := hid (show qt4 ns ⟨kr, ur, Mx⟩ ⟨kr, ur, Mr⟩ = bb by unfold qt4; dsimp only; rw [hb1, hb2, hbb]; simp)
     have hlx := zg4 (ns := ns) Mx
     have hlr := zg4 (ns := ns) Mr
     have HSXA := hid (HSX.out.lift hba hba.size)
     have HTVA := hid (HTV.out.lift hbaw hbaw.size)
     have HBT1 := hid (fun (W : World) (hb : Below wa.heap.size wa W) => zs1 (.slice Ax tlx cx) (canon ns Mx) ur W (HSXA.out.lift hb hb.size) (by omega))
     have HBT2 := hid (fun (W : World) (hb : Below wa.heap.size wa W) => zs1 (.slice At tl ct) (canon ns Mr) ur W (HTVA.out.lift hb hb.size) (by omega))
     rw [hb1] at HBT1
     rw [hb2] at HBT2
     have HB1E := hid hb1
     have t1 := hid True.intro
     have t2 := hid True.intro
     clear hb1 hb2 hbb hba hbaw
     go_wp2_with fail
     go_region_held3 (fun w' => w'.cell? ⟨wr.heap.size, 0, none⟩ = some (.int .i64 kr) ∧ w'.cell? ⟨wr.heap.size, 1, none⟩ = some (.int .i64 ur) ∧ w'.cell? ⟨wr.heap.size, 4, none⟩ = some (.slice Ax tlx cx) ∧ w'.cell? ⟨w.heap.size + 1, 0, none⟩ = some (.int .i64 kr) ∧ w'.cell? ⟨w.heap.size + 1, 1, none⟩ = some (.int .i64 ur) ∧ w'.cell? ⟨w.heap.size + 1, 4, none⟩ = some (.slice At tl ct)) (first | exact ⟨by assumption, by assumption, by assumption, by assumption, by assumption, by assumption⟩ | go_keep) (first
      | (clear t1; go_at_call 120; refine (HBT1.out _ (b0 wa).drew).mono ?_; rintro e w3 ⟨v3, rfl, ho3, hb3⟩; have HB3 := hid ((b0 wa).drew.trans (hb3.mono (Nat.le_refl _))); have HO3 := hid ho3; have f0 := cell_below HB3.out hza z0; have f1 := cell_below HB3.out hza z1; have f2 := cell_below HB3.out hza z4; have f3 := cell_below HB3.out hzra s0; have f4 := cell_below HB3.out hzra s1; have f5 := cell_below HB3.out hzra s4; have f6 := cell_below HB3.out (by omega) sq; clear ho3 hb3)
      | (clear t2; go_at_call 120; refine (HBT2.out _ HB3.out).mono ?_; rintro e w4 ⟨v4, rfl, ho4, hb4⟩; have HB4 := hid (qa1 HB3.out hb4); have HO4 := hid ho4; have HO34 := hid (HO3.out.below hb4 (Nat.le_refl _)); have h0 := cell_below HB4.out hza z0; have h1 := cell_below HB4.out hza z1; have h2 := cell_below HB4.out hza z4; have h3 := cell_below HB4.out hzra s0; have h4 := cell_below HB4.out hzra s1; have h5 := cell_below HB4.out hzra s4; have h6 := cell_below HB4.out (by omega) sq; clear ho4 hb4)
      | (go_at_call 76; refine (za4 v3 v4 b1 b2 w4 HO34.out.rd HO4.out.rd).mono ?_; rintro e w5 ⟨rfl, hb5⟩; rw [HBX.out]; have HB5 := hid (qa1 HB4.out hb5); have k0 := cell_below HB5.out hza z0; have k1 := cell_below HB5.out hza z1; have k2 := cell_below HB5.out hza z4; have k3 := cell_below HB5.out hzra s0; have k4 := cell_below HB5.out hzra s1; have k5 := cell_below HB5.out hzra s4; have k6 := cell_below HB5.out (by omega) sq; clear hb5))
     have HBW5 := hid (qa1 HBA.out HB5.out)
     cases bb with
     | false =>
      go_wp2
      exact ⟨⟨k + 1, by omega, by go_num, hid (HBA0.out.trans (HB5.out.mono HBA0.out.size)), hid (fun i hi hik => if e : i = k then by subst e; rw [HX.out]; exact HLK.out else hno.out i hi (by omega))⟩, by simp [intOf]; omega⟩
     | true =>
      have hzx5 := Nat.lt_of_lt_of_le hza HB5.out.size
      have hzr5 := Nat.lt_of_lt_of_le hzra HB5.out.size
      have hzq5 : w.heap.size < w5.heap.size := by omega
      have HSX5 := hid (HSXA.out.lift HB5.out HB5.out.size)
      have HTV5 := hid (HTVA.out.lift HB5.out HB5.out.size)
      have hMx31 : Mx ur ≤ 31 := HXOK.out.inc.le HO.out ur hul
      have hMr31 : Mr ur ≤ 31 := HMr31.out
      have hor := or_nat hMx31 hMr31
      have hor31 := zi8 hMx31 hMr31
      have HI6 := hid (show I64 (ur : Int) from ⟨by omega, by omega⟩)
      have HMK1 := hid (fun (W : World) (hb : Below w5.heap.size w5 W) => qn6 (.agg #[.slice (some ⟨g0, 0, none⟩) ns.length cap0]) (.slice Ax tlx cx) ns (canon ns Mx) ur W (qc0 HW.out (qa1 HBW5.out hb)) HO.out (HSX5.out.lift hb hb.size) HI6.out)
      have HMK2 := hid (fun (W : World) (hb : Below w5.heap.size w5 W) => qn6 (.agg #[.slice (some ⟨g0, 0, none⟩) ns.length cap0]) (.slice At tl ct) ns (canon ns Mr) ur W (qc0 HW.out (qa1 HBW5.out hb)) HO.out (HTV5.out.lift hb hb.size) HI6.out)
      rw [mask_of hul] at HMK1 HMK2
      have HBT3 := hid (fun (W : World) (hb : Below w5.heap.size w5 W) => zs1 (.slice Ax tlx cx) (canon ns Mx) ur W (HSX5.out.lift hb hb.size) (by omega))
      rw [HB1E.out] at HBT3
      have HFUL : Hid (Mx ur ||| Mr ur ≠ qb8 ns ur) := hid (by
       intro e
       have h1 := HXOK.out.bit (by show kr ≠ 1; exact hk1)
       have h2 := HR.out.bit (by show kr ≠ 1; exact hk1)
       have h3 := full_bit0 (ns := ns) hul
       have h4 : (Mx ur).testBit 0 = false := h1
       have h5 : (Mr ur).testBit 0 = false := h2
       rw [← e, Nat.testBit_or, h4, h5] at h3
       cases h3)
      have HSRT := hid (sort_both (ns := ns) Mx (u := ur) (n := 48) (by omega) hul HFUL.out)
      rw [HB1E.out] at HSRT
      have hb1l : b1.length ≤ 11 := by rw [← HB1E.out]; exact Nat.le_trans (List.length_filter_le _ _) (by omega)
      obtain ⟨om, hom⟩ : ∃ om, Mx ur ||| Mr ur = om := ⟨_, rfl⟩
      have HOM := hid hom
      rw [hom] at hor hor31 HSRT
      have HOKT := hid (show qd9.ok ⟨(ur : Int), (om : Int)⟩ from ⟨HI6.out, qg9 hor31⟩)
      obtain ⟨ma, hma⟩ : ∃ ma, Mx ur = ma := ⟨_, rfl⟩
      obtain ⟨mb, hmb⟩ : ∃ mb, Mr ur = mb := ⟨_, rfl⟩
      rw [hma] at HMK1 hor
      rw [hmb] at HMK2 hor
      have t3 := hid True.intro
      have t4 := hid True.intro
      clear hom hma hmb hMx31 hMr31 f0 f1 f2 f3 f4 f5 f6 h0 h1 h2 h3 h4 h5 h6 z0 z1 z4 s0 s1 s4 sq
      go_wp2_with fail
      go_region_held3 (fun w' => w'.cell? ⟨wr.heap.size, 4, none⟩ = some (.slice Ax tlx cx) ∧ w'.cell? ⟨w.heap.size + 1, 1, none⟩ = some (.int .i64 ur) ∧ w'.cell? ⟨w.heap.size + 1, 4, none⟩ = some (.slice At tl ct) ∧ w'.cell? ⟨w.heap.size, 0, none⟩ = some (.slice (some ⟨g0, 0, none⟩) ns.length cap0)) (first | exact ⟨by assumption, by assumption, by assumption, by assumption⟩ | go_keep) (first
       | (clear t3; go_at_call 87; refine (HMK1.out _ (b0 w5).drew).mono ?_; rintro e w6 ⟨rfl, hb6⟩; have HB6 := hid ((b0 w5).drew.trans (hb6.mono (Nat.le_refl _))); have j0 := cell_below HB6.out hzx5 k2; have j1 := cell_below HB6.out hzr5 k4; have j2 := cell_below HB6.out hzr5 k5; have j3 := cell_below HB6.out hzq5 k6; clear hb6)
       | (clear t4; go_at_call 87; refine (HMK2.out _ HB6.out).mono ?_; rintro e w7 ⟨rfl, hb7⟩; have HB7 := hid (qa1 HB6.out hb7); have m0 := cell_below HB7.out hzx5 k2; have m1 := cell_below HB7.out hzr5 k4; have m2 := cell_below HB7.out hzr5 k5; have m3 := cell_below HB7.out hzq5 k6; have hzx7 := Nat.lt_of_lt_of_le hzx5 HB7.out.size; have hzr7 := Nat.lt_of_lt_of_le hzr5 HB7.out.size; have hzq7 := Nat.lt_of_lt_of_le hzq5 HB7.out.size; have HON := hid (zj1 (f := qd9) (e := 66) (w := w7) (l := [⟨(ur : Int), (om : Int)⟩]) (cs := #[.int .i64 ur, .int .i64 om]) rfl (fun x hx => by rw [List.mem_singleton.1 hx]; exact HOKT.out) (by simp [maxLen])); clear hb7)
       | (go_at_call 120; refine (HBT3.out _ (qa0 HB7.out _)).mono ?_; rintro e w8 ⟨v8, rfl, ho8, hb8⟩; obtain ⟨A8, c8, hv8⟩ := ho8.form; subst hv8; have HB78 := hid (qa1 (qa0 (b0 w7) _) hb8); have HO8 := hid ho8; have HON8 := hid (HON.out.below hb8 (Nat.le_refl _)); have o0 := cell_below HB78.out hzx7 m0; have o1 := cell_below HB78.out hzr7 m1; have o2 := cell_below HB78.out hzr7 m2; have o3 := cell_below HB78.out hzq7 m3; clear ho8 hb8)
       | (go_at_call 120; refine (HBT3.out _ HB7.out).mono ?_; rintro e w8 ⟨v8, rfl, ho8, hb8⟩; obtain ⟨A8, c8, hv8⟩ := ho8.form; subst hv8; have HB78 := hid hb8; have HB88 := hid hb8; have HO8 := hid ho8; have HON8 := hid ((zj1 (f := qd9) (e := 66) (w := w8) (l := [⟨(ur : Int), (om : Int)⟩]) (cs := #[.int .i64 ur, .int .i64 om]) rfl (fun x hx => by rw [List.mem_singleton.1 hx]; exact HOKT.out) (by simp [maxLen])).mono hb8.size); have o0 := cell_below HB78.out hzx7 m0; have o1 := cell_below HB78.out hzr7 m1; have o2 := cell_below HB78.out hzr7 m2; have o3 := cell_below HB78.out hzq7 m3; clear ho8 hb8)
       | (refine qc9 (.tmp 61) (.tmp 66) 47 rfl ?_; refine qa9 _ rfl (.tmp 61) (.tmp 66) 47 rfl w7.heap.size 66 it _ 2 16 Tryz.underlying47 HIT.out.1 HIT.out.2.1 HIT.out.2.2.1 HIT.out.2.2.2 rfl (by omega) (.slice (some ⟨w7.heap.size, 0, none⟩) 1 1) 1 (qd9.all [⟨(ur : Int), (om : Int)⟩]) (by rfl) (by exact HON8.out.1) A8 b1.length c8 (qd9.all b1) (by rfl) (by exact (HO8.out.rd.srcF (f := qd9)).2.1) (qd9.all_one _) (by unfold maxLen; omega) (by omega) (HB78.out.size) ?_; intro v9 w9 hown9 hg9 hat9; have HB79 := hid (ql6 (v2 := v9) HB78.out HON8.out HB78.out.size hg9 rfl); have HO9 := hid (show OwnF qd9 66 w7.heap.size w9 v9 ([⟨(ur : Int), (om : Int)⟩] ++ b1) from ⟨by rw [qd9.all_append, List.length_append]; exact hown9, fun x hx => (List.mem_append.1 hx).elim (HON8.out.2 x) (HO8.out.2 x)⟩); have pp0 := cell_below HB79.out hzx7 m0; have pp1 := cell_below HB79.out hzr7 m1; have pp2 := cell_below HB79.out hzr7 m2; have pp3 := cell_below HB79.out hzq7 m3; clear hown9 hg9 hat9)
       | (refine qc9 (.tmp 61) (.tmp 66) 47 rfl ?_; refine qa9 _ rfl (.tmp 61) (.tmp 66) 47 rfl w7.heap.size 66 it _ 2 16 Tryz.underlying47 HIT.out.1 HIT.out.2.1 HIT.out.2.2.1 HIT.out.2.2.2 rfl (by omega) (.slice (some ⟨w8.heap.size, 0, none⟩) 1 1) 1 (qd9.all [⟨(ur : Int), (om : Int)⟩]) (by rfl) (by exact HON8.out.1) A8 b1.length c8 (qd9.all b1) (by rfl) (by exact ((HO8.out.alloc _).rd.srcF (f := qd9)).2.1) (qd9.all_one _) (by unfold maxLen; omega) (by omega) (by have := HB78.out.size; simp; omega) ?_; intro v9 w9 hown9 hg9 hat9; have HB79 := hid (ql6 (v2 := v9) (HB78.out.alloc HB78.out.size _) HON8.out (by have := HB78.out.size; simp; omega) hg9 rfl); have HO9 := hid (show OwnF qd9 66 w7.heap.size w9 v9 ([⟨(ur : Int), (om : Int)⟩] ++ b1) from ⟨by rw [qd9.all_append, List.length_append]; exact hown9, fun x hx => (List.mem_append.1 hx).elim (HON8.out.2 x) (HO8.out.2 x)⟩); have pp0 := cell_below HB79.out hzx7 m0; have pp1 := cell_below HB79.out hzr7 m1; have pp2 := cell_below HB79.out hzr7 m2; have pp3 := cell_below HB79.out hzq7 m3; clear hown9 hg9 hat9))
      all_goals
       have HBW9 := hid (qa1 (qa1 HBW5.out HB7.out) (HB79.out))
       have hs9 := HB79.out.size
       have hl9 : ([(⟨(ur : Int), (om : Int)⟩ : Term)] ++ b1).length ≤ 1000 := by rw [List.length_append, List.length_singleton]; omega
       have HSO := hid (rsorted_any v9 _ w9 HO9.out.rd hl9)
       have HEQ : Hid (qm9 ([(⟨(ur : Int), (om : Int)⟩ : Term)] ++ b1) 48 = canon ns (bothN ⟨kr, ur, Mx⟩ ⟨kr, ur, Mr⟩).M) := hid (by
        show qm9 (⟨(ur : Int), (om : Int)⟩ :: b1) 48 = _
        rw [HSRT.out]
        refine canon_congr fun v _ => ?_
        show (if v = ur then om else Mx v) = (if v = ur then Mx v ||| Mr v else Mx v)
        by_cases e : v = ur
        ·subst e; rw [if_pos rfl, if_pos rfl, HOM.out]
        ·rw [if_neg e, if_neg e])
       rw [HEQ.out] at HSO
       clear hl9
       go_wp2_with (go_at_call 121; go_must (refine HSO.out.mono ?_; rintro e wz ⟨vz, rfl, hoz, hbz⟩; obtain ⟨Av, cv, hvv⟩ := hoz.form; subst hvv; have HOZ := hid hoz; have HBWZ := hid (qa1 HBW9.out hbz); have hsz9 := hbz.size; have HRZ := hid (HROWS.out.later (qa1 HBW9.out hbz)); obtain ⟨Az, cz, hvz, helz⟩ := HRZ.out.rows; obtain ⟨gz, tz, hAz, hOBz, -, -, hfzz, -, -, -, -, cz4, -⟩ := helz k (by rw [HN.out]; exact hlt); have hgz : g = gz := Option.some.inj (hOB.symm.trans hOBz); subst hgz; clear hoz hbz hvz helz hAz hOBz))
       go_ret
       refine ⟨.slice (some ⟨g, 0, none⟩) n c, xs.set (k * 5 + 4) (.slice Av (canon ns (bothN ⟨kr, ur, Mx⟩ ⟨kr, ur, Mr⟩).M).length cv), rfl, ?_, ?_, fun k' hk' => .inl hk'⟩
       rotate_left
       ·exact qo1 (qd5 (zb9 w _) HBWZ.out (Nat.le_refl _)) grownBy_set
       rw [HHK.out HLK.out]
       refine HRZ.out.setTerms hOB (by rw [HN.out]; exact hlt) _ _ (by rw [HX.out]; rfl) (by rw [HX.out]; rfl) ?_
       exact qf8 (f := qd9) HOZ.out.1 HOZ.out.2 fun b hb => ⟨by have := (HOZ.out.lt b hb).1; have := HBW9.out.size; omega, (HOZ.out.lt b hb).2, fun e => by have h1 := (HOZ.out.lt b hb).1; have h2 := HBW9.out.size; have h3 : g = b := Option.some.inj (hOB.symm.trans e); omega⟩
    ·have y1 : (kx == kr) = true := by rw [beq_iff_eq]; exact e1
     have y2 : ((ux : Int) == (ur : Int)) = false := beq_eq_false_iff_ne.2 (by omega)
     have HNL := hid (show qt4 ns ⟨kx, ux, Mx⟩ ⟨kr, ur, Mr⟩ = false by unfold qt4; dsimp only; rw [decide_eq_false e2]; simp)
     have l0 := qa2 hza z0
     have l1 := qa2 hza z1
     have l2 := qa2 hzra s0
     have l3 := qa2 hzra s1
     clear e1 e2
     go_wp2_with fail
     (refine qa3 (by kernel_rfl) (by kernel_rfl) ?_; (repeat (go_big_quiet_step ((fail)))); refine wpQuiet_nil ?_; rintro _ ⟨⟨w8, hb8⟩, rfl⟩)
     rename_i w8
     go_wp2
     exact ⟨⟨k + 1, by omega, by go_num, hid (HBA0.out.trans (hb8.mono HBA0.out.size)), hid (fun i hi hik => if e : i = k then by subst e; rw [HX.out]; exact HNL.out else hno.out i hi (by omega))⟩, by simp [intOf]; omega⟩
   ·have y1 : (kx == kr) = false := beq_eq_false_iff_ne.2 e1
    have HNL := hid (show qt4 ns ⟨kx, ux, Mx⟩ ⟨kr, ur, Mr⟩ = false by unfold qt4; dsimp only; rw [decide_eq_false e1]; rfl)
    have l0 := qa2 hza z0
    have l2 := qa2 hzra s0
    clear e1
    go_wp2_with fail
    (refine qa3 (by kernel_rfl) (by kernel_rfl) ?_; (repeat (go_big_quiet_step ((fail)))); refine wpQuiet_nil ?_; rintro _ ⟨⟨w8, hb8⟩, rfl⟩)
    rename_i w8
    go_wp2
    exact ⟨⟨k + 1, by omega, by go_num, hid (HBA0.out.trans (hb8.mono HBA0.out.size)), hid (fun i hi hik => if e : i = k then by subst e; rw [HX.out]; exact HNL.out else hno.out i hi (by omega))⟩, by simp [intOf]; omega⟩
  ·have hkn : k = n := by omega
   subst hkn
   have HPM := hid (HMISS.out fun i hi => hno.out i hi (by rw [HN.out] at hi; exact hi))
   have hrl := HROWS.out.later hbw
   have HRL := hid hrl
   have hTF : SliceRd qg1 wr (fun b => B ≤ b ∧ b < wr.heap.size ∧ (Value.slice A k c).ownBlock ≠ some b) (.slice At tl ct) (canon ns Mr) := (HTVF.out.keep (qn2.of_below hbw fun _ h => h.2.1)).more fun _ h => ⟨h.1, Nat.lt_of_lt_of_le h.2.1 hbw.size, h.2.2⟩
   have HTF := hid hTF
   have hBr : B ≤ wr.heap.size := Nat.le_trans hB hbw.size
   clear hrl hTF hlt
   go_wp2_with (at_builtin; go_must (refine qa5 _ rfl (.tmp 75) (.tmp 77) _ rfl B 49 ir _ 5 56 Tryz.underlying28 HIR.out.1 HIR.out.2.1 HIR.out.2.2.1 HIR.out.2.2.2 rfl (by omega) (.slice A k c) k xs (by rfl) (by have h5 := fun o => (HRL.out.later (qa0 (b0 wr) o)).own; rw [HN.out] at h5; exact h5 _) (some ⟨wr.heap.size, 0, none⟩) 1 1 [.int .i64 kr, .int .i64 ur, .int .i64 0, .int .i64 0, .slice At tl ct] (by rfl) (by exact qe1 _ _ rfl 5 _ rfl rfl) (by simp [Value.oneCell']) (by unfold maxLen; omega) (by omega) (by simp; omega) ?_; intro v5 w5 hown5 hg5 hat5; have HR5 := hid (OwnT.snoc (x := (⟨kr, ur, Mr⟩ : RowN)) (cs := [.int .i64 kr, .int .i64 ur, .int .i64 0, .int .i64 0, .slice At tl ct]) (HRL.out.later (qa0 (b0 wr) _)) rfl ⟨_, rfl, (HTF.out.keep (qn2.of_below (qa0 (b0 wr) _) fun _ h => h.2.1)).more fun _ h => ⟨h.1, by simp; omega, h.2.2⟩⟩ (by rw [HN.out]; exact hown5) hg5 hat5); have HG5 := hid (qo1 (qd5 (zb9 w _) (qa1 HBW.out (qa0 (b0 wr) _)) (Nat.le_refl _)) hg5); have HA5 := hid (show ∀ k', v5.ownBlock = some k' → (Value.slice A k c).ownBlock = some k' ∨ w.heap.size ≤ k' from fun k' hk' => hat5.elim (fun e => .inl (e.symm.trans hk')) (fun e => .inr (by have h6 := e.symm.trans hk'; have h7 := Option.some.inj h6; have h8 := HBW.out.size; rw [← h7]; simp; omega))); clear hown5 hg5 hat5))
   go_ret
   exact ⟨_, _, rfl, by rw [HPM.out]; exact HR5.out, HG5.out, HA5.out⟩
end
section
def qm5 (ns : List Nat) (B : Nat) (w0 : World) (wr : World) (rv : Value) (rows : List RowN) : Prop :=
 (∃ xs, OwnT (qw1 ns) 49 wr B rv rows xs) ∧ Below B w0 wr
theorem qm5.later {ns : List Nat} {B : Nat} {w0 wr w1 : World} {rv : Value} {rows : List RowN} (h : qm5 ns B w0 wr rv rows) (hB : B ≤ wr.heap.size) (hb : Below wr.heap.size wr w1) : qm5 ns B w0 w1 rv rows := by
 obtain ⟨⟨xs, h1⟩, h2⟩ := h
 exact ⟨⟨xs, h1.later hb⟩, h2.trans (hb.mono hB)⟩
theorem qm5.put {ns : List Nat} {B : Nat} {w0 wr w1 : World} {rv rv1 : Value} {rows rows1 : List RowN} {xs1 : List Value} (h : qm5 ns B w0 wr rv rows) (hB : B ≤ wr.heap.size) (h1 : OwnT (qw1 ns) 49 w1 B rv1 rows1 xs1) (hg : wr.grownBy w1 rv.ownBlock) : qm5 ns B w0 w1 rv1 rows1 := by
 obtain ⟨⟨xs, h0⟩, h2⟩ := h
 exact ⟨⟨xs1, h1⟩, h2.grown hg hB fun k hk => (h0.own.lt k hk).1⟩
theorem zq4 {wr w1 : World} {rv : Value} (hg : wr.grownBy w1 rv.ownBlock) {g o : Nat} {x : Value} (hne : rv.ownBlock ≠ some g) (hc : wr.cell? ⟨g, o, none⟩ = some x) : w1.cell? ⟨g, o, none⟩ = some x :=
 hg.cell hc (by intro e; exact hne e.symm)
theorem zo0 {wr _w1 : World} {rv rv1 : Value} {g : Nat} (hg : g < wr.heap.size) (hne : rv.ownBlock ≠ some g) (h : ∀ k, rv1.ownBlock = some k → rv.ownBlock = some k ∨ wr.heap.size ≤ k) : rv1.ownBlock ≠ some g := by
 intro e
 rcases h g e with h1 | h1
 ·exact hne h1
 ·omega
theorem rows_start {us : List UnitW} {w : World} (ho : UnitsOk us) (h0 : (nsOf us).head? = some 1) : qm5 (nsOf us) w.heap.size w ((w.alloc (.cells #[.int .i64 0, .int .i64 1] 66)).alloc (.cells #[.int .i64 1, .int .i64 0, .int .i64 0, .int .i64 0, .slice (some ⟨w.heap.size, 0, none⟩) 1 1] 49)) (.slice (some ⟨w.heap.size + 1, 0, none⟩) 1 1) (qo0 us 0) := by
 have hr := (root_ok ho.ns h0).2
 have hn := zj1 (f := qd9) (e := 66) (w := w) (l := [⟨0, 1⟩]) (cs := #[.int .i64 0, .int .i64 1]) rfl (fun x hx => by rw [List.mem_singleton.1 hx]; exact ⟨⟨by decide, by decide⟩, ⟨by decide, by decide⟩⟩) (by simp [maxLen])
 have hs : SliceRd qg1 (w.alloc (.cells #[.int .i64 0, .int .i64 1] 66)) (fun b => w.heap.size ≤ b ∧ b < (w.alloc (.cells #[.int .i64 0, .int .i64 1] 66)).heap.size) (.slice (some ⟨w.heap.size, 0, none⟩) 1 1) (canon (nsOf us) (zj7 (nsOf us)).M) := by
  rw [hr]
  exact qz9 hn (Nat.le_refl _)
 have h1 := OwnT.one (t := qw1 (nsOf us)) (e := 49) (x := zj7 (nsOf us)) (cs := [.int .i64 1, .int .i64 0, .int .i64 0, .int .i64 0, .slice (some ⟨w.heap.size, 0, none⟩) 1 1]) ⟨_, rfl, hs⟩ (by simp) (ca := #[.int .i64 1, .int .i64 0, .int .i64 0, .int .i64 0, .slice (some ⟨w.heap.size, 0, none⟩) 1 1]) rfl
 rw [show (w.alloc (.cells #[.int .i64 0, .int .i64 1] 66)).heap.size = w.heap.size + 1 by simp] at h1
 exact ⟨⟨_, h1⟩, qa0 (qa0 (b0 w) _) _⟩
end
end Go.Proofs.YtbfbppjccbppiaaGreatDoor
