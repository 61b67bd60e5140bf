import Derived.Test.YtbfbppjccbppiaaGreatDoorzI7
import Derived.Test.YtbfbppjccbppiaaGreatDoorzW
import Derived.Test.YtbfbppjccbppiaaGreatDoorzM
import Derived.Test.YtbfbppjccbppiaaGreatDoorzN
import Derived.Test.YtbfbppjccbppiaaGreatDoorzA8
import Derived.Test.YtbfbppjccbppiaaGreatDoorzA
import Derived.Test.YtbfbppjccbppiaaGreatDoorRows
import Derived.Test.YtbfbppjccbppiaaGreatDoorzA6
import Derived.Laws.StructEq
import Derived.Deep.RegionHeld3
import Derived.Deep.DeepCutAuto
import Derived.Deep.DrawnRows
import Derived.Laws.IdiomStrings
import Derived.Outline
namespace Go.Proofs.YtbfbppjccbppiaaGreatDoor
open Go Go.RowKit
section
theorem cells5i {B : Nat} {w w' : World} (hb : Below B w w') {g o : Nat} (hg : g < B) {x0 x1 x2 x3 x4 : Value} (h : w.cell? ⟨g, o, none⟩ = some x0 ∧ w.cell? ⟨g, o + 1, none⟩ = some x1 ∧ w.cell? ⟨g, o + 2, none⟩ = some x2 ∧ w.cell? ⟨g, o + 3, none⟩ = some x3 ∧ w.cell? ⟨g, o + 4, none⟩ = some x4) :
  w'.cell? ⟨g, o, none⟩ = some x0 ∧ w'.cell? ⟨g, o + 1, none⟩ = some x1 ∧ w'.cell? ⟨g, o + 2, none⟩ = some x2 ∧ w'.cell? ⟨g, o + 3, none⟩ = some x3 ∧ w'.cell? ⟨g, o + 4, none⟩ = some x4 :=
 ⟨cell_below hb hg h.1, cell_below hb hg h.2.1, cell_below hb hg h.2.2.1, cell_below hb hg h.2.2.2.1, cell_below hb hg h.2.2.2.2⟩
theorem strCells_of (l : List UInt8) : Lib.strCells ⟨l.toArray⟩ = Lib.byteCells l := by simp [Lib.strCells, Lib.byteCells]
theorem conv_own {P : Program} {w : World} {src e dst : TypeId} {B : Nat} {v : Value} {l : List UInt8} (hs : P.underlying src = some (.slice e)) (he : P.underlying e = some (.int .u8)) (hd : P.underlying dst = some .string)
  (h : w.ownsRow B e 1 v l.length (Lib.byteCells l)) : (convert src dst v).run P w = .ok (.string ⟨l.toArray⟩) w := by
 have hc := fun g (hg : v.ownBlock = some g) => h.cells hg
 rcases h.2 with ⟨rfl, h0⟩ | ⟨g, cap, cur, rfl, _⟩
 ·have : l = [] := List.eq_nil_of_length_eq_zero h0
  subst this
  exact Lib.run_convert_nil_bytes w src dst e 0 hs he hd
 ·refine run_convert_bytes_back w src dst e _ cap l hs he hd fun j hj => ?_
  refine hc g rfl j _ ?_
  simp [Lib.byteCells, hj]
theorem byte_info : (Tryz.prog.info? 5).map (fun i => (i.zero, i.size, i.bytes)) = some (some (.int .u8 0), 1, 1) := by kernel_rfl
theorem kept_below {e : TypeId} {w w' : World} (hb : Below w.heap.size w w') : Lib.OthersKept e none w w' := fun k _ h _ _ => (hb.block k (Array.getElem?_eq_some_iff.1 h).1).trans h
theorem Wr.later {e : TypeId} {B : Nat} {w0 w w' : World} {v : Value} {s : List UInt8} (h : Wr e B w0 w v s) (hb : Below w.heap.size w w') : Wr e B w0 w' v s :=
 ⟨h.below.trans (hb.mono h.size.2), h.kept.trans (kept_below hb), ownsRow_below h.own hb (fun g hg => (h.own.lt g hg).2), h.base⟩
def ql3 (us : List UnitW) (r : Row) : Bool := mayL (nsOf us) r.terms && decide (r.unit < us.length)
def zi0 (us : List UnitW) (r : Row) (n : Nat) : List UInt8 := (qi4 us r n).data.toList ++ [10]
def qe9 (us : List UnitW) : List Row → Nat → List UInt8
 | [], _ => []
 | r :: l, n => zi0 us r n ++ qe9 us l (n + 1)
def qm3 (us : List UnitW) (l : List Row) : ByteArray × Int :=
 if MayP l ∧ ∀ r ∈ l, ql3 us r = true then (if (qe9 us l 1).length ≤ 1048576 then (⟨(qe9 us l 1).toArray⟩, 0) else (⟨#[]⟩, 32)) else (⟨#[]⟩, 33)
section
variable {us : List UnitW}
theorem za6 : ∀ (l m : List Row) (n : Nat), qe9 us (l ++ m) n = qe9 us l n ++ qe9 us m (n + l.length)
 | [], m, n => by simp [qe9]
 | r :: l, m, n => by
  rw [List.cons_append, qe9, qe9, za6 l m (n + 1), List.append_assoc, List.length_cons, show n + 1 + l.length = n + (l.length + 1) by omega]
theorem qy4 {l : List Row} {k : Nat} (hk : k < l.length) : qe9 us (l.take (k + 1)) 1 = qe9 us (l.take k) 1 ++ zi0 us l[k] (k + 1) := by
 rw [List.take_succ_eq_append_getElem hk, za6, List.length_take, Nat.min_eq_left (show k ≤ l.length by omega), show 1 + k = k + 1 by omega]
 simp [qe9]
def qo8 (us : List UnitW) (l : List Row) : Nat → List UInt8
 | 0 => []
 | k + 1 => if (qo8 us l k).length ≤ 1048576 then qo8 us l k ++ zi0 us (l[k]?.getD default) (k + 1) else qo8 us l k
theorem keptL_eq {l : List Row} : ∀ k, k ≤ l.length → ((qo8 us l k).length ≤ 1048576 → qo8 us l k = qe9 us (l.take k) 1) ∧ (1048576 < (qo8 us l k).length → 1048576 < (qe9 us (l.take k) 1).length)
 | 0, _ => ⟨fun _ => rfl, fun h => by cases h⟩
 | k + 1, hk => by
  obtain ⟨h1, h2⟩ := keptL_eq (l := l) k (by omega)
  rw [qy4 (show k < l.length by omega), List.length_append]
  unfold qo8
  rw [List.getElem?_eq_getElem (show k < l.length by omega), Option.getD_some]
  split
  ·rename_i h
   rw [h1 h]
   refine ⟨fun _ => rfl, fun h3 => by rw [List.length_append] at h3; exact h3⟩
  ·rename_i h
   refine ⟨fun h3 => absurd h3 h, fun h3 => ?_⟩
   have := h2 h3
   omega
theorem zc2 (ho : StW us) {l : List Row} : ∀ k, k ≤ l.length → k ≤ 100000 → (∀ i, (hi : i < l.length) → i < k → RowS us l[i]) → (qo8 us l k).length ≤ 1048576 + 6001
 | 0, _, _, _ => by show 0 ≤ _; omega
 | k + 1, hk, hk2, hl => by
  have ih := zc2 ho k (by omega) (by omega) (fun i hi h => hl i hi (by omega))
  unfold qo8
  rw [List.getElem?_eq_getElem (show k < l.length by omega), Option.getD_some]
  split
  ·have h1 := qu9 ho (hl k (by omega) (by omega)) (n := k + 1) (by omega)
   rw [List.length_append]
   unfold zi0
   rw [List.length_append]
   have : (qi4 us l[k] (k + 1)).data.toList.length = (qi4 us l[k] (k + 1)).size := by simp
   have e1 : ([10] : List UInt8).length = 1 := rfl
   omega
  ·exact ih
theorem qy2 {l : List Row} (hm : MayP l) {k : Nat} (hk : k < l.length) (hg : ql3 us l[k] = true) : RowS us l[k] := by
 obtain ⟨⟨h1, h2, h3, h4, h5, h6, h7, h8, h9⟩, _⟩ := hm.2.2 k hk
 unfold ql3 at hg
 rw [Bool.and_eq_true, decide_eq_true_eq] at hg
 have hl := hm.2.1
 refine ⟨⟨h1, h2⟩, ⟨h3, hg.2⟩, hg.1, ?_, ?_⟩
 ·by_cases h : l[k].kind = 5
  ·have := h6 h; omega
  ·have := h7 h; omega
 ·by_cases h : l[k].kind = 5
  ·have := h6 h; omega
  ·have := h7 h; omega
end
end
section
section
variable {us : List UnitW}
set_option maxRecDepth 100000 in
set_option maxHeartbeats 4000000 in
theorem ptell_any (v lv : Value) (l : List Row) (w : World) (h : qd0 w (Lt w.heap.size) v us) (ho : StW us) (hl : SliceRd tRow w (Lt w.heap.size) lv l) (hG : Glob w) :
    Calls Tryz.prog 12 #[v, lv] w fun e w' => e = .returned (.tuple #[.string (qm3 us l).1, .int .i64 (qm3 us l).2]) ∧ Below w.heap.size w w' := by
  have HMY := hid (fun (W : World) (hb : Below w.heap.size w W) => may_any lv l W (hl.lift hb hb.size))
  have HH := hid h
  have HO := hid ho
  have HGL := hid hG
  obtain ⟨g, cap0, rfl, hg, -⟩ := h.opened
  obtain ⟨A, cap, rfl, hcap, hmax, hc⟩ := hl.rows
  have HC := hid hc
  obtain ⟨ib, hib⟩ := info_parts byte_info
  have HIB := hid hib
  obtain ⟨w0, hw0⟩ : ∃ w0 : World, w0 = w.alloc (.cells #[.slice (some ⟨g, 0, none⟩) us.length cap0] 26) := ⟨_, rfl⟩
  have hb0 : Below w.heap.size w w0 := hw0 ▸ qa0 (b0 w) _
  have hz0 : w.heap.size < w0.heap.size := by rw [hw0]; simp
  have c0 : w0.cell? ⟨w.heap.size, 0, none⟩ = some (.slice (some ⟨g, 0, none⟩) us.length cap0) := by rw [hw0, qa6]; rfl
  have HB0 := hid hb0
  have HW0 := hid hw0
  have HM0 := hid (HMY.out w0 hb0)
  clear h ho hl hG hc hib hb0 hw0 HMY
  by_cases hm : MayP l
  · have hlen := hm.2.1
    have HMAY := hid hm
    have hdm : decide (MayP l) = true := decide_eq_true hm
    rw [hdm] at HM0
    clear hm hdm
    go_enter Tryz.func12, Tryz.ntmps12
    go_wp2_with (go_at_call 32; rw [← HW0.out]; refine HM0.out.mono ?_; rintro e w1 ⟨rfl, hb1⟩; have HB1 := hid (qa1 HB0.out hb1); have c1 := cell_below hb1 hz0 c0; have hz1 := Nat.lt_of_lt_of_le hz0 hb1.size; clear hb1)
    obtain ⟨w2, hw2⟩ : ∃ w2 : World, w2 = w1.alloc (.cells #[.slice (some ⟨g, 0, none⟩) us.length cap0] 85) := ⟨_, rfl⟩
    have hb2 : Below w1.heap.size w1 w2 := hw2 ▸ qa0 (b0 _) _
    have hz2 : w1.heap.size < w2.heap.size := by rw [hw2]; simp
    have t0 := cell_below hb2 hz1 c1
    have t1 : w2.cell? ⟨w1.heap.size, 0, none⟩ = some (.slice (some ⟨g, 0, none⟩) us.length cap0) := by rw [hw2, qa6]; rfl
    have HBW2 := hid (qa1 HB1.out hb2)
    rw [← hw2]
    clear hw2 hb2 c1 c0
    go_loopw [7, 17] (fun bv kv wr => ∃ k : Nat, k ≤ l.length ∧ kv = .int .i64 k ∧ Hid (∀ i, (hi : i < l.length) → i < k → ql3 us l[i] = true) ∧ Hid (Wr 5 w2.heap.size w2 wr bv (qo8 us l k))) (fun _ kv _ => l.length - (intOf kv).toNat)
    case atStart => exact ⟨0, Nat.zero_le _, rfl, hid (fun i hi hlt => by omega), hid (Wr.start (Nat.le_refl _))⟩
    case round =>
      obtain ⟨k, hk, rfl, hgd, hwr⟩ := hrel
      have hzr := hwr.out.below.size
      by_cases hlt : k < l.length
      · obtain ⟨ga, oa, tv, hA, hF, g0, g1, g2, g3, g4, ⟨i0, i1, i2, i3⟩, ht⟩ := HC.out k hlt
        cases hA
        have hbw : Below w.heap.size w wr := qa1 HBW2.out hwr.out.below
        obtain ⟨d0, d1, d2, d3, d4⟩ := cells5i hbw hF ⟨g0, g1, g2, g3, g4⟩
        have y0 := cell_below hwr.out.below (by omega) t0
        have y1 := cell_below hwr.out.below hz2 t1
        have j0 : (0 : Int) ≤ ↑k := by omega
        have j1 : (↑k : Int) < ↑l.length := by omega
        have j2 : decide (k < l.length) = true := decide_eq_true hlt
        have hun : 0 ≤ l[k].unit := (HMAY.out.2.2 k hlt).1.2.2.1
        have HRS := hid (fun hg : ql3 us l[k] = true => qy2 HMAY.out hlt hg)
        have HLK : Hid (l[k]? = some l[k]) := hid (List.getElem?_eq_getElem hlt)
        have HTT := hid (fun (W : World) (hb : Below w.heap.size w W) => ht.lift hb hb.size)
        obtain ⟨At, ct, rfl, -⟩ := ht.shape
        have HGK : Hid (ql3 us l[k] = true → ∀ i, (hi : i < l.length) → i < k + 1 → ql3 us l[i] = true) := hid (fun hg i hi hik => by
          rcases Nat.lt_or_ge i k with h | h
          · exact hgd.out i hi h
          · have : i = k := by omega
            subst this
            exact hg)
        have HBAD : Hid (ql3 us l[k] = false → qm3 us l = (⟨#[]⟩, 33)) := hid (fun hg => by
          unfold qm3
          rw [if_neg]
          rintro ⟨-, hall⟩
          rw [hall _ (List.getElem_mem hlt)] at hg
          cases hg)
        have HKS := hid (zc2 HO.out k hk (by omega) (fun i hi hik => qy2 HMAY.out hi (hgd.out i hi hik)))
        have HSUC : Hid (qo8 us l (k + 1) = if (qo8 us l k).length ≤ 1048576 then qo8 us l k ++ zi0 us l[k] (k + 1) else qo8 us l k) := hid (by
          show (if _ then _ else _) = _
          rw [HLK.out, Option.getD_some])
        have HUW := hid (fun (W : World) (hb : Below w.heap.size w W) => HH.out.lift hb hb.size)
        obtain ⟨A5, c5, rfl⟩ := qb1 hwr.out.own
        obtain ⟨wb, hwb⟩ : ∃ wb : World, wb = wr.alloc (.cells #[.int .i64 l[k].kind, .int .i64 l[k].unit, .int .i64 l[k].a, .int .i64 l[k].b, .slice At l[k].terms.length ct] 49) := ⟨_, rfl⟩
        have hbb : Below wr.heap.size wr wb := hwb ▸ qa0 (b0 _) _
        have hzb : wr.heap.size < wb.heap.size := by rw [hwb]; simp
        have e0 := cell_below hbb (by omega) y0
        have e1 := cell_below hbb (by omega) y1
        have hcs : ∀ (o : Nat) (x : Value), (#[Value.int .i64 l[k].kind, .int .i64 l[k].unit, .int .i64 l[k].a, .int .i64 l[k].b, .slice At l[k].terms.length ct] : Array Value)[o]? = some x → wb.cell? ⟨wr.heap.size, o, none⟩ = some x := fun o x hx => by rw [hwb, qa6]; exact hx
        have r0 := hcs 0 _ rfl
        have r1 := hcs 1 _ rfl
        have r2 := hcs 2 _ rfl
        have r3 := hcs 3 _ rfl
        have r4 := hcs 4 _ rfl
        have HBB := hid (qa1 hbw hbb)
        have HWRB := hid (hwr.out.later hbb)
        have HWB := hid hwb
        have HIM := hid (zh4 (.agg #[.slice (some ⟨g, 0, none⟩) us.length cap0]) (.slice At l[k].terms.length ct) (nsOf us) l[k].terms wb (HUW.out wb HBB.out).uni HO.out.ns (HTT.out wb HBB.out))
        have HFU := hid (fun (W : World) (hb : Below w.heap.size w W) => qz2 (.agg #[.slice (some ⟨g, 0, none⟩) us.length cap0]) (nsOf us) l[k].unit W (Lt W.heap.size) (HUW.out W hb).uni HO.out.ns (fun _ h => h))
        have HPL := hid (fun (hg : ql3 us l[k] = true) (W : World) (hb : Below w.heap.size w W) => pline_any (.agg #[.slice (some ⟨g, 0, none⟩) us.length cap0]) (.slice At l[k].terms.length ct) l[k] (k + 1) W (HUW.out W hb) HO.out (HRS.out hg) (HTT.out W hb) (by omega) (HGL.out.later hb))
        have HLS := hid (fun (hg : ql3 us l[k] = true) => qu9 HO.out (HRS.out hg) (n := k + 1) (by omega))
        have hgood : ql3 us l[k] = (mayL (nsOf us) l[k].terms && decide (l[k].unit < us.length)) := rfl
        unfold rowV at HPL
        clear g0 g1 g2 g3 g4 ht hgd hwb hbb hcs
        go_upto_region 8 with fail
        rw [← HWB.out]
        generalize l[k] = r at *
        obtain ⟨kd, un, ra, rb, ts⟩ := r
        dsimp only at *
        cases hml : mayL (nsOf us) ts with
        | false =>
          rw [hml] at HIM hgood
          have HF := hid (HBAD.out (by rw [hgood]; rfl))
          go_wp2_with (go_at_call 33; refine HIM.out.mono ?_; rintro e w3 ⟨rfl, hb3⟩; have HB3 := hid (qa1 HBB.out hb3); clear hb3)
          go_ret2
          exact ⟨congrArg (fun p : ByteArray × Int => Ending.returned (Value.tuple #[.string p.1, .int .i64 p.2])) HF.out.symm, HB3.out⟩
        | true =>
          rw [hml] at HIM hgood
          by_cases hul : un < us.length
          · have hgt : ql3 us ⟨kd, un, ra, rb, ts⟩ = true := by rw [hgood, decide_eq_true hul]; rfl
            have hfp := full_pos HO.out.ns (u := un.toNat) (by simp only [nsOf, List.length_map]; omega)
            rw [Int.toNat_of_nonneg hun] at hfp
            obtain ⟨f, hf⟩ : ∃ f, qj5 (nsOf us) un = f := ⟨_, rfl⟩
            rw [hf] at HFU hfp
            have zf : (f == 0) = false := by rw [beq_eq_false_iff_ne]; omega
            have HPLk := hid (HPL.out hgt)
            have hls := HLS.out hgt
            have HGK1 := hid (HGK.out hgt)
            have hks := HKS.out
            have HSU := HSUC.out
            unfold zi0 at HSU
            obtain ⟨S, hS⟩ : ∃ S, qo8 us l k = S := ⟨_, rfl⟩
            rw [hS] at hks HWRB HSU ⊢
            obtain ⟨L, hL⟩ : ∃ L, qi4 us ⟨kd, un, ra, rb, ts⟩ (k + 1) = L := ⟨_, rfl⟩
            rw [hL] at HPLk hls HSU
            have HSV := hid HSU
            have w1 : IntKind.i64.wrap ((k : Int) + 1) = (k : Int) + 1 := IntWalk.i64_in _ (by omega)
            rw [show ((k + 1 : Nat) : Int) = (k : Int) + 1 by omega] at HPLk
            clear hf hS hL HSU hgt hgood HKS HSUC HLS HPL HGK HBAD HRS hml
            by_cases hle : S.length ≤ 1048576
            · have z1 : decide ((S.length : Int) ≤ 1048576) = true := decide_eq_true (by omega)
              have z2 : decide (S.length ≤ 1048576) = true := decide_eq_true hle
              have z3 : (S.length : Int) ≤ 1048576 := by omega
              have HSN : Hid (qo8 us l (k + 1) = S ++ (L.data.toList ++ [10])) := hid (HSV.out.trans (if_pos hle))
              have hLL : L.data.toList.length = L.size := by simp
              have HLM : Hid ((⟨L.data.toList.toArray⟩ : ByteArray) = L) := hid (Lib.mk_data L)
              go_wp2_with (first
                | (go_at_call 33; refine HIM.out.mono ?_; rintro e w3 ⟨rfl, hb3⟩; have f0 := cell_below hb3 (by omega) e0; have f1 := cell_below hb3 hzb r1; have a0 := cell_below hb3 hzb r0; have a2 := cell_below hb3 hzb r2; have a3 := cell_below hb3 hzb r3; have a4 := cell_below hb3 hzb r4; have f2 := cell_below hb3 (by omega) e1; have HB3 := hid (qa1 HBB.out hb3); have HW3 := hid (HWRB.out.later hb3); have hz3 := hb3.size; clear hb3)
                | (go_at_call 34; refine (HFU.out _ HB3.out).mono ?_; rintro e w4 ⟨rfl, hb4⟩; have b0' := cell_below hb4 (by omega) a0; have b1' := cell_below hb4 (by omega) f1; have b2' := cell_below hb4 (by omega) a2; have b3' := cell_below hb4 (by omega) a3; have b4' := cell_below hb4 (by omega) a4; have b5' := cell_below hb4 (by omega) f2; have HB4 := hid (qa1 HB3.out hb4); have HW4 := hid (HW3.out.later hb4); have hz4 := hb4.size; clear hb4)
                | (go_at_call 35; refine (HPLk.out _ HB4.out).mono ?_; rintro e w5 ⟨rfl, hb5⟩; have HW5 := hid (HW4.out.later hb5); clear hb5)
                | (at_builtin
                   refine Lib.wpList_append_own_string _ rfl (.tmp 37) (.tmp 42) _ _ rfl w2.heap.size 5 ib Tryz.underlying41 Tryz.underlying9 HIB.out.1 HIB.out.2.1 HIB.out.2.2.1 HIB.out.2.2.2 (.slice A5 S.length c5) S.length (Lib.byteCells S) rfl (by exact HW5.out.own) L rfl (by unfold maxLen; omega) (by omega) (by exact HW5.out.size.2) ?_
                   intro v6 w6 hown6 hg6 _
                   obtain ⟨S6, A6, c6, rfl, hS6, hs6, HW6⟩ := (HW5.out.grown (t := L.data.toList) hg6 (by rw [hLL]; exact hown6)).next
                   clear hown6 hg6)
                | (at_builtin
                   refine qa5 _ rfl (.tmp 43) (.tmp 44) _ rfl w2.heap.size 5 ib _ 1 1 Tryz.underlying41 HIB.out.1 HIB.out.2.1 HIB.out.2.2.1 HIB.out.2.2.2 rfl (by omega) (.slice A6 S6.length c6) S6.length (Lib.byteCells S6) rfl (by exact (HW6.out.alloc _).own) (some ⟨w6.heap.size, 0, none⟩) 1 1 (Lib.byteCells [10]) rfl (by exact own_lit 10 rfl) (byteCells_one _) (by unfold maxLen; omega) (by omega) (by exact (HW6.out.alloc _).size.2) ?_
                   intro v7 w7 hown7 hg7 _
                   have HW7 := hid ((HW6.out.alloc _).grown (t := [10]) hg7 hown7)
                   obtain ⟨A7, c7, rfl⟩ := qb1 HW7.out.own
                   clear hown7 hg7))
              have hfin : Hid (Wr 5 w2.heap.size w2 w7 (.slice A7 (S6.length + 1) c7) (qo8 us l (k + 1))) := hid (by
                have h7 := HW7.out
                have e : S6 ++ [10] = qo8 us l (k + 1) := by rw [hS6.out, HSN.out, List.append_assoc]
                have e2 : (qo8 us l (k + 1)).length = S6.length + 1 := by rw [← e]; simp
                rw [e, e2] at h7
                exact h7)
              exact ⟨⟨k + 1, by omega, by go_num, HGK1, hfin⟩, by simp [intOf]; omega⟩
            · have z1 : decide ((S.length : Int) ≤ 1048576) = false := decide_eq_false (by omega)
              have z2 : decide (S.length ≤ 1048576) = false := decide_eq_false hle
              have z3 : ¬ (S.length : Int) ≤ 1048576 := by omega
              have HSN : Hid (qo8 us l (k + 1) = S) := hid (HSV.out.trans (if_neg hle))
              go_wp2_with (first
                | (go_at_call 33; refine HIM.out.mono ?_; rintro e w3 ⟨rfl, hb3⟩; have f0 := cell_below hb3 (by omega) e0; have f1 := cell_below hb3 hzb r1; have HB3 := hid (qa1 HBB.out hb3); have HW3 := hid (HWRB.out.later hb3); have hz3 := hb3.size; clear hb3)
                | (go_at_call 34; refine (HFU.out _ HB3.out).mono ?_; rintro e w4 ⟨rfl, hb4⟩; have HW4 := hid (HW3.out.later hb4); clear hb4))
              exact ⟨⟨k + 1, by omega, by go_num, HGK1, hid (by rw [HSN.out]; exact HW4.out)⟩, by simp [intOf]; omega⟩
          · have hf0 : qj5 (nsOf us) un = 0 := by unfold qj5; rw [if_pos (.inr (by simp [nsOf]; omega))]
            rw [hf0] at HFU
            have HF := hid (HBAD.out (by rw [hgood, decide_eq_false hul]; rfl))
            clear hf0
            go_wp2_with (first
              | (go_at_call 33; refine HIM.out.mono ?_; rintro e w3 ⟨rfl, hb3⟩; have f0 := cell_below hb3 (by omega) e0; have f1 := cell_below hb3 hzb r1; have HB3 := hid (qa1 HBB.out hb3); clear hb3)
              | (go_at_call 34; refine (HFU.out _ HB3.out).mono ?_; rintro e w4 ⟨rfl, hb4⟩; have HB4 := hid (qa1 HB3.out hb4); clear hb4))
            go_ret2
            exact ⟨congrArg (fun p : ByteArray × Int => Ending.returned (Value.tuple #[.string p.1, .int .i64 p.2])) HF.out.symm, HB4.out⟩
      · have hkl : k = l.length := by omega
        have j1 : ¬ ((k : Int) < ↑l.length) := by omega
        have j2 : decide (k < l.length) = false := decide_eq_false hlt
        have hall : ∀ r ∈ l, ql3 us r = true := fun r hr => by
          obtain ⟨i, hi, rfl⟩ := List.getElem_of_mem hr
          exact hgd.out i hi (by omega)
        have hke := keptL_eq (us := us) (l := l) k hk
        rw [hkl, List.take_length] at hke
        have HKS := hid (zc2 HO.out k hk (by omega) (fun i hi hik => qy2 HMAY.out hi (hgd.out i hi hik)))
        have HW := hid hwr.out
        rw [hkl] at HW HKS
        have HT : Hid (qm3 us l = if (qe9 us l 1).length ≤ 1048576 then (⟨(qe9 us l 1).toArray⟩, 0) else (⟨#[]⟩, 32)) := hid (by unfold qm3; rw [if_pos ⟨HMAY.out, hall⟩])
        have hks := HKS.out
        obtain ⟨S, hS⟩ : ∃ S, qo8 us l l.length = S := ⟨_, rfl⟩
        rw [← hkl] at HW
        rw [hkl] at HW
        have hwr2 := hwr.out
        rw [hkl, hS] at hwr2
        rw [hS] at hke hks
        obtain ⟨A5, c5, hv⟩ := qb1 hwr2.own
        subst hv
        have HW2 := hid hwr2
        have hcv := conv_own (P := Tryz.prog) (src := 41) (dst := 9) Tryz.underlying41 Tryz.underlying5 Tryz.underlying9 hwr2.own
        by_cases hle : S.length ≤ 1048576
        · have e := hke.1 hle
          have HF : Hid (qm3 us l = (⟨S.toArray⟩, 0)) := hid (by rw [HT.out, ← e, if_pos hle])
          have z1 : decide ((1048576 : Int) < S.length) = false := decide_eq_false (by omega)
          have z2 : decide (1048576 < S.length) = false := decide_eq_false (by omega)
          have z3 : ¬ (1048576 : Int) < S.length := by omega
          have z4 : ¬ 1048576 < S.length := by omega
          clear hkl hke hS e hwr hwr2 HW HT HKS hks hgd hall
          go_wp2_with fail
          go_ret2
          exact ⟨congrArg (fun p : ByteArray × Int => Ending.returned (Value.tuple #[.string p.1, .int .i64 p.2])) HF.out.symm, qa1 HBW2.out HW2.out.below⟩
        · have e := hke.2 (by omega)
          have HF : Hid (qm3 us l = (⟨#[]⟩, 32)) := hid (by rw [HT.out, if_neg (by omega)])
          have z1 : decide ((1048576 : Int) < S.length) = true := decide_eq_true (by omega)
          have z2 : decide (1048576 < S.length) = true := decide_eq_true (by omega)
          have z3 : (1048576 : Int) < S.length := by omega
          have z4 : 1048576 < S.length := by omega
          clear hkl hke hS e hwr hwr2 HW HT HKS hks hgd hall
          go_wp2_with fail
          go_ret2
          exact ⟨congrArg (fun p : ByteArray × Int => Ending.returned (Value.tuple #[.string p.1, .int .i64 p.2])) HF.out.symm, qa1 HBW2.out HW2.out.below⟩
  · have hdm : decide (MayP l) = false := decide_eq_false hm
    rw [hdm] at HM0
    have HBAD : Hid (qm3 us l = (⟨#[]⟩, 33)) := hid (by unfold qm3; rw [if_neg (fun hh => hm hh.1)])
    clear hm hdm
    go_enter Tryz.func12, Tryz.ntmps12
    go_wp2_with (go_at_call 32; rw [← HW0.out]; refine HM0.out.mono ?_; rintro e w1 ⟨rfl, hb1⟩; have HB1 := hid (qa1 HB0.out hb1); clear hb1)
    go_ret2
    exact ⟨congrArg (fun p : ByteArray × Int => Ending.returned (Value.tuple #[.string p.1, .int .i64 p.2])) HBAD.out.symm, HB1.out⟩
end
end
section
theorem qw9 {P : Program} {ops : Array Oper} {o : Oper} {a : Act} {w : World} {K : Act → World → Prop} {Q : Exit → Act → World → Prop} {E : Prop} (s x : Operand) (t u : TypeId)
  (_ho : o.op = .call { callee := .builtin .append, args := #[s, x], argTypes := #[t, u] })
  (h : if Region.wanted o (yielded ops a.tmps) = true then Oper.wp P o a w K Q else E) : if Region.wanted o (yielded ops a.tmps) = true then Oper.wp P o a w K Q else E := h
theorem qu5 {P : Program} {w : World} {ops : Array Oper} {o : Oper} {a : Act} {K : Act → World → Prop} {Q : Exit → Act → World → Prop} {E : Prop} (hgd : o.guard = none) (s x : Operand) (t u : TypeId)
  (ho : o.op = .call { callee := .builtin .append, args := #[s, x], argTypes := #[t, u] })
  (base : Nat) (e : TypeId) (i : TypeInfo) (ht : P.underlying t = some (.slice e)) (hu : P.underlying u = some .string) (hi : P.info? e = some i) (hz : i.zero = some (.int .u8 0))
  (hsize : i.size = 1) (hby : i.bytes = 1)
  (v : Value) (n : Nat) (xs : List Value) (hs : a.eval s = v) (hown : w.ownsRow base e 1 v n xs) (S : ByteArray) (hx : a.eval x = .string S)
  (h63 : n + S.size ≤ maxLen) (hbytes : n + S.size ≤ 140737488355328) (hbase : base ≤ w.heap.size)
  (h : ∀ v' w', w'.ownsRow base e 1 v' (n + S.size) (xs ++ Lib.strCells S) → w.grownBy w' v.ownBlock → K (a.put o.dst v') w') :
  if Region.wanted o (yielded ops a.tmps) = true then Oper.wp P o a w K Q else E := by
 have hw : Region.wanted o (yielded ops a.tmps) = true := by simp [Region.wanted, hgd]
 rw [if_pos hw]
 obtain ⟨v', w', hrun, h2, h3, -⟩ := Lib.run_append_own_string (P := P) w base t u o.type e i ht hu hi hz hsize hby v n xs hown S h63 hbytes hbase
 unfold Oper.wp execOp
 simp only [ho, resolve, invoke, builtin, Sem.run_bind, Sem.run_pure, Result.andThen_ok, List.map_toArray, List.map_cons, List.map_nil, hs, hx, hrun]
 exact h v' w' h2 h3
theorem lit_grown {w w' : World} {v : Value} {g : Nat} {x : Value} (hg : w.grownBy w' v.ownBlock) (hl : g < w.heap.size) (hne : ∀ k, v.ownBlock = some k → k ≠ g) (h : w.cell? ⟨g, 0, none⟩ = some x) : w'.cell? ⟨g, 0, none⟩ = some x := by
 exact (World.cell?_of_block (hg.block g hl (fun e => hne _ e.symm rfl))).trans h
theorem src_cell {w : World} {g : Nat} (h : w.cell? ⟨g, 0, none⟩ = some (.int .u8 10)) : Src w (some ⟨g, 0, none⟩) 1 1 (Lib.byteCells [10]) := by
 refine ⟨rfl, fun _ => ⟨_, rfl, fun j u hu => ?_⟩⟩
 rcases j with _ | j
 ·cases hu; exact h
 ·cases j <;> cases hu
section
variable {us : List UnitW}
theorem qy3 (ho : StW us) {l : List Row} : ∀ k, k ≤ l.length → k ≤ 100000 → (∀ i, (hi : i < l.length) → i < k → RowS us l[i]) → (qe9 us (l.take k) 1).length ≤ k * 6001
 | 0, _, _, _ => by simp [qe9]
 | k + 1, hk, hk2, hl => by
  have ih := qy3 ho k (by omega) (by omega) (fun i hi h => hl i hi (by omega))
  rw [qy4 (show k < l.length by omega), List.length_append]
  have h1 := qu9 ho (hl k (by omega) (by omega)) (n := k + 1) (by omega)
  unfold zi0
  rw [List.length_append]
  have : (qi4 us l[k] (k + 1)).data.toList.length = (qi4 us l[k] (k + 1)).size := by simp
  have e1 : ([10] : List UInt8).length = 1 := rfl
  omega
set_option maxRecDepth 100000 in
set_option maxHeartbeats 4000000 in
theorem rtell_any (v lv : Value) (l : List Row) (w : World) (h : qd0 w (Lt w.heap.size) v us) (ho : StW us) (hl : SliceRd tRow w (Lt w.heap.size) lv l) :
  Calls Tryz.prog 13 #[v, lv] w fun e w' => e = .returned (.tuple #[.string (qm3 us l).1, .int .i64 (qm3 us l).2]) ∧ Below w.heap.size w w' := by
 have HMY := hid (fun (W : World) (hb : Below w.heap.size w W) => rmay_any lv l W (hl.lift hb hb.size))
 have HH := hid h
 have HO := hid ho
 obtain ⟨g, cap0, rfl, hg, -⟩ := h.opened
 obtain ⟨A, cap, rfl, hcap, hmax, hc⟩ := hl.rows
 have HC := hid hc
 obtain ⟨ib, hib⟩ := info_parts byte_info
 have HIB := hid hib
 obtain ⟨w0, hw0⟩ : ∃ w0 : World, w0 = w.alloc (.cells #[.slice (some ⟨g, 0, none⟩) us.length cap0] 26) := ⟨_, rfl⟩
 have hb0 : Below w.heap.size w w0 := hw0 ▸ qa0 (b0 w) _
 have hz0 : w.heap.size < w0.heap.size := by rw [hw0]; simp
 have c0 : w0.cell? ⟨w.heap.size, 0, none⟩ = some (.slice (some ⟨g, 0, none⟩) us.length cap0) := by rw [hw0, qa6]; rfl
 have HB0 := hid hb0
 have HW0 := hid hw0
 have HM0 := hid (HMY.out w0 hb0)
 clear h ho hl hg hc hib hb0 hw0 HMY
 by_cases hm : MayP l
 ·have hlen := hm.2.1
  have HMAY := hid hm
  have hdm : decide (MayP l) = true := decide_eq_true hm
  rw [hdm] at HM0
  clear hm hdm
  go_enter Tryz.func13, Tryz.ntmps13
  go_wp2_with (go_at_call 36; rw [← HW0.out]; refine HM0.out.mono ?_; rintro e w2 ⟨rfl, hb1⟩; have HBW2 := hid (qa1 HB0.out hb1); have t0 := cell_below hb1 hz0 c0; have hz2 := Nat.lt_of_lt_of_le hz0 hb1.size; clear hb1)
  clear c0
  go_loopw [6, 7] (fun bv kv wr => ∃ k : Nat, k ≤ l.length ∧ kv = .int .i64 k ∧ Hid (∀ i, (hi : i < l.length) → i < k → ql3 us l[i] = true) ∧ Hid (Wr 5 w2.heap.size w2 wr bv (qe9 us (l.take k) 1))) (fun _ kv _ => l.length - (intOf kv).toNat)
  case atStart => exact ⟨0, Nat.zero_le _, rfl, hid (fun i hi hlt => by omega), hid (Wr.start (Nat.le_refl _))⟩
  case round =>
   obtain ⟨k, hk, rfl, hgd, hwr⟩ := hrel
   have hzr := hwr.out.below.size
   by_cases hlt : k < l.length
   ·obtain ⟨ga, oa, tv, hA, hF, g0, g1, g2, g3, g4, ⟨i0, i1, i2, i3⟩, ht⟩ := HC.out k hlt
    cases hA
    have hbw : Below w.heap.size w wr := qa1 HBW2.out hwr.out.below
    obtain ⟨d0, d1, d2, d3, d4⟩ := cells5i hbw hF ⟨g0, g1, g2, g3, g4⟩
    obtain ⟨u0, u1, u2, u3, u4⟩ := cells5i HBW2.out hF ⟨g0, g1, g2, g3, g4⟩
    have hgF2 := Nat.lt_of_lt_of_le hF HBW2.out.size
    have y0 := cell_below hwr.out.below (by omega) t0
    have j0 : (0 : Int) ≤ ↑k := by omega
    have j1 : (↑k : Int) < ↑l.length := by omega
    have j2 : decide (k < l.length) = true := decide_eq_true hlt
    have hun : 0 ≤ l[k].unit := (HMAY.out.2.2 k hlt).1.2.2.1
    have HRS := hid (fun hg : ql3 us l[k] = true => qy2 HMAY.out hlt hg)
    have HTT := hid (fun (W : World) (hb : Below w.heap.size w W) => ht.lift hb hb.size)
    obtain ⟨At, ct, rfl, -⟩ := ht.shape
    have HGK : Hid (ql3 us l[k] = true → ∀ i, (hi : i < l.length) → i < k + 1 → ql3 us l[i] = true) := hid (fun hg i hi hik => by
     rcases Nat.lt_or_ge i k with h | h
     ·exact hgd.out i hi h
     ·have : i = k := by omega
      subst this
      exact hg)
    have HBAD : Hid (ql3 us l[k] = false → qm3 us l = (⟨#[]⟩, 33)) := hid (fun hg => by
     unfold qm3
     rw [if_neg]
     rintro ⟨-, hall⟩
     rw [hall _ (List.getElem_mem hlt)] at hg
     cases hg)
    have HKS := hid (qy3 HO.out k hk (by omega) (fun i hi hik => qy2 HMAY.out hi (hgd.out i hi hik)))
    have HSUC := hid (qy4 (us := us) hlt)
    have HUW := hid (fun (W : World) (hb : Below w.heap.size w W) => HH.out.lift hb hb.size)
    obtain ⟨A5, c5, rfl⟩ := qb1 hwr.out.own
    have HBWR := hid hbw
    have hgF := Nat.lt_of_lt_of_le hF hbw.size
    have HIM := hid (fun e : Later wr => rallB_any (.agg #[.slice (some ⟨g, 0, none⟩) us.length cap0]) (.slice At l[k].terms.length ct) (nsOf us) l[k].terms e.w (HUW.out e.w (qa1 hbw e.below)).uni HO.out.ns (HTT.out e.w (qa1 hbw e.below)))
    have HSEN := hid (fun (hg : ql3 us l[k] = true) (W : World) (hb : Below w.heap.size w W) => rsent_any (.agg #[.slice (some ⟨g, 0, none⟩) us.length cap0]) (.slice At l[k].terms.length ct) l[k] k W (HUW.out W hb) HO.out (HRS.out hg) (HTT.out W hb) (by omega))
    have HLS := hid (fun (hg : ql3 us l[k] = true) => qu9 HO.out (HRS.out hg) (n := k + 1) (by omega))
    have hgood : ql3 us l[k] = (mayL (nsOf us) l[k].terms && decide (l[k].unit < us.length)) := rfl
    unfold rowV at HSEN
    clear g0 g1 g2 g3 g4 ht hgd
    generalize l[k] = r at *
    obtain ⟨kd, un, ra, rb, ts⟩ := r
    dsimp only at *
    by_cases hul : un < us.length
    ·have q1 : decide ((us.length : Int) ≤ un) = false := decide_eq_false (by omega)
     have q2 : ¬ ((us.length : Int) ≤ un) := by omega
     have HWRR := hid hwr.out
     have l0 := qa2 (show w.heap.size < wr.heap.size by omega) y0
     have l1 := qa2 hgF d1
     have l4 := qa2 hgF d4
     cases hml : mayL (nsOf us) ts with
     | false =>
      rw [hml] at HIM hgood
      have HF := hid (HBAD.out (by rw [hgood]; rfl))
      clear hwr hgood hml hul HSEN HLS HRS
      go_upto_region 7 with fail
      (refine qa3 (by kernel_rfl) (by kernel_rfl) ?_; (repeat (go_big_quiet_step ((first | (go_at_call 37; exact Calls.later (HIM.out _) rfl))))); refine wpQuiet_nil ?_; rintro _ ⟨e8, rfl⟩)
      go_wp2_with fail
      go_ret2
      exact ⟨congrArg (fun p : ByteArray × Int => Ending.returned (Value.tuple #[.string p.1, .int .i64 p.2])) HF.out.symm, qa1 HBWR.out e8.below⟩
     | true =>
      rw [hml] at HIM hgood
      have hgt : ql3 us ⟨kd, un, ra, rb, ts⟩ = true := by rw [hgood, decide_eq_true hul]; rfl
      have HSE := hid (HSEN.out hgt)
      have hls := HLS.out hgt
      have HGK1 := hid (HGK.out hgt)
      have hks := HKS.out
      have HSU := hid HSUC.out
      clear hwr hgood hml hul hgt HSEN HLS HRS HGK HBAD HKS HSUC
      go_upto_region 7 with fail
      (refine qa3 (by kernel_rfl) (by kernel_rfl) ?_; (repeat (go_big_quiet_step ((first | (go_at_call 37; exact Calls.later (HIM.out _) rfl))))); refine wpQuiet_nil ?_; rintro _ ⟨e8, rfl⟩)
      obtain ⟨we, hwe⟩ : ∃ we : World, we = e8.w := ⟨_, rfl⟩
      have hbe : Below wr.heap.size wr we := hwe ▸ e8.below
      have HWE := hid (HWRR.out.later hbe)
      have HBWE := hid (qa1 HBWR.out hbe)
      have z0 : we.cell? ⟨w.heap.size, 0, none⟩ = some (.slice (some ⟨g, 0, none⟩) us.length cap0) := cell_below hbe (by omega) y0
      have x0 := cell_below hbe hgF d0
      have x1 := cell_below hbe hgF d1
      have x2 := cell_below hbe hgF d2
      have x3 := cell_below hbe hgF d3
      have x4 := cell_below hbe hgF d4
      rw [← hwe]
      have hzw := Nat.lt_of_lt_of_le (show w.heap.size < wr.heap.size by omega) hbe.size
      have hze := Nat.lt_of_lt_of_le hgF hbe.size
      have hz2e : w2.heap.size ≤ we.heap.size := Nat.le_trans hzr hbe.size
      clear l0 l1 l4 hwe hbe HIM y0 d0 d1 d2 d3 d4 HWRR HBWR
      obtain ⟨S, hS⟩ : ∃ S, qe9 us (l.take k) 1 = S := ⟨_, rfl⟩
      unfold zi0 at HSU
      rw [hS] at hks HWE HSU ⊢
      obtain ⟨L, hL⟩ : ∃ L, qi4 us ⟨kd, un, ra, rb, ts⟩ (k + 1) = L := ⟨_, rfl⟩
      rw [hL] at HSE hls HSU
      have hLL : L.data.toList.length = L.size := by simp
      have hkk : k * 6001 ≤ 100000 * 6001 := Nat.mul_le_mul_right _ (by omega)
      clear hS hL
      go_upto_region 9 with fail
      go_region_held3 (fun w' => w'.cell? ⟨w.heap.size, 0, none⟩ = some (.slice (some ⟨g, 0, none⟩) us.length cap0) ∧ w'.cell? ⟨ga, oa + k * 5, none⟩ = some (.int .i64 kd) ∧ w'.cell? ⟨ga, oa + k * 5 + 1, none⟩ = some (.int .i64 un) ∧ w'.cell? ⟨ga, oa + k * 5 + 2, none⟩ = some (.int .i64 ra) ∧ w'.cell? ⟨ga, oa + k * 5 + 3, none⟩ = some (.int .i64 rb) ∧ w'.cell? ⟨ga, oa + k * 5 + 4, none⟩ = some (.slice At ts.length ct)) (first | exact ⟨by assumption, by assumption, by assumption, by assumption, by assumption, by assumption⟩ | go_keep) ((first
       | (go_at_call 21; (refine (HSE.out _ (qa1 HBWE.out ((b0 we).drew))).mono ?_); rintro e w3 ⟨rfl, hb3⟩; replace hb3 : Below we.heap.size we w3 := qa1 ((b0 we).drew) hb3; have hz3 := hb3.size; have HW3 := hid (HWE.out.later hb3); have e0 := cell_below HW3.out.below hz2 t0; have e1 := cell_below HW3.out.below hgF2 u0; have e2 := cell_below HW3.out.below hgF2 u1; have e3 := cell_below HW3.out.below hgF2 u2; have e4 := cell_below HW3.out.below hgF2 u3; have e5 := cell_below HW3.out.below hgF2 u4; clear hb3)
       | (go_at_call 21; (refine (HSE.out _ (qa1 HBWE.out (qa0 (b0 we).drew _))).mono ?_); rintro e w3 ⟨rfl, hb3⟩; have HLt3 := hid (cell_below hb3 (show we.heap.size < (we.drew.alloc _).heap.size by simp) (show (we.drew.alloc (.cells #[.int .u8 10] _)).cell? ⟨we.heap.size, 0, none⟩ = some (.int .u8 10) from (qa6 we.drew _ _ 0).trans rfl)); have HZL3 := hid (show we.heap.size + 1 ≤ w3.heap.size from Nat.le_trans (by simp) hb3.size); replace hb3 : Below we.heap.size we w3 := qa1 (qa0 (b0 we).drew _) hb3; have hz3 := hb3.size; have HW3 := hid (HWE.out.later hb3); have e0 := cell_below HW3.out.below hz2 t0; have e1 := cell_below HW3.out.below hgF2 u0; have e2 := cell_below HW3.out.below hgF2 u1; have e3 := cell_below HW3.out.below hgF2 u2; have e4 := cell_below HW3.out.below hgF2 u3; have e5 := cell_below HW3.out.below hgF2 u4; clear hb3)
       | (refine qw9 (.tmp 36) (.tmp 43) 41 9 rfl ?_; (refine qu5 rfl (.tmp 36) (.tmp 43) 41 9 rfl w2.heap.size 5 ib Tryz.underlying41 Tryz.underlying9 HIB.out.1 HIB.out.2.1 HIB.out.2.2.1 HIB.out.2.2.2 (.slice A5 S.length c5) S.length (Lib.byteCells S) (by rfl) (by exact (HW3.out.alloc _).own) L (by rfl) (by unfold maxLen; omega) (by omega) (by exact (HW3.out.alloc _).size.2) ?_); intro v4 w4 hown4 hg4; have HLt4 := hid (lit_grown hg4 (show w3.heap.size < (w3.alloc _).heap.size by simp) (fun k hk => Nat.ne_of_lt (HW3.out.own.lt k hk).2) (show (w3.alloc (.cells #[.int .u8 10] _)).cell? ⟨w3.heap.size, 0, none⟩ = some (.int .u8 10) from (qa6 w3 _ _ 0).trans rfl)); obtain ⟨S4, A4, c4, rfl, hS4, hs4, HW4⟩ := ((HW3.out.alloc _).grown (t := L.data.toList) hg4 (by rw [hLL]; exact hown4)).next; have hz4 := HW4.out.size.2; have f0 := cell_below HW4.out.below hz2 t0; have f1 := cell_below HW4.out.below hgF2 u0; have f2 := cell_below HW4.out.below hgF2 u1; have f3 := cell_below HW4.out.below hgF2 u2; have f4 := cell_below HW4.out.below hgF2 u3; have f5 := cell_below HW4.out.below hgF2 u4; clear hown4 hg4)
       | (refine qw9 (.tmp 36) (.tmp 43) 41 9 rfl ?_; (refine qu5 rfl (.tmp 36) (.tmp 43) 41 9 rfl w2.heap.size 5 ib Tryz.underlying41 Tryz.underlying9 HIB.out.1 HIB.out.2.1 HIB.out.2.2.1 HIB.out.2.2.2 (.slice A5 S.length c5) S.length (Lib.byteCells S) (by rfl) (by exact HW3.out.own) L (by rfl) (by unfold maxLen; omega) (by omega) (by exact HW3.out.size.2) ?_); intro v4 w4 hown4 hg4; (try (have HLt4 := hid (lit_grown hg4 (Nat.lt_of_lt_of_le (Nat.lt_of_lt_of_le (Nat.lt_succ_self _) (show we.heap.size + 1 ≤ w3.heap.size from HZL3.out)) (Nat.le_refl _)) (fun k hk => Nat.ne_of_lt (HWE.out.own.lt k hk).2) HLt3.out))); obtain ⟨S4, A4, c4, rfl, hS4, hs4, HW4⟩ := (HW3.out.grown (t := L.data.toList) hg4 (by rw [hLL]; exact hown4)).next; have hz4 := HW4.out.size.2; have f0 := cell_below HW4.out.below hz2 t0; have f1 := cell_below HW4.out.below hgF2 u0; have f2 := cell_below HW4.out.below hgF2 u1; have f3 := cell_below HW4.out.below hgF2 u2; have f4 := cell_below HW4.out.below hgF2 u3; have f5 := cell_below HW4.out.below hgF2 u4; clear hown4 hg4)
       | (refine qc9 (.tmp 44) (.tmp 45) 41 rfl ?_; (refine qa9 _ rfl (.tmp 44) (.tmp 45) 41 rfl w2.heap.size 5 ib _ 1 1 Tryz.underlying41 HIB.out.1 HIB.out.2.1 HIB.out.2.2.1 HIB.out.2.2.2 rfl (by omega) (.slice A4 S4.length c4) S4.length (Lib.byteCells S4) (by rfl) (by exact (HW4.out.alloc _).own) (some ⟨w4.heap.size, 0, none⟩) 1 1 (Lib.byteCells [10]) (by rfl) (by exact own_lit 10 rfl) (byteCells_one _) (by unfold maxLen; omega) (by omega) (by exact (HW4.out.alloc _).size.2) ?_); intro v5 w5 hown5 hg5 _; have HW5 := hid ((HW4.out.alloc _).grown (t := [10]) hg5 hown5); obtain ⟨A6, c6, rfl⟩ := qb1 HW5.out.own; have k0 := cell_below HW5.out.below hz2 t0; have k1 := cell_below HW5.out.below hgF2 u0; have k2 := cell_below HW5.out.below hgF2 u1; have k3 := cell_below HW5.out.below hgF2 u2; have k4 := cell_below HW5.out.below hgF2 u3; have k5 := cell_below HW5.out.below hgF2 u4; clear hown5 hg5)
       | (refine qc9 (.tmp 44) (.tmp 45) 41 rfl ?_; (refine qa9 _ rfl (.tmp 44) (.tmp 45) 41 rfl w2.heap.size 5 ib _ 1 1 Tryz.underlying41 HIB.out.1 HIB.out.2.1 HIB.out.2.2.1 HIB.out.2.2.2 rfl (by omega) (.slice A4 S4.length c4) S4.length (Lib.byteCells S4) (by rfl) (by exact HW4.out.own) (some ⟨we.heap.size, 0, none⟩) 1 1 (Lib.byteCells [10]) (by rfl) (by exact src_cell HLt4.out) (byteCells_one _) (by unfold maxLen; omega) (by omega) (by exact HW4.out.size.2) ?_); intro v5 w5 hown5 hg5 _; have HW5 := hid (HW4.out.grown (t := [10]) hg5 hown5); obtain ⟨A6, c6, rfl⟩ := qb1 HW5.out.own; have k0 := cell_below HW5.out.below hz2 t0; have k1 := cell_below HW5.out.below hgF2 u0; have k2 := cell_below HW5.out.below hgF2 u1; have k3 := cell_below HW5.out.below hgF2 u2; have k4 := cell_below HW5.out.below hgF2 u3; have k5 := cell_below HW5.out.below hgF2 u4; clear hown5 hg5)
       | (refine qc9 (.tmp 44) (.tmp 45) 41 rfl ?_; (refine qa9 _ rfl (.tmp 44) (.tmp 45) 41 rfl w2.heap.size 5 ib _ 1 1 Tryz.underlying41 HIB.out.1 HIB.out.2.1 HIB.out.2.2.1 HIB.out.2.2.2 rfl (by omega) (.slice A4 S4.length c4) S4.length (Lib.byteCells S4) (by rfl) (by exact HW4.out.own) (some ⟨w3.heap.size, 0, none⟩) 1 1 (Lib.byteCells [10]) (by rfl) (by exact src_cell HLt4.out) (byteCells_one _) (by unfold maxLen; omega) (by omega) (by exact HW4.out.size.2) ?_); intro v5 w5 hown5 hg5 _; have HW5 := hid (HW4.out.grown (t := [10]) hg5 hown5); obtain ⟨A6, c6, rfl⟩ := qb1 HW5.out.own; have k0 := cell_below HW5.out.below hz2 t0; have k1 := cell_below HW5.out.below hgF2 u0; have k2 := cell_below HW5.out.below hgF2 u1; have k3 := cell_below HW5.out.below hgF2 u2; have k4 := cell_below HW5.out.below hgF2 u3; have k5 := cell_below HW5.out.below hgF2 u4; clear hown5 hg5)))
      all_goals
       have hfin : Hid (Wr 5 w2.heap.size w2 w5 (.slice A6 (S4.length + 1) c6) (qe9 us (l.take (k + 1)) 1)) := hid (by
        have h7 := HW5.out
        have e : S4 ++ [10] = qe9 us (l.take (k + 1)) 1 := by rw [hS4.out, HSU.out, List.append_assoc]
        have e2 : (qe9 us (l.take (k + 1)) 1).length = S4.length + 1 := by rw [← e]; simp
        rw [e, e2] at h7
        exact h7)
       clear HSU
       go_wp2_with fail
       exact ⟨⟨k + 1, by omega, by go_num, HGK1, hfin⟩, by simp [intOf]; omega⟩
    ·have q1 : decide ((us.length : Int) ≤ un) = true := decide_eq_true (by omega)
     have q2 : (us.length : Int) ≤ un := by omega
     have HF := hid (HBAD.out (by rw [hgood, decide_eq_false hul, Bool.and_false]))
     have l0 := qa2 (show w.heap.size < wr.heap.size by omega) y0
     have l1 := qa2 hgF d1
     have l4 := qa2 hgF d4
     clear hwr hgood hul HSEN HLS HRS
     go_upto_region 7 with fail
     (refine qa3 (by kernel_rfl) (by kernel_rfl) ?_; (repeat (go_big_quiet_step ((first | (go_at_call 37; exact Calls.later (HIM.out _) rfl))))); refine wpQuiet_nil ?_; rintro _ ⟨e8, rfl⟩)
     go_wp2_with fail
     go_ret2
     exact ⟨congrArg (fun p : ByteArray × Int => Ending.returned (Value.tuple #[.string p.1, .int .i64 p.2])) HF.out.symm, qa1 HBWR.out e8.below⟩
   ·have hkl : k = l.length := by omega
    have j1 : ¬ ((k : Int) < ↑l.length) := by omega
    have j2 : decide (k < l.length) = false := decide_eq_false hlt
    have hall : ∀ r ∈ l, ql3 us r = true := fun r hr => by
     obtain ⟨i, hi, rfl⟩ := List.getElem_of_mem hr
     exact hgd.out i hi (by omega)
    have HKS := hid (qy3 HO.out k hk (by omega) (fun i hi hik => qy2 HMAY.out hi (hgd.out i hi hik)))
    have hwr2 := hwr.out
    rw [hkl, List.take_length] at hwr2 HKS
    have hks := HKS.out
    have hkk : l.length * 6001 ≤ 100000 * 6001 := Nat.mul_le_mul_right _ (by omega)
    have HT : Hid (qm3 us l = if (qe9 us l 1).length ≤ 1048576 then (⟨(qe9 us l 1).toArray⟩, 0) else (⟨#[]⟩, 32)) := hid (by unfold qm3; rw [if_pos ⟨HMAY.out, hall⟩])
    obtain ⟨S, hS⟩ : ∃ S, qe9 us l 1 = S := ⟨_, rfl⟩
    rw [hS] at hwr2 hks HT
    obtain ⟨A5, c5, hv⟩ := qb1 hwr2.own
    subst hv
    have HW2 := hid hwr2
    have hcv := conv_own (P := Tryz.prog) (src := 41) (dst := 9) Tryz.underlying41 Tryz.underlying5 Tryz.underlying9 hwr2.own
    by_cases hle : S.length ≤ 1048576
    ·have HF : Hid (qm3 us l = (⟨S.toArray⟩, 0)) := hid (by rw [HT.out, if_pos hle])
     have z1 : decide ((1048576 : Int) < S.length) = false := decide_eq_false (by omega)
     have z2 : decide (1048576 < S.length) = false := decide_eq_false (by omega)
     have z3 : ¬ (1048576 : Int) < S.length := by omega
     have z4 : ¬ 1048576 < S.length := by omega
     clear hkl hS hwr hwr2 HT HKS hks hgd hall hkk
     go_wp2_with fail
     go_ret2
     exact ⟨congrArg (fun p : ByteArray × Int => Ending.returned (Value.tuple #[.string p.1, .int .i64 p.2])) HF.out.symm, qa1 HBW2.out HW2.out.below⟩
    ·have HF : Hid (qm3 us l = (⟨#[]⟩, 32)) := hid (by rw [HT.out, if_neg (by omega)])
     have z1 : decide ((1048576 : Int) < S.length) = true := decide_eq_true (by omega)
     have z2 : decide (1048576 < S.length) = true := decide_eq_true (by omega)
     have z3 : (1048576 : Int) < S.length := by omega
     have z4 : 1048576 < S.length := by omega
     clear hkl hS hwr hwr2 HT HKS hks hgd hall hkk
     go_wp2_with fail
     go_ret2
     exact ⟨congrArg (fun p : ByteArray × Int => Ending.returned (Value.tuple #[.string p.1, .int .i64 p.2])) HF.out.symm, qa1 HBW2.out HW2.out.below⟩
 ·have hdm : decide (MayP l) = false := decide_eq_false hm
  rw [hdm] at HM0
  have HBAD : Hid (qm3 us l = (⟨#[]⟩, 33)) := hid (by unfold qm3; rw [if_neg (fun hh => hm hh.1)])
  clear hm hdm
  go_enter Tryz.func13, Tryz.ntmps13
  go_wp2_with (go_at_call 36; rw [← HW0.out]; refine HM0.out.mono ?_; rintro e w1 ⟨rfl, hb1⟩; have HB1 := hid (qa1 HB0.out hb1); clear hb1)
  go_ret2
  exact ⟨congrArg (fun p : ByteArray × Int => Ending.returned (Value.tuple #[.string p.1, .int .i64 p.2])) HBAD.out.symm, HB1.out⟩
end
end
end Go.Proofs.YtbfbppjccbppiaaGreatDoor
