import Derived.Test.YtmbjeppnamhgiaaGreatT12
import Derived.Test.YtmbjeppnamhgiaaGreatV12
import Derived.Outline
import Derived.Test.YtmbjeppnamhgiaaGreatzT15
import Derived.Test.YtmbjeppnamhgiaaGreatzT7
import Derived.Test.YtmbjeppnamhgiaaGreatzA6
section
/- Contract: ref24.Decide. -/
namespace Go.Proofs.YtmbjeppnamhgiaaGreat
open Go Go.RowKit

/-- What Decide tells: a trail with a decision behind it. -/
def DecidePost (ns : List Nat) (l : List StepN) (u : Nat) (a : Int) (w : World) (e : Ending) (w' : World) : Prop :=
  ∃ tv ok, e = .returned (.tuple #[tv, .bool ok]) ∧ Below w.heap.size w w' ∧ (ok = true → ∃ q : Nat, a = (q : Int) ∧ inN (2 ^ (q + 1)) (leftN ns l u) ∧ OwnF fStep 98 w.heap.size w' tv (l ++ [⟨u, 2 ^ (q + 1), levelN l + 1, -1⟩]))
theorem stepB_in {ns : List Nat} {l : List StepN} {u m : Nat} (h : stepB ns l u m = true) : inN m (leftN ns l u) := by
  unfold stepB at h
  simp only [Bool.and_eq_true, decide_eq_true_eq] at h
  exact h.2.1
set_option maxRecDepth 100000 in
set_option maxHeartbeats 8000000 in
theorem rdecide_any (v lv : Value) (ns : List Nat) (db : Nat → Nat → Nat) (D : Nat) (l : List StepN) (u : Nat) (a : Int) (w : World) (h : UniRd w (Lt w.heap.size) v ns) (ho : NsOk ns) (hl : SliceRd fStep.ty w (Lt w.heap.size) lv l) (hll : l.length ≤ 900) (ht : TrOk ns db D l) (hu : u < ns.length) (ha : -1 ≤ a) (ha2 : a ≤ 3) :
    Calls Tryz.prog 70 #[v, lv, .int .i64 u, .int .i64 a] w (DecidePost ns l u a w) := by
  obtain ⟨it, hit⟩ := info_parts step_info
  have HIT := hid hit
  have HH := hid h
  have HO := hid ho
  have HL := hid hl
  have HT := hid ht
  have hnv := ht.level_le
  have h11 := ho.hi
  obtain ⟨g, cap0, rfl, hg, hcs⟩ := h
  obtain ⟨Au, cu, hcu⟩ := hcs u hu
  obtain ⟨A, cap, rfl, hca, hcm, -⟩ := hl.steps
  unfold maxLen at hcm
  have h4 := ho.le u hu
  obtain ⟨n, hn⟩ : ∃ n, ns[u] = n := ⟨_, rfl⟩
  rw [hn] at hcu h4
  have hcw : (w.alloc (.cells #[.slice (some ⟨g, 0, none⟩) ns.length cap0] 26)).cell? ⟨g, u * 3 + 2, none⟩ = some (.slice Au n cu) := cell_below (balloc (b0 w) _) hg hcu
  have u1 : (0 : Int) ≤ ↑u := by omega
  have u2 : (↑u : Int) < ↑ns.length := by omega
  have HSRC := hid (fun (W : World) (hb : Below w.heap.size w W) => (HL.out.lift hb hb.size).srcF)
  have hokl := hl.srcF.2.2
  have HOKL := hid hokl
  obtain ⟨ln, hln⟩ : ∃ ln, l.length = ln := ⟨_, rfl⟩
  clear hit ho hl ht hcs hn hokl
  have hcase : (a = -1 ∨ (n : Int) ≤ a) ∨ (0 ≤ a ∧ a < n) := by omega
  rcases hcase with hbad | hgood
  · have hz : a < 0 ∨ (0 ≤ a ∧ (n : Int) ≤ a) := by omega
    clear hbad
    rcases hz with hz | ⟨hz1, hz2⟩
    · go_enter Tryz.func70, Tryz.ntmps70
      go_wp2
      exact bodyPost_ret (v := .tuple #[.slice none 0 0, .bool false]) (by simp [results, Tryz.results70, go_sem]) rfl ⟨_, _, rfl, balloc (b0 w) _, fun h => by cases h⟩
    · go_enter Tryz.func70, Tryz.ntmps70
      go_wp2
      exact bodyPost_ret (v := .tuple #[.slice none 0 0, .bool false]) (by simp [results, Tryz.results70, go_sem]) rfl ⟨_, _, rfl, balloc (b0 w) _, fun h => by cases h⟩
  · obtain ⟨q, rfl⟩ : ∃ q : Nat, a = (q : Int) := ⟨a.toNat, by omega⟩
    have hq : q = 0 ∨ q = 1 ∨ q = 2 ∨ q = 3 := by omega
    have hqn : (q : Int) < ↑n := hgood.2
    have hq0 : (0 : Int) ≤ ↑q := by omega
    have hm31 : 2 ^ (q + 1) ≤ 31 := by rcases hq with rfl | rfl | rfl | rfl <;> decide
    have HST := hid (fun (W : World) (hb : Below w.heap.size w W) => rstep_any _ _ ns db D l u (2 ^ (q + 1)) W (uni_later HH.out hb) HO.out (HL.out.lift hb hb.size) hll HT.out hu hm31)
    have HSI := hid (stepB_in (ns := ns) (l := l) (u := u) (m := 2 ^ (q + 1)))
    have HLV := hid (fun (W : World) (hb : Below w.heap.size w W) => rlevel_any _ l W (HL.out.lift hb hb.size))
    obtain ⟨pq, hpq⟩ : ∃ pq, 2 ^ (q + 1) = pq := ⟨_, rfl⟩
    have hsh : wrap64 (2 * (2 : Int) ^ q) = (pq : Int) := by rw [← hpq]; rcases hq with rfl | rfl | rfl | rfl <;> simp [wrap64]
    rw [hpq] at HST HSI hm31
    have HPQ := hid hpq
    have HOKS := hid (show fStep.ok ⟨u, pq, levelN l + 1, -1⟩ from ⟨by show u ≤ 1000; omega, hm31, by show levelN l + 1 ≤ 1000; omega, by show (-1 : Int) ≤ -1; omega, by show (-1 : Int) ≤ 100000; omega⟩)
    generalize hsb : stepB ns l u pq = sb at *
    generalize hnvx : levelN l = nv at *
    have HNV := hid hnvx
    clear hnvx
    clear hpq hq hgood hsb
    rw [hln] at HSRC hca hll hnv HST HLV ⊢
    go_enter Tryz.func70, Tryz.ntmps70
    go_wp2_with fail
    obtain ⟨w0, hw0⟩ : ∃ w0 : World, w0 = w.alloc (.cells #[.slice (some ⟨g, 0, none⟩) ns.length cap0] 26) := ⟨_, rfl⟩
    have hb0 : Below w.heap.size w w0 := hw0 ▸ balloc (b0 w) _
    have q0 : w0.cell? ⟨w.heap.size, 0, none⟩ = some (.slice (some ⟨g, 0, none⟩) ns.length cap0) := by rw [hw0, alloc_cell]; rfl
    have hz0 : w.heap.size < w0.heap.size := by rw [hw0]; simp
    have HB0 := hid hb0
    rw [← hw0]
    clear hw0 hb0 hcw
    refine (HLV.out w0 HB0.out).mono ?_
    rintro e w1 ⟨rfl, hw1⟩
    rw [hw1]
    clear hw1
    go_wp2_with fail
    obtain ⟨w2, hw2⟩ : ∃ w2 : World, w2 = w0.alloc (.cells #[.int .i64 u, .int .i64 pq, .int .i64 (↑nv + 1), .int .i64 (-1)] 98) := ⟨_, rfl⟩
    have hb2 : Below w0.heap.size w0 w2 := hw2 ▸ balloc (b0 w0) _
    have hz2 : w0.heap.size < w2.heap.size := by rw [hw2]; simp
    have s0 : w2.cell? ⟨w0.heap.size, 0, none⟩ = some (.int .i64 u) := by rw [hw2, alloc_cell]; rfl
    have s1 : w2.cell? ⟨w0.heap.size, 1, none⟩ = some (.int .i64 pq) := by rw [hw2, alloc_cell]; rfl
    have s2 : w2.cell? ⟨w0.heap.size, 2, none⟩ = some (.int .i64 (↑nv + 1)) := by rw [hw2, alloc_cell]; rfl
    have s3 : w2.cell? ⟨w0.heap.size, 3, none⟩ = some (.int .i64 (-1)) := by rw [hw2, alloc_cell]; rfl
    have HB2 := hid (bstep HB0.out hb2)
    rw [← hw2]
    clear hw2 hb2 q0
    refine (HST.out w2 HB2.out).mono ?_
    rintro e w3 ⟨rfl, hb3⟩
    have r0 := cell_below hb3 hz2 s0
    have r1 := cell_below hb3 hz2 s1
    have r2 := cell_below hb3 hz2 s2
    have r3 := cell_below hb3 hz2 s3
    have hz3 := Nat.lt_of_lt_of_le hz2 hb3.size
    have hbw := bstep HB2.out hb3
    have HB3 := hid hbw
    clear s0 s1 s2 s3 hb3
    cases sb with
    | false =>
      go_wp2
      exact bodyPost_ret (v := .tuple #[.slice none 0 0, .bool false]) (by simp [results, Tryz.results70, go_sem]) rfl ⟨_, _, rfl, HB3.out, fun h => by cases h⟩
    | true =>
      have HBW := HB3
      have HS1 := hid (fun (W : World) (hb : Below w.heap.size w W) => (HSRC.out W hb).2.1)
      go_wp2_with fail
      go_region_law ((first | (refine step_guard (.const (.slice none 0 0)) (.tmp 48) 31 rfl ?_; refine step_append_src _ rfl (.const (.slice none 0 0)) (.tmp 48) 31 rfl w.heap.size 98 it _ 4 32 Tryz.underlying31 HIT.out.1 HIT.out.2.1 HIT.out.2.2.1 HIT.out.2.2.2 rfl (by omega) (.slice none 0 0) (0) ([]) (by rfl) (own_noneF _ _ _ _) (A) (ln) (cap) (fStep.all (l)) (by rfl) (HS1.out _ (by repeat (first | (with_reducible exact HBW.out) | (with_reducible exact HW1.out) | (with_reducible exact HW2.out) | (with_reducible exact b0 _) | (with_reducible refine balloc ?_ _) | (with_reducible refine bdrew ?_)))) (fStep.all_one _) (by unfold maxLen; omega) (by omega) (Below.size (B := w.heap.size) (w := w) (by repeat (first | (with_reducible exact HBW.out) | (with_reducible exact HW1.out) | (with_reducible exact HW2.out) | (with_reducible exact b0 _) | (with_reducible refine balloc ?_ _) | (with_reducible refine bdrew ?_)))) ?_; intro v1 w1 hown1 hg1 hat1; have HW1 := hid (own_below (w := w) HBW.out (by repeat (first | (with_reducible exact HBW.out) | (with_reducible exact HW1.out) | (with_reducible exact HW2.out) | (with_reducible exact b0 _) | (with_reducible refine balloc ?_ _) | (with_reducible refine bdrew ?_))) hg1); have hbc1 := own_cells (b := w3.heap.size) hg1 (by simp); simp only [Nat.zero_add, List.nil_append] at hown1; obtain ⟨A1, c1, rfl⟩ := own_form hown1; have HO1 := hid hown1; have HG1 := hid hg1; clear hown1 hg1 hat1) | (refine step_guard (.tmp 49) (.tmp 51) 31 rfl ?_; refine step_append_src _ rfl (.tmp 49) (.tmp 51) 31 rfl w.heap.size 98 it _ 4 32 Tryz.underlying31 HIT.out.1 HIT.out.2.1 HIT.out.2.2.1 HIT.out.2.2.2 rfl (by omega) (.slice A1 (ln) c1) (ln) (fStep.all (l)) (by rfl) (by first | exact HO1.out | exact own_alloc_drew HO1.out _ | exact HO1.out.alloc _) (some ⟨w1.heap.size, 0, none⟩) (1) (1) (fStep.cells ⟨u, pq, nv + 1, -1⟩) (by rfl) (by first | exact src_new _ _ rfl 4 _ rfl rfl | exact src_new_drew _ _ rfl 4 _ rfl rfl) (by simp [fStep, Value.oneCell']) (by unfold maxLen; omega) (by omega) (Below.size (B := w.heap.size) (w := w) (by repeat (first | (with_reducible exact HBW.out) | (with_reducible exact HW1.out) | (with_reducible exact HW2.out) | (with_reducible exact b0 _) | (with_reducible refine balloc ?_ _) | (with_reducible refine bdrew ?_)))) ?_; intro v2 w2 hown2 hg2 hat2; have HW2 := hid (own_below2 HO1.out HW1.out (by repeat (first | (with_reducible exact HBW.out) | (with_reducible exact HW1.out) | (with_reducible exact HW2.out) | (with_reducible exact b0 _) | (with_reducible refine balloc ?_ _) | (with_reducible refine bdrew ?_))) hg2); obtain ⟨A2, c2, rfl⟩ := own_form hown2; have HO2 := hid hown2; clear hown2 hg2 hat2) | (refine step_guard (.tmp 49) (.tmp 51) 31 rfl ?_; refine step_append_src _ rfl (.tmp 49) (.tmp 51) 31 rfl w.heap.size 98 it _ 4 32 Tryz.underlying31 HIT.out.1 HIT.out.2.1 HIT.out.2.2.1 HIT.out.2.2.2 rfl (by omega) (.slice A1 (ln) c1) (ln) (fStep.all (l)) (by rfl) (by first | exact HO1.out | exact own_alloc_drew HO1.out _ | exact HO1.out.alloc _) (some ⟨w3.heap.size, 0, none⟩) (1) (1) (fStep.cells ⟨u, pq, nv + 1, -1⟩) (by rfl) (by first | exact src_grown (src_new _ _ rfl 4 _ rfl rfl) HG1.out (by simp) | exact src_grown (src_new_drew _ _ rfl 4 _ rfl rfl) HG1.out (by simp)) (by simp [fStep, Value.oneCell']) (by unfold maxLen; omega) (by omega) (Below.size (B := w.heap.size) (w := w) (by repeat (first | (with_reducible exact HBW.out) | (with_reducible exact HW1.out) | (with_reducible exact HW2.out) | (with_reducible exact b0 _) | (with_reducible refine balloc ?_ _) | (with_reducible refine bdrew ?_)))) ?_; intro v2 w2 hown2 hg2 hat2; have HW2 := hid (own_below2 HO1.out HW1.out (by repeat (first | (with_reducible exact HBW.out) | (with_reducible exact HW1.out) | (with_reducible exact HW2.out) | (with_reducible exact b0 _) | (with_reducible refine balloc ?_ _) | (with_reducible refine bdrew ?_))) hg2); obtain ⟨A2, c2, rfl⟩ := own_form hown2; have HO2 := hid hown2; clear hown2 hg2 hat2)))
      all_goals
        go_wp2_with fail
        exact bodyPost_ret (v := .tuple #[.slice A2 (ln + 1) c2, .bool true]) (by simp [results, Tryz.results70, go_sem]) rfl ⟨_, _, rfl, HW2.out, fun _ => ⟨q, rfl, by rw [HPQ.out]; exact HSI.out trivial, by rw [HPQ.out, HNV.out]; exact own_snocF hln HOKL.out HOKS.out HO2.out⟩⟩
end Go.Proofs.YtmbjeppnamhgiaaGreat
end
section
/- Contract: linchpinmade.Trail. -/
namespace Go.Proofs.YtmbjeppnamhgiaaGreat
open Go Go.RowKit

theorem place_in (v : Int) {n : Nat} (h : 1 ≤ n) : ∃ u : Nat, placeF v n = u ∧ u < n := by
  have h1 := placeF_lo v (n : Int)
  have h2 := placeF_hi v (n : Int) (by omega)
  exact ⟨(placeF v n).toNat, by omega, by omega⟩
theorem each_bd {m : Nat} (hm : m ≤ 31) : ∀ x ∈ eachL m 17, -1 ≤ x ∧ x ≤ 3 := by
  intro x hx
  unfold eachL at hx
  obtain ⟨k, hk, rfl⟩ := List.mem_map.1 hx
  rw [List.mem_filter] at hk
  have : k < 5 := by
    by_cases h : k < 5
    · exact h
    · have h2 : m < 2 ^ k := Nat.lt_of_lt_of_le (by omega : m < 2 ^ 5) (Nat.pow_le_pow_right (by decide) (by omega))
      rw [Nat.testBit_lt_two_pow h2] at hk
      cases hk.2
  omega
/-- What Trail tells. -/
def TrailPost (ns : List Nat) (db : Nat → Nat → Nat) (D : Nat) (w : World) (e : Ending) (w' : World) : Prop :=
  ∃ tv l r, e = .returned (.tuple #[tv, .int .i64 r]) ∧ TrOk ns db D l ∧ l.length ≤ 800 ∧ SliceRd fStep.ty w' (Lt w'.heap.size) tv l ∧ (r = -1 ∨ ∃ k : Nat, r = (k : Int) ∧ k < D ∧ Sure ns l (db k)) ∧ Below w.heap.size w w'
set_option maxRecDepth 100000 in
set_option maxHeartbeats 8000000 in
theorem trail_any (v dv xv : Value) (ns : List Nat) (db : Nat → Nat → Nat) (D : Nat) (xs : List Int) (w : World) (h : UniRd w (Lt w.heap.size) v ns) (ho : NsOk ns) (hd : SliceRd (tSlice tTerm) w (Lt w.heap.size) dv (dbL ns db D)) (hok : ∀ c, c < D → IncOk ns (db c)) (hD : D ≤ 100000) (hx : SliceRd tInt w (Lt w.heap.size) xv xs) :
    Calls Tryz.prog 43 #[v, dv, xv] w (TrailPost ns db D w) := by
  have HH := hid h
  have HO := hid ho
  have HOK := hid hok
  have HD := hid hd
  have h11 := ho.hi
  have h2 := ho.lo
  obtain ⟨g, cap0, rfl, hg, -⟩ := h
  obtain ⟨Ad, capd, rfl, -⟩ := hd.dbs
  obtain ⟨Ax, capx, rfl, hcx, hcxm, hxc⟩ := hx.ints
  unfold maxLen at hcxm
  have HXC := hid hxc
  obtain ⟨ln, hln⟩ : ∃ ln, xs.length = ln := ⟨_, rfl⟩
  have HLN := hid hln
  rw [hln] at hcx ⊢
  clear ho hd hok hx hxc hln
  go_enter Tryz.func43, Tryz.ntmps43
  go_wp2_with fail
  obtain ⟨w0, hw0⟩ : ∃ w0 : World, w0 = w.alloc (.cells #[.slice (some ⟨g, 0, none⟩) ns.length cap0] 26) := ⟨_, rfl⟩
  have hb0 : Below w.heap.size w w0 := hw0 ▸ balloc (b0 w) _
  have hz0 : w.heap.size < w0.heap.size := by rw [hw0]; simp
  have q0 : w0.cell? ⟨w.heap.size, 0, none⟩ = some (.slice (some ⟨g, 0, none⟩) ns.length cap0) := by rw [hw0, alloc_cell]; rfl
  have HB0 := hid hb0
  rw [← hw0]
  clear hw0 hb0
  go_loopw [8, 9] (fun tv iv wr => ∃ (i : Nat) (l : List StepN), i ≤ 12 ∧ iv = .int .i64 i ∧ Hid (SliceRd fStep.ty wr (Lt wr.heap.size) tv l) ∧ Hid (TrOk ns db D l) ∧ Hid (l.length ≤ i * 56) ∧ Hid (Below w0.heap.size w0 wr)) (fun _ iv _ => 13 - (intOf iv).toNat)
  case atStart => exact ⟨0, [], Nat.zero_le _, rfl, hid (SliceRd.nil _ _ _), hid .nil, hid (Nat.le_refl _), hid (b0 w0)⟩
  case round =>
    obtain ⟨i, l, hi, rfl, htv, ht, hl, hb⟩ := hrel
    have hbw := HB0.out.trans (hb.out.mono HB0.out.size)
    have HBW := hid hbw
    have hzr := Nat.lt_of_lt_of_le hz0 hb.out.size
    have qr := cell_below hb.out hz0 q0
    have hl8 : l.length ≤ 672 := by have := hl.out; omega
    obtain ⟨At, ct, htve, hct, hctm, -⟩ := htv.out.steps
    obtain ⟨ll, hll⟩ : ∃ ll, l.length = ll := ⟨_, rfl⟩
    have HLL := hid hll
    rw [hll] at htve
    subst htve
    clear hll
    by_cases hlt : i ≤ ln ∧ i < 12
    · have i1 : (↑i : Int) ≤ ↑ln := by omega
      have i2 : (↑i : Int) < 12 := by omega
      have HRN := hid (rrun_any (.agg #[.slice (some ⟨g, 0, none⟩) ns.length cap0]) (.slice At ll ct) (.slice Ad D capd) ns db D l wr (uni_later HH.out hbw) HO.out htv.out (by omega) ht.out (HD.out.lift hbw hbw.size) HOK.out hD)
      clear hbw hct hctm
      go_wp2_with fail
      refine HRN.out.mono ?_
      rintro e w2 ⟨tv2, r, m, rfl, his, hown, hb2⟩
      obtain ⟨htr, hml, -, hres⟩ := his
      obtain ⟨A2, c2, hv2⟩ := hown.form
      subst hv2
      have HTR := hid htr
      have hlm : (l ++ m).length ≤ i * 56 + 55 := by have h5 := hl.out; rw [List.length_append]; omega
      obtain ⟨l2, hl2⟩ : ∃ l2, l ++ m = l2 := ⟨_, rfl⟩
      rw [hl2] at HTR hres hown hlm ⊢
      obtain ⟨n2, hn2⟩ : ∃ n2, l2.length = n2 := ⟨_, rfl⟩
      have HN2 := hid hn2
      rw [hn2] at hown hlm ⊢
      have HRD2 := hid hown.rd
      have HBW2 := hid (bstep HBW.out hb2)
      have HB2 := hid (bstep hb.out hb2)
      have q2 := cell_below hb2 hzr qr
      have hz2 := Nat.lt_of_lt_of_le hzr hb2.size
      clear hown hb2 htr hml hl2 hn2
      rcases hres with ⟨rfl, hno⟩ | ⟨k, rfl, hk, hsu⟩
      · have HNO := hid hno
        clear hno
        by_cases hin : i = ln
        · subst hin
          go_wp2
          exact bodyPost_ret (v := .tuple #[.slice A2 n2 c2, .int .i64 (-1)]) (by simp [results, Tryz.results43, go_sem]) rfl ⟨_, l2, _, rfl, HTR.out, by rw [HN2.out]; omega, HRD2.out, .inl rfl, HBW2.out⟩
        · have zi : ((i : Int) == (ln : Int)) = false := by rw [beq_eq_false_iff_ne]; omega
          obtain ⟨gx, ox, hAx, hFx, x0, hx64⟩ := HXC.out i (by rw [HLN.out]; omega)
          subst hAx
          obtain ⟨xi, hxi⟩ : ∃ xi, xs[i]'(by rw [HLN.out]; omega) = xi := ⟨_, rfl⟩
          rw [hxi] at x0 hx64
          obtain ⟨u, hu, hul⟩ := place_in xi (n := ns.length) (by omega)
          obtain ⟨pl, hpl, hpll⟩ := place_in xi (n := 7) (by omega)
          have HPL := hid (fun W => (place_any xi (ns.length : Int) W hx64 ⟨by omega, by omega⟩).mono (fun e w' h => (show e = .returned (.int .i64 (u : Int)) ∧ w' = W from ⟨by rw [h.1, hu], h.2.symm⟩)))
          have HPL7 := hid (fun W => (place_any xi 7 W hx64 ⟨by omega, by omega⟩).mono (fun e w' h => (show e = .returned (.int .i64 (pl : Int)) ∧ w' = W from ⟨by rw [h.1]; exact congrArg (fun z => Ending.returned (.int .i64 z)) hpl, h.2.symm⟩)))
          have hgx2 : gx < w2.heap.size := Nat.lt_of_lt_of_le hFx HBW2.out.size
          have lx := later_cell hgx2 (cell_below HBW2.out hFx x0)
          have lq := later_cell hz2 q2
          have i0 : (0 : Int) ≤ ↑i := by omega
          have i3 : (↑i : Int) < ↑ln := by omega
          have HX0 := hid x0
          clear x0 hu hpl hxi
          have HPE := hid (fun e : Later w2 => HPL.out e.w)
          go_wp2_with fail
          (refine wp_region_later (by kernel_rfl) (by kernel_rfl) ?_; (repeat (go_big_quiet_step ((first | (go_at_call 41; exact Calls.later_same (HPE.out _) rfl))))); refine wpQuiet_nil ?_; rintro _ ⟨⟨w3, hb3⟩, rfl⟩)
          rename_i w3
          have HB23 := hid hb3
          have HBW3 := hid (bstep HBW2.out hb3)
          have HB3 := hid (bstep HB2.out hb3)
          have q3 := cell_below hb3 hz2 q2
          have hz3 := Nat.lt_of_lt_of_le hz2 hb3.size
          have HRD3 := hid (HRD2.out.lift hb3 hb3.size)
          have HLF := hid (rleft_any (.agg #[.slice (some ⟨g, 0, none⟩) ns.length cap0]) (.slice A2 n2 c2) ns l2 u w3 (uni_later HH.out HBW3.out) HO.out HRD3.out hul)
          have hL31 := HTR.out.le31 HO.out hul
          obtain ⟨L, hL⟩ : ∃ L, leftN ns l2 u = L := ⟨_, rfl⟩
          rw [hL] at HLF hL31
          have HEA := hid (fun W => reach_any L W hL31)
          clear hb3 lx lq hL
          go_wp2_with fail
          refine HLF.out.mono ?_
          rintro e w4 ⟨rfl, hb4⟩
          have HB34 := hid hb4
          clear hb4
          go_wp2_with fail
          refine (HEA.out w4).mono ?_
          rintro e w5 ⟨pv, rfl, hpo, hb5⟩
          obtain ⟨Ap, cp, hpv⟩ := hpo.form
          subst hpv
          have hb35 := bstep HB34.out hb5
          have HBW5 := hid (bstep HBW3.out hb35)
          have HB5 := hid (bstep HB3.out hb35)
          have HRD5 := hid (HRD3.out.lift hb35 hb35.size)
          have q5 := cell_below hb35 hz3 q3
          have hz5 := Nat.lt_of_lt_of_le hz3 hb35.size
          have HPR := hid hpo.rd
          have hpl17 := eachL_len L 17
          have HPB := hid (each_bd (m := L) hL31)
          obtain ⟨np, hnp⟩ : ∃ np, (eachL L 17).length = np := ⟨_, rfl⟩
          have HNP := hid hnp
          rw [hnp] at hpl17 HPR ⊢
          clear hb35 hb5 hpo hnp
          go_wp2_with fail
          go_loopw [8, 14] (fun tv iv wr => ∃ k : Nat, k ≤ np ∧ tv = .slice A2 n2 c2 ∧ iv = .int .i64 k ∧ Hid (Below w5.heap.size w5 wr)) (fun _ iv _ => np - (intOf iv).toNat)
          case atStart => exact ⟨0, Nat.zero_le _, rfl, rfl, hid (b0 w5)⟩
          case round =>
            obtain ⟨k, hk, rfl, rfl, hb6⟩ := hrel
            have HBW6 := hid (HBW5.out.trans (hb6.out.mono HBW5.out.size))
            have HB6 := hid (HB5.out.trans (hb6.out.mono HB5.out.size))
            have HRD6 := hid (HRD5.out.lift hb6.out hb6.out.size)
            have hz6 := Nat.lt_of_lt_of_le hz5 hb6.out.size
            by_cases hkn : k < np
            · have k0 : (0 : Int) ≤ ↑k := by omega
              have k1 : (↑k : Int) < ↑np := by omega
              obtain ⟨ix, hix, hixl⟩ : ∃ ix : Nat, Int.tmod ((k : Int) + (pl : Int)) (np : Int) = (ix : Int) ∧ ix < np := by
                refine ⟨(k + pl) % np, ?_, Nat.mod_lt _ (by omega)⟩
                rw [← Int.natCast_add, Int.ofNat_tmod]
              have hws : IntKind.i64.wrap ((k : Int) + (pl : Int)) = (k : Int) + (pl : Int) := IntWalk.i64_in _ (by omega)
              have hnz : ¬ ((np : Int) = 0) := by omega
              have hnb : ((np : Int) == 0) = false := beq_eq_false_iff_ne.2 hnz
              have hn0 : ¬ (np = 0) := by omega
              have hwx : IntKind.i64.wrap (ix : Int) = (ix : Int) := IntWalk.i64_in _ (by omega)
              have j0 : (0 : Int) ≤ ↑ix := by omega
              have j1 : (↑ix : Int) < ↑np := by omega
              obtain ⟨A, cpp, hvv, -, -, hpc⟩ := HPR.out.ints
              injection hvv with hA hA2 hA3
              clear hA2 hA3
              subst hA
              obtain ⟨gp, op, hAp, hFp, p0, -⟩ := hpc ix (by rw [HNP.out]; exact hixl)
              subst hAp
              have hpb := HPB.out _ (List.getElem_mem (show ix < (eachL L 17).length by rw [HNP.out]; exact hixl))
              obtain ⟨a, ha⟩ : ∃ a, (eachL L 17)[ix]'(by rw [HNP.out]; exact hixl) = a := ⟨_, rfl⟩
              rw [ha] at p0 hpb
              have e0 := cell_below hb6.out hz5 q5
              have e1 := cell_below hb6.out hFp p0
              have e2 := cell_below HBW6.out hFx HX0.out
              have hgx6 : gx < wr.heap.size := Nat.lt_of_lt_of_le hFx HBW6.out.size
              have hgp6 : gp < wr.heap.size := Nat.lt_of_lt_of_le hFp hb6.out.size
              have HDC := hid (fun (W : World) (hbW : Below wr.heap.size wr W) => rdecide_any (.agg #[.slice (some ⟨g, 0, none⟩) ns.length cap0]) (.slice A2 n2 c2) ns db D l2 u a W (uni_later HH.out (bstep HBW6.out hbW)) HO.out (HRD6.out.lift hbW hbW.size) (by rw [HN2.out]; omega) HTR.out hul hpb.1 hpb.2)
              clear ha hpc
              go_wp2_with fail
              go_region_held3 (fun w' => w'.cell? ⟨w.heap.size, 0, none⟩ = some (.slice (some ⟨g, 0, none⟩) ns.length cap0) ∧ w'.cell? ⟨gp, op + ix, none⟩ = some (.int .i64 a) ∧ w'.cell? ⟨gx, ox + i, none⟩ = some (.int .i64 xi)) (first | exact ⟨by assumption, by assumption, by assumption⟩ | go_keep) (first | (go_at_call 41; refine (HPL7.out _).mono ?_; rintro e w7 ⟨rfl, hw7⟩; rw [hw7]; clear hw7) | (go_at_call 70; refine (HDC.out _ (b0 _).drew).mono ?_; rintro e w8 ⟨tv8, ok8, rfl, hb8, hok8⟩; have HB8 := hid ((b0 _).drew.trans (hb8.mono (Nat.le_refl _))); have HOK8 := hid hok8; have f0 := cell_below HB8.out hz6 e0; have f1 := cell_below HB8.out hgp6 e1; have f2 := cell_below HB8.out hgx6 e2; clear hb8 hok8))
              have HB68 := hid (HB6.out.trans (HB8.out.mono HB6.out.size))
              cases ok8 with
              | true =>
                obtain ⟨q, rfl, hin8, hown8⟩ := HOK8.out rfl
                have htr8 : TrOk ns db D (l2 ++ [⟨u, 2 ^ (q + 1), levelN l2 + 1, -1⟩]) := .decide l2 _ HTR.out rfl hul hin8 (by have := Nat.pow_pos (n := q + 1) (show 0 < 2 by decide); show 2 ^ (q + 1) ≠ 0; omega) rfl HNO.out
                have HTR8 := hid htr8
                have HRD8 := hid hown8.rd
                have HLN8 := hid (show (l2 ++ [(⟨u, 2 ^ (q + 1), levelN l2 + 1, -1⟩ : StepN)]).length ≤ (i + 1) * 56 by rw [List.length_append, HN2.out, List.length_singleton]; omega)
                clear htr8 hown8 hin8
                go_wp2
                exact ⟨⟨i + 1, _, by omega, by go_num, HRD8, HTR8, HLN8, HB68⟩, by simp [intOf]; omega⟩
              | false =>
                clear HOK8
                go_wp2
                exact ⟨⟨k + 1, by omega, rfl, by go_num, hid (hb6.out.trans (HB8.out.mono hb6.out.size))⟩, by simp [intOf]; omega⟩
            · have hkp : k = np := by omega
              subst hkp
              clear hkn
              have HLN6 := hid (show l2.length ≤ (i + 1) * 56 by rw [HN2.out]; omega)
              go_wp2
              exact ⟨⟨i + 1, l2, by omega, by go_num, HRD6, HTR, HLN6, HB6⟩, by simp [intOf]; omega⟩
      · go_wp2
        exact bodyPost_ret (v := .tuple #[.slice A2 n2 c2, .int .i64 k]) (by simp [results, Tryz.results43, go_sem]) rfl ⟨_, l2, _, rfl, HTR.out, by rw [HN2.out]; omega, HRD2.out, .inr ⟨k, rfl, hk, hsu⟩, HBW2.out⟩
    · have hz : ¬ (↑i : Int) ≤ ↑ln ∨ ((↑i : Int) ≤ ↑ln ∧ ¬ (↑i : Int) < 12) := by omega
      clear hct hctm hbw
      rcases hz with hz | ⟨hz, hz2⟩
      · have hzd : decide ((↑i : Int) ≤ ↑ln) = false := decide_eq_false hz
        go_wp2
        exact bodyPost_ret (v := .tuple #[.slice At ll ct, .int .i64 (-1)]) (by simp [results, Tryz.results43, go_sem]) rfl ⟨_, l, _, rfl, ht.out, by omega, htv.out, .inl rfl, HBW.out⟩
      · have hzd : decide ((↑i : Int) < 12) = false := decide_eq_false hz2
        go_wp2
        exact bodyPost_ret (v := .tuple #[.slice At ll ct, .int .i64 (-1)]) (by simp [results, Tryz.results43, go_sem]) rfl ⟨_, l, _, rfl, ht.out, by omega, htv.out, .inl rfl, HBW.out⟩
end Go.Proofs.YtmbjeppnamhgiaaGreat
end
section
/- Contract: linchpinmade.Allow. -/
namespace Go.Proofs.YtmbjeppnamhgiaaGreat
open Go Go.RowKit

def natsI (l : List Nat) : List Int := l.map fun (a : Nat) => (a : Int)
theorem natsI_len (l : List Nat) : (natsI l).length = l.length := by unfold natsI; rw [List.length_map]
theorem natsI_snoc (l : List Nat) (a : Nat) : natsI (l ++ [a]) = natsI l ++ [(a : Int)] := by unfold natsI; rw [List.map_append]; rfl
/-- What is allowed, by numbers. -/
def AllowPost (ns : List Nat) (w : World) (e : Ending) (w' : World) : Prop :=
  ∃ v al, e = .returned v ∧ SliceRd tInt w' (Lt w'.heap.size) v (natsI al) ∧ (al.length = 0 ∨ al.length = ns.length) ∧ (∀ a ∈ al, a ≤ 31) ∧ Below w.heap.size w w'
set_option maxRecDepth 100000 in
set_option maxHeartbeats 4000000 in
theorem allow_any (v xv : Value) (ns : List Nat) (xs : List Int) (w : World) (h : UniRd w (Lt w.heap.size) v ns) (ho : NsOk ns) (hx : SliceRd tInt w (Lt w.heap.size) xv xs) :
    Calls Tryz.prog 12 #[v, xv] w (AllowPost ns w) := by
  obtain ⟨ii, hii⟩ := info_parts int_info
  have HII := hid hii
  have HH := hid h
  have HO := hid ho
  have HX := hid hx
  have h11 := ho.hi
  have HF31 := hid (fun x => fullN_le ho x)
  obtain ⟨g, cap0, rfl, hg, -⟩ := h
  obtain ⟨Ax, cx, rfl, hcx, hcxm, -⟩ := hx.ints
  unfold maxLen at hcxm
  obtain ⟨ln, hln⟩ : ∃ ln, xs.length = ln := ⟨_, rfl⟩
  rw [hln] at hcx HX ⊢
  clear hii ho hx hln
  by_cases h0 : ln = 0
  · subst h0
    go_enter Tryz.func12, Tryz.ntmps12
    go_wp2
    go_ret
    exact ⟨_, [], rfl, SliceRd.nil _ _ _, .inl rfl, fun a ha => (by cases ha), balloc (b0 w) _⟩
  · have hz : ((ln : Int) == 0) = false := by rw [beq_eq_false_iff_ne]; omega
    clear h0
    go_enter Tryz.func12, Tryz.ntmps12
    go_wp2_with fail
    obtain ⟨w0, hw0⟩ : ∃ w0 : World, w0 = w.alloc (.cells #[.slice (some ⟨g, 0, none⟩) ns.length cap0] 26) := ⟨_, rfl⟩
    have hb0 : Below w.heap.size w w0 := hw0 ▸ balloc (b0 w) _
    have hz0 : w.heap.size < w0.heap.size := by rw [hw0]; simp
    have q0 : w0.cell? ⟨w.heap.size, 0, none⟩ = some (.slice (some ⟨g, 0, none⟩) ns.length cap0) := by rw [hw0, alloc_cell]; rfl
    have HB0 := hid hb0
    rw [← hw0]
    clear hw0 hb0
    go_loopw [5, 6] (fun ov iv wr => ∃ al : List Nat, al.length ≤ ns.length ∧ iv = .int .i64 al.length ∧ Hid (OwnF fInt 3 w0.heap.size wr ov (natsI al)) ∧ Hid (∀ a ∈ al, a ≤ 31) ∧ Hid (Below w0.heap.size w0 wr)) (fun _ iv _ => ns.length - (intOf iv).toNat)
    case atStart => exact ⟨[], Nat.zero_le _, rfl, hid (OwnF.nil _ _ _ _), hid (fun a ha => (by cases ha)), hid (b0 w0)⟩
    case round =>
      obtain ⟨al, hal, rfl, how, h31, hb⟩ := hrel
      have hbw := HB0.out.trans (hb.out.mono HB0.out.size)
      have HBW := hid hbw
      have qr := cell_below hb.out hz0 q0
      have hzr := Nat.lt_of_lt_of_le hz0 hb.out.size
      obtain ⟨Ao, co, hov⟩ := how.out.form
      rw [natsI_len] at hov
      subst hov
      obtain ⟨u, hu⟩ : ∃ u, al.length = u := ⟨_, rfl⟩
      have HU := hid hu
      rw [hu] at hal how ⊢
      by_cases hlt : u < ns.length
      · have i0 : (0 : Int) ≤ ↑u := by omega
        have i1 : (↑u : Int) < ↑ns.length := by omega
        have hf := fullF_nat (ns := ns) u
        have hm31 := HF31.out u
        obtain ⟨ff, hff⟩ : ∃ ff, fullN ns u = ff := ⟨_, rfl⟩
        rw [hff] at hf hm31
        have HFL := hid (rfull_any (.agg #[.slice (some ⟨g, 0, none⟩) ns.length cap0]) ns u wr _ (uni_later HH.out hbw) HO.out ⟨by omega, by omega⟩ (fun _ h => h))
        rw [hf] at HFL
        clear hu hbw hff hf
        go_wp2_with fail
        refine HFL.out.mono ?_
        rintro e w2 ⟨rfl, hb2⟩
        have HBW2 := hid (bstep HBW.out hb2)
        have HB2 := hid (bstep hb.out hb2)
        have HOW2 := hid (how.out.below hb2 (Nat.le_refl _))
        have HX2 := hid (HX.out.lift HBW2.out HBW2.out.size)
        clear hb2
        go_wp2_with fail
        refine (at_any _ xs u w2 _ HX2.out ⟨by omega, by omega⟩).mono ?_
        rintro e w3 ⟨rfl, hw3⟩
        rw [← hw3]
        clear hw3
        have hat64 := atF_i64 (ints_i64 HX.out) (show I64 (u : Int) from ⟨by omega, by omega⟩)
        obtain ⟨kp, hkp, hkpl⟩ := place_in (atF xs u) (n := 300) (by omega)
        obtain ⟨av, hav⟩ : ∃ av, atF xs (u : Int) = av := ⟨_, rfl⟩
        rw [hav] at hat64 hkp ⊢
        have HPL := hid ((place_any av 300 w2 hat64 ⟨by omega, by omega⟩).mono (fun e w' h => (show e = .returned (.int .i64 (kp : Int)) ∧ w' = w2 from ⟨by rw [h.1]; exact congrArg (fun z => Ending.returned (.int .i64 z)) hkp, h.2.symm⟩)))
        clear hkp hav
        go_wp2_with fail
        refine HPL.out.mono ?_
        rintro e w3 ⟨rfl, hw3⟩
        rw [hw3]
        clear hw3
        have hs2 := HB2.out.size
        have hcase : ¬ ((kp : Int) < 100) ∨ ((kp : Int) < 100 ∧ u = 0) ∨ ((kp : Int) < 100 ∧ (0 : Int) < u) := by omega
        rcases hcase with hc | ⟨hc, hu0⟩ | ⟨hc, hu0⟩
        · have hcd : decide ((kp : Int) < 100) = false := decide_eq_false hc
          go_wp2_with (at_builtin; go_must (refine wpList_append_src _ rfl (.tmp 35) (.tmp 37) _ rfl w0.heap.size 3 ii _ 1 8 Tryz.underlying22 HII.out.1 HII.out.2.1 HII.out.2.2.1 HII.out.2.2.2 rfl (by omega) (.slice Ao u co) u (fInt.all (natsI al)) (by rfl) (by have h5 := fun o => HOW2.out.1.alloc o; rw [natsI_len, HU.out] at h5; exact h5 _) (some ⟨w2.heap.size, 0, none⟩) 1 1 (fInt.cells (ff : Int)) (by rfl) (by exact src_one (f := fInt) rfl) (by simp [fInt, Value.oneCell']) (by unfold maxLen; omega) (by omega) (by simp; omega) ?_; intro v5 w5 hown5 hg5 hat5; have HO5 := hid (own_snocF (x := (ff : Int)) (by rw [natsI_len, HU.out]) HOW2.out.2 (i64_small hm31) hown5); have HB5 := hid (own_app (v2 := v5) (HB2.out.alloc hs2 _) (HOW2.out.alloc _) (by simp; omega) hg5 rfl); clear hown5 hg5 hat5))
          exact ⟨⟨al ++ [ff], by rw [List.length_append, HU.out]; simp; omega, by rw [List.length_append, HU.out]; simp, hid (by rw [natsI_snoc]; exact HO5.out), hid (fun a ha => (List.mem_append.1 ha).elim (h31.out a) (fun h => by rw [List.mem_singleton.1 h]; exact hm31)), HB5⟩, by simp [intOf]; omega⟩
        · have hcd : decide ((kp : Int) < 100) = true := decide_eq_true hc
          have hud : ¬ ((0 : Int) < ↑u) := by omega
          have hud2 : decide ((0 : Int) < ↑u) = false := decide_eq_false hud
          have hud3 : decide (0 < u) = false := decide_eq_false (by omega)
          clear hu0
          go_wp2_with (at_builtin; go_must (refine wpList_append_src _ rfl (.tmp 35) (.tmp 37) _ rfl w0.heap.size 3 ii _ 1 8 Tryz.underlying22 HII.out.1 HII.out.2.1 HII.out.2.2.1 HII.out.2.2.2 rfl (by omega) (.slice Ao u co) u (fInt.all (natsI al)) (by rfl) (by have h5 := fun o => HOW2.out.1.alloc o; rw [natsI_len, HU.out] at h5; exact h5 _) (some ⟨w2.heap.size, 0, none⟩) 1 1 (fInt.cells (ff : Int)) (by rfl) (by exact src_one (f := fInt) rfl) (by simp [fInt, Value.oneCell']) (by unfold maxLen; omega) (by omega) (by simp; omega) ?_; intro v5 w5 hown5 hg5 hat5; have HO5 := hid (own_snocF (x := (ff : Int)) (by rw [natsI_len, HU.out]) HOW2.out.2 (i64_small hm31) hown5); have HB5 := hid (own_app (v2 := v5) (HB2.out.alloc hs2 _) (HOW2.out.alloc _) (by simp; omega) hg5 rfl); clear hown5 hg5 hat5))
          exact ⟨⟨al ++ [ff], by rw [List.length_append, HU.out]; simp; omega, by rw [List.length_append, HU.out]; simp, hid (by rw [natsI_snoc]; exact HO5.out), hid (fun a ha => (List.mem_append.1 ha).elim (h31.out a) (fun h => by rw [List.mem_singleton.1 h]; exact hm31)), HB5⟩, by simp [intOf]; omega⟩
        · have hcd : decide ((kp : Int) < 100) = true := decide_eq_true hc
          have hband := and_fact ff (kp : Int) hm31
          rw [nm_nat (by omega)] at hband
          obtain ⟨mm, hmm⟩ : ∃ mm, ff &&& kp = mm := ⟨_, rfl⟩
          have hmm31 : mm ≤ 31 := by rw [← hmm]; exact Nat.le_trans Nat.and_le_left hm31
          rw [hmm] at hband
          clear hmm
          go_wp2_with (at_builtin; go_must (refine wpList_append_src _ rfl (.tmp 35) (.tmp 37) _ rfl w0.heap.size 3 ii _ 1 8 Tryz.underlying22 HII.out.1 HII.out.2.1 HII.out.2.2.1 HII.out.2.2.2 rfl (by omega) (.slice Ao u co) u (fInt.all (natsI al)) (by rfl) (by have h5 := fun o => HOW2.out.1.alloc o; rw [natsI_len, HU.out] at h5; exact h5 _) (some ⟨w2.heap.size, 0, none⟩) 1 1 (fInt.cells (mm : Int)) (by rfl) (by exact src_one (f := fInt) rfl) (by simp [fInt, Value.oneCell']) (by unfold maxLen; omega) (by omega) (by simp; omega) ?_; intro v5 w5 hown5 hg5 hat5; have HO5 := hid (own_snocF (x := (mm : Int)) (by rw [natsI_len, HU.out]) HOW2.out.2 (i64_small hmm31) hown5); have HB5 := hid (own_app (v2 := v5) (HB2.out.alloc hs2 _) (HOW2.out.alloc _) (by simp; omega) hg5 rfl); clear hown5 hg5 hat5))
          exact ⟨⟨al ++ [mm], by rw [List.length_append, HU.out]; simp; omega, by rw [List.length_append, HU.out]; simp, hid (by rw [natsI_snoc]; exact HO5.out), hid (fun a ha => (List.mem_append.1 ha).elim (h31.out a) (fun h => by rw [List.mem_singleton.1 h]; exact hmm31)), HB5⟩, by simp [intOf]; omega⟩
      · have hun : u = ns.length := by omega
        have hrd := how.out.rd
        clear hbw hlt
        go_wp2
        go_ret
        exact ⟨_, al, rfl, hrd, .inr (by rw [HU.out]; exact hun), h31.out, HBW.out⟩
end Go.Proofs.YtmbjeppnamhgiaaGreat
end
