/- Contract: trim.Used. -/
import Derived.Test.YtmghlakedaigpaaGreatDoorzD
namespace Go.Proofs.YtmghlakedaigpaaGreatDoor
open Go Go.RowKit
attribute [local go_sem ↓] Go.wp_at_zero Go.wp_at_succ

def usedL (l : List Row) : List Bool := (List.range l.length).map (usedF l)
def boolCells (xs : List Bool) : List Value := xs.map Value.bool
def usedRow (l : List Row) (k : Nat) : List Bool := (List.range l.length).map fun i => decide (k ≤ i) && usedF l i
noncomputable def todoF (l : List Row) (k : Nat) : Int → Option Value := fun j => if 0 ≤ j ∧ j < k ∧ usedFrom l (l.length - k) j.toNat = true then some (.bool true) else none

theorem usedRow_length (l : List Row) (k : Nat) : (usedRow l k).length = l.length := by simp [usedRow]
theorem usedRow_top (l : List Row) : boolCells (usedRow l l.length) = List.replicate l.length (.bool false) := by
  apply List.ext_getElem
  · simp [boolCells, usedRow_length]
  · intro i h1 h2
    have hi : i < l.length := by simpa [boolCells, usedRow_length] using h1
    simp [boolCells, usedRow]
    omega
theorem usedRow_skip {l : List Row} {m : Nat} (hu : usedF l m = false) : usedRow l (m + 1) = usedRow l m := by
  unfold usedRow
  apply List.map_congr_left
  intro i _
  by_cases h : i = m
  · subst h; rw [hu]; simp
  · have : decide (m + 1 ≤ i) = decide (m ≤ i) := by rw [Bool.eq_iff_iff]; simp; omega
    rw [this]
theorem usedRow_set {l : List Row} {m : Nat} (hu : usedF l m = true) : (boolCells (usedRow l (m + 1))).set m (.bool true) = boolCells (usedRow l m) := by
  apply List.ext_getElem
  · simp [boolCells, usedRow_length]
  · intro i h1 h2
    have hi : i < l.length := by simpa [boolCells, usedRow_length] using h2
    rw [List.getElem_set]
    by_cases h : m = i
    · subst h; simp [boolCells, usedRow, hu]
    · rw [if_neg h]
      have : decide (m + 1 ≤ i) = decide (m ≤ i) := by rw [Bool.eq_iff_iff]; simp; omega
      simp only [boolCells, usedRow, List.getElem_map, List.getElem_range, this]
theorem usedRow_end {l : List Row} {k : Nat} (hk : k ≤ l.length) (h0 : ∀ i, i < k → usedFrom l (l.length - k) i = false) : usedRow l k = usedL l := by
  unfold usedRow usedL
  apply List.map_congr_left
  intro i _
  by_cases h : k ≤ i
  · simp [h]
  · have hn := used_none (l := l) (m := l.length - k) (fun j hj => h0 j (by omega)) k i (by omega) (by omega)
    rw [show l.length - k + k = l.length by omega] at hn
    have : usedF l i = false := hn
    rw [this]; simp
theorem todo_top {l : List Row} (h1 : 1 ≤ l.length) (j : Int) : (if j = (↑l.length - 1 : Int) then some (Value.bool true) else none) = todoF l l.length j := by
  unfold todoF
  rw [Nat.sub_self]
  by_cases h : j = ↑l.length - 1
  · rw [if_pos h, if_pos ⟨by omega, by omega, by rw [usedFrom_zero]; simp; omega⟩]
  · rw [if_neg h, if_neg (fun hh => h (by have := hh.2.2; rw [usedFrom_zero] at this; simp at this; omega))]
theorem todo_step {l : List Row} {m : Nat} (hm : MayP l) (hml : m < l.length) : usedFrom l (l.length - (m + 1)) m = usedF l m := (used_eq hm (by omega) (by omega)).symm
theorem from_step {l : List Row} {m : Nat} (hm : MayP l) (hml : m < l.length) (i : Nat) : usedFrom l (l.length - m) i = (usedFrom l (l.length - (m + 1)) i || (usedF l m && kid l[m] i)) := by
  have e : l.length - m = (l.length - (m + 1)) + 1 := by omega
  rw [e, usedFrom_succ hml (by omega), todo_step hm hml]
theorem todo_at {l : List Row} {m : Nat} (hm : MayP l) (hml : m < l.length) {i : Int} (hi : i = m) : (todoF l (m + 1) i).getD (.bool false) = .bool (usedF l m) := by
  subst hi
  unfold todoF
  rw [Int.toNat_natCast, todo_step hm hml]
  cases usedF l m
  · rw [if_neg (by simp)]; rfl
  · rw [if_pos ⟨by omega, by omega, rfl⟩]; rfl
theorem todo_skip {l : List Row} {m : Nat} (hm : MayP l) (hml : m < l.length) (hu : usedF l m = false) (j : Int) : todoF l (m + 1) j = todoF l m j := by
  unfold todoF
  rw [from_step hm hml, hu]
  simp only [Bool.false_and, Bool.or_false]
  by_cases h : j = m
  · subst h
    rw [if_neg (fun hh => by have := hh.2.2; rw [Int.toNat_natCast, todo_step hm hml, hu] at this; cases this), if_neg (by omega)]
  · by_cases h2 : 0 ≤ j ∧ j < ↑m ∧ usedFrom l (l.length - (m + 1)) j.toNat = true
    · rw [if_pos h2, if_pos ⟨h2.1, by omega, h2.2.2⟩]
    · rw [if_neg h2, if_neg (fun hh => h2 ⟨hh.1, by omega, hh.2.2⟩)]
theorem todo_leaf {l : List Row} {m : Nat} (hm : MayP l) (hml : m < l.length) (h5 : l[m].kind ≠ 5) {i : Int} (hi : i = m) (j : Int) : (if j = i then none else todoF l (m + 1) j) = todoF l m j := by
  subst hi
  unfold todoF
  rw [from_step hm hml]
  have hk : kid l[m] j.toNat = false := by simp [kid, h5]
  rw [hk]
  simp only [Bool.and_false, Bool.or_false]
  by_cases h : j = m
  · subst h; rw [if_pos rfl, if_neg (by omega)]
  · rw [if_neg h]
    by_cases h2 : 0 ≤ j ∧ j < ↑m ∧ usedFrom l (l.length - (m + 1)) j.toNat = true
    · rw [if_pos h2, if_pos ⟨h2.1, by omega, h2.2.2⟩]
    · rw [if_neg h2, if_neg (fun hh => h2 ⟨hh.1, by omega, hh.2.2⟩)]
theorem todo_both {l : List Row} {m : Nat} (hm : MayP l) (hml : m < l.length) (hu : usedF l m = true) (h5 : l[m].kind = 5) {i : Int} (hi : i = m) (j : Int) :
    (if j = l[m].b then some (.bool true) else if j = l[m].a then some (.bool true) else if j = i then none else todoF l (m + 1) j) = todoF l m j := by
  subst hi
  obtain ⟨⟨_, _, _, _, _, h6, _⟩, _⟩ := hm.2.2 m hml
  obtain ⟨a0, a1, a2, a3⟩ := h6 h5
  unfold todoF
  rw [from_step hm hml, hu]
  by_cases hb : j = l[m].b
  · rw [if_pos hb, if_pos ⟨by omega, by omega, by simp [kid, h5, hb]⟩]
  · rw [if_neg hb]
    by_cases ha : j = l[m].a
    · rw [if_pos ha, if_pos ⟨by omega, by omega, by simp [kid, h5, ha]⟩]
    · rw [if_neg ha]
      by_cases h : j = m
      · subst h; rw [if_pos rfl, if_neg (by omega)]
      · rw [if_neg h]
        by_cases h2 : 0 ≤ j ∧ j < ↑m ∧ usedFrom l (l.length - (m + 1)) j.toNat = true
        · rw [if_pos ⟨h2.1, by omega, h2.2.2⟩, if_pos ⟨h2.1, h2.2.1, by rw [h2.2.2]; rfl⟩]
        · rw [if_neg (fun hh => by
            have hlt : j < ↑m := by omega
            exact h2 ⟨hh.1, hlt, hh.2.2⟩), if_neg (fun hh => by
            have h3 := hh.2.2
            simp only [Bool.true_and, Bool.or_eq_true] at h3
            rcases h3 with h3 | h3
            · exact h2 ⟨hh.1, hh.2.1, h3⟩
            · simp only [kid, Bool.and_eq_true, Bool.or_eq_true, beq_iff_eq] at h3
              omega)]
theorem bool_info : (Tryz.prog.info? 4).map (fun i => (i.zero, i.size, i.bytes)) = some (some (.bool false), 1, 1) := by kernel_rfl
theorem zero_bool (w : World) : (zeroValue 4).run Tryz.prog w = .ok (.bool false) w := by kernel_rfl
/-- Where the answer lies. -/
def UsedPost (l : List Row) (w : World) (e : Ending) (w' : World) : Prop := ∃ b, e = .returned (.slice (some ⟨b, 0, none⟩) l.length l.length) ∧ Arr 4 w' b (boolCells (usedL l)) ∧ w.heap.size ≤ b ∧ Below w.heap.size w w'

set_option maxRecDepth 100000 in
set_option maxHeartbeats 1000000 in
theorem used_any (v : Value) (l : List Row) (w : World) (h : SliceRd tRow w (Lt w.heap.size) v l) (hm : MayP l) :
    Calls Tryz.prog 11 #[v] w (UsedPost l w) := by
  have HH := hid h
  have HM := hid hm
  obtain ⟨A, cap, rfl, hcap, hmax, hc⟩ := h.rows
  have HC := hid hc
  have hl : l.length ≤ 20000 := hm.2.1
  have hl1 : 1 ≤ l.length := hm.1
  unfold maxLen at hmax
  clear h hc hm
  obtain ⟨ii, hii⟩ := info_parts bool_info
  have hmk := run_make_arr (P := Tryz.prog) Tryz.underlying40 hii.1 hii.2.1 hii.2.2.1 hii.2.2.2 rfl l.length (by omega) (by omega)
  clear hii
  have hmm := @run_makeMap Tryz.prog
  have i0 : (1 : Int) ≤ ↑l.length := by omega
  go_enter Tryz.func11, Tryz.ntmps11
  go_wp2_with fail
  refine (may_any _ l _ HH.out).mono ?_
  rintro e w1 ⟨rfl, hb1⟩
  rw [decide_eq_true HM.out]
  have hi1 : (Instr.mapUpdate 76 (.map (some (w1.heap.size + 1))) (.int .i64 (↑l.length - 1)) (.bool true)).run Tryz.prog ((w1.alloc (.cells (zeros l.length (.bool false)) 4)).alloc (.map #[] 0)) = .ok () ((w1.alloc (.cells (zeros l.length (.bool false)) 4)).alloc (.map #[⟨.int .i64 (↑l.length - 1), .bool true, 0⟩] 1)) := by
    have := run_insert_new (P := Tryz.prog) (w := w1.alloc (.cells (zeros l.length (.bool false)) 4)) Tryz.underlying76 Tryz.underlying3 #[] 0 (.int .i64 (↑l.length - 1)) (.bool true) rfl (by rfl)
    simpa using this
  go_wp2_with fail
  clear hmk hmm hi1
  have har0 := hid (((Arr.zeros 4 w1 l.length (.bool false)).alloc (.map #[⟨.int .i64 (↑l.length - 1), .bool true, 0⟩] 1)).congr (usedRow_top l).symm)
  have hmp0 : Hid (MapF kInt ((w1.alloc (.cells (zeros l.length (.bool false)) 4)).alloc (.map #[⟨.int .i64 (↑l.length - 1), .bool true, 0⟩] 1)) (w1.heap.size + 1) 1 (todoF l l.length)) := hid (by
    have := (MapF.one kInt (w1.alloc (.cells (zeros l.length (.bool false)) 4)) (↑l.length - 1) (.bool true)).congr (todo_top hl1)
    simpa [kInt] using this)
  have hbm : Below w.heap.size w ((w1.alloc (.cells (zeros l.length (.bool false)) 4)).alloc (.map #[⟨.int .i64 (↑l.length - 1), .bool true, 0⟩] 1)) := (hb1.alloc hb1.size _).alloc (by have := hb1.size; simp; omega) _
  have hge : w.heap.size ≤ w1.heap.size := hb1.size
  obtain ⟨bm, hbmq⟩ : ∃ bm, bm = w1.heap.size + 1 := ⟨_, rfl⟩
  have hgm : w.heap.size ≤ bm := by omega
  have hbbm : w1.heap.size ≠ bm := by omega
  rw [← hbmq] at hmp0 ⊢
  clear hbmq
  generalize w1.heap.size = b at har0 hge hbbm ⊢
  generalize (w1.alloc (.cells (zeros l.length (.bool false)) 4)).alloc (.map #[⟨.int .i64 (↑l.length - 1), .bool true, 0⟩] 1) = wm at har0 hmp0 hbm ⊢
  clear hb1
  go_loopw [5] (fun iv wr => ∃ (k : Nat) (i : Int), k ≤ l.length ∧ iv = .int .i64 i ∧ i + 1 ≤ k ∧ k ≤ i + 1 ∧ Hid (Arr 4 wr b (boolCells (usedRow l k))) ∧ Hid (∃ c, MapF kInt wr bm c (todoF l k)) ∧ Hid (Below w.heap.size w wr)) (fun iv _ => (intOf iv + 1).toNat)
  case atStart => exact ⟨l.length, _, Nat.le_refl _, rfl, by omega, by omega, har0, hid ⟨1, hmp0.out⟩, hid hbm⟩
  case round =>
    obtain ⟨k, i, hk, rfl, hik, hki, har, hmp, hb⟩ := hrel
    obtain ⟨c, hmap⟩ := hmp.out
    have HMAP := hid hmap
    have hcz := hmap.zero
    clear hmp hmap
    have hbl := har.out.lt
    have hfr := har.out.free
    by_cases hc : c = 0
    · have HE := hid (usedRow_end hk (fun i hi => by
        cases hx : usedFrom l (l.length - k) i with
        | false => rfl
        | true =>
          have := hcz.1 hc i
          unfold todoF at this
          rw [if_pos ⟨by omega, by omega, by rw [Int.toNat_natCast]; exact hx⟩] at this
          cases this))
      subst hc
      clear hcz
      go_wp2_with (first
        | (at_len; refine wpList_len_m rfl _ rfl kInt Tryz.underlying76 bm 0 _ rfl HMAP.out ?_))
      go_ret
      exact ⟨b, rfl, har.out.congr (by rw [HE.out]), hge, hb.out⟩
    · have hk1 : 1 ≤ k := by
        rcases Nat.eq_zero_or_pos k with h0 | h0
        · exfalso
          refine hc (hcz.2 (fun j => ?_))
          unfold todoF
          rw [if_neg (by omega)]
        · exact h0
      have hc1 : 0 < c := by omega
      clear hc hcz
      obtain ⟨m, hmk⟩ : ∃ m, k = m + 1 := ⟨k - 1, by omega⟩
      subst hmk
      have hml : m < l.length := by omega
      have hv := todo_at HM.out hml (i := i) (by omega)
      have HIM := hid (show i = m by omega)
      have q1 : (0 : Int) ≤ i := by omega
      have q2 : i < ↑l.length := by omega
      have q3 : i.toNat = m := by omega
      cases hu : usedF l m with
      | false =>
        rw [hu] at hv
        have HV := hid hv
        have HU := hid hu
        clear hv hu
        go_wp2_with (first
          | (at_len; refine wpList_len_m rfl _ rfl kInt Tryz.underlying76 bm c _ rfl HMAP.out ?_)
          | (at_lookup; refine wpList_lookup_m rfl _ _ rfl kInt Tryz.underlying76 Tryz.underlying3 (.bool false) (zero_bool _) bm c _ rfl HMAP.out i rfl ?_; rw [HV.out]))
        exact ⟨⟨m, i - 1, by omega, rfl, by omega, by omega, hid (har.out.congr (by rw [usedRow_skip HU.out])), hid ⟨c, HMAP.out.congr (todo_skip HM.out hml HU.out)⟩, hb⟩, by simp [intOf]; omega⟩
      | true =>
        rw [hu] at hv
        have HV := hid hv
        have HU := hid hu
        clear hv hu
        obtain ⟨g, o, tv, hA, hF, g0, g1, g2, g3, g4, -, gt⟩ := HC.out m hml
        cases hA
        obtain ⟨TA, tcap, rfl, -, -, -⟩ := gt.terms
        have HG := hid (And.intro g0 (And.intro g1 (And.intro g2 (And.intro g3 g4))))
        clear gt g0 g1 g2 g3 g4 hfr
        have hgl : g < w.heap.size := hF
        have hgb : g ≠ b := by omega
        have hgb' : b ≠ g := by omega
        go_upto_if 41 with (first
          | (at_len; refine wpList_len_m rfl _ rfl kInt Tryz.underlying76 bm c _ rfl HMAP.out ?_)
          | (at_lookup; refine wpList_lookup_m rfl _ _ rfl kInt Tryz.underlying76 Tryz.underlying3 (.bool false) (zero_bool _) bm c _ rfl HMAP.out i rfl ?_; rw [HV.out])
          | (at_delete; refine wpList_delete_m rfl _ _ _ rfl kInt Tryz.underlying76 Tryz.underlying3 bm c _ rfl HMAP.out i rfl ?_; intro w2 n2 hm2 hn2 hg2 hs2
             have hb2 := below_map hb.out hg2 hgm hb.out.size
             have har2 := har.out.keep (grown_other hg2 hbl hbbm)
             have hfr := har2.free
             have hck := har2.cell (i := m) (by simp [boolCells, usedRow_length]; exact hml)
             obtain ⟨c0, c1, c2, c3, c4⟩ := cells5 hb2 hF HG.out
             have hbl2 := har2.lt
             have HAR2 := hid har2
             have HM2 := hid hm2
             have HB2 := hid hb2
             clear har2 hm2 hb2))
        obtain ⟨wt, hwt⟩ : ∃ wt : World, wt = (w2.setCell ⟨b, m, none⟩ (.bool true)).alloc (.cells #[.int .i64 l[m].kind, .int .i64 l[m].unit, .int .i64 l[m].a, .int .i64 l[m].b, .slice TA l[m].terms.length tcap] 38) := ⟨_, rfl⟩
        have hart : Arr 4 wt b (boolCells (usedRow l m)) := by rw [hwt]; exact ((HAR2.out.set m _).alloc _).congr (usedRow_set HU.out)
        have hmt : MapF kInt wt bm n2 (fun j => if j = i then none else todoF l (m + 1) j) := by rw [hwt]; exact (HM2.out.other (p := ⟨b, m, none⟩) (Ne.symm hbbm) _).alloc _
        have hbox : Box 38 wt wr.heap.size l[m] (.slice TA l[m].terms.length tcap) := by
          have := Box.new 38 (w2.setCell ⟨b, m, none⟩ (.bool true)) l[m] (.slice TA l[m].terms.length tcap)
          rw [hwt]
          simpa [hs2] using this
        have hbt : Below w.heap.size w wt := by rw [hwt]; exact (HB2.out.setCell (p := ⟨b, m, none⟩) hge _).alloc (by simpa using HB2.out.size) _
        have hbw : bm < wr.heap.size := HMAP.out.lt
        have hzt : wr.heap.size < wt.heap.size := hbox.lt
        have hwbm : wr.heap.size ≠ bm := by omega
        rw [← hwt]
        clear hwt hck hfr c0 c1 c2 c3 c4 hbl2
        have HART := hid hart
        have HMT := hid hmt
        have HBT := hid hbt
        obtain ⟨⟨b0, b1, b2, b3, b4⟩, bf⟩ := hbox.cells
        have HBX := hid hbox
        clear hart hmt hbt hbox
        by_cases h5 : l[m].kind = 5
        · have k5 : (l[m].kind == 5) = true := by simpa using h5
          have HF := hid (todo_both HM.out hml HU.out h5 HIM.out)
          obtain ⟨wu, nu, hup1, hmu, -, -, hgu, hsu⟩ := (HMT.out.drew).run_update Tryz.underlying76 Tryz.underlying3 l[m].a (.bool true)
          obtain ⟨wv, nv, hup2, hmv, -, -, hgv, hsv⟩ := hmu.run_update Tryz.underlying76 Tryz.underlying3 l[m].b (.bool true)
          have hup1' : (Instr.mapUpdate 76 (.map (some bm)) (.int .i64 l[m].a) (.bool true)).run Tryz.prog wt.drew = .ok () wu := hup1
          have hup2' : (Instr.mapUpdate 76 (.map (some bm)) (.int .i64 l[m].b) (.bool true)).run Tryz.prog wu = .ok () wv := hup2
          have hgo : ∀ k, k < wt.heap.size → k ≠ bm → wu.heap[k]? = wt.heap[k]? := fun k hk hne => grown_other (w := wt.drew) hgu hk hne
          have hxu := HBX.out.keep (w' := wu) (hgo _ hzt hwbm)
          have hxv := hxu.keep (w' := wv) (grown_other hgv hxu.lt hwbm)
          obtain ⟨⟨d0, d1, d2, d3, d4⟩, -⟩ := hxu.cells
          obtain ⟨⟨e0, e1, e2, e3, e4⟩, -⟩ := hxv.cells
          have HFIN := hid (And.intro hmv (And.intro ((HART.out.keep (w' := wu) (hgo _ HART.out.lt hbbm)).keep (w' := wv) (grown_other hgv (by rw [hsu]; exact HART.out.lt) hbbm))
            (below_map (below_map (HBT.out.drew) hgu hgm HBT.out.size) hgv hgm (by rw [hsu]; exact HBT.out.size))))
          clear hup1 hup2 hmu hmv hgu hgv hsu hsv hxu hxv h5 hgo
          go_wp2_with fail
          go_region_held3 (fun w' => w'.cell? ⟨wr.heap.size, 2, none⟩ = some (.int .i64 l[m].a) ∧ w'.cell? ⟨wr.heap.size, 3, none⟩ = some (.int .i64 l[m].b)) (first | exact ⟨by assumption, by assumption⟩ | go_keep) (fail)
          all_goals (go_wp2_with fail)
          exact ⟨⟨m, i - 1, by omega, rfl, by omega, by omega, hid HFIN.out.2.1, hid ⟨nv, HFIN.out.1.congr HF.out⟩, hid HFIN.out.2.2⟩, by simp [intOf]; omega⟩
        · have k5 : (l[m].kind == 5) = false := by simpa using h5
          have HF := hid (todo_leaf HM.out hml h5 HIM.out)
          clear h5
          go_wp2_with fail
          exact ⟨⟨m, i - 1, by omega, rfl, by omega, by omega, HART, hid ⟨n2, HMT.out.congr HF.out⟩, HBT⟩, by simp [intOf]; omega⟩

theorem used_bad (v : Value) (l : List Row) (w : World) (h : SliceRd tRow w (Lt w.heap.size) v l) (hm : ¬ MayP l) :
    Calls Tryz.prog 11 #[v] w fun e w' => e = .returned (.slice none 0 0) ∧ Below w.heap.size w w' := by
  have HH := hid h
  have HM := hid hm
  obtain ⟨A, cap, rfl, hcap, hmax, hc⟩ := h.rows
  clear h hc hm
  go_enter Tryz.func11, Tryz.ntmps11
  go_wp2_with fail
  refine (may_any _ l _ HH.out).mono ?_
  rintro e w1 ⟨rfl, hb1⟩
  rw [decide_eq_false HM.out]
  go_wp2_with fail
  go_ret
  exact ⟨rfl, hb1⟩
end Go.Proofs.YtmghlakedaigpaaGreatDoor
