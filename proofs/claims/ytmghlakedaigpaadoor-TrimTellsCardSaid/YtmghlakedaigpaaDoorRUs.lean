/- Contract: linchpinref29.Used. -/
import Derived.Test.YtmghlakedaigpaaDoorUsed
import Derived.Test.YtmghlakedaigpaaDoorW34
namespace Go.Proofs.YtmghlakedaigpaaDoor
open Go Go.RowKit

def uRow (l : List Row) (k : Nat) : List Bool := (List.range l.length).map (usedFrom l (l.length - k))
theorem uRow_length (l : List Row) (k : Nat) : (uRow l k).length = l.length := by simp [uRow]
theorem uRow_top {l : List Row} (h : 1 ≤ l.length) : (List.replicate l.length (Value.bool false)).set (l.length - 1) (.bool true) = boolCells (uRow l l.length) := by
  apply List.ext_getElem
  · simp [boolCells, uRow_length]
  · intro i h1 h2
    have hi : i < l.length := by simpa using h1
    rw [List.getElem_set]
    simp only [boolCells, uRow, List.getElem_map, List.getElem_range, List.getElem_replicate, Nat.sub_self, usedFrom_zero]
    by_cases h : l.length - 1 = i
    · rw [if_pos h, decide_eq_true (by omega)]
    · rw [if_neg h, decide_eq_false (by omega)]
theorem uRow_get {l : List Row} (hm : MayP l) {m : Nat} (hml : m < l.length) : (boolCells (uRow l (m + 1)))[m]? = some (.bool (usedF l m)) := by
  simp [boolCells, uRow, hml, todo_step hm hml]
theorem uRow_skip {l : List Row} (hm : MayP l) {m : Nat} (hml : m < l.length) (h : usedF l m = false ∨ l[m].kind ≠ 5) : uRow l (m + 1) = uRow l m := by
  unfold uRow
  apply List.map_congr_left
  intro i _
  rw [from_step hm hml i]
  rcases h with h | h
  · rw [h]; simp
  · have : kid l[m] i = false := by simp [kid, h]
    rw [this]; simp
theorem uRow_both {l : List Row} (hm : MayP l) {m : Nat} (hml : m < l.length) (hu : usedF l m = true) (h5 : l[m].kind = 5) : ((boolCells (uRow l (m + 1))).set l[m].a.toNat (.bool true)).set l[m].b.toNat (.bool true) = boolCells (uRow l m) := by
  apply List.ext_getElem
  · simp [boolCells, uRow_length]
  · intro i h1 h2
    have hi : i < l.length := by simpa [boolCells, uRow_length] using h2
    rw [List.getElem_set, List.getElem_set]
    simp only [boolCells, uRow, List.getElem_map, List.getElem_range]
    rw [from_step hm hml i, hu]
    by_cases hb : l[m].b.toNat = i
    · rw [if_pos hb]
      have : kid l[m] i = true := by simp [kid, h5, hb]
      rw [this]; simp
    · rw [if_neg hb]
      by_cases ha : l[m].a.toNat = i
      · rw [if_pos ha]
        have : kid l[m] i = true := by simp [kid, h5, ha]
        rw [this]; simp
      · rw [if_neg ha]
        have : kid l[m] i = false := by simp [kid, h5]; exact ⟨fun e => ha e.symm, fun e => hb e.symm⟩
        rw [this]; simp
theorem uRow_end (l : List Row) : uRow l 0 = usedL l := by
  unfold uRow usedL usedF
  rw [Nat.sub_zero]

theorem hm_row {l : List Row} (hm : MayP l) {m : Nat} (hml : m < l.length) : l[m].kind = 5 → 0 ≤ l[m].a ∧ l[m].a < m ∧ 0 ≤ l[m].b ∧ l[m].b < m := (hm.2.2 m hml).1.2.2.2.2.2.1

set_option maxRecDepth 100000 in
set_option maxHeartbeats 2000000 in
theorem rused_any (v : Value) (l : List Row) (w : World) (h : SliceRd tRow w (Lt w.heap.size) v l) (hm : MayP l) :
    Calls Tryd.prog 10 #[v] w (UsedPost l w) := by
  have HH := hid h
  have HM := hid hm
  obtain ⟨A, cap, rfl, hcap, hmax, hc⟩ := h.rows
  have HC := hid hc
  have hl : l.length ≤ 20000 := hm.2.1
  have hl1 : 1 ≤ l.length := hm.1
  unfold maxLen at hmax
  clear h hc hm
  obtain ⟨n, hn⟩ : ∃ n, n = l.length := ⟨_, rfl⟩
  rw [← hn] at hcap hl hl1
  have HTOP := hid (uRow_top (l := l) (by rw [← hn]; exact hl1))
  rw [← hn] at HTOP ⊢
  have HHN := hid (show SliceRd tRow w (Lt w.heap.size) (.slice A n cap) l by rw [hn]; exact HH.out)
  replace hn := hid hn
  obtain ⟨ii, hii⟩ := info_parts bool_info
  have hmk := run_make_arr (P := Tryd.prog) Tryd.underlying29 hii.1 hii.2.1 hii.2.2.1 hii.2.2.2 rfl n (by omega) (by omega)
  clear hii
  have i3 : (0 : Int) ≤ ↑n - 1 := by omega
  have i4 : (↑n : Int) - 1 < ↑n := by omega
  have i5 : IntKind.i64.wrap ((n : Int) - 1) = (n : Int) - 1 := IntWalk.i64_in _ (by omega)
  have i6 : ((n : Int) - 1).toNat = n - 1 := by omega
  go_enter Tryd.func10, Tryd.ntmps10
  go_wp2_with (first
    | (go_at_call 22; refine (rmay_any _ l _ HHN.out).mono ?_; rintro e w1 ⟨rfl, hb1⟩; rw [decide_eq_true HM.out]
       have HZ := hid (Arr.zeros 4 w1 n (.bool false))
       have sc := HZ.out.cell (i := n - 1) (by simp; omega)
       have sf := HZ.out.free))
  clear hmk sc sf
  have hzz : (zeros n (.bool false)).setIfInBounds (n - 1) (.bool true) = ((List.replicate n (Value.bool false)).set (n - 1) (.bool true)).toArray := by unfold zeros; rw [List.setIfInBounds_toArray]
  have har0 := hid ((show Arr 4 (w1.alloc (.cells ((zeros n (.bool false)).setIfInBounds (n - 1) (.bool true)) 4)) w1.heap.size ((List.replicate n (Value.bool false)).set (n - 1) (.bool true)) by rw [hzz]; exact Arr.new 4 w1 _).congr HTOP.out)
  have hbm : Below w.heap.size w (w1.alloc (.cells ((zeros n (.bool false)).setIfInBounds (n - 1) (.bool true)) 4)) := hb1.alloc hb1.size _
  have hge : w.heap.size ≤ w1.heap.size := hb1.size
  clear hzz HZ
  generalize w1.heap.size = b at har0 hge ⊢
  generalize w1.alloc (.cells ((zeros n (.bool false)).setIfInBounds (n - 1) (.bool true)) 4) = wm at har0 hbm ⊢
  clear hb1
  go_loopw [4] (fun iv wr => ∃ (k : Nat) (i : Int), k ≤ n ∧ iv = .int .i64 i ∧ i + 1 ≤ k ∧ k ≤ i + 1 ∧ Hid (Arr 4 wr b (boolCells (uRow l k))) ∧ Hid (Below w.heap.size w wr)) (fun iv _ => (intOf iv + 1).toNat)
  case atStart => exact ⟨n, _, Nat.le_refl _, rfl, by omega, by omega, har0, hid hbm⟩
  case round =>
    clear har0 hbm
    obtain ⟨k, i, hk, rfl, hik, hki, har, hb⟩ := hrel
    have hbl := har.out.lt
    have hfr := har.out.free
    by_cases h0 : 0 ≤ i
    · obtain ⟨m, rfl⟩ : ∃ m, k = m + 1 := ⟨k - 1, by omega⟩
      obtain rfl : i = m := by omega
      have hml : m < l.length := by rw [← hn.out]; omega
      have d0 : ¬ (m : Int) < 0 := by omega
      have q2 : (↑m : Int) < ↑n := by omega
      have i7 : IntKind.i64.wrap ((m : Int) - 1) = (m : Int) - 1 := IntWalk.i64_in _ (by omega)
      have cm : wr.cell? ⟨b, m, none⟩ = some (.bool (usedF l m)) := by
        rw [har.out.cell (by simp [boolCells, uRow_length]; exact hml)]
        have := uRow_get HM.out hml
        rw [List.getElem?_eq_getElem (by simp [boolCells, uRow_length]; exact hml)] at this
        exact this
      obtain ⟨g, o, tv, rfl, hF, g0, g1, g2, g3, g4, -, gt⟩ := HC.out m hml
      obtain ⟨c0, c1, c2, c3, c4⟩ := cells5 hb.out hF ⟨g0, g1, g2, g3, g4⟩
      clear g0 g1 g2 g3 g4 gt c1 c4
      have hgb : g ≠ b := by have : g < w.heap.size := hF; omega
      have hgb' : b ≠ g := Ne.symm hgb
      have HSK := hid (fun h => uRow_skip HM.out hml h)
      have HBO := hid (fun h1 h2 => uRow_both HM.out hml h1 h2)
      have HROW := hid (hm_row HM.out hml)
      obtain ⟨u, hu⟩ : ∃ u, u = usedF l m := ⟨_, rfl⟩
      rw [← hu] at cm HSK HBO
      obtain ⟨kd, hkd⟩ : ∃ kd, kd = l[m].kind := ⟨_, rfl⟩
      obtain ⟨ra, hra⟩ : ∃ ra, ra = l[m].a := ⟨_, rfl⟩
      obtain ⟨rb, hrb⟩ : ∃ rb, rb = l[m].b := ⟨_, rfl⟩
      rw [← hkd, ← hra, ← hrb] at HROW HBO
      rw [← hkd] at HSK c0
      rw [← hra] at c2
      rw [← hrb] at c3
      clear hu hkd hra hrb
      cases u with
      | false =>
        go_wp2
        exact ⟨⟨m, m - 1, by omega, rfl, by omega, by omega, hid (har.out.congr (by rw [HSK.out (.inl rfl)])), hb⟩, by simp [intOf]⟩
      | true =>
        by_cases h5 : kd = 5
        · have k5 : (kd == 5) = true := by simpa using h5
          obtain ⟨a0, a1, b0', b1⟩ := HROW.out h5
          have ga : ra < ↑n := by omega
          have gb : rb < ↑n := by omega
          have HFIN := hid (HBO.out rfl h5)
          have la : ra.toNat < (boolCells (uRow l (m + 1))).length := by simp [boolCells, uRow_length]; omega
          have lb : rb.toNat < (boolCells (uRow l (m + 1))).length := by simp [boolCells, uRow_length]; omega
          have ca : ∃ u, wr.cell? ⟨b, ra.toNat, none⟩ = some u := ⟨_, har.out.cell la⟩
          obtain ⟨ua, ca⟩ := ca
          have cb : ∃ u, (wr.setCell ⟨b, ra.toNat, none⟩ (.bool true)).cell? ⟨b, rb.toNat, none⟩ = some u := ⟨_, (har.out.set ra.toNat (.bool true)).cell (by rw [List.length_set]; exact lb)⟩
          obtain ⟨ub, cb⟩ := cb
          have fb := (har.out.set ra.toNat (.bool true)).free
          clear h5 HSK HBO HROW la lb
          go_wp2_with fail
          go_region_held3 (fun w' => w'.cell? ⟨g, o + m * 5 + 2, none⟩ = some (.int .i64 ra) ∧ w'.cell? ⟨g, o + m * 5 + 3, none⟩ = some (.int .i64 rb)) (first | (go_keep; done) | go_keep) (fail)
          go_wp2
          exact ⟨⟨m, m - 1, by omega, rfl, by omega, by omega, hid (((har.out.set _ _).set _ _).congr HFIN.out), hid (((hb.out.setCell (p := ⟨b, ra.toNat, none⟩) hge _).setCell (p := ⟨b, rb.toNat, none⟩) hge _).drew)⟩, by simp [intOf]⟩
        · have k5 : (kd == 5) = false := by simpa using h5
          have HK := hid (HSK.out (.inr h5))
          clear h5 HSK HBO HROW
          go_wp2
          exact ⟨⟨m, m - 1, by omega, rfl, by omega, by omega, hid (har.out.congr (by rw [HK.out])), hb⟩, by simp [intOf]⟩
    · obtain rfl : k = 0 := by omega
      obtain rfl : i = -1 := by omega
      go_wp2
      go_ret
      exact ⟨b, by rw [← hn.out]; rfl, har.out.congr (by rw [uRow_end]), hge, hb.out⟩

theorem rused_bad (v : Value) (l : List Row) (w : World) (h : SliceRd tRow w (Lt w.heap.size) v l) (hm : ¬ MayP l) :
    Calls Tryd.prog 10 #[v] w fun e w' => e = .returned (.slice none 0 0) ∧ Below w.heap.size w w' := by
  have HH := hid h
  have HM := hid hm
  obtain ⟨A, cap, rfl, hcap, hmax, hc⟩ := h.rows
  clear h hc hm
  go_enter Tryd.func10, Tryd.ntmps10
  go_wp2_with (first
    | (go_at_call 22; refine (rmay_any _ l _ HH.out).mono ?_; rintro e w1 ⟨rfl, hb1⟩; rw [decide_eq_false HM.out]))
  go_ret
  exact ⟨rfl, hb1⟩
end Go.Proofs.YtmghlakedaigpaaDoor
