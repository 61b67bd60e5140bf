/- Contracts: feature.rises, linchpinref1.Rising, SameTexts. -/
import Derived.Test.YtdcdpkpomhjilaaS4
namespace Go.Proofs.Ytdcdpkpomhjilaa
open Go Go.RowKit

set_option maxRecDepth 100000 in
set_option maxHeartbeats 1000000 in
theorem rises_any (v : Value) (l : List ByteArray) (w : World) (h : SliceRd tStr w (Lt w.heap.size) v l) :
    Calls Try.prog 33 #[v] w fun e w' => e = .returned (.bool (risesB l)) ∧ Below w.heap.size w w' := by
  obtain ⟨A, cap, rfl, hcap, hmax, hc⟩ := h.strs
  unfold maxLen at hmax
  have HC := hid hc
  clear hc h
  go_enter Try.func33, Try.ntmps33
  go_wp2
  go_loopw [3] (fun iv wr => ∃ k : Nat, 1 ≤ k ∧ iv = .int .i64 k ∧ Hid (k ≤ l.length + 1) ∧ Hid (∀ i, (h0 : 1 ≤ i) → (hi : i < l.length) → i < k → ltS (l[i - 1]'(by omega)) l[i] = true) ∧ Below w.heap.size w wr) (fun iv _ => l.length - (intOf iv).toNat)
  case atStart => exact ⟨1, Nat.le_refl _, rfl, hid (by omega), hid (fun i h0 hi hk => by omega), Below.refl _ _⟩
  case round =>
    obtain ⟨k, hk1, rfl, hk, hall, hb⟩ := hrel
    by_cases hlt : k < l.length
    · obtain ⟨g, o, hA, hF, g0, hs0⟩ := HC.out k hlt
      obtain ⟨g', o', hA', hF', g1, hs1⟩ := HC.out (k - 1) (by omega)
      subst hA
      injection hA' with hA'
      injection hA' with e1 e2
      subst e1 e2
      have c0 := cell_below hb hF g0
      have c1 := cell_below hb hF g1
      clear g0 g1
      have i1 : (0 : Int) ≤ ↑k := by omega
      have i2 : (↑k : Int) < ↑l.length := by omega
      have i3 : (0 : Int) ≤ ↑k - 1 := by omega
      have i4 : (↑k : Int) - 1 < ↑l.length := by omega
      have i5 : ((↑k : Int) - 1).toNat = k - 1 := by omega
      rcases bc (ltS (l[k - 1]'(by omega)) l[k]) with ⟨h, HB⟩ | ⟨h, HB⟩
      · have h' : Op.bytesLess (l[k - 1]'(by omega)).toList l[k].toList = true := h
        have HN := hid (show ∀ i, (h0 : 1 ≤ i) → (hi : i < l.length) → i < k + 1 → ltS (l[i - 1]'(by omega)) l[i] = true from fun i h0 hi hk => by
          by_cases e : i = k
          · subst e; exact HB.out
          · exact hall.out i h0 hi (by omega))
        clear h
        go_wp2
        go_quiet (fail)
        go_wp2
        exact ⟨⟨k + 1, by omega, by go_num, hid (by omega), HN, below_drewN hb _⟩, by simp [intOf]; omega⟩
      · have h' : Op.bytesLess (l[k - 1]'(by omega)).toList l[k].toList = false := h
        have HN := hid (risesB_bad hk1 hlt HB.out)
        clear h
        go_wp2
        go_quiet (fail)
        go_wp2
        go_ret
        exact ⟨rbool HN.out.symm, below_drewN hb _⟩
    · have i2 : ¬ (↑k : Int) < ↑l.length := by omega
      have HN := hid (risesB_good (l := l) fun i h0 hi => hall.out i h0 hi (by omega))
      go_wp2
      go_ret
      exact ⟨rbool HN.out.symm, hb⟩

set_option maxRecDepth 100000 in
set_option maxHeartbeats 1000000 in
theorem rising_any (v : Value) (l : List ByteArray) (w : World) (h : SliceRd tStr w (Lt w.heap.size) v l) :
    Calls Try.prog 22 #[v] w fun e w' => e = .returned (.bool (risesB l)) ∧ Below w.heap.size w w' := by
  obtain ⟨A, cap, rfl, hcap, hmax, hc⟩ := h.strs
  unfold maxLen at hmax
  have HC := hid hc
  clear hc h
  go_enter Try.func22, Try.ntmps22
  go_wp2
  go_loopw [3] (fun iv wr => ∃ k : Nat, 1 ≤ k ∧ iv = .int .i64 k ∧ Hid (k ≤ l.length + 1) ∧ Hid (∀ i, (h0 : 1 ≤ i) → (hi : i < l.length) → i < k → ltS (l[i - 1]'(by omega)) l[i] = true) ∧ Below w.heap.size w wr) (fun iv _ => l.length - (intOf iv).toNat)
  case atStart => exact ⟨1, Nat.le_refl _, rfl, hid (by omega), hid (fun i h0 hi hk => by omega), Below.refl _ _⟩
  case round =>
    obtain ⟨k, hk1, rfl, hk, hall, hb⟩ := hrel
    by_cases hlt : k < l.length
    · obtain ⟨g, o, hA, hF, g0, hs0⟩ := HC.out k hlt
      obtain ⟨g', o', hA', hF', g1, hs1⟩ := HC.out (k - 1) (by omega)
      subst hA
      injection hA' with hA'
      injection hA' with e1 e2
      subst e1 e2
      have c0 := cell_below hb hF g0
      have c1 := cell_below hb hF g1
      clear g0 g1
      have i1 : (0 : Int) ≤ ↑k := by omega
      have i2 : (↑k : Int) < ↑l.length := by omega
      have i3 : (0 : Int) ≤ ↑k - 1 := by omega
      have i4 : (↑k : Int) - 1 < ↑l.length := by omega
      have i5 : ((↑k : Int) - 1).toNat = k - 1 := by omega
      rcases bc (ltS (l[k - 1]'(by omega)) l[k]) with ⟨h, HB⟩ | ⟨h, HB⟩
      · have h' : Op.bytesLess (l[k - 1]'(by omega)).toList l[k].toList = true := h
        have HN := hid (show ∀ i, (h0 : 1 ≤ i) → (hi : i < l.length) → i < k + 1 → ltS (l[i - 1]'(by omega)) l[i] = true from fun i h0 hi hk => by
          by_cases e : i = k
          · subst e; exact HB.out
          · exact hall.out i h0 hi (by omega))
        clear h
        go_wp2
        go_quiet (fail)
        go_wp2
        exact ⟨⟨k + 1, by omega, by go_num, hid (by omega), HN, below_drewN hb _⟩, by simp [intOf]; omega⟩
      · have h' : Op.bytesLess (l[k - 1]'(by omega)).toList l[k].toList = false := h
        have HN := hid (risesB_bad hk1 hlt HB.out)
        clear h
        go_wp2
        go_quiet (fail)
        go_wp2
        go_ret
        exact ⟨rbool HN.out.symm, below_drewN hb _⟩
    · have i2 : ¬ (↑k : Int) < ↑l.length := by omega
      have HN := hid (risesB_good (l := l) fun i h0 hi => hall.out i h0 hi (by omega))
      go_wp2
      go_ret
      exact ⟨rbool HN.out.symm, hb⟩

set_option maxRecDepth 100000 in
set_option maxHeartbeats 1000000 in
theorem texts_any (v v' : Value) (l l' : List ByteArray) (w : World) (h : SliceRd tStr w (Lt w.heap.size) v l) (h' : SliceRd tStr w (Lt w.heap.size) v' l') :
    Calls Try.prog 19 #[v, v'] w fun e w' => e = .returned (.bool (decide (l = l'))) ∧ Below w.heap.size w w' := by
  obtain ⟨A, cap, rfl, hcap, hmax, hc⟩ := h.strs
  obtain ⟨A', cap', rfl, hcap', hmax', hc'⟩ := h'.strs
  unfold maxLen at hmax hmax'
  have HC := hid hc
  have HC' := hid hc'
  clear hc hc' h h'
  by_cases hl : l.length = l'.length
  · have hb1 : ((l.length : Int) != (l'.length : Int)) = false := by simp [hl]
    have HL := hid hl
    clear hl
    go_enter Try.func19, Try.ntmps19
    go_wp2
    go_loopw [5] (fun iv wr => ∃ k : Nat, k ≤ l.length ∧ iv = .int .i64 k ∧ Hid (l.take k = l'.take k) ∧ Below w.heap.size w wr) (fun iv _ => l.length - (intOf iv).toNat)
    case atStart => exact ⟨0, Nat.zero_le _, rfl, hid rfl, Below.refl _ _⟩
    case round =>
      obtain ⟨k, hk, rfl, ht, hb⟩ := hrel
      by_cases hlt : k < l.length
      · have hlt' : k < l'.length := by have := HL.out; omega
        obtain ⟨g, o, hA, hF, g0, -⟩ := HC.out k hlt
        obtain ⟨g', o', hA', hF', g0', -⟩ := HC'.out k hlt'
        subst hA hA'
        have c0 := cell_below hb hF g0
        have d0 := cell_below hb hF' g0'
        clear g0 g0'
        have i1 : (0 : Int) ≤ ↑k := by omega
        have i2 : (↑k : Int) < ↑l.length := by omega
        have i3 : (↑k : Int) < ↑l'.length := by omega
        have HQ := hid (eqS_iff l[k] l'[k])
        by_cases he : l[k] = l'[k]
        · have hq : (!(l[k].toList == l'[k].toList)) = false := by rw [HQ.out, decide_eq_true he]; rfl
          have HE := hid he
          clear he
          go_wp2
          go_quiet (fail)
          go_wp2
          exact ⟨⟨k + 1, by omega, by go_num, hid (by rw [List.take_succ_eq_append_getElem hlt, List.take_succ_eq_append_getElem hlt', ht.out, HE.out]), below_drewN hb _⟩, by simp [intOf]; omega⟩
        · have hq : (!(l[k].toList == l'[k].toList)) = true := by rw [HQ.out, decide_eq_false he]; rfl
          have HE := hid he
          clear he
          go_wp2
          go_quiet (fail)
          go_wp2
          go_ret
          exact ⟨by rw [decide_eq_false (p := l = l') (fun e => HE.out (by subst e; rfl))]; rfl, below_drewN hb _⟩
      · have HE : Hid (l = l') := hid (by
          have := ht.out
          rwa [List.take_of_length_le (by omega), List.take_of_length_le (by have := HL.out; omega)] at this)
        clear ht
        have i2 : ¬ (↑k : Int) < ↑l.length := by omega
        go_wp2
        go_ret
        exact ⟨by rw [decide_eq_true HE.out]; rfl, hb⟩
  · have hb1 : ((l.length : Int) != (l'.length : Int)) = true := by simp; omega
    have HL := hid hl
    clear hl
    go_enter Try.func19, Try.ntmps19
    go_wp2
    go_ret
    exact ⟨by rw [decide_eq_false (p := l = l') (fun e => HL.out (by rw [e]))]; rfl, Below.refl _ _⟩
end Go.Proofs.Ytdcdpkpomhjilaa
