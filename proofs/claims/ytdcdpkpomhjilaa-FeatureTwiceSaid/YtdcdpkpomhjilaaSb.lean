/- Contracts: linchpinlaw11.few; the laws FeatureItems, FeatureRaw, FeatureCloses. -/
import Derived.Test.YtdcdpkpomhjilaaSa
namespace Go.Proofs.Ytdcdpkpomhjilaa
open Go Go.RowKit

/-- What few answers: yes only where the texts are short. -/
def FewPost (l : List Feat) (w : World) (e : Ending) (w' : World) : Prop := Below w.heap.size w w' ∧ ∃ b, e = .returned (.bool b) ∧ (b = true → FSmall l)

set_option maxRecDepth 100000 in
set_option maxHeartbeats 1000000 in
theorem few_any (v : Value) (l : List Feat) (w : World) (h : SliceRd tFeat w (Lt w.heap.size) v l) :
    Calls Try.prog 12 #[v] w (FewPost l w) := by
  obtain ⟨A, cap, rfl, hcap, hmax, hc⟩ := h.feats
  unfold maxLen at hmax
  have HC := hid hc
  clear h hc
  go_enter Try.func12, Try.ntmps12
  go_wp2
  go_loopw [3] (fun iv wr => ∃ k : Nat, k ≤ l.length ∧ iv = .int .i64 k ∧ Hid (∀ i, (hi : i < l.length) → i < k → ∀ s ∈ l[i].of, s.size ≤ 100000) ∧ Hid (Below w.heap.size w wr)) (fun iv _ => l.length - (intOf iv).toNat)
  case atStart => exact ⟨0, Nat.zero_le _, rfl, hid (fun i hi hk => by omega), hid (b0 w)⟩
  case round =>
    obtain ⟨k, hk, rfl, hall, hb⟩ := hrel
    have i1 : (0 : Int) ≤ ↑k := by omega
    by_cases hlt : k < l.length
    · obtain ⟨g, o, tA, tn, tc, hA, hF, g0, g1, htn, hns, hrd⟩ := HC.out k hlt
      have x0 := cell_below hb.out hF g0
      have x1 := cell_below hb.out hF g1
      have i2 : (↑k : Int) < ↑l.length := by omega
      have HNX := hid (fun (hf : ∀ s ∈ l[k].of, s.size ≤ 100000) => show ∀ i, (hi : i < l.length) → i < k + 1 → ∀ s ∈ l[i].of, s.size ≤ 100000 from fun i hi hk => by
        by_cases e : i = k
        · subst e; exact hf
        · exact hall.out i hi (by omega))
      have G1 := hid g1
      subst htn hA
      generalize hnm : l[k].name = nm at *
      generalize hof : l[k].of = of at *
      clear g0 g1 hnm
      obtain ⟨tB, tc2, hT, -, htm, hco⟩ := hrd.strs
      injection hT with hT1 _ hT3
      subst hT1 hT3
      unfold maxLen at htm
      have hol : of.length ≤ 2 ^ 63 - 1 := by have := hrd.strs; obtain ⟨_, _, _, h1, h2, _⟩ := this; unfold maxLen at h2; omega
      have HCO := hid hco
      clear hco hrd hof
      by_cases c1 : (12 : Int) < ↑k
      · go_wp2
        go_ret
        exact ⟨hb.out, _, rfl, fun h => by cases h⟩
      by_cases c2 : (60 : Int) < ↑nm.size
      · go_wp2
        go_ret
        exact ⟨hb.out, _, rfl, fun h => by cases h⟩
      by_cases c3 : (12 : Int) < ↑of.length
      · go_wp2
        go_ret
        exact ⟨hb.out, _, rfl, fun h => by cases h⟩
      go_wp2
      go_loopw [4] (fun iv wx => ∃ j : Nat, j ≤ of.length ∧ iv = .int .i64 j ∧ Hid (∀ i, (hi : i < of.length) → i < j → of[i].size ≤ 100000) ∧ Hid (Below w.heap.size w wx)) (fun iv _ => of.length - (intOf iv).toNat)
      case atStart => exact ⟨0, Nat.zero_le _, rfl, hid (fun i hi hk => by omega), hb⟩
      case round =>
        obtain ⟨j, hj, rfl, hall', hb'⟩ := hrel
        have i6 : (0 : Int) ≤ ↑j := by omega
        have y1 := cell_below hb'.out hF G1.out
        by_cases hlj : j < of.length
        · obtain ⟨g2, o2, hA2, hF2, g20, -⟩ := HCO.out j hlj
          subst hA2
          have d0 := cell_below hb'.out hF2 g20
          clear g20
          have i7 : (↑j : Int) < ↑of.length := by omega
          by_cases c4 : (60 : Int) < ↑of[j].size
          · go_wp2
            go_ret
            exact ⟨hb'.out, _, rfl, fun h => by cases h⟩
          · have HN := hid (show ∀ i, (hi : i < of.length) → i < j + 1 → of[i].size ≤ 100000 from fun i hi hk => by
              by_cases e : i = j
              · subst e; omega
              · exact hall'.out i hi (by omega))
            go_wp2
            exact ⟨⟨j + 1, by omega, by go_num, HN, hb'⟩, by simp [intOf]; omega⟩
        · have i7 : ¬ (↑j : Int) < ↑of.length := by omega
          have HG := hid (HNX.out fun s hs => by
            obtain ⟨i, hi, rfl⟩ := List.getElem_of_mem hs
            exact hall'.out i hi (by omega))
          go_wp2
          exact ⟨⟨k + 1, by omega, by go_num, HG, hb'⟩, by simp [intOf]; omega⟩
    · have i2 : ¬ (↑k : Int) < ↑l.length := by omega
      have HG := hid (show FSmall l from fun f hf s hs => by
        obtain ⟨i, hi, rfl⟩ := List.getElem_of_mem hf
        exact hall.out i hi (by omega) s hs)
      go_wp2
      go_ret
      exact ⟨hb.out, _, rfl, fun _ => HG.out⟩

set_option maxRecDepth 100000 in
set_option maxHeartbeats 1000000 in
theorem featureItems_any (s : ByteArray) (w : World) (hs : s.size ≤ maxLen) :
    Calls Try.prog 3 #[.string s] w fun e w' => e = .returned (.bool true) ∧ Below w.heap.size w w' := by
  unfold maxLen at hs
  by_cases hl : (200 : Int) < s.size
  · go_enter Try.func3, Try.ntmps3
    go_wp2_with (first
      | (go_at_call 9; refine (awake_any _).mono ?_; rintro e w1 ⟨rfl, hb1⟩))
    go_ret
    exact ⟨rfl, hb1⟩
  · obtain ⟨b, hv⟩ := itemV_eq s
    generalize kOf s = k at *
    generalize nOf s = n at *
    have HV := hid hv
    have q1 : (k == k) = true := by simp
    have q2 : (n.toList == n.toList) = true := by simp
    have q3 : (b.toList == b.toList) = true := by simp
    clear hv
    go_enter Try.func3, Try.ntmps3
    go_wp2_with (first
      | (go_at_call 10; refine (item_any s _ (by omega)).mono ?_; rintro e w1 ⟨rfl, hb1⟩; rw [HV.out])
      | (go_at_call 11; refine (ritem_any s _ (by omega)).mono ?_; rintro e w2 ⟨rfl, hb2⟩; rw [HV.out])
      | (go_at_call 9; refine (awake_any _).mono ?_; rintro e w3 ⟨rfl, hb3⟩))
    go_ret
    exact ⟨rfl, bstep (bstep hb1 hb2) hb3⟩

set_option maxRecDepth 100000 in
set_option maxHeartbeats 1000000 in
theorem featureRaw_any (v : Value) (l : List Feat) (n : ByteArray) (w : World) (h : SliceRd tFeat w (Lt w.heap.size) v l) (hs : n.size ≤ maxLen) :
    Calls Try.prog 4 #[v, .string n] w fun e w' => e = .returned (.bool true) ∧ Below w.heap.size w w' := by
  unfold maxLen at hs
  obtain ⟨A, cap, rfl, -, -, -⟩ := h.feats
  have H := hid h
  clear h
  go_enter Try.func4, Try.ntmps4
  go_wp2_with fail
  refine (few_any _ l _ H.out).mono ?_
  rintro e w1 ⟨hb1, b, rfl, hf⟩
  have HB1 := hid hb1
  have HF := hid hf
  clear hb1 hf
  cases b with
  | false =>
    go_wp2_with (first
      | (go_at_call 9; refine (awake_any _).mono ?_; rintro e w2 ⟨rfl, hb2⟩))
    go_ret
    exact ⟨rfl, bstep HB1.out hb2⟩
  | true =>
    have HS := hid (HF.out rfl)
    by_cases hl : (60 : Int) < n.size
    · go_wp2_with (first
        | (go_at_call 9; refine (awake_any _).mono ?_; rintro e w2 ⟨rfl, hb2⟩))
      go_ret
      exact ⟨rfl, bstep HB1.out hb2⟩
    · have q1 : (findF l n == findF l n) = true := by simp
      have q2 : (mayF l == mayF l) = true := by simp
      generalize hFN : findF l n = fn at *
      generalize hMY : mayF l = my at *
      have HFN := hid hFN
      have HMY := hid hMY
      clear hFN hMY
      go_wp2_with (first
        | (go_at_call 9; refine (awake_any _).mono ?_; rintro e w2 ⟨rfl, hb2⟩; have HB2 := hid (bstep HB1.out hb2); clear hb2)
        | (go_at_call 13; refine (imay_any _ l _ (H.out.lift HB2.out HB2.out.size) HS.out).mono ?_; rintro e w3 ⟨rfl, hb3⟩; rw [HMY.out]; have HB3 := hid (bstep HB2.out hb3); clear hb3)
        | (go_at_call 14; refine (rmay_any _ l _ (H.out.lift HB3.out HB3.out.size) HS.out).mono ?_; rintro e w4 ⟨rfl, hb4⟩; rw [HMY.out]; have HB4 := hid (bstep HB3.out hb4); clear hb4)
        | (go_at_call 15; refine (ifind_any _ l n _ (H.out.lift HB4.out HB4.out.size)).mono ?_; rintro e w5 ⟨rfl, hb5⟩; rw [HFN.out]; have HB5 := hid (bstep HB4.out hb5); clear hb5)
        | (go_at_call 16; refine (rfind_any _ l n _ (H.out.lift HB5.out HB5.out.size)).mono ?_; rintro e w6 ⟨rfl, hb6⟩; rw [HFN.out]; have HB6 := hid (bstep HB5.out hb6); clear hb6))
      go_ret
      exact ⟨rfl, HB6.out⟩

/-- What Close comes to. -/
def Outc (l : List Feat) (asked : List ByteArray) (n : Int) (A B C : List ByteArray) : Prop :=
  (mayF l = false ∧ n = 1 ∧ A = [] ∧ B = [] ∧ C = []) ∨ (mayF l = true ∧ asked.all (knownB l) = false ∧ n = 11 ∧ A = [] ∧ B = [] ∧ C = []) ∨ (mayF l = true ∧ asked.all (knownB l) = true ∧ n = 0 ∧ Closed l asked A B C)
theorem Outc.uniq {l : List Feat} {asked : List ByteArray} {n n' : Int} {A B C A' B' C' : List ByteArray} (h : Outc l asked n A B C) (h' : Outc l asked n' A' B' C') : n = n' ∧ A = A' ∧ B = B' ∧ C = C' := by
  rcases h with ⟨h1, rfl, rfl, rfl, rfl⟩ | ⟨h1, h2, rfl, rfl, rfl, rfl⟩ | ⟨h1, h2, rfl, h3⟩ <;> rcases h' with ⟨g1, rfl, rfl, rfl, rfl⟩ | ⟨g1, g2, rfl, rfl, rfl, rfl⟩ | ⟨g1, g2, rfl, g3⟩ <;>
    first
    | exact ⟨rfl, rfl, rfl, rfl⟩
    | exact ⟨rfl, h3.uniq g3⟩
    | exact absurd (h1.symm.trans g1) (by decide)
    | exact absurd (h2.symm.trans g2) (by decide)
/-- The answer, its lists and its number. -/
def AnsRd (l : List Feat) (asked : List ByteArray) (w : World) (e : Ending) : Prop :=
  ∃ va vb vc n A B C, e = .returned (.tuple #[va, vb, vc, .int .i64 n]) ∧ Outc l asked n A B C ∧ SliceRd tStr w (Lt w.heap.size) va A ∧ SliceRd tStr w (Lt w.heap.size) vb B ∧ SliceRd tStr w (Lt w.heap.size) vc C
theorem ClosePost.ans {l : List Feat} {asked : List ByteArray} {w w' : World} {e : Ending} (h : ClosePost l asked w e w') : Below w.heap.size w w' ∧ AnsRd l asked w' e := by
  obtain ⟨hb, ⟨h1, rfl⟩ | ⟨h1, h2, rfl⟩ | ⟨h1, h2, va, vb, vc, A, B, C, rfl, hc, ra, rb, rc⟩⟩ := h
  · exact ⟨hb, _, _, _, _, [], [], [], rfl, .inl ⟨h1, rfl, rfl, rfl, rfl⟩, SliceRd.nil _ _ _, SliceRd.nil _ _ _, SliceRd.nil _ _ _⟩
  · exact ⟨hb, _, _, _, _, [], [], [], rfl, .inr (.inl ⟨h1, h2, rfl, rfl, rfl, rfl⟩), SliceRd.nil _ _ _, SliceRd.nil _ _ _, SliceRd.nil _ _ _⟩
  · exact ⟨hb, _, _, _, _, A, B, C, rfl, .inr (.inr ⟨h1, h2, rfl, hc⟩), ra, rb, rc⟩
theorem same_texts (v v' : Value) (l : List ByteArray) (w : World) (h : SliceRd tStr w (Lt w.heap.size) v l) (h' : SliceRd tStr w (Lt w.heap.size) v' l) :
    Calls Try.prog 19 #[v, v'] w fun e w' => e = .returned (.bool true) ∧ Below w.heap.size w w' := by
  have := texts_any v v' l l w h h'
  rwa [decide_eq_true rfl] at this

set_option maxRecDepth 100000 in
set_option maxHeartbeats 2000000 in
theorem featureCloses_any (v av : Value) (l : List Feat) (asked : List ByteArray) (w : World) (h : SliceRd tFeat w (Lt w.heap.size) v l) (ha : SliceRd tStr w (Lt w.heap.size) av asked) :
    Calls Try.prog 5 #[v, av] w fun e w' => e = .returned (.bool true) ∧ Below w.heap.size w w' := by
  obtain ⟨A, cap, rfl, -, -, -⟩ := h.feats
  obtain ⟨A', cap', rfl, hmax', hcap', HC'⟩ := rd_cells ha
  have H := hid h
  have HA := hid ha
  clear h ha
  go_enter Try.func5, Try.ntmps5
  go_wp2_with fail
  refine (few_any _ l _ H.out).mono ?_
  rintro e w1 ⟨hb1, b, rfl, hf⟩
  have HB1 := hid hb1
  have HF := hid hf
  clear hb1 hf
  cases b with
  | false =>
    go_wp2_with (first
      | (go_at_call 9; refine (awake_any _).mono ?_; rintro e w2 ⟨rfl, hb2⟩))
    go_ret
    exact ⟨rfl, bstep HB1.out hb2⟩
  | true =>
    have HS := hid (HF.out rfl)
    by_cases hl : (12 : Int) < asked.length
    · go_wp2_with (first
        | (go_at_call 9; refine (awake_any _).mono ?_; rintro e w2 ⟨rfl, hb2⟩))
      go_ret
      exact ⟨rfl, bstep HB1.out hb2⟩
    · go_wp2
      go_loopw [5] (fun iv wr => ∃ k : Nat, k ≤ asked.length ∧ iv = .int .i64 k ∧ Hid (Below w.heap.size w wr)) (fun iv _ => asked.length - (intOf iv).toNat)
      case atStart => exact ⟨0, Nat.zero_le _, rfl, HB1⟩
      case round =>
        obtain ⟨k, hk, rfl, hb⟩ := hrel
        have i1 : (0 : Int) ≤ ↑k := by omega
        by_cases hlt : k < asked.length
        · obtain ⟨g, o, hA, hF, g0, -⟩ := HC'.out k hlt
          subst hA
          have c0 := cell_below hb.out hF g0
          clear g0
          have i2 : (↑k : Int) < ↑asked.length := by omega
          by_cases c4 : (60 : Int) < ↑asked[k].size
          · go_wp2_with (first
              | (go_at_call 9; refine (awake_any _).mono ?_; rintro e w2 ⟨rfl, hb2⟩))
            go_ret
            exact ⟨rfl, hb.out.trans (hb2.mono hb.out.size)⟩
          · go_wp2
            exact ⟨⟨k + 1, by omega, by go_num, hb⟩, by simp [intOf]; omega⟩
        · have i2 : ¬ (↑k : Int) < ↑asked.length := by omega
          have HB := hb
          clear hb
          go_wp2_with fail
          refine (iclose_any _ _ l asked _ (H.out.lift HB.out HB.out.size) (HA.out.lift HB.out HB.out.size) HS.out (by omega)).mono ?_
          intro e w2 hp
          obtain ⟨hb2, va, vb, vc, n, A1, B1, C1, rfl, hO, ra, rb, rc⟩ := hp.ans
          have HB2 := hid (HB.out.trans (hb2.mono HB.out.size))
          have HO := hid hO
          have RA := hid ra
          have RB := hid rb
          have RC := hid rc
          clear hb2 hO ra rb rc hp
          go_wp2_with fail
          refine (rclose_any _ _ l asked _ (H.out.lift HB2.out HB2.out.size) (HA.out.lift HB2.out HB2.out.size) HS.out (by omega)).mono ?_
          intro e w3 hp
          obtain ⟨hb3, va', vb', vc', n', A2, B2, C2, rfl, hO, ra, rb, rc⟩ := hp.ans
          obtain ⟨rfl, rfl, rfl, rfl⟩ := HO.out.uniq hO
          have HB3 := hid (HB2.out.trans (hb3.mono HB2.out.size))
          have RA3 := hid (RA.out.lift hb3 hb3.size)
          have RB3 := hid (RB.out.lift hb3 hb3.size)
          have RC3 := hid (RC.out.lift hb3 hb3.size)
          have RA' := hid ra
          have RB' := hid rb
          have RC' := hid rc
          have q1 : (n == n) = true := by simp
          clear hb3 hO ra rb rc hp
          have tok1 := hid True.intro
          have tok2 := hid True.intro
          go_wp2_with (first
            | (go_at_call 9; refine (awake_any _).mono ?_; rintro e w4 ⟨rfl, hb4⟩; have HB4 := hid hb4; clear hb4)
            | (go_at_call 19; clear tok1; refine (same_texts _ _ A1 _ (RA3.out.lift HB4.out HB4.out.size) (RA'.out.lift HB4.out HB4.out.size)).mono ?_; rintro e w5 ⟨rfl, hb5⟩; have HB5 := hid (bstep HB4.out hb5); clear hb5)
            | (go_at_call 19; clear tok2; refine (same_texts _ _ B1 _ (RB3.out.lift HB5.out HB5.out.size) (RB'.out.lift HB5.out HB5.out.size)).mono ?_; rintro e w6 ⟨rfl, hb6⟩; have HB6 := hid (bstep HB5.out hb6); clear hb6)
            | (go_at_call 19; refine (same_texts _ _ C1 _ (RC3.out.lift HB6.out HB6.out.size) (RC'.out.lift HB6.out HB6.out.size)).mono ?_; rintro e w7 ⟨rfl, hb7⟩; have HB7 := hid (bstep HB6.out hb7); clear hb7))
          go_ret
          exact ⟨rfl, HB3.out.trans (HB7.out.mono HB3.out.size)⟩
end Go.Proofs.Ytdcdpkpomhjilaa
