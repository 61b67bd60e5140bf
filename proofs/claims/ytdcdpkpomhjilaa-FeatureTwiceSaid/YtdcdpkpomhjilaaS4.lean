/- Contract: linchpinref11.Item. -/
import Derived.Test.YtdcdpkpomhjilaaS3
import Derived.Test.YtdcdpkpomhjilaaS0
namespace Go.Proofs.Ytdcdpkpomhjilaa
open Go Go.RowKit

theorem word_noslash {s : List UInt8} (h : wordB s = true) : (47 : UInt8) ∉ s := by
  intro hm
  unfold wordB at h
  simp only [Bool.and_eq_true, List.all_eq_true] at h
  have := (wordC_iff 47).1 (h.2 47 hm)
  revert this
  decide
theorem split_two {s : List UInt8} (h : (splitC 47 s).length = 2) : (cutC 47 s).2.2 = true ∧ splitC 47 s = [(cutC 47 s).1, (cutC 47 s).2.1] := by
  rw [split_cut] at h ⊢
  by_cases hf : (cutC 47 s).2.2 = true
  · rw [if_pos hf] at h ⊢
    refine ⟨hf, ?_⟩
    rw [split_cut] at h ⊢
    by_cases hg : (cutC 47 (cutC 47 s).2.1).2.2 = true
    · rw [if_pos hg] at h
      have := split_ne 47 (cutC 47 (cutC 47 s).2.1).2.1
      cases hc : splitC 47 (cutC 47 (cutC 47 s).2.1).2.1 with
      | nil => exact absurd hc this
      | cons _ _ => rw [hc] at h; simp at h
    · rw [if_neg hg]
      rcases (cut_spec 47 (cutC 47 s).2.1).2 with ⟨h1, _⟩ | ⟨_, h2, _⟩
      · exact absurd h1 hg
      · rw [← h2]
  · rw [if_neg hf] at h
    simp at h
theorem split_word {s : List UInt8} (hf : (cutC 47 s).2.2 = true) (hw : wordB (cutC 47 s).2.1 = true) : splitC 47 s = [(cutC 47 s).1, (cutC 47 s).2.1] := by
  rw [split_cut, if_pos hf, split_no (word_noslash hw)]

theorem split_small (c : UInt8) : ∀ (n : Nat) (s : List UInt8), s.length < n → (splitC c s).length ≤ s.length + 1 ∧ ∀ w ∈ splitC c s, w.length ≤ s.length
  | 0, s, h => absurd h (by omega)
  | n + 1, s, h => by
    rw [split_cut]
    rcases (cut_spec c s).2 with ⟨hf, e⟩ | ⟨hf, e, e2⟩
    · have hl := cut_len c s hf
      obtain ⟨h1, h2⟩ := split_small c n (cutC c s).2.1 (by omega)
      have he := congrArg List.length e
      simp only [List.length_append, List.length_cons] at he
      rw [if_pos hf]
      refine ⟨by simp only [List.length_cons]; omega, fun w hw => ?_⟩
      rcases List.mem_cons.1 hw with rfl | hw
      · omega
      · have := h2 w hw; omega
    · rw [if_neg (by rw [hf]; simp), ← e]
      refine ⟨by simp, fun w hw => ?_⟩
      have : w = s := by simpa using hw
      rw [this]; exact Nat.le_refl _
/-- The pieces, to be read. -/
theorem split_rd (s : ByteArray) (c : UInt8) (w : World) (hs : s.size ≤ 100000) :
    Calls Try.prog 31 #[.string s, .int .u8 (c.toNat : Int)] w fun e w' => ∃ v WB, e = .returned v ∧ SliceRd tStr w' (Lt w'.heap.size) v WB ∧ WB.map (fun x => x.data.toList) = splitC c s.data.toList ∧ Below w.heap.size w w' := by
  refine (split1_any s c w hs).mono ?_
  rintro e w' ⟨WB, A, cap, rfl, hown, hm, hb⟩
  refine ⟨_, WB, rfl, ?_, hm, hb⟩
  refine rd_of_ownF (f := fStr) (by rw [strs_all]; exact hown) (fun x hx => ?_) (fun g hg => (hown.lt g hg).2)
  have h1 : x.data.toList ∈ splitC c s.data.toList := by rw [← hm]; exact List.mem_map.2 ⟨x, hx, rfl⟩
  have h2 := (split_small c (s.data.toList.length + 1) _ (by omega)).2 _ h1
  have h3 : s.data.toList.length = s.size := by simp
  have h4 : x.data.toList.length = x.size := by simp
  show x.size ≤ maxLen
  unfold maxLen
  omega

/-- What the pieces at '/' come to. -/
def Two (s : List UInt8) (w : World) (A : Option Addr) (n : Nat) : Prop :=
  ((((n : Nat) : Int) == 2) = false ∧ Hid (¬ ((cutC 47 s).2.2 = true ∧ nameB (cutC 47 s).1 = true ∧ wordB (cutC 47 s).2.1 = true))) ∨
  (n = 2 ∧ Hid ((cutC 47 s).2.2 = true) ∧ ∃ g o x y, A = some ⟨g, o, none⟩ ∧ g < w.heap.size ∧ w.cell? ⟨g, o, none⟩ = some (.string x) ∧ w.cell? ⟨g, o + 1, none⟩ = some (.string y) ∧ Hid (x.data.toList = (cutC 47 s).1) ∧ Hid (y.data.toList = (cutC 47 s).2.1))
theorem bc (b : Bool) : (b = true ∧ Hid (b = true)) ∨ (b = false ∧ Hid (b = false)) := by
  cases b with
  | true => exact .inl ⟨rfl, hid rfl⟩
  | false => exact .inr ⟨rfl, hid rfl⟩
theorem split47 (s : ByteArray) (w : World) (hs : s.size ≤ 100000) :
    Calls Try.prog 31 #[.string s, .int .u8 47] w fun e w' => ∃ A n c, e = .returned (.slice A n c) ∧ Two s.data.toList w' A n ∧ Below w.heap.size w w' := by
  refine (split_rd s 47 w hs).mono ?_
  rintro e w' ⟨v, WB, rfl, hrd, hm, hb⟩
  obtain ⟨A, cap, rfl, hcap, hmax, hcl⟩ := hrd.strs
  refine ⟨_, _, _, rfl, ?_, hb⟩
  by_cases h2 : WB.length = 2
  · obtain ⟨g, o, hA, hg, c0, -⟩ := hcl 0 (by omega)
    obtain ⟨g', o', hA', hg', c1, -⟩ := hcl 1 (by omega)
    rw [hA] at hA'
    injection hA' with hA'
    injection hA' with e1 e2
    subst e1 e2
    have h3 : (splitC 47 s.data.toList).length = 2 := by rw [← hm, List.length_map]; exact h2
    obtain ⟨hf, h4⟩ := split_two h3
    rw [h4] at hm
    match WB, h2, hm, c0, c1 with
    | [x, y], _, hm, c0, c1 =>
      simp only [List.map_cons, List.map_nil, List.cons.injEq, and_true] at hm
      exact .inr ⟨rfl, hid hf, g, o, x, y, hA, hg, c0, c1, hid hm.1, hid hm.2⟩
  · refine .inl ⟨by rw [beq_eq_false_iff_ne]; omega, hid fun ⟨h3, _, h5⟩ => h2 ?_⟩
    have := congrArg List.length (split_word h3 h5)
    rw [← hm, List.length_map] at this
    exact this

theorem itemV_1 {s : ByteArray} (h : wordB s.data.toList = true) : itemV s.data.toList = .tuple #[.int .i64 1, .string s, .string ⟨#[]⟩] := by unfold itemV itemF; rw [if_pos h]
theorem itemV_2 {s t : ByteArray} (h : wordB s.data.toList = false) (h0 : s.data.toList.head? = some 63) (ht : t.data.toList = s.data.toList.tail) (hw : wordB t.data.toList = true) : itemV s.data.toList = .tuple #[.int .i64 2, .string t, .string ⟨#[]⟩] := by
  unfold itemV itemF
  rw [if_neg (by rw [h]; simp), if_pos ⟨h0, by rw [← ht]; exact hw⟩]
  dsimp only
  rw [← ht]

set_option maxRecDepth 100000 in
set_option maxHeartbeats 1000000 in
theorem ritem_any (s : ByteArray) (w : World) (hs : s.size ≤ 100000) :
    Calls Try.prog 11 #[.string s] w fun e w' => e = .returned (itemV s.data.toList) ∧ Below w.heap.size w w' := by
  have HSZ := hid (show s.data.toList.length = s.size by simp)
  obtain ⟨b1, hb1⟩ : ∃ b, wordB s.data.toList = b := ⟨_, rfl⟩
  have HB1 := hid hb1
  cases b1 with
  | true =>
    have HV := hid (itemV_1 hb1)
    clear hb1
    go_enter Try.func11, Try.ntmps11
    go_wp2_with (first
      | (go_at_call 30; refine (rword_any s _).mono ?_; rintro e w' ⟨rfl, hw⟩; rw [HB1.out]))
    go_ret3
    exact ⟨by rw [HV.out]; rfl, hw⟩
  | false =>
    have i0 : (0 : Int) ≤ 1 := by decide
    have HE := hid (ext_list s 1 s.size)
    have HT : Hid ((s.extract 1 s.size).data.toList = s.data.toList.tail) := hid (by
      rw [HE.out, List.drop_one, List.take_of_length_le (by rw [List.length_tail, HSZ.out]; omega)])
    by_cases hopt : s.data.toList.head? = some 63 ∧ wordB (s.extract 1 s.size).data.toList = true
    · have hz : 0 < s.size := by
        rw [← HSZ.out]
        cases hl : s.data.toList with
        | nil => rw [hl] at hopt; cases hopt.1
        | cons _ _ => simp
      have c0 : ((s[0].toNat : Int) == 63) = true := by
        have : s.data.toList[0]? = some 63 := by rw [← List.head?_eq_getElem?]; exact hopt.1
        rw [List.getElem?_eq_getElem (by rw [HSZ.out]; exact hz)] at this
        have e := Option.some.inj this
        have e2 : s[0] = 63 := e
        rw [e2]; rfl
      have hz' : (0 : Int) < ↑s.size := by omega
      have i1 : (1 : Int) ≤ ↑s.size := by omega
      have HB2 := hid hopt.2
      have HV := hid (itemV_2 hb1 hopt.1 HT.out hopt.2)
      clear hopt hb1
      go_enter Try.func11, Try.ntmps11
      go_wp2_with (first
        | (go_at_call 30; (with_reducible refine (rword_any s _).mono ?_); rintro e w' ⟨rfl, hw⟩; rw [HB1.out])
        | (go_at_call 30; (with_reducible refine (rword_any (s.extract 1 s.size) _).mono ?_); rintro e w2 ⟨rfl, hw2⟩; rw [HB2.out]))
      go_quiet (fail)
      go_wp2
      go_ret3
      exact ⟨by rw [HV.out]; rfl, below_drewN (bstep hw hw2) _⟩
    · have HCS : Hid ((s.size = 0) ∨ (0 < s.size ∧ ∃ h : 0 < s.size, ((s[0].toNat : Int) == 63) = false) ∨ (∃ h : 0 < s.size, ((s[0].toNat : Int) == 63) = true) ∧ wordB (s.extract 1 s.size).data.toList = false) := hid (by
        rcases Nat.eq_zero_or_pos s.size with h0 | h0
        · exact .inl h0
        · right
          have h1 : s.data.toList.head? = some s[0] := by
            rw [List.head?_eq_getElem?, List.getElem?_eq_getElem (by rw [HSZ.out]; exact h0)]; rfl
          rcases eqI (s[0].toNat : Int) 63 with ⟨c, d⟩ | ⟨c, d⟩
          · refine .inr ⟨⟨h0, c⟩, Bool.eq_false_iff.2 fun hw => hopt ⟨?_, hw⟩⟩
            rw [h1]
            congr 1
            exact UInt8.toNat_inj.1 (show s[0].toNat = 63 by omega)
          · exact .inl ⟨h0, h0, c⟩)
      have HI := hid (fun (k : Int) (a b : ByteArray) (h : (if (cutC 47 s.data.toList).2.2 = true ∧ nameB (cutC 47 s.data.toList).1 = true ∧ wordB (cutC 47 s.data.toList).2.1 = true then ((3 : Int), (cutC 47 s.data.toList).1, (cutC 47 s.data.toList).2.1) else (0, [], [])) = (k, a.data.toList, b.data.toList)) => show itemV s.data.toList = .tuple #[.int .i64 k, .string a, .string b] by
        unfold itemV itemF
        rw [if_neg (by rw [hb1]; simp), if_neg (by rw [← HT.out]; exact hopt), h])
      have hcs := HCS.out
      clear hopt hb1
      have i1 : 0 < s.size → (1 : Int) ≤ ↑s.size := fun h => by omega
      have i2 : 0 < s.size → (0 : Int) < ↑s.size := fun h => by omega
      rcases hcs with h0 | ⟨h0, _, c0⟩ | ⟨⟨h0, c0⟩, hb2⟩
      · have z0 : ¬ (0 : Int) < ↑s.size := by omega
        clear i1 i2 h0
        go_enter Try.func11, Try.ntmps11
        go_wp2_with (first
          | (go_at_call 30; (with_reducible refine (rword_any s _).mono ?_); rintro e w' ⟨rfl, hw⟩; rw [HB1.out])
          | (go_at_call 30; (with_reducible refine (rword_any (s.extract 1 s.size) _).mono ?_); rintro e w2 ⟨rfl, hw2⟩; rw [HB2.out])
          | (go_at_call 31; (with_reducible refine (split47 s _ hs).mono ?_); rintro e w3 ⟨A, n, c, rfl, htw, hw3⟩; rcases htw with ⟨c9, HNO⟩ | ⟨rfl, HFD, g, o, x, y, rfl, hg, d0, d1, HX, HY⟩)
          | (go_at_call 32; (with_reducible refine (rname_any x _).mono ?_); rintro e w4 ⟨rfl, hw4⟩; have e0 := cell_below hw4 hg d0; have e1 := cell_below hw4 hg d1; have hg4 := Nat.lt_of_lt_of_le hg hw4.size; rcases bc (nameB x.data.toList) with ⟨h, HB3⟩ | ⟨h, HB3⟩ <;> rw [h] <;> clear h)
          | (go_at_call 30; (with_reducible refine (rword_any y _).mono ?_); rintro e w5 ⟨rfl, hw5⟩; have f0 := cell_below hw5 hg4 e0; have f1 := cell_below hw5 hg4 e1; rcases bc (wordB y.data.toList) with ⟨h, HB4⟩ | ⟨h, HB4⟩ <;> rw [h] <;> clear h))
        all_goals (try (go_quiet (fail)))
        all_goals (try go_wp2)
        all_goals go_ret3
        all_goals first
          | (refine ⟨by rw [HI.out 0 ⟨#[]⟩ ⟨#[]⟩ (if_neg HNO.out)]; rfl, ?_⟩; exact bstep hw hw3)
          | (refine ⟨by rw [HI.out 3 x y (by rw [if_pos ⟨HFD.out, by rw [← HX.out]; exact HB3.out, by rw [← HY.out]; exact HB4.out⟩, ← HX.out, ← HY.out])]; rfl, ?_⟩; exact below_drewN (bstep (bstep (bstep hw hw3) hw4) hw5) _)
          | (refine ⟨by rw [HI.out 0 ⟨#[]⟩ ⟨#[]⟩ (if_neg (by rw [← HX.out, ← HY.out, HB3.out]; simp))]; rfl, ?_⟩; exact bstep (bstep hw hw3) hw4)
          | (refine ⟨by rw [HI.out 0 ⟨#[]⟩ ⟨#[]⟩ (if_neg (by rw [← HX.out, ← HY.out, HB4.out]; simp))]; rfl, ?_⟩; exact bstep (bstep (bstep hw hw3) hw4) hw5)
      · have z0 := i2 h0
        have z1 := i1 h0
        clear i1 i2
        go_enter Try.func11, Try.ntmps11
        go_wp2_with (first
          | (go_at_call 30; (with_reducible refine (rword_any s _).mono ?_); rintro e w' ⟨rfl, hw⟩; rw [HB1.out])
          | (go_at_call 30; (with_reducible refine (rword_any (s.extract 1 s.size) _).mono ?_); rintro e w2 ⟨rfl, hw2⟩; rw [HB2.out])
          | (go_at_call 31; (with_reducible refine (split47 s _ hs).mono ?_); rintro e w3 ⟨A, n, c, rfl, htw, hw3⟩; rcases htw with ⟨c9, HNO⟩ | ⟨rfl, HFD, g, o, x, y, rfl, hg, d0, d1, HX, HY⟩)
          | (go_at_call 32; (with_reducible refine (rname_any x _).mono ?_); rintro e w4 ⟨rfl, hw4⟩; have e0 := cell_below hw4 hg d0; have e1 := cell_below hw4 hg d1; have hg4 := Nat.lt_of_lt_of_le hg hw4.size; rcases bc (nameB x.data.toList) with ⟨h, HB3⟩ | ⟨h, HB3⟩ <;> rw [h] <;> clear h)
          | (go_at_call 30; (with_reducible refine (rword_any y _).mono ?_); rintro e w5 ⟨rfl, hw5⟩; have f0 := cell_below hw5 hg4 e0; have f1 := cell_below hw5 hg4 e1; rcases bc (wordB y.data.toList) with ⟨h, HB4⟩ | ⟨h, HB4⟩ <;> rw [h] <;> clear h))
        all_goals (try (go_quiet (fail)))
        all_goals (try go_wp2)
        all_goals go_ret3
        all_goals first
          | (refine ⟨by rw [HI.out 0 ⟨#[]⟩ ⟨#[]⟩ (if_neg HNO.out)]; rfl, ?_⟩; exact bstep hw hw3)
          | (refine ⟨by rw [HI.out 3 x y (by rw [if_pos ⟨HFD.out, by rw [← HX.out]; exact HB3.out, by rw [← HY.out]; exact HB4.out⟩, ← HX.out, ← HY.out])]; rfl, ?_⟩; exact below_drewN (bstep (bstep (bstep hw hw3) hw4) hw5) _)
          | (refine ⟨by rw [HI.out 0 ⟨#[]⟩ ⟨#[]⟩ (if_neg (by rw [← HX.out, ← HY.out, HB3.out]; simp))]; rfl, ?_⟩; exact bstep (bstep hw hw3) hw4)
          | (refine ⟨by rw [HI.out 0 ⟨#[]⟩ ⟨#[]⟩ (if_neg (by rw [← HX.out, ← HY.out, HB4.out]; simp))]; rfl, ?_⟩; exact bstep (bstep (bstep hw hw3) hw4) hw5)
      · have z0 := i2 h0
        have z1 := i1 h0
        have HB2 := hid hb2
        clear i1 i2 hb2
        go_enter Try.func11, Try.ntmps11
        go_wp2_with (first
          | (go_at_call 30; (with_reducible refine (rword_any s _).mono ?_); rintro e w' ⟨rfl, hw⟩; rw [HB1.out])
          | (go_at_call 30; (with_reducible refine (rword_any (s.extract 1 s.size) _).mono ?_); rintro e w2 ⟨rfl, hw2⟩; rw [HB2.out])
          | (go_at_call 31; (with_reducible refine (split47 s _ hs).mono ?_); rintro e w3 ⟨A, n, c, rfl, htw, hw3⟩; rcases htw with ⟨c9, HNO⟩ | ⟨rfl, HFD, g, o, x, y, rfl, hg, d0, d1, HX, HY⟩)
          | (go_at_call 32; (with_reducible refine (rname_any x _).mono ?_); rintro e w4 ⟨rfl, hw4⟩; have e0 := cell_below hw4 hg d0; have e1 := cell_below hw4 hg d1; have hg4 := Nat.lt_of_lt_of_le hg hw4.size; rcases bc (nameB x.data.toList) with ⟨h, HB3⟩ | ⟨h, HB3⟩ <;> rw [h] <;> clear h)
          | (go_at_call 30; (with_reducible refine (rword_any y _).mono ?_); rintro e w5 ⟨rfl, hw5⟩; have f0 := cell_below hw5 hg4 e0; have f1 := cell_below hw5 hg4 e1; rcases bc (wordB y.data.toList) with ⟨h, HB4⟩ | ⟨h, HB4⟩ <;> rw [h] <;> clear h))
        all_goals (try (go_quiet (fail)))
        all_goals (try go_wp2)
        all_goals go_ret3
        all_goals first
          | (refine ⟨by rw [HI.out 0 ⟨#[]⟩ ⟨#[]⟩ (if_neg HNO.out)]; rfl, ?_⟩; exact bstep (bstep hw hw2) hw3)
          | (refine ⟨by rw [HI.out 3 x y (by rw [if_pos ⟨HFD.out, by rw [← HX.out]; exact HB3.out, by rw [← HY.out]; exact HB4.out⟩, ← HX.out, ← HY.out])]; rfl, ?_⟩; exact below_drewN (bstep (bstep (bstep (bstep hw hw2) hw3) hw4) hw5) _)
          | (refine ⟨by rw [HI.out 0 ⟨#[]⟩ ⟨#[]⟩ (if_neg (by rw [← HX.out, ← HY.out, HB3.out]; simp))]; rfl, ?_⟩; exact bstep (bstep (bstep hw hw2) hw3) hw4)
          | (refine ⟨by rw [HI.out 0 ⟨#[]⟩ ⟨#[]⟩ (if_neg (by rw [← HX.out, ← HY.out, HB4.out]; simp))]; rfl, ?_⟩; exact bstep (bstep (bstep (bstep hw hw2) hw3) hw4) hw5)
end Go.Proofs.Ytdcdpkpomhjilaa
