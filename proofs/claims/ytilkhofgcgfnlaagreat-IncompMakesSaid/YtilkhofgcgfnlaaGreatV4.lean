/- Contracts: linchpinref2.tags, May. -/
import Derived.Test.YtilkhofgcgfnlaaGreatV2
import Derived.Test.YtilkhofgcgfnlaaGreatV3
namespace Go.Proofs.YtilkhofgcgfnlaaGreat
open Go Go.RowKit

theorem fStr_all (l : List ByteArray) : fStr.all l = l.map Value.string := by
  induction l with
  | nil => rfl
  | cons x l ih => rw [fStr.all_cons, ih]; rfl
/-- The words of a text, to be read. -/
def WordsPost (c : UInt8) (s : ByteArray) (w : World) (e : Ending) (w' : World) : Prop :=
  ∃ (WB : List ByteArray) (A : Option Addr) (cap : Nat), e = .returned (.slice A WB.length cap) ∧ SliceRd fStr.ty w' (Lt w'.heap.size) (.slice A WB.length cap) WB ∧ WB.map (fun x => x.data.toList) = splitC c s.data.toList ∧
    (∀ x ∈ WB, x.size ≤ s.size) ∧ WB.length ≤ s.size + 1 ∧ 1 ≤ WB.length ∧ Below w.heap.size w w'
theorem words_any (s : ByteArray) (c : UInt8) (w : World) (hs : s.size ≤ 1000) :
    Calls Tryz.prog 83 #[.string s, .int .u8 (c.toNat : Int)] w (WordsPost c s w) := by
  refine (split1_any s c w (by omega)).mono ?_
  rintro e w' ⟨WB, A, cap, rfl, hown, hsp, hb⟩
  obtain ⟨h1, h2⟩ := split_sum c s.data.toList
  have hx : ∀ x ∈ WB, x.size ≤ s.size := by
    intro x hx
    have h3 : x.data.toList ∈ splitC c s.data.toList := by rw [← hsp]; exact List.mem_map.2 ⟨x, hx, rfl⟩
    have := h2 _ h3
    simpa using this
  have hlen : (WB.map (fun x => x.data.toList)).length = (splitC c s.data.toList).length := by rw [hsp]
  rw [List.length_map] at hlen
  have hs2 : s.data.toList.length = s.size := by simp
  refine ⟨WB, A, cap, rfl, ?_, hsp, hx, by omega, ?_, hb⟩
  · refine rd_of_ownF (f := fStr) (by rw [fStr_all]; exact hown) (fun x hx' => ?_) (fun g hg => (hown.lt g hg).2)
    have := hx x hx'
    show x.size ≤ maxLen
    unfold maxLen
    omega
  · have := split_ne c s.data.toList
    rcases Nat.eq_zero_or_pos (splitC c s.data.toList).length with h | h
    · exact absurd (List.eq_nil_of_length_eq_zero h) this
    · omega
theorem numRes_some {s : List UInt8} {n : Nat} (h : numberF s = some n) : numRes s = .tuple #[.int .i64 (n : Int), .bool true] := by unfold numRes; rw [h]
theorem numRes_none {s : List UInt8} (h : numberF s = none) : numRes s = .tuple #[.int .i64 0, .bool false] := by unfold numRes; rw [h]
theorem empty_toList {s : ByteArray} (h : s.size = 0) : s.toList = [] := by
  rw [ByteArray.toList_eq]
  exact List.eq_nil_of_length_eq_zero (by simpa using h)
theorem empty_data {s : ByteArray} (h : s.size = 0) : s.data.toList = [] := List.eq_nil_of_length_eq_zero (by simpa using h)
theorem nonempty_toList {s : ByteArray} (h : 0 < s.size) : s.toList.isEmpty = false := by
  rw [ByteArray.toList_eq]
  exact isEmpty_false (n := s.size) (by simp) h
theorem nonempty_data {s : ByteArray} (h : 0 < s.size) : s.data.toList.isEmpty = false := isEmpty_false (n := s.size) (by simp) h

set_option maxRecDepth 100000 in
set_option maxHeartbeats 1000000 in
theorem tags_any (s : ByteArray) (pre : Bool) (w : World) (hs : s.size ≤ 1000) :
    Calls Tryz.prog 71 #[.string s, .bool pre] w fun e w' => e = .returned (.bool (tagsF s.data.toList pre)) ∧ Below w.heap.size w w' := by
  by_cases h0 : s.size = 0
  · have e0 := empty_toList h0
    have HN : Hid (tagsF s.data.toList pre = true) := hid (by unfold tagsF; rw [empty_data h0]; rfl)
    clear h0
    go_enter Tryz.func71, Tryz.ntmps71
    go_wp2
    go_ret
    exact ⟨ret_bool HN.out.symm, Below.refl _ _⟩
  · have e0 := nonempty_toList (s := s) (by omega)
    have HT : Hid (tagsF s.data.toList pre = (decide ((splitC 46 s.data.toList).length ≤ 4) && (splitC 46 s.data.toList).all (tagOk pre))) := hid (by unfold tagsF; rw [nonempty_data (by omega)]; rfl)
    have e1 : (!s.toList.isEmpty) = true := by rw [e0]; rfl
    go_enter Tryz.func71, Tryz.ntmps71
    go_wp2_with fail
    refine (words_any s 46 _ hs).mono ?_
    rintro e w1 ⟨WB, A, cap, rfl, hrd, hsp, hx, hlen, hlen1, hb⟩
    have HSP := hid hsp
    have HX := hid hx
    obtain ⟨A', cap', hv, hcap, hmax, hc⟩ := hrd.flat
    injection hv with e1 e2 e3
    subst e1
    have HC := hid hc
    clear hsp hx hc hrd e2 e3
    have HB := hid hb
    have HL := hid (show (splitC 46 s.data.toList).length = WB.length by rw [← HSP.out, List.length_map])
    by_cases h4 : 4 < WB.length
    · have HN : Hid (tagsF s.data.toList pre = false) := hid (by rw [HT.out, HL.out, decide_eq_false (by omega : ¬ WB.length ≤ 4)]; rfl)
      have i1 : (4 : Int) < ↑WB.length := by omega
      go_wp2
      go_ret
      exact ⟨ret_bool HN.out.symm, HB.out⟩
    · have HT2 : Hid (tagsF s.data.toList pre = WB.all (fun x => tagOk pre x.data.toList)) := hid (by
        rw [HT.out, HL.out, decide_eq_true (by omega : WB.length ≤ 4), ← HSP.out, List.all_map]; rfl)
      have i1 : ¬ (4 : Int) < ↑WB.length := by omega
      clear hb
      go_wp2
      go_loopw [6] (fun iv wr => ∃ k : Nat, k ≤ WB.length ∧ iv = .int .i64 k ∧ Hid ((WB.take k).all (fun x => tagOk pre x.data.toList) = true) ∧ wr = w1) (fun iv _ => WB.length - (intOf iv).toNat)
      case atStart => exact ⟨0, Nat.zero_le _, rfl, hid rfl, rfl⟩
      case round =>
        obtain ⟨k, hk, rfl, hall, rfl⟩ := hrel
        by_cases hlt : k < WB.length
        · obtain ⟨g, o, hA, hF, -, hcell⟩ := HC.out k hlt
          cases hA
          have c0 := hcell 0 _ rfl
          have hxk : (WB[k]).size ≤ 1000 := by have := HX.out _ (List.getElem_mem hlt); omega
          have HAT := hid (show (WB.take (k + 1)).all (fun x => tagOk pre x.data.toList) = ((WB.take k).all (fun x => tagOk pre x.data.toList) && tagOk pre (WB[k]).data.toList) by rw [List.take_succ_eq_append_getElem hlt, List.all_append]; simp)
          have HBAD : Hid (tagOk pre (WB[k]).data.toList = false → tagsF s.data.toList pre = false) := hid (fun hf => by
            rw [HT2.out, List.all_eq_false]
            exact ⟨WB[k], List.getElem_mem hlt, by rw [hf]; simp⟩)
          simp only [fStr, Nat.mul_one, Nat.add_zero] at c0
          clear hcell
          have i2 : (0 : Int) ≤ ↑k := by omega
          have i3 : (↑k : Int) < ↑WB.length := by omega
          generalize WB[k] = t at *
          cases ht : tagB t.data.toList with
          | false =>
            have HTB := hid ht
            clear ht
            go_wp2_with (go_at_call 84; refine (tag_any t _ hxk).mono ?_; rintro e w' ⟨rfl, rfl⟩; rw [HTB.out])
            go_ret
            exact ⟨ret_bool (HBAD.out (by unfold tagOk; rw [HTB.out]; rfl)).symm, HB.out⟩
          | true =>
            have HTB := hid ht
            clear ht
            cases hn : numberF t.data.toList with
            | none =>
              have HNU := hid (numRes_none hn)
              have HNF := hid hn
              clear hn
              cases hnu : numericB t.data.toList with
              | false =>
                have HNB := hid hnu
                clear hnu
                cases pre
                all_goals
                  go_wp2_with (first
                    | (go_at_call 84; refine (tag_any t _ hxk).mono ?_; rintro e w' ⟨rfl, rfl⟩; rw [HTB.out])
                    | (go_at_call 85; refine (number1_any t _ hxk).mono ?_; rintro e w' ⟨rfl, rfl⟩; rw [HNU.out])
                    | (go_at_call 86; refine (numeric_any t _ hxk).mono ?_; rintro e w' ⟨rfl, rfl⟩; rw [HNB.out]))
                  go_roundw
                  case rel => exact ⟨k + 1, by omega, by go_num, hid (by rw [HAT.out, hall.out]; unfold tagOk; rw [HTB.out, HNB.out]; rfl), trivial⟩
                  case measure => simp [intOf]; omega
              | true =>
                have HNB := hid hnu
                clear hnu
                cases pre
                · go_wp2_with (first
                    | (go_at_call 84; refine (tag_any t _ hxk).mono ?_; rintro e w' ⟨rfl, rfl⟩; rw [HTB.out])
                    | (go_at_call 85; refine (number1_any t _ hxk).mono ?_; rintro e w' ⟨rfl, rfl⟩; rw [HNU.out])
                    | (go_at_call 86; refine (numeric_any t _ hxk).mono ?_; rintro e w' ⟨rfl, rfl⟩; rw [HNB.out]))
                  go_roundw
                  case rel => exact ⟨k + 1, by omega, by go_num, hid (by rw [HAT.out, hall.out]; unfold tagOk; rw [HTB.out]; rfl), trivial⟩
                  case measure => simp [intOf]; omega
                · go_wp2_with (first
                    | (go_at_call 84; refine (tag_any t _ hxk).mono ?_; rintro e w' ⟨rfl, rfl⟩; rw [HTB.out])
                    | (go_at_call 85; refine (number1_any t _ hxk).mono ?_; rintro e w' ⟨rfl, rfl⟩; rw [HNU.out])
                    | (go_at_call 86; refine (numeric_any t _ hxk).mono ?_; rintro e w' ⟨rfl, rfl⟩; rw [HNB.out]))
                  go_ret
                  exact ⟨ret_bool (HBAD.out (by unfold tagOk; rw [HTB.out, HNB.out, HNF.out]; rfl)).symm, HB.out⟩
            | some n =>
              have HNU := hid (numRes_some hn)
              have HNF := hid hn
              clear hn
              cases hnu : numericB t.data.toList
              all_goals
                have HNB := hid hnu
                clear hnu
                cases pre
                all_goals
                  go_wp2_with (first
                    | (go_at_call 84; refine (tag_any t _ hxk).mono ?_; rintro e w' ⟨rfl, rfl⟩; rw [HTB.out])
                    | (go_at_call 85; refine (number1_any t _ hxk).mono ?_; rintro e w' ⟨rfl, rfl⟩; rw [HNU.out])
                    | (go_at_call 86; refine (numeric_any t _ hxk).mono ?_; rintro e w' ⟨rfl, rfl⟩; rw [HNB.out]))
                  go_roundw
                  case rel => exact ⟨k + 1, by omega, by go_num, hid (by rw [HAT.out, hall.out]; unfold tagOk; rw [HTB.out, HNF.out]; simp), trivial⟩
                  case measure => simp [intOf]; omega
        · have HN : Hid (tagsF s.data.toList pre = true) := hid (by
            have := hall.out
            rw [List.take_of_length_le (by omega)] at this
            rw [HT2.out, this])
          go_wp2
          go_ret
          exact ⟨ret_bool HN.out.symm, HB.out⟩
end Go.Proofs.YtilkhofgcgfnlaaGreat
