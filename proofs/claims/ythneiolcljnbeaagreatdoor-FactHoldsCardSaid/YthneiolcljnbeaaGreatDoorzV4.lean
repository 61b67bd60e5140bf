import Derived.Test.YthneiolcljnbeaaGreatDoorzFlat
import Derived.Outline
namespace Go.Proofs.YthneiolcljnbeaaGreatDoor
open Go Go.RowKit
section
theorem fStr_all (l : List ByteArray) : fStr.all l = l.map Value.string := by
 induction l with
 | nil => rfl
 | cons x l ih => rw [fStr.all_cons, ih]; rfl
def WordsPost (c : UInt8) (s : ByteArray) (w : World) (e : Ending) (w' : World) : Prop :=
 ∃ (WB : List ByteArray) (A : Option Addr) (cap : Nat), e = .returned (.slice A WB.length cap) ∧ SliceRd fStr.ty w' (Lt w'.heap.size) (.slice A WB.length cap) WB ∧ WB.map (fun x => x.data.toList) = splitC c s.data.toList ∧
  (∀ x ∈ WB, x.size ≤ s.size) ∧ WB.length ≤ s.size + 1 ∧ 1 ≤ WB.length ∧ Below w.heap.size w w'
theorem words_any (s : ByteArray) (c : UInt8) (w : World) (hs : s.size ≤ 1000) :
  Calls Tryz.prog 92 #[.string s, .int .u8 (c.toNat : Int)] w (WordsPost c s w) := by
 refine (split1_any s c w (by omega)).mono ?_
 rintro e w' ⟨WB, A, cap, rfl, hown, hsp, hb⟩
 obtain ⟨h1, h2⟩ := split_sum c s.data.toList
 have hx : ∀ x ∈ WB, x.size ≤ s.size := by
  intro x hx
  have h3 : x.data.toList ∈ splitC c s.data.toList := by rw [← hsp]; exact List.mem_map.2 ⟨x, hx, rfl⟩
  have := h2 _ h3
  simpa using this
 have hlen : (WB.map (fun x => x.data.toList)).length = (splitC c s.data.toList).length := by rw [hsp]
 rw [List.length_map] at hlen
 have hs2 : s.data.toList.length = s.size := by simp
 refine ⟨WB, A, cap, rfl, ?_, hsp, hx, by omega, ?_, hb⟩
 ·refine rd_of_ownF (f := fStr) (by rw [fStr_all]; exact hown) (fun x hx' => ?_) (fun g hg => (hown.lt g hg).2)
  have := hx x hx'
  show x.size ≤ maxLen
  unfold maxLen
  omega
 ·have := split_ne c s.data.toList
  rcases Nat.eq_zero_or_pos (splitC c s.data.toList).length with h | h
  ·exact absurd (List.eq_nil_of_length_eq_zero h) this
  ·omega
theorem numRes_some {s : List UInt8} {n : Nat} (h : numberF s = some n) : numRes s = .tuple #[.int .i64 (n : Int), .bool true] := by unfold numRes; rw [h]
theorem numRes_none {s : List UInt8} (h : numberF s = none) : numRes s = .tuple #[.int .i64 0, .bool false] := by unfold numRes; rw [h]
theorem empty_toList {s : ByteArray} (h : s.size = 0) : s.toList = [] := by
 rw [ByteArray.toList_eq]
 exact List.eq_nil_of_length_eq_zero (by simpa using h)
theorem empty_data {s : ByteArray} (h : s.size = 0) : s.data.toList = [] := List.eq_nil_of_length_eq_zero (by simpa using h)
theorem nonempty_toList {s : ByteArray} (h : 0 < s.size) : s.toList.isEmpty = false := by
 rw [ByteArray.toList_eq]
 exact isEmpty_false (n := s.size) (by simp) h
theorem nonempty_data {s : ByteArray} (h : 0 < s.size) : s.data.toList.isEmpty = false := isEmpty_false (n := s.size) (by simp) h
set_option maxRecDepth 100000 in
set_option maxHeartbeats 1000000 in
theorem tags_any (s : ByteArray) (pre : Bool) (w : World) (hs : s.size ≤ 1000) :
  Calls Tryz.prog 70 #[.string s, .bool pre] w fun e w' => e = .returned (.bool (tagsF s.data.toList pre)) ∧ Below w.heap.size w w' := by
 by_cases h0 : s.size = 0
 ·have e0 := empty_toList h0
  have HN : Hid (tagsF s.data.toList pre = true) := hid (by unfold tagsF; rw [empty_data h0]; rfl)
  clear h0
  go_enter Tryz.func70, Tryz.ntmps70
  go_wp2
  go_ret
  exact ⟨ret_bool HN.out.symm, Below.refl _ _⟩
 ·have e0 := nonempty_toList (s := s) (by omega)
  have HT : Hid (tagsF s.data.toList pre = (decide ((splitC 46 s.data.toList).length ≤ 4) && (splitC 46 s.data.toList).all (tagOk pre))) := hid (by unfold tagsF; rw [nonempty_data (by omega)]; rfl)
  have e1 : (!s.toList.isEmpty) = true := by rw [e0]; rfl
  go_enter Tryz.func70, Tryz.ntmps70
  go_wp2_with fail
  refine (words_any s 46 _ hs).mono ?_
  rintro e w1 ⟨WB, A, cap, rfl, hrd, hsp, hx, hlen, hlen1, hb⟩
  have HSP := hid hsp
  have HX := hid hx
  obtain ⟨A', cap', hv, hcap, hmax, hc⟩ := hrd.flat
  injection hv with e1 e2 e3
  subst e1
  have HC := hid hc
  clear hsp hx hc hrd e2 e3
  have HB := hid hb
  have HL := hid (show (splitC 46 s.data.toList).length = WB.length by rw [← HSP.out, List.length_map])
  by_cases h4 : 4 < WB.length
  ·have HN : Hid (tagsF s.data.toList pre = false) := hid (by rw [HT.out, HL.out, decide_eq_false (by omega : ¬ WB.length ≤ 4)]; rfl)
   have i1 : (4 : Int) < ↑WB.length := by omega
   go_wp2
   go_ret
   exact ⟨ret_bool HN.out.symm, HB.out⟩
  ·have HT2 : Hid (tagsF s.data.toList pre = WB.all (fun x => tagOk pre x.data.toList)) := hid (by
    rw [HT.out, HL.out, decide_eq_true (by omega : WB.length ≤ 4), ← HSP.out, List.all_map]; rfl)
   have i1 : ¬ (4 : Int) < ↑WB.length := by omega
   clear hb
   go_wp2
   go_loopw [6] (fun iv wr => ∃ k : Nat, k ≤ WB.length ∧ iv = .int .i64 k ∧ Hid ((WB.take k).all (fun x => tagOk pre x.data.toList) = true) ∧ wr = w1) (fun iv _ => WB.length - (intOf iv).toNat)
   case atStart => exact ⟨0, Nat.zero_le _, rfl, hid rfl, rfl⟩
   case round =>
    obtain ⟨k, hk, rfl, hall, rfl⟩ := hrel
    by_cases hlt : k < WB.length
    ·obtain ⟨g, o, hA, hF, -, hcell⟩ := HC.out k hlt
     cases hA
     have c0 := hcell 0 _ rfl
     have hxk : (WB[k]).size ≤ 1000 := by have := HX.out _ (List.getElem_mem hlt); omega
     have HAT := hid (show (WB.take (k + 1)).all (fun x => tagOk pre x.data.toList) = ((WB.take k).all (fun x => tagOk pre x.data.toList) && tagOk pre (WB[k]).data.toList) by rw [List.take_succ_eq_append_getElem hlt, List.all_append]; simp)
     have HBAD : Hid (tagOk pre (WB[k]).data.toList = false → tagsF s.data.toList pre = false) := hid (fun hf => by
      rw [HT2.out, List.all_eq_false]
      exact ⟨WB[k], List.getElem_mem hlt, by rw [hf]; simp⟩)
     simp only [fStr, Nat.mul_one, Nat.add_zero] at c0
     clear hcell
     have i2 : (0 : Int) ≤ ↑k := by omega
     have i3 : (↑k : Int) < ↑WB.length := by omega
     generalize WB[k] = t at *
     cases ht : tagB t.data.toList with
     | false =>
      have HTB := hid ht
      clear ht
      go_wp2_with (go_at_call 93; refine (tag_any t _ hxk).mono ?_; rintro e w' ⟨rfl, rfl⟩; rw [HTB.out])
      go_ret
      exact ⟨ret_bool (HBAD.out (by unfold tagOk; rw [HTB.out]; rfl)).symm, HB.out⟩
     | true =>
      have HTB := hid ht
      clear ht
      cases hn : numberF t.data.toList with
      | none =>
       have HNU := hid (numRes_none hn)
       have HNF := hid hn
       clear hn
       cases hnu : numericB t.data.toList with
       | false =>
        have HNB := hid hnu
        clear hnu
        cases pre
        all_goals
         go_wp2_with (first
          | (go_at_call 93; refine (tag_any t _ hxk).mono ?_; rintro e w' ⟨rfl, rfl⟩; rw [HTB.out])
          | (go_at_call 94; refine (number1_any t _ hxk).mono ?_; rintro e w' ⟨rfl, rfl⟩; rw [HNU.out])
          | (go_at_call 95; refine (numeric_any t _ hxk).mono ?_; rintro e w' ⟨rfl, rfl⟩; rw [HNB.out]))
         go_roundw
         case rel => exact ⟨k + 1, by omega, by go_num, hid (by rw [HAT.out, hall.out]; unfold tagOk; rw [HTB.out, HNB.out]; rfl), trivial⟩
         case measure => simp [intOf]; omega
       | true =>
        have HNB := hid hnu
        clear hnu
        cases pre
        ·go_wp2_with (first
          | (go_at_call 93; refine (tag_any t _ hxk).mono ?_; rintro e w' ⟨rfl, rfl⟩; rw [HTB.out])
          | (go_at_call 94; refine (number1_any t _ hxk).mono ?_; rintro e w' ⟨rfl, rfl⟩; rw [HNU.out])
          | (go_at_call 95; refine (numeric_any t _ hxk).mono ?_; rintro e w' ⟨rfl, rfl⟩; rw [HNB.out]))
         go_roundw
         case rel => exact ⟨k + 1, by omega, by go_num, hid (by rw [HAT.out, hall.out]; unfold tagOk; rw [HTB.out]; rfl), trivial⟩
         case measure => simp [intOf]; omega
        ·go_wp2_with (first
          | (go_at_call 93; refine (tag_any t _ hxk).mono ?_; rintro e w' ⟨rfl, rfl⟩; rw [HTB.out])
          | (go_at_call 94; refine (number1_any t _ hxk).mono ?_; rintro e w' ⟨rfl, rfl⟩; rw [HNU.out])
          | (go_at_call 95; refine (numeric_any t _ hxk).mono ?_; rintro e w' ⟨rfl, rfl⟩; rw [HNB.out]))
         go_ret
         exact ⟨ret_bool (HBAD.out (by unfold tagOk; rw [HTB.out, HNB.out, HNF.out]; rfl)).symm, HB.out⟩
      | some n =>
       have HNU := hid (numRes_some hn)
       have HNF := hid hn
       clear hn
       cases hnu : numericB t.data.toList
       all_goals
        have HNB := hid hnu
        clear hnu
        cases pre
        all_goals
         go_wp2_with (first
          | (go_at_call 93; refine (tag_any t _ hxk).mono ?_; rintro e w' ⟨rfl, rfl⟩; rw [HTB.out])
          | (go_at_call 94; refine (number1_any t _ hxk).mono ?_; rintro e w' ⟨rfl, rfl⟩; rw [HNU.out])
          | (go_at_call 95; refine (numeric_any t _ hxk).mono ?_; rintro e w' ⟨rfl, rfl⟩; rw [HNB.out]))
         go_roundw
         case rel => exact ⟨k + 1, by omega, by go_num, hid (by rw [HAT.out, hall.out]; unfold tagOk; rw [HTB.out, HNF.out]; simp), trivial⟩
         case measure => simp [intOf]; omega
    ·have HN : Hid (tagsF s.data.toList pre = true) := hid (by
      have := hall.out
      rw [List.take_of_length_le (by omega)] at this
      rw [HT2.out, this])
     go_wp2
     go_ret
     exact ⟨ret_bool HN.out.symm, HB.out⟩
end
section
set_option maxHeartbeats 1000000 in
theorem vmay_any (a b c : Int) (p q : ByteArray) (w : World) (h : VB a b c p q) :
  Calls Tryz.prog 36 #[.agg #[.int .i64 a, .int .i64 b, .int .i64 c, .string p, .string q]] w fun e w' => e = .returned (.bool (mayV ⟨a, b, c, p, q⟩)) ∧ Below w.heap.size w w' := by
 obtain ⟨ha, hb, hc, hp, hq⟩ := h
 go_enter Tryz.func36, Tryz.ntmps36
 go_wp2_with (first
  | (go_at_call 69; refine (num_any _ _).mono ?_; rintro e w' ⟨rfl, rfl⟩)
  | (go_at_call 70; (with_reducible refine (tags_any p true _ hp).mono ?_); rintro e w1 ⟨rfl, hb1⟩; obtain ⟨hbc, hbf⟩ := bcell hb1)
  | (go_at_call 70; (with_reducible refine (tags_any q false _ hq).mono ?_); rintro e w2 ⟨rfl, hb2⟩))
 all_goals go_ret
 all_goals refine ⟨ret_bool (by simp [mayV, *]), ?_⟩
 all_goals first
  | exact balloc (b0 w) _
  | exact bstep (balloc (b0 w) _) hb1
  | exact bstep (bstep (balloc (b0 w) _) hb1) hb2
def textsF (a b : ByteArray) : Int := if Op.bytesLess a.toList b.toList = true then -1 else if (!a.toList == b.toList) = true then 1 else 0
set_option maxHeartbeats 400000 in
theorem texts_any (a b : ByteArray) (w : World) :
  Calls Tryz.prog 173 #[.string a, .string b] w fun e w' => e = .returned (.int .i64 (textsF a b)) ∧ w' = w := by
 go_enter Tryz.func173, Tryz.ntmps173
 go_wp2
 all_goals go_ret
 ·exact ⟨ret_int (by unfold textsF; rw [if_pos (by assumption)]), rfl⟩
 ·exact ⟨ret_int (by unfold textsF; rw [if_neg (by rw [‹Op.bytesLess _ _ = false›]; simp), if_pos (by assumption)]), rfl⟩
 ·exact ⟨ret_int (by unfold textsF; rw [if_neg (by rw [‹Op.bytesLess _ _ = false›]; simp), if_neg (by rw [‹(!_ == _) = false›]; simp)]), rfl⟩
def numV (s : List UInt8) : Int := match numberF s with | some n => (n : Int) | none => 0
theorem numRes_eq (s : List UInt8) : numRes s = .tuple #[.int .i64 (numV s), .bool (numberF s).isSome] := by
 unfold numRes numV
 cases numberF s <;> rfl
def oneF (a b : ByteArray) : Int :=
 if numericB a.data.toList = true then (if numericB b.data.toList = true then intsF (numV a.data.toList) (numV b.data.toList) else -1)
 else if numericB b.data.toList = true then 1 else textsF a b
set_option maxHeartbeats 400000 in
theorem one_any (a b : ByteArray) (w : World) (ha : a.size ≤ 1000) (hb : b.size ≤ 1000) :
  Calls Tryz.prog 165 #[.string a, .string b] w fun e w' => e = .returned (.int .i64 (oneF a b)) ∧ w' = w := by
 cases hx : numericB a.data.toList with
 | true =>
  cases hy : numericB b.data.toList with
  | true =>
   have HX := hid hx
   have HY := hid hy
   have H : Hid (oneF a b = intsF (numV a.data.toList) (numV b.data.toList)) := hid (by unfold oneF; rw [if_pos hx, if_pos hy])
   clear hx hy
   go_enter Tryz.func165, Tryz.ntmps165
   go_wp2_with (first
    | (go_at_call 95; (with_reducible refine (numeric_any a _ ha).mono ?_); rintro e w' ⟨rfl, rfl⟩; rw [HX.out])
    | (go_at_call 95; (with_reducible refine (numeric_any b _ hb).mono ?_); rintro e w' ⟨rfl, rfl⟩; rw [HY.out])
    | (go_at_call 94; (with_reducible refine (number1_any a _ ha).mono ?_); rintro e w' ⟨rfl, rfl⟩; rw [numRes_eq])
    | (go_at_call 94; (with_reducible refine (number1_any b _ hb).mono ?_); rintro e w' ⟨rfl, rfl⟩; rw [numRes_eq])
    | (go_at_call 143; refine (ints_any _ _ _).mono ?_; rintro e w' ⟨rfl, rfl⟩))
   go_ret
   exact ⟨ret_int H.out.symm, rfl⟩
  | false =>
   have HX := hid hx
   have HY := hid hy
   have H : Hid (oneF a b = -1) := hid (by unfold oneF; rw [if_pos hx, if_neg (by rw [hy]; simp)])
   clear hx hy
   go_enter Tryz.func165, Tryz.ntmps165
   go_wp2_with (first
    | (go_at_call 95; (with_reducible refine (numeric_any a _ ha).mono ?_); rintro e w' ⟨rfl, rfl⟩; rw [HX.out])
    | (go_at_call 95; (with_reducible refine (numeric_any b _ hb).mono ?_); rintro e w' ⟨rfl, rfl⟩; rw [HY.out]))
   go_ret
   exact ⟨ret_int H.out.symm, rfl⟩
 | false =>
  cases hy : numericB b.data.toList with
  | true =>
   have HX := hid hx
   have HY := hid hy
   have H : Hid (oneF a b = 1) := hid (by unfold oneF; rw [if_neg (by rw [hx]; simp), if_pos hy])
   clear hx hy
   go_enter Tryz.func165, Tryz.ntmps165
   go_wp2_with (first
    | (go_at_call 95; (with_reducible refine (numeric_any a _ ha).mono ?_); rintro e w' ⟨rfl, rfl⟩; rw [HX.out])
    | (go_at_call 95; (with_reducible refine (numeric_any b _ hb).mono ?_); rintro e w' ⟨rfl, rfl⟩; rw [HY.out]))
   go_ret
   exact ⟨ret_int H.out.symm, rfl⟩
  | false =>
   have HX := hid hx
   have HY := hid hy
   have H : Hid (oneF a b = textsF a b) := hid (by unfold oneF; rw [if_neg (by rw [hx]; simp), if_neg (by rw [hy]; simp)])
   clear hx hy
   go_enter Tryz.func165, Tryz.ntmps165
   go_wp2_with (first
    | (go_at_call 95; (with_reducible refine (numeric_any a _ ha).mono ?_); rintro e w' ⟨rfl, rfl⟩; rw [HX.out])
    | (go_at_call 95; (with_reducible refine (numeric_any b _ hb).mono ?_); rintro e w' ⟨rfl, rfl⟩; rw [HY.out])
    | (go_at_call 173; refine (texts_any _ _ _).mono ?_; rintro e w' ⟨rfl, rfl⟩))
   go_ret
   exact ⟨ret_int H.out.symm, rfl⟩
end
section
theorem words46_any (s : ByteArray) (w : World) (hs : s.size ≤ 1000) : Calls Tryz.prog 92 #[.string s, .int .u8 46] w (WordsPost 46 s w) := words_any s 46 w hs
def cmpL : List ByteArray → List ByteArray → Int
 | x :: l, y :: m => if oneF x y = 0 then cmpL l m else oneF x y
 | l, m => intsF l.length m.length
def wordsOf (s : ByteArray) : List ByteArray := (splitC 46 s.data.toList).map fun l => ⟨l.toArray⟩
theorem words_eq {WB : List ByteArray} {s : ByteArray} (h : WB.map (fun x => x.data.toList) = splitC 46 s.data.toList) : WB = wordsOf s := by
 unfold wordsOf
 rw [← h, List.map_map]
 have : ((fun l : List UInt8 => (⟨l.toArray⟩ : ByteArray)) ∘ fun x : ByteArray => x.data.toList) = id := by
  funext x
  simp
 rw [this, List.map_id]
def presF (a b : ByteArray) : Int := if a = b then 0 else if a.size = 0 then 1 else if b.size = 0 then -1 else cmpL (wordsOf a) (wordsOf b)
theorem cmpL_drop {l m : List ByteArray} {k : Nat} (hk : k < l.length) (hk' : k < m.length) : cmpL (l.drop k) (m.drop k) = if oneF l[k] m[k] = 0 then cmpL (l.drop (k + 1)) (m.drop (k + 1)) else oneF l[k] m[k] := by
 rw [List.drop_eq_getElem_cons hk, List.drop_eq_getElem_cons hk', cmpL]
theorem intsF_sub (a b k : Nat) (ha : k ≤ a) (hb : k ≤ b) : intsF ((a - k : Nat) : Int) ((b - k : Nat) : Int) = intsF a b := by
 unfold intsF
 by_cases h1 : (a : Int) < b
 ·rw [if_pos h1, if_pos (by omega)]
 ·rw [if_neg h1, if_neg (by omega)]
  by_cases h2 : (b : Int) < a
  ·rw [if_pos h2, if_pos (by omega)]
  ·rw [if_neg h2, if_neg (by omega)]
theorem cmpL_end {l m : List ByteArray} {k : Nat} (hk : k ≤ l.length) (hk' : k ≤ m.length) (h : k = l.length ∨ k = m.length) : cmpL (l.drop k) (m.drop k) = intsF l.length m.length := by
 have e : cmpL (l.drop k) (m.drop k) = intsF (l.drop k).length (m.drop k).length := by
  rcases h with h | h
  ·have : l.drop k = [] := List.eq_nil_of_length_eq_zero (by simp; omega)
   rw [this]
   simp [cmpL]
  ·have : m.drop k = [] := List.eq_nil_of_length_eq_zero (by simp; omega)
   rw [this]
   cases l.drop k <;> simp [cmpL]
 rw [e, List.length_drop, List.length_drop, intsF_sub _ _ _ hk hk']
theorem ba_eq {a b : ByteArray} : (a.toList == b.toList) = decide (a = b) := by
 rw [Bool.eq_iff_iff, beq_iff_eq, decide_eq_true_iff, ByteArray.toList_eq, ByteArray.toList_eq]
 constructor
 ·intro h
  cases a; cases b
  congr
  exact Array.toList_inj.1 h
 ·rintro rfl; rfl
set_option maxRecDepth 100000 in
set_option maxHeartbeats 1000000 in
theorem pres_any (a b : ByteArray) (w : World) (ha : a.size ≤ 1000) (hb : b.size ≤ 1000) :
  Calls Tryz.prog 144 #[.string a, .string b] w fun e w' => e = .returned (.int .i64 (presF a b)) ∧ Below w.heap.size w w' := by
 by_cases h0 : a = b
 ·have e0 : (a.toList == b.toList) = true := by rw [ba_eq]; exact decide_eq_true h0
  have H : Hid (presF a b = 0) := hid (by unfold presF; rw [if_pos h0])
  clear h0
  go_enter Tryz.func144, Tryz.ntmps144
  go_wp2
  go_ret
  exact ⟨ret_int H.out.symm, b0 w⟩
 ·have e0 : (a.toList == b.toList) = false := by rw [ba_eq]; exact decide_eq_false h0
  have H0 : Hid (presF a b = if a.size = 0 then 1 else if b.size = 0 then -1 else cmpL (wordsOf a) (wordsOf b)) := hid (by unfold presF; rw [if_neg h0])
  clear h0
  by_cases h1 : a.size = 0
  ·have e1 : a.toList.isEmpty = true := by rw [empty_toList h1]; rfl
   have H : Hid (presF a b = 1) := hid (by rw [H0.out, if_pos h1])
   clear h1
   go_enter Tryz.func144, Tryz.ntmps144
   go_wp2
   go_ret
   exact ⟨ret_int H.out.symm, b0 w⟩
  ·have e1 := nonempty_toList (s := a) (by omega)
   by_cases h2 : b.size = 0
   ·have e2 : b.toList.isEmpty = true := by rw [empty_toList h2]; rfl
    have H : Hid (presF a b = -1) := hid (by rw [H0.out, if_neg h1, if_pos h2])
    clear h1 h2
    go_enter Tryz.func144, Tryz.ntmps144
    go_wp2
    go_ret
    exact ⟨ret_int H.out.symm, b0 w⟩
   ·have e2 := nonempty_toList (s := b) (by omega)
    have H1 : Hid (presF a b = cmpL (wordsOf a) (wordsOf b)) := hid (by rw [H0.out, if_neg h1, if_neg h2])
    clear h1 h2 H0
    go_enter Tryz.func144, Tryz.ntmps144
    go_wp2_with (first
     | (go_at_call 92; (with_reducible refine (words46_any a _ ha).mono ?_); rintro e w1 ⟨L, A, cap, rfl, hrd, hsp, hx, hlen, -, hb1⟩; have HB1 := hid hb1; have HR := hid hrd; have HS := hid (words_eq hsp); have HX := hid hx; clear hsp hrd hx hb1)
     | (go_at_call 92; (with_reducible refine (words46_any b _ hb).mono ?_); rintro e w2 ⟨M, A', cap', rfl, hrd, hsp, hx, hlen', -, hb2⟩; have HB2 := hid hb2; have HR' := hid hrd; have HS' := hid (words_eq hsp); have HX' := hid hx; clear hsp hrd hx hb2))
    obtain ⟨_, _, hv, hcap, hmax, hc⟩ := (HR.out.lift HB2.out HB2.out.size).flat
    injection hv with q1 q2 q3
    subst q1
    have HC := hid hc
    obtain ⟨_, _, hv, hcap', hmax', hc'⟩ := HR'.out.flat
    injection hv with q1' q2' q3'
    subst q1'
    have HC' := hid hc'
    clear hc hc' q2 q3 q2' q3'
    have H2 : Hid (presF a b = cmpL L M) := hid (by rw [H1.out, HS.out, HS'.out])
    go_loopw [7] (fun iv wr => ∃ k : Nat, k ≤ L.length ∧ k ≤ M.length ∧ iv = .int .i64 k ∧ Hid (cmpL L M = cmpL (L.drop k) (M.drop k)) ∧ Hid (Below w2.heap.size w2 wr)) (fun iv _ => L.length - (intOf iv).toNat)
    case atStart => exact ⟨0, Nat.zero_le _, Nat.zero_le _, rfl, hid (by simp), hid (b0 _)⟩
    case round =>
     obtain ⟨k, hk, hk', rfl, hcmp, hbr⟩ := hrel
     have HBW := hid (bstep (bstep HB1.out HB2.out) hbr.out)
     by_cases hlt : k < L.length ∧ k < M.length
     ·obtain ⟨hl1, hl2⟩ := hlt
      obtain ⟨g, o, hA, hF, -, hcell⟩ := HC.out k hl1
      cases hA
      obtain ⟨g', o', hA', hF', -, hcell'⟩ := HC'.out k hl2
      cases hA'
      have c0 := cell_below hbr.out hF (hcell 0 _ rfl)
      have c0' := cell_below hbr.out hF' (hcell' 0 _ rfl)
      have hxk : (L[k]).size ≤ 1000 := by have := HX.out _ (List.getElem_mem hl1); omega
      have hxk' : (M[k]).size ≤ 1000 := by have := HX'.out _ (List.getElem_mem hl2); omega
      simp only [fStr, Nat.mul_one, Nat.add_zero] at c0 c0'
      have HD := hid (cmpL_drop hl1 hl2)
      clear hcell hcell'
      have i1 : (0 : Int) ≤ ↑k := by omega
      have i2 : (↑k : Int) < ↑L.length := by omega
      have i3 : (↑k : Int) < ↑M.length := by omega
      have i4 : decide (k < M.length) = true := decide_eq_true hl2
      generalize L[k] = x at *
      generalize M[k] = y at *
      by_cases h1 : oneF x y = 0
      ·have e3 : (oneF x y != 0) = false := by rw [h1]; rfl
       have HE : Hid (cmpL L M = cmpL (L.drop (k + 1)) (M.drop (k + 1))) := hid (by rw [hcmp.out, HD.out, if_pos h1])
       clear h1
       go_wp2
       go_quiet ((go_at_call 165; exact Calls.quiet_of_same (one_any x y _ hxk hxk')))
       go_wp2
       go_roundw
       case rel => exact ⟨k + 1, by omega, by omega, by go_num, HE, hid (below_drewN hbr.out _)⟩
       case measure => simp [intOf]; omega
      ·have e3 : (oneF x y != 0) = true := by rw [bne_iff_ne]; exact h1
       have HE : Hid (presF a b = oneF x y) := hid (by rw [H2.out, hcmp.out, HD.out, if_neg h1])
       clear h1
       go_wp2
       go_quiet ((go_at_call 165; exact Calls.quiet_of_same (one_any x y _ hxk hxk')))
       go_wp2
       go_ret
       exact ⟨ret_int HE.out.symm, below_drewN HBW.out _⟩
     ·have HE : Hid (presF a b = intsF L.length M.length) := hid (by rw [H2.out, hcmp.out]; exact cmpL_end hk hk' (by omega))
      by_cases hl1 : k < L.length
      ·have i4 : decide (k < M.length) = false := decide_eq_false (by omega)
       have hl2 : M.length ≤ k := by omega
       clear hlt
       go_wp2_with (go_at_call 143; refine (ints_any _ _ _).mono ?_; rintro e w' ⟨rfl, rfl⟩)
       go_ret
       exact ⟨ret_int HE.out.symm, HBW.out⟩
      ·clear hlt
       go_wp2_with (go_at_call 143; refine (ints_any _ _ _).mono ?_; rintro e w' ⟨rfl, rfl⟩)
       go_ret
       exact ⟨ret_int HE.out.symm, HBW.out⟩
def cmpV (u v : Ver) : Int :=
 if mayV u = true ∧ mayV v = true then
  (if intsF u.major v.major ≠ 0 then intsF u.major v.major else if intsF u.minor v.minor ≠ 0 then intsF u.minor v.minor else if intsF u.patch v.patch ≠ 0 then intsF u.patch v.patch else presF u.pre v.pre)
 else 0
set_option maxRecDepth 100000 in
set_option maxHeartbeats 1000000 in
theorem vcmp_any (a b c : Int) (p q : ByteArray) (a' b' c' : Int) (p' q' : ByteArray) (w : World) (h : VB a b c p q) (h' : VB a' b' c' p' q') :
  Calls Tryz.prog 111 #[.agg #[.int .i64 a, .int .i64 b, .int .i64 c, .string p, .string q], .agg #[.int .i64 a', .int .i64 b', .int .i64 c', .string p', .string q']] w fun e w' => e = .returned (.int .i64 (cmpV ⟨a, b, c, p, q⟩ ⟨a', b', c', p', q'⟩)) ∧ Below w.heap.size w w' := by
 have hp : p.size ≤ 1000 := h.2.2.2.1
 have hp' : p'.size ≤ 1000 := h'.2.2.2.1
 have HV := hid h
 have HV' := hid h'
 clear h h'
 cases h1 : mayV ⟨a, b, c, p, q⟩ with
 | false =>
  have H1 := hid h1
  have H : Hid (cmpV ⟨a, b, c, p, q⟩ ⟨a', b', c', p', q'⟩ = 0) := hid (by unfold cmpV; rw [if_neg (by rw [h1]; simp)])
  clear h1
  go_enter Tryz.func111, Tryz.ntmps111
  go_wp2_with (first
   | (go_at_call 36; (with_reducible refine (vmay_any a b c p q _ HV.out).mono ?_); rintro e w1 ⟨rfl, hb1⟩; rw [H1.out]; obtain ⟨hbc, hbf⟩ := bcell hb1; have hz : w.heap.size + 1 < w1.heap.size := Nat.lt_of_lt_of_le (by simp) hb1.size; have hz0 : w.heap.size < w1.heap.size := Nat.lt_of_succ_lt hz; have HB1 := hid (bstep (balloc (balloc (b0 w) _) _) hb1))
   | (go_at_call 36; (with_reducible refine (vmay_any a' b' c' p' q' _ HV'.out).mono ?_); rintro e w2 ⟨rfl, hb2⟩; obtain ⟨hbc2, hbf2⟩ := bcell hb2; have HB2 := hid (bstep HB1.out hb2); have hz2 : w1.heap.size ≤ w2.heap.size := hb2.size)
   | (go_at_call 143; refine (ints_any _ _ _).mono ?_; rintro e w' ⟨rfl, rfl⟩)
   | (go_at_call 144; refine (pres_any p p' _ hp hp').mono ?_; rintro e w3 ⟨rfl, hb3⟩))
  go_ret
  exact ⟨ret_int H.out.symm, HB1.out⟩
 | true =>
  have H1 := hid h1
  cases h2 : mayV ⟨a', b', c', p', q'⟩ with
  | false =>
   have H2 := hid h2
   have H : Hid (cmpV ⟨a, b, c, p, q⟩ ⟨a', b', c', p', q'⟩ = 0) := hid (by unfold cmpV; rw [if_neg (by rw [h2]; simp)])
   clear h1 h2
   go_enter Tryz.func111, Tryz.ntmps111
   go_wp2_with (first
    | (go_at_call 36; (with_reducible refine (vmay_any a b c p q _ HV.out).mono ?_); rintro e w1 ⟨rfl, hb1⟩; rw [H1.out]; obtain ⟨hbc, hbf⟩ := bcell hb1; have hz : w.heap.size + 1 < w1.heap.size := Nat.lt_of_lt_of_le (by simp) hb1.size; have hz0 : w.heap.size < w1.heap.size := Nat.lt_of_succ_lt hz; have HB1 := hid (bstep (balloc (balloc (b0 w) _) _) hb1))
    | (go_at_call 36; (with_reducible refine (vmay_any a' b' c' p' q' _ HV'.out).mono ?_); rintro e w2 ⟨rfl, hb2⟩; rw [H2.out]; obtain ⟨hbc2, hbf2⟩ := bcell hb2; have HB2 := hid (bstep HB1.out hb2); have hz2 : w1.heap.size ≤ w2.heap.size := hb2.size)
    | (go_at_call 143; refine (ints_any _ _ _).mono ?_; rintro e w' ⟨rfl, rfl⟩)
    | (go_at_call 144; refine (pres_any p p' _ hp hp').mono ?_; rintro e w3 ⟨rfl, hb3⟩))
   go_ret
   exact ⟨ret_int H.out.symm, HB2.out⟩
  | true =>
   have H2 := hid h2
   have H0 : Hid (cmpV ⟨a, b, c, p, q⟩ ⟨a', b', c', p', q'⟩ = if intsF a a' ≠ 0 then intsF a a' else if intsF b b' ≠ 0 then intsF b b' else if intsF c c' ≠ 0 then intsF c c' else presF p p') := hid (by unfold cmpV; rw [if_pos ⟨h1, h2⟩])
   clear h1 h2
   by_cases k1 : intsF a a' = 0
   ·have e1 : (intsF a a' != 0) = false := by rw [k1]; rfl
    by_cases k2 : intsF b b' = 0
    ·have e2 : (intsF b b' != 0) = false := by rw [k2]; rfl
     by_cases k3 : intsF c c' = 0
     ·have e3 : (intsF c c' != 0) = false := by rw [k3]; rfl
      have H : Hid (cmpV ⟨a, b, c, p, q⟩ ⟨a', b', c', p', q'⟩ = presF p p') := hid (by rw [H0.out, if_neg (by simp [k1]), if_neg (by simp [k2]), if_neg (by simp [k3])])
      clear k1 k2 k3
      go_enter Tryz.func111, Tryz.ntmps111
      go_wp2_with (first
       | (go_at_call 36; (with_reducible refine (vmay_any a b c p q _ HV.out).mono ?_); rintro e w1 ⟨rfl, hb1⟩; rw [H1.out]; obtain ⟨hbc, hbf⟩ := bcell hb1; have hz : w.heap.size + 1 < w1.heap.size := Nat.lt_of_lt_of_le (by simp) hb1.size; have hz0 : w.heap.size < w1.heap.size := Nat.lt_of_succ_lt hz; have HB1 := hid (bstep (balloc (balloc (b0 w) _) _) hb1))
       | (go_at_call 36; (with_reducible refine (vmay_any a' b' c' p' q' _ HV'.out).mono ?_); rintro e w2 ⟨rfl, hb2⟩; rw [H2.out]; obtain ⟨hbc2, hbf2⟩ := bcell hb2; have HB2 := hid (bstep HB1.out hb2); have hz2 : w1.heap.size ≤ w2.heap.size := hb2.size)
       | (go_at_call 143; refine (ints_any _ _ _).mono ?_; rintro e w' ⟨rfl, rfl⟩)
       | (go_at_call 144; refine (pres_any p p' _ hp hp').mono ?_; rintro e w3 ⟨rfl, hb3⟩))
      go_ret
      exact ⟨ret_int H.out.symm, bstep HB2.out hb3⟩
     ·have e3 : (intsF c c' != 0) = true := by rw [bne_iff_ne]; exact k3
      have H : Hid (cmpV ⟨a, b, c, p, q⟩ ⟨a', b', c', p', q'⟩ = intsF c c') := hid (by rw [H0.out, if_neg (by simp [k1]), if_neg (by simp [k2]), if_pos k3])
      clear k1 k2 k3
      go_enter Tryz.func111, Tryz.ntmps111
      go_wp2_with (first
       | (go_at_call 36; (with_reducible refine (vmay_any a b c p q _ HV.out).mono ?_); rintro e w1 ⟨rfl, hb1⟩; rw [H1.out]; obtain ⟨hbc, hbf⟩ := bcell hb1; have hz : w.heap.size + 1 < w1.heap.size := Nat.lt_of_lt_of_le (by simp) hb1.size; have hz0 : w.heap.size < w1.heap.size := Nat.lt_of_succ_lt hz; have HB1 := hid (bstep (balloc (balloc (b0 w) _) _) hb1))
       | (go_at_call 36; (with_reducible refine (vmay_any a' b' c' p' q' _ HV'.out).mono ?_); rintro e w2 ⟨rfl, hb2⟩; rw [H2.out]; obtain ⟨hbc2, hbf2⟩ := bcell hb2; have HB2 := hid (bstep HB1.out hb2); have hz2 : w1.heap.size ≤ w2.heap.size := hb2.size)
       | (go_at_call 143; refine (ints_any _ _ _).mono ?_; rintro e w' ⟨rfl, rfl⟩)
       | (go_at_call 144; refine (pres_any p p' _ hp hp').mono ?_; rintro e w3 ⟨rfl, hb3⟩))
      go_ret
      exact ⟨ret_int H.out.symm, HB2.out⟩
    ·have e2 : (intsF b b' != 0) = true := by rw [bne_iff_ne]; exact k2
     have H : Hid (cmpV ⟨a, b, c, p, q⟩ ⟨a', b', c', p', q'⟩ = intsF b b') := hid (by rw [H0.out, if_neg (by simp [k1]), if_pos k2])
     clear k1 k2
     go_enter Tryz.func111, Tryz.ntmps111
     go_wp2_with (first
      | (go_at_call 36; (with_reducible refine (vmay_any a b c p q _ HV.out).mono ?_); rintro e w1 ⟨rfl, hb1⟩; rw [H1.out]; obtain ⟨hbc, hbf⟩ := bcell hb1; have hz : w.heap.size + 1 < w1.heap.size := Nat.lt_of_lt_of_le (by simp) hb1.size; have hz0 : w.heap.size < w1.heap.size := Nat.lt_of_succ_lt hz; have HB1 := hid (bstep (balloc (balloc (b0 w) _) _) hb1))
      | (go_at_call 36; (with_reducible refine (vmay_any a' b' c' p' q' _ HV'.out).mono ?_); rintro e w2 ⟨rfl, hb2⟩; rw [H2.out]; obtain ⟨hbc2, hbf2⟩ := bcell hb2; have HB2 := hid (bstep HB1.out hb2); have hz2 : w1.heap.size ≤ w2.heap.size := hb2.size)
      | (go_at_call 143; refine (ints_any _ _ _).mono ?_; rintro e w' ⟨rfl, rfl⟩)
      | (go_at_call 144; refine (pres_any p p' _ hp hp').mono ?_; rintro e w3 ⟨rfl, hb3⟩))
     go_ret
     exact ⟨ret_int H.out.symm, HB2.out⟩
   ·have e1 : (intsF a a' != 0) = true := by rw [bne_iff_ne]; exact k1
    have H : Hid (cmpV ⟨a, b, c, p, q⟩ ⟨a', b', c', p', q'⟩ = intsF a a') := hid (by rw [H0.out, if_pos k1])
    clear k1
    go_enter Tryz.func111, Tryz.ntmps111
    go_wp2_with (first
     | (go_at_call 36; (with_reducible refine (vmay_any a b c p q _ HV.out).mono ?_); rintro e w1 ⟨rfl, hb1⟩; rw [H1.out]; obtain ⟨hbc, hbf⟩ := bcell hb1; have hz : w.heap.size + 1 < w1.heap.size := Nat.lt_of_lt_of_le (by simp) hb1.size; have hz0 : w.heap.size < w1.heap.size := Nat.lt_of_succ_lt hz; have HB1 := hid (bstep (balloc (balloc (b0 w) _) _) hb1))
     | (go_at_call 36; (with_reducible refine (vmay_any a' b' c' p' q' _ HV'.out).mono ?_); rintro e w2 ⟨rfl, hb2⟩; rw [H2.out]; obtain ⟨hbc2, hbf2⟩ := bcell hb2; have HB2 := hid (bstep HB1.out hb2); have hz2 : w1.heap.size ≤ w2.heap.size := hb2.size)
     | (go_at_call 143; refine (ints_any _ _ _).mono ?_; rintro e w' ⟨rfl, rfl⟩)
     | (go_at_call 144; refine (pres_any p p' _ hp hp').mono ?_; rintro e w3 ⟨rfl, hb3⟩))
    go_ret
    exact ⟨ret_int H.out.symm, HB2.out⟩
end
end Go.Proofs.YthneiolcljnbeaaGreatDoor
