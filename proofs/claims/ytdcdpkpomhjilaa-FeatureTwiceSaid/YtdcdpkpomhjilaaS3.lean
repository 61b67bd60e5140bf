/- Contract: linchpinref1.Split. -/
import Derived.Test.YtdcdpkpomhjilaaS2
import Derived.Test.YtdcdpkpomhjilaaSp
import Derived.Test.YtdcdpkpomhjilaaShelf
import Derived.Lib.IndexBytes
namespace Go.Proofs.Ytdcdpkpomhjilaa
open Go Go.RowKit

theorem piece_list (s : ByteArray) (a b : Nat) : (s.extract a b).data.toList = (s.data.toList.drop a).take (b - a) := by
  simp [ByteArray.data_extract, List.extract_eq_take_drop]
theorem str_info : (Try.prog.info? 9).map (fun i => (i.zero, i.size, i.bytes)) = some (some (.string ⟨#[]⟩), 1, 16) := by kernel_rfl
/-- Words of a text, in memory of the call's own. -/
def SplitPost (c : UInt8) (s : ByteArray) (w : World) (e : Ending) (w' : World) : Prop :=
  ∃ (WB : List ByteArray) (A : Option Addr) (cap : Nat), e = .returned (.slice A WB.length cap) ∧ w'.ownsRow w.heap.size 9 1 (.slice A WB.length cap) WB.length (WB.map Value.string) ∧ WB.map (fun x => x.data.toList) = splitC c s.data.toList ∧ Below w.heap.size w w'
theorem split_done {c : UInt8} {s : List UInt8} {a k : Nat} (hk : s.length ≤ k) (h : c ∉ (s.drop a).take (k - a)) : splitC c (s.drop a) = [s.drop a] := by
  rw [List.take_of_length_le (by simp; omega)] at h
  exact split_no h
theorem drop_at {s : List UInt8} {a k : Nat} (ha : a ≤ k) (hk : k < s.length) : s.drop a = (s.drop a).take (k - a) ++ s[k] :: s.drop (k + 1) := by
  have h1 := (List.take_append_drop (k - a) (s.drop a)).symm
  rw [List.drop_drop, show a + (k - a) = k by omega, List.drop_eq_getElem_cons hk] at h1
  exact h1
theorem take_next {s : List UInt8} {a k : Nat} (ha : a ≤ k) (hk : k < s.length) : (s.drop a).take (k + 1 - a) = (s.drop a).take (k - a) ++ [s[k]] := by
  rw [show k + 1 - a = (k - a) + 1 by omega, List.take_succ_eq_append_getElem (by simp; omega)]
  simp [show a + (k - a) = k by omega]
theorem strs_one (l : List ByteArray) : ∀ u ∈ l.map Value.string, u.oneCell' = true := by
  intro u hu
  obtain ⟨x, _, rfl⟩ := List.mem_map.1 hu
  rfl
theorem byte_eq {x c : UInt8} : ((x.toNat : Int) == (c.toNat : Int)) = decide (x = c) := by
  rw [Bool.eq_iff_iff, beq_iff_eq, decide_eq_true_iff]
  constructor
  · intro h
    exact UInt8.toNat_inj.1 (by omega)
  · rintro rfl
    rfl

set_option maxRecDepth 100000 in
set_option maxHeartbeats 1000000 in
theorem split1_any (s : ByteArray) (c : UInt8) (w : World) (hs : s.size ≤ 100000) :
    Calls Try.prog 31 #[.string s, .int .u8 (c.toNat : Int)] w (SplitPost c s w) := by
  obtain ⟨ii, hii⟩ := info_parts str_info
  have HII := hid hii
  have HSZ := hid (show s.data.toList.length = s.size by simp)
  clear hii
  go_enter Try.func31, Try.ntmps31
  go_wp2
  go_loopw [5, 6, 7] (fun ov av iv wr => ∃ (k a : Nat) (L : List ByteArray), k ≤ s.size ∧ a ≤ k ∧ L.length ≤ k ∧ iv = .int .i64 k ∧ av = .int .i64 a ∧ Hid (wr.ownsRow w.heap.size 9 1 ov L.length (L.map Value.string)) ∧ Hid (splitC c s.data.toList = L.map (fun x => x.data.toList) ++ splitC c (s.data.toList.drop a)) ∧ Hid (c ∉ (s.data.toList.drop a).take (k - a)) ∧ Hid (Below w.heap.size w wr)) (fun _ _ iv _ => s.size - (intOf iv).toNat)
  case atStart => exact ⟨0, 0, [], Nat.zero_le _, Nat.le_refl _, Nat.le_refl _, rfl, rfl, hid ⟨rfl, .inl ⟨rfl, rfl⟩⟩, hid (by simp), hid (by simp), hid (Below.refl _ _)⟩
  case round =>
    obtain ⟨k, a, L, hk, hak, hL, rfl, rfl, hown, hsp, hno, hb⟩ := hrel
    obtain ⟨A, cap, rfl⟩ := own_form hown.out
    have hbz := hb.out.size
    have i1 : (0 : Int) ≤ ↑k := by omega
    have a1 : (0 : Int) ≤ ↑a := by omega
    have a2 : (↑a : Int) ≤ ↑k := by omega
    have a3 : (↑a : Int) ≤ ↑s.size := by omega
    have i3 : (↑k : Int) ≤ ↑s.size := by omega
    by_cases hlt : k < s.size
    · have i2 : (↑k : Int) < ↑s.size := by omega
      have hlt' : k < s.data.toList.length := by rw [HSZ.out]; exact hlt
      have HAT := hid (show s.data.toList[k] = s[k] from rfl)
      have HTN := hid (take_next hak hlt')
      have HDA := hid (drop_at hak hlt')
      by_cases hc : s[k] = c
      · have hq : ((s[k].toNat : Int) == (c.toNat : Int)) = true := by rw [byte_eq]; exact decide_eq_true hc
        have HC := hid hc
        clear hc
        go_wp2_with (first
          | (at_builtin
             refine wpList_append_src _ rfl (.tmp 19) (.tmp 24) _ rfl w.heap.size 9 ii _ 1 16 Try.underlying30 HII.out.1 HII.out.2.1 HII.out.2.2.1 HII.out.2.2.2 rfl (by omega) (.slice A L.length cap) L.length (L.map Value.string) rfl (by exact hown.out.alloc _) (some ⟨wr.heap.size, 0, none⟩) 1 1 [.string (s.extract a k)] rfl (by exact src_new _ _ rfl 1 _ rfl rfl) (by simp [Value.oneCell']) (by unfold maxLen; omega) (by omega) (by simp; omega) ?_
             intro v4 w4 hown4 hg4 _
             have HB4 := hid (show Below w.heap.size w w4 from Below.grown (hb.out.alloc hbz _) hg4 (by simp; omega) (fun k hk => (hown.out.lt k hk).1))
             have HO4 := hid hown4
             clear hown4 hg4))
        refine ⟨⟨k + 1, k + 1, L ++ [s.extract a k], by omega, Nat.le_refl _, by simp; omega, by go_num, by go_num, hid ?_, hid ?_, hid (by simp), HB4⟩, by simp [intOf]; omega⟩
        · rw [List.length_append, List.map_append]
          exact HO4.out
        · rw [hsp.out, HDA.out, HAT.out, HC.out, split_of hno.out, List.map_append, List.append_assoc]
          congr 1
          simp only [List.map_cons, List.map_nil, List.cons_append, List.nil_append]
          rw [piece_list]
      · have hq : ((s[k].toNat : Int) == (c.toNat : Int)) = false := by rw [byte_eq]; exact decide_eq_false hc
        have HC := hid hc
        clear hc
        go_wp2
        refine ⟨⟨k + 1, a, L, by omega, by omega, by omega, by go_num, rfl, hown, hsp, hid ?_, hb⟩, by simp [intOf]; omega⟩
        rw [HTN.out]
        intro hm
        rcases List.mem_append.1 hm with hm | hm
        · exact hno.out hm
        · exact HC.out (by rw [← HAT.out]; exact (List.mem_singleton.1 hm).symm)
    · have hk' : k = s.size := by omega
      have HDN := hid (split_done (c := c) (s := s.data.toList) (a := a) (k := k) (by rw [HSZ.out]; omega) hno.out)
      have i2 : ¬ (↑k : Int) < ↑s.size := by omega
      clear hk'
      go_wp2_with (first
        | (at_builtin
           refine wpList_append_src _ rfl (.tmp 28) (.tmp 32) _ rfl w.heap.size 9 ii _ 1 16 Try.underlying30 HII.out.1 HII.out.2.1 HII.out.2.2.1 HII.out.2.2.2 rfl (by omega) (.slice A L.length cap) L.length (L.map Value.string) rfl (by exact hown.out.alloc _) (some ⟨wr.heap.size, 0, none⟩) 1 1 [.string (s.extract a s.size)] rfl (by exact src_new _ _ rfl 1 _ rfl rfl) (by simp [Value.oneCell']) (by unfold maxLen; omega) (by omega) (by simp; omega) ?_
           intro v4 w4 hown4 hg4 _
           obtain ⟨A4, c4, rfl⟩ := own_form hown4
           have HB4 := hid (show Below w.heap.size w w4 from Below.grown (hb.out.alloc hbz _) hg4 (by simp; omega) (fun k hk => (hown.out.lt k hk).1))
           have HO4 := hid hown4
           clear hown4 hg4))
      go_ret
      refine ⟨L ++ [s.extract a s.size], A4, c4, by rw [List.length_append]; rfl, ?_, ?_, HB4.out⟩
      · rw [List.length_append, List.map_append]
        exact HO4.out
      · rw [hsp.out, HDN.out, List.map_append]
        congr 1
        simp only [List.map_cons, List.map_nil]
        rw [piece_list, List.take_of_length_le (by rw [List.length_drop, HSZ.out]; exact Nat.le_refl _)]

/-! strings.Cut, CutPrefix. -/
def cutV (c : UInt8) (s : ByteArray) : Value := .tuple #[.string ⟨(cutC c s.data.toList).1.toArray⟩, .string ⟨(cutC c s.data.toList).2.1.toArray⟩, .bool (cutC c s.data.toList).2.2]
theorem ext_list (s : ByteArray) (a b : Nat) : s.extract a b = ⟨((s.data.toList.drop a).take (b - a)).toArray⟩ := by
  apply ByteArray.ext
  apply Array.ext'
  rw [piece_list]
set_option maxRecDepth 100000 in
set_option maxHeartbeats 1000000 in
theorem lcut_any (s : ByteArray) (c : UInt8) (w : World) (hs : s.size ≤ 1000000) :
    Calls Try.prog 48 #[.string s, .string ⟨#[c]⟩] w fun e w' => e = .returned (cutV c s) ∧ Below w.heap.size w w' := by
  have HSZ := hid (show s.data.toList.length = s.size by simp)
  have h1 : (⟨#[c]⟩ : ByteArray).size = 1 := rfl
  obtain ⟨hc1, hc2⟩ := index_cut c s.data.toList
  rw [Lib.index_one] at hc1 hc2
  rcases (cut_spec c s.data.toList).2 with ⟨hf, he⟩ | ⟨hf, he, he2⟩
  · have hi := hid (hc1 hf)
    obtain ⟨ht, hd⟩ := cut_td he
    have hlen := congrArg List.length he
    rw [List.length_append, List.length_cons, HSZ.out] at hlen
    obtain ⟨k, hk⟩ : ∃ k, k = (cutC c s.data.toList).1.length := ⟨_, rfl⟩
    rw [← hk] at hi ht hd hlen
    have HV : Hid (cutV c s = .tuple #[.string (s.extract 0 k), .string (s.extract (k + 1) s.size), .bool true]) := hid (by
      unfold cutV
      rw [ext_list, ext_list, hf, ← ht, ← hd, List.drop_zero, Nat.sub_zero, List.take_of_length_le (l := s.data.toList.drop (k + 1)) (by rw [List.length_drop, HSZ.out]; omega)])
    have i0 : (0 : Int) ≤ ↑k := by omega
    have i1 : (↑k : Int) ≤ ↑s.size := by omega
    have i2 : (0 : Int) ≤ ↑k + 1 := by omega
    have i3 : (↑k : Int) + 1 ≤ ↑s.size := by omega
    clear ht hd hlen hk hc1 hc2 hf he
    go_enter Try.func48, Try.ntmps48
    go_wp2_with (first
      | (go_at_call 59; refine (Try.stringslite_Index_one s c _).mono ?_; rintro e w' ⟨rfl, hw⟩; rw [hi.out, hw]; clear hw))
    go_quiet (fail)
    go_wp2
    go_ret3
    exact ⟨by rw [HV.out]; rfl, below_drewN (b0 w) _⟩
  · have hi := hid (hc2 hf)
    have HV : Hid (cutV c s = .tuple #[.string s, .string ⟨#[]⟩, .bool false]) := hid (by
      unfold cutV
      rw [hf, he2, ← he])
    clear hc1 hc2 hf he he2
    go_enter Try.func48, Try.ntmps48
    go_wp2_with (first
      | (go_at_call 59; refine (Try.stringslite_Index_one s c _).mono ?_; rintro e w' ⟨rfl, hw⟩; rw [hi.out, hw]; clear hw))
    go_ret3
    exact ⟨by rw [HV.out]; rfl, b0 w⟩
theorem cut1_any (s : ByteArray) (c : UInt8) (w : World) (hs : s.size ≤ 1000000) :
    Calls Try.prog 28 #[.string s, .string ⟨#[c]⟩] w fun e w' => e = .returned (cutV c s) ∧ Below w.heap.size w w' := by
  go_enter Try.func28, Try.ntmps28
  go_wp2_with (first
    | (go_at_call 48; refine (lcut_any s c _ hs).mono ?_; rintro e w' ⟨rfl, hb⟩; unfold cutV))
  go_ret3
  exact ⟨rfl, hb⟩

/-! Items. -/
def itemF (s : List UInt8) : Int × List UInt8 × List UInt8 :=
  if wordB s = true then (1, s, []) else
  if s.head? = some 63 ∧ wordB s.tail = true then (2, s.tail, []) else
  if (cutC 47 s).2.2 = true ∧ nameB (cutC 47 s).1 = true ∧ wordB (cutC 47 s).2.1 = true then (3, (cutC 47 s).1, (cutC 47 s).2.1) else (0, [], [])
def itemV (s : List UInt8) : Value := .tuple #[.int .i64 (itemF s).1, .string ⟨(itemF s).2.1.toArray⟩, .string ⟨(itemF s).2.2.toArray⟩]
theorem prefix_any (s : ByteArray) (c : UInt8) (w : World) :
    Calls Try.prog 27 #[.string s, .string ⟨#[c]⟩] w fun e w' => e = .returned (.tuple #[.string ⟨(if s.data.toList.head? = some c then s.data.toList.tail else s.data.toList).toArray⟩, .bool (decide (s.data.toList.head? = some c))]) ∧ w' = w := by
  refine (Try.strings_CutPrefix s ⟨#[c]⟩ w).mono ?_
  rintro e w' ⟨rfl, rfl⟩
  refine ⟨?_, rfl⟩
  have h1 : Lib.hasPrefix s.data.toList [c] = decide (s.data.toList.head? = some c) := by
    unfold Lib.hasPrefix
    cases s.data.toList with
    | nil => rfl
    | cons x l =>
      by_cases e : x = c
      · subst e; simp [List.isPrefixOf]
      · have e1 : (c == x) = false := by rw [beq_eq_false_iff_ne]; exact fun h => e h.symm
        have e2 : ¬ ((x :: l).head? = some c) := fun h => e (Option.some.inj h)
        rw [decide_eq_false e2]
        simp only [List.isPrefixOf, e1, Bool.false_and]
  have h2 : Lib.trimPrefix s.data.toList [c] = if s.data.toList.head? = some c then s.data.toList.tail else s.data.toList := by
    unfold Lib.trimPrefix
    rw [h1]
    by_cases h : s.data.toList.head? = some c
    · rw [if_pos h, if_pos (decide_eq_true h)]
      simp
    · rw [if_neg h, if_neg (by simpa using h)]
  rw [← h1, ← h2]

set_option maxRecDepth 100000 in
set_option maxHeartbeats 1000000 in
theorem item_any (s : ByteArray) (w : World) (hs : s.size ≤ 1000000) :
    Calls Try.prog 10 #[.string s] w fun e w' => e = .returned (itemV s.data.toList) ∧ Below w.heap.size w w' := by
  have hsa : (⟨s.data.toList.toArray⟩ : ByteArray) = s := rfl
  obtain ⟨b1, hb1⟩ : ∃ b, wordB s.data.toList = b := ⟨_, rfl⟩
  have HB1 := hid hb1
  cases b1 with
  | true =>
    have HV : Hid (itemV s.data.toList = .tuple #[.int .i64 1, .string s, .string ⟨#[]⟩]) := hid (by unfold itemV itemF; rw [if_pos hb1])
    clear hb1 hsa
    go_enter Try.func10, Try.ntmps10
    go_wp2_with (first
      | (go_at_call 26; refine (iword_any s _).mono ?_; rintro e w' ⟨rfl, hw⟩; rw [HB1.out]))
    go_ret3
    exact ⟨by rw [HV.out]; rfl, hw⟩
  | false =>
    have hI : ∀ (k : Int) (a b : List UInt8), (¬ (s.data.toList.head? = some 63 ∧ wordB s.data.toList.tail = true)) → (if (cutC 47 s.data.toList).2.2 = true ∧ nameB (cutC 47 s.data.toList).1 = true ∧ wordB (cutC 47 s.data.toList).2.1 = true then ((3 : Int), (cutC 47 s.data.toList).1, (cutC 47 s.data.toList).2.1) else (0, [], [])) = (k, a, b) → itemV s.data.toList = .tuple #[.int .i64 k, .string ⟨a.toArray⟩, .string ⟨b.toArray⟩] := fun k a b h h' => by
      unfold itemV itemF
      rw [if_neg (by rw [hb1]; simp), if_neg h, h']
    have HP0 := hid (prefix_any s 63)
    obtain ⟨u, bh, HP, HU⟩ : ∃ (u : ByteArray) (bh : Bool), Hid (∀ w, Calls Try.prog 27 #[.string s, .string ⟨#[63]⟩] w fun e w' => e = .returned (.tuple #[.string u, .bool bh]) ∧ w' = w) ∧ Hid ((bh = true → s.data.toList.head? = some 63 ∧ u.data.toList = s.data.toList.tail) ∧ (bh = false → ¬ s.data.toList.head? = some 63)) := by
      by_cases hh : s.data.toList.head? = some 63
      · rw [if_pos hh, decide_eq_true hh] at HP0
        exact ⟨_, _, HP0, hid ⟨fun _ => ⟨hh, rfl⟩, fun h => (by cases h)⟩⟩
      · rw [if_neg hh, decide_eq_false hh] at HP0
        exact ⟨_, _, HP0, hid ⟨fun h => (by cases h), fun _ => hh⟩⟩
    obtain ⟨b2, hb2⟩ : ∃ b, wordB u.data.toList = b := ⟨_, rfl⟩
    have HB2 := hid hb2
    clear HP0
    by_cases hopt : bh = true ∧ b2 = true
    · obtain ⟨rfl, rfl⟩ := hopt
      have HV : Hid (itemV s.data.toList = .tuple #[.int .i64 2, .string u, .string ⟨#[]⟩]) := hid (by
        obtain ⟨h1, h2⟩ := HU.out.1 rfl
        unfold itemV itemF
        rw [if_neg (by rw [hb1]; simp), if_pos ⟨h1, by rw [← h2]; exact hb2⟩]
        dsimp only
        rw [← h2])
      clear hb1 hb2 hI hsa
      go_enter Try.func10, Try.ntmps10
      go_wp2_with (first
        | (go_at_call 26; (with_reducible refine (iword_any s _).mono ?_); rintro e w' ⟨rfl, hw⟩; rw [HB1.out])
        | (go_at_call 27; (with_reducible refine (HP.out _).mono ?_); rintro e w1 ⟨rfl, hw1⟩; rw [hw1]; clear hw1)
        | (go_at_call 26; (with_reducible refine (iword_any u _).mono ?_); rintro e w2 ⟨rfl, hw2⟩; rw [HB2.out]))
      go_ret3
      exact ⟨by rw [HV.out]; rfl, bstep hw hw2⟩
    · have HI := hid (fun k a b => hI k a b (by
        rintro ⟨h1, h2⟩
        cases bh with
        | true => exact hopt ⟨rfl, by rw [← hb2, (HU.out.1 rfl).2]; exact h2⟩
        | false => exact HU.out.2 rfl h1))
      have HO := hid hopt
      clear hopt hb1 hb2 hI hsa
      obtain ⟨x, hx⟩ : ∃ x : ByteArray, x = ⟨(cutC 47 s.data.toList).1.toArray⟩ := ⟨_, rfl⟩
      obtain ⟨y, hy⟩ : ∃ y : ByteArray, y = ⟨(cutC 47 s.data.toList).2.1.toArray⟩ := ⟨_, rfl⟩
      obtain ⟨f, hf⟩ : ∃ f : Bool, (cutC 47 s.data.toList).2.2 = f := ⟨_, rfl⟩
      have hx' : x.data.toList = (cutC 47 s.data.toList).1 := by rw [hx]
      have hy' : y.data.toList = (cutC 47 s.data.toList).2.1 := by rw [hy]
      have HC : Hid (cutV 47 s = .tuple #[.string x, .string y, .bool f]) := hid (by unfold cutV; rw [hx, hy, hf])
      rw [← hx', ← hy', hf] at HI
      obtain ⟨b3, hb3⟩ : ∃ b, nameB x.data.toList = b := ⟨_, rfl⟩
      obtain ⟨b4, hb4⟩ : ∃ b, wordB y.data.toList = b := ⟨_, rfl⟩
      have HB3 := hid hb3
      have HB4 := hid hb4
      rw [hb3, hb4] at HI
      clear hx hy hx' hy' hf hb3 hb4
      cases f <;> cases b3 <;> cases b4 <;> cases bh <;> cases b2 <;> first
        | exact absurd ⟨rfl, rfl⟩ HO.out
        | (have HV := hid (HI.out 3 _ _ (if_pos ⟨rfl, rfl, rfl⟩))
           go_enter Try.func10, Try.ntmps10
           go_wp2_with (first
             | (go_at_call 26; (with_reducible refine (iword_any s _).mono ?_); rintro e w' ⟨rfl, hw⟩; rw [HB1.out])
             | (go_at_call 27; (with_reducible refine (HP.out _).mono ?_); rintro e w1 ⟨rfl, hw1⟩; rw [hw1]; clear hw1)
             | (go_at_call 26; (with_reducible refine (iword_any u _).mono ?_); rintro e w2 ⟨rfl, hw2⟩; rw [HB2.out])
             | (go_at_call 28; (with_reducible refine (cut1_any s 47 _ hs).mono ?_); rintro e w3 ⟨rfl, hw3⟩; rw [HC.out])
             | (go_at_call 29; (with_reducible refine (iname_any x _).mono ?_); rintro e w4 ⟨rfl, hw4⟩; rw [HB3.out])
             | (go_at_call 26; (with_reducible refine (iword_any y _).mono ?_); rintro e w5 ⟨rfl, hw5⟩; rw [HB4.out]))
           go_ret3
           refine ⟨by rw [HV.out]; rfl, ?_⟩
           first | exact bstep (bstep (bstep (bstep hw hw2) hw3) hw4) hw5 | exact bstep (bstep (bstep hw hw3) hw4) hw5)
        | (have HV := hid (HI.out 0 [] [] (if_neg (by simp)))
           go_enter Try.func10, Try.ntmps10
           go_wp2_with (first
             | (go_at_call 26; (with_reducible refine (iword_any s _).mono ?_); rintro e w' ⟨rfl, hw⟩; rw [HB1.out])
             | (go_at_call 27; (with_reducible refine (HP.out _).mono ?_); rintro e w1 ⟨rfl, hw1⟩; rw [hw1]; clear hw1)
             | (go_at_call 26; (with_reducible refine (iword_any u _).mono ?_); rintro e w2 ⟨rfl, hw2⟩; rw [HB2.out])
             | (go_at_call 28; (with_reducible refine (cut1_any s 47 _ hs).mono ?_); rintro e w3 ⟨rfl, hw3⟩; rw [HC.out])
             | (go_at_call 29; (with_reducible refine (iname_any x _).mono ?_); rintro e w4 ⟨rfl, hw4⟩; rw [HB3.out])
             | (go_at_call 26; (with_reducible refine (iword_any y _).mono ?_); rintro e w5 ⟨rfl, hw5⟩; rw [HB4.out]))
           go_ret3
           refine ⟨by rw [HV.out]; rfl, ?_⟩
           first
             | exact bstep (bstep (bstep (bstep hw hw2) hw3) hw4) hw5
             | exact bstep (bstep (bstep hw hw3) hw4) hw5
             | exact bstep (bstep (bstep hw hw2) hw3) hw4
             | exact bstep (bstep hw hw3) hw4
             | exact bstep (bstep hw hw2) hw3
             | exact bstep hw hw3)
end Go.Proofs.Ytdcdpkpomhjilaa
