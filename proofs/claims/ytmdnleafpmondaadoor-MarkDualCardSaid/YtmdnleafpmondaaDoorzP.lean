import Derived.Test.YtmdnleafpmondaaDoorzW
import Derived.Test.YtmdnleafpmondaaDoorzA
import Derived.Lib.Split
import Derived.Lib.IndexBytes
import Derived.Laws.IdiomStrings
import Derived.Test.YtmdnleafpmondaaDoorShelf
section
/- A text at each sign. No program stands here. -/
namespace Go.Proofs.YtmdnleafpmondaaDoor
open Go Go.RowKit

/-- A text at the first sign c. -/
def cutC (c : UInt8) : List UInt8 → List UInt8 × List UInt8 × Bool
  | [] => ([], [], false)
  | x :: s => if x = c then ([], s, true) else (x :: (cutC c s).1, (cutC c s).2.1, (cutC c s).2.2)
/-- A text at each sign c. -/
def splitC (c : UInt8) : List UInt8 → List (List UInt8)
  | [] => [[]]
  | x :: s => if x = c then [] :: splitC c s else match splitC c s with | w :: ws => (x :: w) :: ws | [] => [[x]]

theorem cut_spec (c : UInt8) : ∀ s : List UInt8, c ∉ (cutC c s).1 ∧ (((cutC c s).2.2 = true ∧ s = (cutC c s).1 ++ c :: (cutC c s).2.1) ∨ ((cutC c s).2.2 = false ∧ s = (cutC c s).1 ∧ (cutC c s).2.1 = []))
  | [] => by simp [cutC]
  | x :: s => by
    by_cases h : x = c
    · subst h; simp [cutC]
    · obtain ⟨h1, h2⟩ := cut_spec c s
      simp only [cutC, if_neg h]
      refine ⟨?_, ?_⟩
      · intro hm
        rcases List.mem_cons.1 hm with e | e
        · exact h e.symm
        · exact h1 e
      · rcases h2 with ⟨a, b⟩ | ⟨a, b, d⟩
        · exact .inl ⟨a, by rw [List.cons_append, ← b]⟩
        · exact .inr ⟨a, by rw [← b], d⟩
theorem cut_len (c : UInt8) (s : List UInt8) (h : (cutC c s).2.2 = true) : (cutC c s).2.1.length < s.length := by
  rcases (cut_spec c s).2 with ⟨_, h2⟩ | ⟨h1, _⟩
  · have := congrArg List.length h2
    simp only [List.length_append, List.length_cons] at this
    omega
  · rw [h] at h1; cases h1
theorem cut_of {c : UInt8} : ∀ {a b : List UInt8}, c ∉ a → cutC c (a ++ c :: b) = (a, b, true)
  | [], b, _ => by simp [cutC]
  | x :: a, b, h => by
    have hx : x ≠ c := fun e => h (by rw [e]; simp)
    have := cut_of (a := a) (b := b) (fun hm => h (List.mem_cons_of_mem _ hm))
    simp only [List.cons_append, cutC, if_neg hx, this]
theorem cut_no {c : UInt8} : ∀ {a : List UInt8}, c ∉ a → cutC c a = (a, [], false)
  | [], _ => rfl
  | x :: a, h => by
    have hx : x ≠ c := fun e => h (by rw [e]; simp)
    have := cut_no (a := a) (fun hm => h (List.mem_cons_of_mem _ hm))
    simp only [cutC, if_neg hx, this]
theorem split_ne (c : UInt8) (s : List UInt8) : splitC c s ≠ [] := by
  cases s with
  | nil => simp [splitC]
  | cons x s =>
    unfold splitC
    split
    · simp
    · split <;> simp
theorem split_cut (c : UInt8) : ∀ s : List UInt8, splitC c s = if (cutC c s).2.2 = true then (cutC c s).1 :: splitC c (cutC c s).2.1 else [(cutC c s).1]
  | [] => by simp [splitC, cutC]
  | x :: s => by
    by_cases h : x = c
    · subst h; simp [splitC, cutC]
    · have ih := split_cut c s
      simp only [splitC, if_neg h, cutC]
      rw [ih]
      by_cases hf : (cutC c s).2.2 = true
      · simp only [hf, if_true]
      · simp only [if_neg hf]
theorem split_of {c : UInt8} {a b : List UInt8} (h : c ∉ a) : splitC c (a ++ c :: b) = a :: splitC c b := by
  rw [split_cut, cut_of h]; simp
theorem split_no {c : UInt8} {a : List UInt8} (h : c ∉ a) : splitC c a = [a] := by
  rw [split_cut, cut_no h]; simp
theorem split_join {c : UInt8} : ∀ {w : List UInt8} {ws : List (List UInt8)}, c ∉ w → (∀ x ∈ ws, c ∉ x) → splitC c (w ++ ws.flatMap fun x => c :: x) = w :: ws
  | w, [], h, _ => by simpa using split_no h
  | w, y :: ws, h, hs => by
    rw [List.flatMap_cons, List.cons_append, split_of h, split_join (hs y (by simp)) (fun x hx => hs x (by simp [hx]))]
theorem join_split (c : UInt8) : ∀ (n : Nat) (s : List UInt8), s.length < n → ∃ w ws, splitC c s = w :: ws ∧ s = w ++ ws.flatMap fun x => c :: x
  | 0, s, h => absurd h (by omega)
  | n + 1, s, h => by
    rw [split_cut]
    rcases (cut_spec c s).2 with ⟨h1, h2⟩ | ⟨h1, h2, h3⟩
    · rw [if_pos h1]
      obtain ⟨w, ws, e1, e2⟩ := join_split c n (cutC c s).2.1 (by have := cut_len c s h1; omega)
      refine ⟨_, _, rfl, ?_⟩
      rw [e1]
      simp only [List.flatMap_cons, List.cons_append]
      rw [← e2]
      exact h2
    · rw [if_neg (by rw [h1]; simp)]
      exact ⟨_, _, rfl, by simpa using h2⟩

/-! The library's words. -/
theorem index_cut (c : UInt8) (s : List UInt8) : ((cutC c s).2.2 = true → Lib.index s [c] = ((cutC c s).1.length : Nat)) ∧ ((cutC c s).2.2 = false → Lib.index s [c] = -1) := by
  obtain ⟨h0, h⟩ := cut_spec c s
  refine ⟨fun hf => ?_, fun hf => ?_⟩
  · rcases h with ⟨_, h2⟩ | ⟨h1, _⟩
    · generalize (cutC c s).1 = a at h0 h2 ⊢
      generalize (cutC c s).2.1 = b at h2
      subst h2
      refine Lib.index_first (by simp) ?_ (fun j hj => ?_)
      · simp [Lib.occAt]
      · unfold Lib.occAt
        rw [List.drop_append_of_le_length (by omega)]
        have hd : a.drop j = a[j] :: a.drop (j + 1) := List.drop_eq_getElem_cons hj
        rw [hd]
        simp only [List.cons_append, List.isPrefixOf]
        have : (c == a[j]) = false := by
          rw [beq_eq_false_iff_ne]
          exact fun e => h0 (e ▸ List.getElem_mem hj)
        rw [this]; rfl
    · rw [hf] at h1; cases h1
  · rcases h with ⟨h1, _⟩ | ⟨_, h2, _⟩
    · rw [hf] at h1; cases h1
    · rw [← h2] at h0
      refine Lib.index_none (fun j hj => ?_)
      unfold Lib.occAt
      cases hd : s.drop j with
      | nil => rfl
      | cons x t =>
        simp only [List.isPrefixOf]
        have : (c == x) = false := by
          rw [beq_eq_false_iff_ne]
          intro e
          subst e
          exact h0 (List.mem_of_mem_drop (i := j) (by rw [hd]; simp))
        rw [this]; rfl
theorem app_take (a b : List UInt8) (c : UInt8) : (a ++ c :: b).take a.length = a ∧ (a ++ c :: b).drop (a.length + 1) = b := by
  refine ⟨by simp, ?_⟩
  rw [show a ++ c :: b = (a ++ [c]) ++ b by simp, show a.length + 1 = (a ++ [c]).length by simp, List.drop_left]
theorem cut_td {c : UInt8} {s : List UInt8} (e : s = (cutC c s).1 ++ c :: (cutC c s).2.1) : s.take (cutC c s).1.length = (cutC c s).1 ∧ s.drop ((cutC c s).1.length + 1) = (cutC c s).2.1 := by
  have h := app_take (cutC c s).1 (cutC c s).2.1 c
  rw [← e] at h
  exact h
theorem lib_cut (c : UInt8) (s : List UInt8) : Lib.cut s [c] = cutC c s := by
  obtain ⟨h1, h2⟩ := index_cut c s
  rcases (cut_spec c s).2 with ⟨hf, e⟩ | ⟨hf, e, e2⟩
  · have hi := h1 hf
    unfold Lib.cut
    rw [hi, if_pos (by omega)]
    obtain ⟨ht, hd⟩ := cut_td e
    simp only [Int.toNat_natCast, List.length_cons, List.length_nil, Nat.zero_add]
    rw [ht, hd]
    exact Prod.ext rfl (Prod.ext rfl hf.symm)
  · have hi := h2 hf
    unfold Lib.cut
    rw [hi, if_neg (by omega)]
    exact Prod.ext e (Prod.ext e2.symm hf.symm)
theorem splitK_eq (c : UInt8) : ∀ (fuel : Nat) (s : List UInt8), s.length < fuel → ∀ k, Lib.countFrom [c] fuel s ≤ k → Lib.splitK [c] 0 k s = splitC c s
  | 0, s, h, _, _ => absurd h (by omega)
  | fuel + 1, s, h, k, hk => by
    obtain ⟨h1, h2⟩ := index_cut c s
    rw [split_cut]
    rcases (cut_spec c s).2 with ⟨hf, e⟩ | ⟨hf, e, e2⟩
    · have hi := h1 hf
      obtain ⟨ht, hd⟩ := cut_td e
      have hb : (Lib.index s [c] == -1) = false := by rw [hi, beq_eq_false_iff_ne]; omega
      unfold Lib.countFrom at hk
      rw [hb] at hk
      simp only [Bool.false_eq_true, if_false, hi, Int.toNat_natCast, List.length_cons, List.length_nil, Nat.zero_add, hd] at hk
      obtain ⟨k', rfl⟩ : ∃ k', k = k' + 1 := ⟨k - 1, by omega⟩
      unfold Lib.splitK
      rw [hb, if_pos hf]
      simp only [Bool.false_eq_true, if_false, hi, Int.toNat_natCast, List.length_cons, List.length_nil, Nat.zero_add, Nat.add_zero, ht, hd]
      rw [splitK_eq c fuel _ (by have := cut_len c s hf; omega) k' (by omega)]
    · have hi := h2 hf
      have hb : (Lib.index s [c] == -1) = true := by rw [hi]; rfl
      rw [if_neg (by rw [hf]; simp), ← e]
      cases k with
      | zero => rfl
      | succ k => unfold Lib.splitK; rw [hb]; rfl
end Go.Proofs.YtmdnleafpmondaaDoor
end
section
/- Contracts: strings.Split and strings.Cut at one byte, in the words of ParseF. -/
namespace Go.Proofs.YtmdnleafpmondaaDoor
open Go Go.RowKit

theorem count_split (c : UInt8) : ∀ (fuel : Nat) (s : List UInt8), s.length < fuel → Lib.countFrom [c] fuel s + 1 = (splitC c s).length
  | 0, s, h => absurd h (by omega)
  | fuel + 1, s, h => by
    obtain ⟨h1, h2⟩ := index_cut c s
    rw [split_cut]
    unfold Lib.countFrom
    rcases (cut_spec c s).2 with ⟨hf, e⟩ | ⟨hf, e, e2⟩
    · have hi := h1 hf
      obtain ⟨ht, hd⟩ := cut_td e
      have hb : (Lib.index s [c] == -1) = false := by rw [hi, beq_eq_false_iff_ne]; omega
      rw [hb, if_pos hf]
      simp only [Bool.false_eq_true, if_false, hi, Int.toNat_natCast, List.length_cons, List.length_nil, Nat.zero_add, hd]
      have := count_split c fuel (cutC c s).2.1 (by have := cut_len c s hf; omega)
      omega
    · have hi := h2 hf
      have hb : (Lib.index s [c] == -1) = true := by rw [hi]; rfl
      have hn : ¬ (cutC c s).2.2 = true := by rw [hf]; simp
      rw [if_pos hb, if_neg hn]
      rfl
theorem split_small (c : UInt8) : ∀ (n : Nat) (s : List UInt8), s.length < n → (splitC c s).length ≤ s.length + 1 ∧ ∀ w ∈ splitC c s, w.length ≤ s.length
  | 0, s, h => absurd h (by omega)
  | n + 1, s, h => by
    rw [split_cut]
    rcases (cut_spec c s).2 with ⟨hf, e⟩ | ⟨hf, e, e2⟩
    · have hl := cut_len c s hf
      obtain ⟨h1, h2⟩ := split_small c n (cutC c s).2.1 (by omega)
      have he := congrArg List.length e
      simp only [List.length_append, List.length_cons] at he
      rw [if_pos hf]
      refine ⟨by simp only [List.length_cons]; omega, fun w hw => ?_⟩
      rcases List.mem_cons.1 hw with rfl | hw
      · omega
      · have := h2 w hw; omega
    · rw [if_neg (by rw [hf]; simp), ← e]
      refine ⟨by simp, fun w hw => ?_⟩
      have : w = s := by simpa using hw
      rw [this]; exact Nat.le_refl _

/-- Words of a text, in a block just made. -/
def SplitPost (c : UInt8) (s : ByteArray) (w : World) (e : Ending) (w' : World) : Prop :=
  ∃ WB : List ByteArray, e = .returned (.slice (some ⟨w.heap.size, 0, none⟩) WB.length WB.length) ∧ w' = w.alloc (.cells (WB.map Value.string).toArray 9) ∧ WB.map (fun x => x.data.toList) = splitC c s.data.toList
theorem split_any (s : ByteArray) (c : UInt8) (w : World) (hs : s.size ≤ 2000000) (hm : ∃ m, w.cell? ⟨0, 0, none⟩ = some (.int .i64 m)) :
    Calls Tryd.prog 26 #[.string s, .string ⟨#[c]⟩] w (SplitPost c s w) := by
  obtain ⟨m, hm⟩ := hm
  refine (Tryd.strings_Split s ⟨#[c]⟩ m w (by omega) hm (Nat.le_refl 1)).mono ?_
  rintro e w' ⟨rfl, rfl⟩
  have hd := Lib.splitB_data ⟨#[c]⟩ 0 (Lib.countB s ⟨#[c]⟩) s
  have hk : Lib.splitK [c] 0 (Lib.countB s ⟨#[c]⟩) s.data.toList = splitC c s.data.toList := splitK_eq c (s.data.toList.length + 1) _ (by omega) _ (Nat.le_refl _)
  have hl : Lib.countB s ⟨#[c]⟩ + 1 = (splitC c s.data.toList).length := count_split c (s.data.toList.length + 1) _ (by omega)
  have hd' := hd.trans hk
  have hl2 : (Lib.splitB ⟨#[c]⟩ 0 (Lib.countB s ⟨#[c]⟩) s).length = Lib.countB s ⟨#[c]⟩ + 1 := by
    rw [hl, ← hd', List.length_map]
  exact ⟨_, by rw [hl2], rfl, hd'⟩
end Go.Proofs.YtmdnleafpmondaaDoor
end
section
/- Contract: linchpinref29.Split. -/
namespace Go.Proofs.YtmdnleafpmondaaDoor
open Go Go.RowKit

theorem piece_list (s : ByteArray) (a b : Nat) : (s.extract a b).data.toList = (s.data.toList.drop a).take (b - a) := by
  simp [ByteArray.data_extract, List.extract_eq_take_drop]
theorem str_info : (Tryd.prog.info? 9).map (fun i => (i.zero, i.size, i.bytes)) = some (some (.string ⟨#[]⟩), 1, 16) := by kernel_rfl
/-- Words of a text, in memory of the call's own. -/
def RSplitPost (c : UInt8) (s : ByteArray) (w : World) (e : Ending) (w' : World) : Prop :=
  ∃ (WB : List ByteArray) (A : Option Addr) (cap : Nat), e = .returned (.slice A WB.length cap) ∧ w'.ownsRow w.heap.size 9 1 (.slice A WB.length cap) WB.length (WB.map Value.string) ∧ WB.map (fun x => x.data.toList) = splitC c s.data.toList ∧ Below w.heap.size w w'
theorem split_done {c : UInt8} {s : List UInt8} {a k : Nat} (hk : s.length ≤ k) (h : c ∉ (s.drop a).take (k - a)) : splitC c (s.drop a) = [s.drop a] := by
  rw [List.take_of_length_le (by simp; omega)] at h
  exact split_no h
theorem drop_at {s : List UInt8} {a k : Nat} (ha : a ≤ k) (hk : k < s.length) : s.drop a = (s.drop a).take (k - a) ++ s[k] :: s.drop (k + 1) := by
  have h1 := (List.take_append_drop (k - a) (s.drop a)).symm
  rw [List.drop_drop, show a + (k - a) = k by omega, List.drop_eq_getElem_cons hk] at h1
  exact h1
theorem take_next {s : List UInt8} {a k : Nat} (ha : a ≤ k) (hk : k < s.length) : (s.drop a).take (k + 1 - a) = (s.drop a).take (k - a) ++ [s[k]] := by
  rw [show k + 1 - a = (k - a) + 1 by omega, List.take_succ_eq_append_getElem (by simp; omega)]
  simp [show a + (k - a) = k by omega]
theorem strs_one (l : List ByteArray) : ∀ u ∈ l.map Value.string, u.oneCell' = true := by
  intro u hu
  obtain ⟨x, _, rfl⟩ := List.mem_map.1 hu
  rfl
theorem byte_eq {x c : UInt8} : ((x.toNat : Int) == (c.toNat : Int)) = decide (x = c) := by
  rw [Bool.eq_iff_iff, beq_iff_eq, decide_eq_true_iff]
  constructor
  · intro h
    exact UInt8.toNat_inj.1 (by omega)
  · rintro rfl
    rfl

set_option maxRecDepth 100000 in
set_option maxHeartbeats 1000000 in
theorem rsplit_any (s : ByteArray) (c : UInt8) (w : World) (hs : s.size ≤ 2000000) :
    Calls Tryd.prog 28 #[.string s, .int .u8 (c.toNat : Int)] w (RSplitPost c s w) := by
  obtain ⟨ii, hii⟩ := info_parts str_info
  have HII := hid hii
  have HSZ := hid (show s.data.toList.length = s.size by simp)
  clear hii
  go_enter Tryd.func28, Tryd.ntmps28
  go_wp2
  go_loopw [5, 6, 7] (fun ov av iv wr => ∃ (k a : Nat) (L : List ByteArray), k ≤ s.size ∧ a ≤ k ∧ L.length ≤ k ∧ iv = .int .i64 k ∧ av = .int .i64 a ∧ Hid (wr.ownsRow w.heap.size 9 1 ov L.length (L.map Value.string)) ∧ Hid (splitC c s.data.toList = L.map (fun x => x.data.toList) ++ splitC c (s.data.toList.drop a)) ∧ Hid (c ∉ (s.data.toList.drop a).take (k - a)) ∧ Hid (Below w.heap.size w wr)) (fun _ _ iv _ => s.size - (intOf iv).toNat)
  case atStart => exact ⟨0, 0, [], Nat.zero_le _, Nat.le_refl _, Nat.le_refl _, rfl, rfl, hid ⟨rfl, .inl ⟨rfl, rfl⟩⟩, hid (by simp), hid (by simp), hid (Below.refl _ _)⟩
  case round =>
    obtain ⟨k, a, L, hk, hak, hL, rfl, rfl, hown, hsp, hno, hb⟩ := hrel
    obtain ⟨A, cap, rfl⟩ := own_form hown.out
    have hbz := hb.out.size
    have i1 : (0 : Int) ≤ ↑k := by omega
    have a1 : (0 : Int) ≤ ↑a := by omega
    have a2 : (↑a : Int) ≤ ↑k := by omega
    have a3 : (↑a : Int) ≤ ↑s.size := by omega
    have i3 : (↑k : Int) ≤ ↑s.size := by omega
    by_cases hlt : k < s.size
    · have i2 : (↑k : Int) < ↑s.size := by omega
      have hlt' : k < s.data.toList.length := by rw [HSZ.out]; exact hlt
      have HAT := hid (show s.data.toList[k] = s[k] from rfl)
      have HTN := hid (take_next hak hlt')
      have HDA := hid (drop_at hak hlt')
      by_cases hc : s[k] = c
      · have hq : ((s[k].toNat : Int) == (c.toNat : Int)) = true := by rw [byte_eq]; exact decide_eq_true hc
        have HC := hid hc
        clear hc
        go_wp2_with (first
          | (at_builtin
             refine wpList_append_src _ rfl (.tmp 19) (.tmp 24) _ rfl w.heap.size 9 ii _ 1 16 Tryd.underlying51 HII.out.1 HII.out.2.1 HII.out.2.2.1 HII.out.2.2.2 rfl (by omega) (.slice A L.length cap) L.length (L.map Value.string) rfl (by exact hown.out.alloc _) (some ⟨wr.heap.size, 0, none⟩) 1 1 [.string (s.extract a k)] rfl (by exact src_new _ _ rfl 1 _ rfl rfl) (by simp [Value.oneCell']) (by unfold maxLen; omega) (by omega) (by simp; omega) ?_
             intro v4 w4 hown4 hg4 _
             have HB4 := hid (show Below w.heap.size w w4 from Below.grown (hb.out.alloc hbz _) hg4 (by simp; omega) (fun k hk => (hown.out.lt k hk).1))
             have HO4 := hid hown4
             clear hown4 hg4))
        refine ⟨⟨k + 1, k + 1, L ++ [s.extract a k], by omega, Nat.le_refl _, by simp; omega, by go_num, by go_num, hid ?_, hid ?_, hid (by simp), HB4⟩, by simp [intOf]; omega⟩
        · rw [List.length_append, List.map_append]
          exact HO4.out
        · rw [hsp.out, HDA.out, HAT.out, HC.out, split_of hno.out, List.map_append, List.append_assoc]
          congr 1
          simp only [List.map_cons, List.map_nil, List.cons_append, List.nil_append]
          rw [piece_list]
      · have hq : ((s[k].toNat : Int) == (c.toNat : Int)) = false := by rw [byte_eq]; exact decide_eq_false hc
        have HC := hid hc
        clear hc
        go_wp2
        refine ⟨⟨k + 1, a, L, by omega, by omega, by omega, by go_num, rfl, hown, hsp, hid ?_, hb⟩, by simp [intOf]; omega⟩
        rw [HTN.out]
        intro hm
        rcases List.mem_append.1 hm with hm | hm
        · exact hno.out hm
        · exact HC.out (by rw [← HAT.out]; exact (List.mem_singleton.1 hm).symm)
    · have hk' : k = s.size := by omega
      have HDN := hid (split_done (c := c) (s := s.data.toList) (a := a) (k := k) (by rw [HSZ.out]; omega) hno.out)
      have i2 : ¬ (↑k : Int) < ↑s.size := by omega
      clear hk'
      go_wp2_with (first
        | (at_builtin
           refine wpList_append_src _ rfl (.tmp 28) (.tmp 32) _ rfl w.heap.size 9 ii _ 1 16 Tryd.underlying51 HII.out.1 HII.out.2.1 HII.out.2.2.1 HII.out.2.2.2 rfl (by omega) (.slice A L.length cap) L.length (L.map Value.string) rfl (by exact hown.out.alloc _) (some ⟨wr.heap.size, 0, none⟩) 1 1 [.string (s.extract a s.size)] rfl (by exact src_new _ _ rfl 1 _ rfl rfl) (by simp [Value.oneCell']) (by unfold maxLen; omega) (by omega) (by simp; omega) ?_
           intro v4 w4 hown4 hg4 _
           obtain ⟨A4, c4, rfl⟩ := own_form hown4
           have HB4 := hid (show Below w.heap.size w w4 from Below.grown (hb.out.alloc hbz _) hg4 (by simp; omega) (fun k hk => (hown.out.lt k hk).1))
           have HO4 := hid hown4
           clear hown4 hg4))
      go_ret
      refine ⟨L ++ [s.extract a s.size], A4, c4, by rw [List.length_append]; rfl, ?_, ?_, HB4.out⟩
      · rw [List.length_append, List.map_append]
        exact HO4.out
      · rw [hsp.out, HDN.out, List.map_append]
        congr 1
        simp only [List.map_cons, List.map_nil]
        rw [piece_list, List.take_of_length_le (by rw [List.length_drop, HSZ.out]; exact Nat.le_refl _)]
end Go.Proofs.YtmdnleafpmondaaDoor
end
