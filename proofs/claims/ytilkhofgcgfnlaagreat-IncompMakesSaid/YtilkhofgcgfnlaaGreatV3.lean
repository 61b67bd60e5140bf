/- Contract: linchpinref1.Split. -/
import Derived.Test.YtilkhofgcgfnlaaGreatV1
namespace Go.Proofs.YtilkhofgcgfnlaaGreat
open Go Go.RowKit

theorem piece_list (s : ByteArray) (a b : Nat) : (s.extract a b).data.toList = (s.data.toList.drop a).take (b - a) := by
  simp [ByteArray.data_extract, List.extract_eq_take_drop]
theorem str_info : (Tryz.prog.info? 9).map (fun i => (i.zero, i.size, i.bytes)) = some (some (.string ⟨#[]⟩), 1, 16) := by kernel_rfl
/-- Words of a text, in memory of the call's own. -/
def SplitPost (c : UInt8) (s : ByteArray) (w : World) (e : Ending) (w' : World) : Prop :=
  ∃ (WB : List ByteArray) (A : Option Addr) (cap : Nat), e = .returned (.slice A WB.length cap) ∧ w'.ownsRow w.heap.size 9 1 (.slice A WB.length cap) WB.length (WB.map Value.string) ∧ WB.map (fun x => x.data.toList) = splitC c s.data.toList ∧ Below w.heap.size w w'
theorem split_done {c : UInt8} {s : List UInt8} {a k : Nat} (hk : s.length ≤ k) (h : c ∉ (s.drop a).take (k - a)) : splitC c (s.drop a) = [s.drop a] := by
  rw [List.take_of_length_le (by simp; omega)] at h
  exact split_no h
theorem drop_at {s : List UInt8} {a k : Nat} (ha : a ≤ k) (hk : k < s.length) : s.drop a = (s.drop a).take (k - a) ++ s[k] :: s.drop (k + 1) := by
  have h1 := (List.take_append_drop (k - a) (s.drop a)).symm
  rw [List.drop_drop, show a + (k - a) = k by omega, List.drop_eq_getElem_cons hk] at h1
  exact h1
theorem take_next {s : List UInt8} {a k : Nat} (ha : a ≤ k) (hk : k < s.length) : (s.drop a).take (k + 1 - a) = (s.drop a).take (k - a) ++ [s[k]] := by
  rw [show k + 1 - a = (k - a) + 1 by omega, List.take_succ_eq_append_getElem (by simp; omega)]
  simp [show a + (k - a) = k by omega]
theorem strs_one (l : List ByteArray) : ∀ u ∈ l.map Value.string, u.oneCell' = true := by
  intro u hu
  obtain ⟨x, _, rfl⟩ := List.mem_map.1 hu
  rfl
theorem byte_eq {x c : UInt8} : ((x.toNat : Int) == (c.toNat : Int)) = decide (x = c) := by
  rw [Bool.eq_iff_iff, beq_iff_eq, decide_eq_true_iff]
  constructor
  · intro h
    exact UInt8.toNat_inj.1 (by omega)
  · rintro rfl
    rfl

set_option maxRecDepth 100000 in
set_option maxHeartbeats 1000000 in
theorem split1_any (s : ByteArray) (c : UInt8) (w : World) (hs : s.size ≤ 100000) :
    Calls Tryz.prog 83 #[.string s, .int .u8 (c.toNat : Int)] w (SplitPost c s w) := by
  obtain ⟨ii, hii⟩ := info_parts str_info
  have HII := hid hii
  have HSZ := hid (show s.data.toList.length = s.size by simp)
  clear hii
  go_enter Tryz.func83, Tryz.ntmps83
  go_wp2
  go_loopw [5, 6, 7] (fun ov av iv wr => ∃ (k a : Nat) (L : List ByteArray), k ≤ s.size ∧ a ≤ k ∧ L.length ≤ k ∧ iv = .int .i64 k ∧ av = .int .i64 a ∧ Hid (wr.ownsRow w.heap.size 9 1 ov L.length (L.map Value.string)) ∧ Hid (splitC c s.data.toList = L.map (fun x => x.data.toList) ++ splitC c (s.data.toList.drop a)) ∧ Hid (c ∉ (s.data.toList.drop a).take (k - a)) ∧ Hid (Below w.heap.size w wr)) (fun _ _ iv _ => s.size - (intOf iv).toNat)
  case atStart => exact ⟨0, 0, [], Nat.zero_le _, Nat.le_refl _, Nat.le_refl _, rfl, rfl, hid ⟨rfl, .inl ⟨rfl, rfl⟩⟩, hid (by simp), hid (by simp), hid (Below.refl _ _)⟩
  case round =>
    obtain ⟨k, a, L, hk, hak, hL, rfl, rfl, hown, hsp, hno, hb⟩ := hrel
    obtain ⟨A, cap, rfl⟩ := own_form hown.out
    have hbz := hb.out.size
    have i1 : (0 : Int) ≤ ↑k := by omega
    have a1 : (0 : Int) ≤ ↑a := by omega
    have a2 : (↑a : Int) ≤ ↑k := by omega
    have a3 : (↑a : Int) ≤ ↑s.size := by omega
    have i3 : (↑k : Int) ≤ ↑s.size := by omega
    by_cases hlt : k < s.size
    · have i2 : (↑k : Int) < ↑s.size := by omega
      have hlt' : k < s.data.toList.length := by rw [HSZ.out]; exact hlt
      have HAT := hid (show s.data.toList[k] = s[k] from rfl)
      have HTN := hid (take_next hak hlt')
      have HDA := hid (drop_at hak hlt')
      by_cases hc : s[k] = c
      · have hq : ((s[k].toNat : Int) == (c.toNat : Int)) = true := by rw [byte_eq]; exact decide_eq_true hc
        have HC := hid hc
        clear hc
        go_wp2_with (first
          | (at_builtin
             refine wpList_append_src _ rfl (.tmp 19) (.tmp 24) _ rfl w.heap.size 9 ii _ 1 16 Tryz.underlying88 HII.out.1 HII.out.2.1 HII.out.2.2.1 HII.out.2.2.2 rfl (by omega) (.slice A L.length cap) L.length (L.map Value.string) rfl (by exact hown.out.alloc _) (some ⟨wr.heap.size, 0, none⟩) 1 1 [.string (s.extract a k)] rfl (by exact src_new _ _ rfl 1 _ rfl rfl) (by simp [Value.oneCell']) (by unfold maxLen; omega) (by omega) (by simp; omega) ?_
             intro v4 w4 hown4 hg4 _
             have HB4 := hid (show Below w.heap.size w w4 from Below.grown (hb.out.alloc hbz _) hg4 (by simp; omega) (fun k hk => (hown.out.lt k hk).1))
             have HO4 := hid hown4
             clear hown4 hg4))
        refine ⟨⟨k + 1, k + 1, L ++ [s.extract a k], by omega, Nat.le_refl _, by simp; omega, by go_num, by go_num, hid ?_, hid ?_, hid (by simp), HB4⟩, by simp [intOf]; omega⟩
        · rw [List.length_append, List.map_append]
          exact HO4.out
        · rw [hsp.out, HDA.out, HAT.out, HC.out, split_of hno.out, List.map_append, List.append_assoc]
          congr 1
          simp only [List.map_cons, List.map_nil, List.cons_append, List.nil_append]
          rw [piece_list]
      · have hq : ((s[k].toNat : Int) == (c.toNat : Int)) = false := by rw [byte_eq]; exact decide_eq_false hc
        have HC := hid hc
        clear hc
        go_wp2
        refine ⟨⟨k + 1, a, L, by omega, by omega, by omega, by go_num, rfl, hown, hsp, hid ?_, hb⟩, by simp [intOf]; omega⟩
        rw [HTN.out]
        intro hm
        rcases List.mem_append.1 hm with hm | hm
        · exact hno.out hm
        · exact HC.out (by rw [← HAT.out]; exact (List.mem_singleton.1 hm).symm)
    · have hk' : k = s.size := by omega
      have HDN := hid (split_done (c := c) (s := s.data.toList) (a := a) (k := k) (by rw [HSZ.out]; omega) hno.out)
      have i2 : ¬ (↑k : Int) < ↑s.size := by omega
      clear hk'
      go_wp2_with (first
        | (at_builtin
           refine wpList_append_src _ rfl (.tmp 28) (.tmp 32) _ rfl w.heap.size 9 ii _ 1 16 Tryz.underlying88 HII.out.1 HII.out.2.1 HII.out.2.2.1 HII.out.2.2.2 rfl (by omega) (.slice A L.length cap) L.length (L.map Value.string) rfl (by exact hown.out.alloc _) (some ⟨wr.heap.size, 0, none⟩) 1 1 [.string (s.extract a s.size)] rfl (by exact src_new _ _ rfl 1 _ rfl rfl) (by simp [Value.oneCell']) (by unfold maxLen; omega) (by omega) (by simp; omega) ?_
           intro v4 w4 hown4 hg4 _
           obtain ⟨A4, c4, rfl⟩ := own_form hown4
           have HB4 := hid (show Below w.heap.size w w4 from Below.grown (hb.out.alloc hbz _) hg4 (by simp; omega) (fun k hk => (hown.out.lt k hk).1))
           have HO4 := hid hown4
           clear hown4 hg4))
      go_ret
      refine ⟨L ++ [s.extract a s.size], A4, c4, by rw [List.length_append]; rfl, ?_, ?_, HB4.out⟩
      · rw [List.length_append, List.map_append]
        exact HO4.out
      · rw [hsp.out, HDN.out, List.map_append]
        congr 1
        simp only [List.map_cons, List.map_nil]
        rw [piece_list, List.take_of_length_le (by rw [List.length_drop, HSZ.out]; exact Nat.le_refl _)]
end Go.Proofs.YtilkhofgcgfnlaaGreat
