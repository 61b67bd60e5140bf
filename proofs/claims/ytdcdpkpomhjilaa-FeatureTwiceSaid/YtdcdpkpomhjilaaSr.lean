/- Contracts: (names).rising, slices.Clone of texts. -/
import Derived.Test.YtdcdpkpomhjilaaSm
import Derived.Test.YtdcdpkpomhjilaaSo
import Derived.Test.YtdcdpkpomhjilaaS9
namespace Go.Proofs.Ytdcdpkpomhjilaa
open Go Go.RowKit Go.Maps
open Go.Sort (Holds)

theorem str58 : Try.prog.underlying 58 = some (.map 9 60) := by kernel_rfl
/-- Texts as lists of their bytes. -/
theorem map_toBA (ss : List (List UInt8)) : ss.map encStr = fStr.all (ss.map toBA) := by
  rw [strs_all, List.map_map]
  rfl

set_option maxRecDepth 100000 in
set_option maxHeartbeats 2000000 in
theorem namesRising_any (b : Nat) (L : List ByteArray) (w : World) (h : SetS Try.prog 9 w b L) (hL : ∀ s ∈ L, s.size ≤ maxLen) (hl : L.length ≤ 1000000) :
    Calls Try.prog 37 #[.map (some b)] w fun e w' => ∃ v' M, e = .returned v' ∧ OwnF fStr 9 w.heap.size w' v' M ∧ Rise M ∧ (∀ s, s ∈ M ↔ s ∈ L) ∧ Below w.heap.size w w' := by
  have hk : Try.prog.underlying 9 = some .string := Try.underlying9
  have hbl := h.lt
  obtain ⟨D0, hown, hsz, hkeys, hlen⟩ := h.keys hL hk
  obtain ⟨ii, hii⟩ := info_parts str_info
  have HII := hid hii
  have HK := hid hkeys
  have HLN := hid hlen
  clear hii hkeys hlen hL h
  go_enter Try.func37, Try.ntmps37
  go_wp2_with (first
    | (at_range; refine wpList_range_own _ rfl _ 58 rfl 9 60 (string_keyed hk) str58 _ b _ D0 rfl hown ?_; intro w0 hrg0 hg0 hs0) | go_in)
  go_frame
  have HB0 := hid ((b0 w).grown hg0 (Nat.le_refl _) (fun j hj => by cases hj))
  go_loopw [3] (fun v wr => ∃ (left : Lit → Bool) (cnt : Nat) (ss : List (List UInt8)), wr.ranges Try.prog 9 unitElem b w.heap.size L.length D0 left cnt ∧ ss.length + cnt ≤ Maps.size D0 ∧
      wr.ownsRow w.heap.size 9 1 v ss.length (ss.map encStr) ∧ Collected D0 left ss ∧ Below w.heap.size w wr)
    (fun _ wr => wr.rangeLeft b w.heap.size)
  case atStart =>
    exact ⟨_, _, [], hrg0, by simp, ⟨rfl, .inl ⟨rfl, rfl⟩⟩, Collected.start D0, HB0.out⟩
  case round =>
    obtain ⟨left, cnt, ss, hrg, hcs, hrow, hC, hnx⟩ := hrel
    go_wp2_with (first
      | (at_next; refine wpList_next_ranges _ rfl _ rfl 9 (string_keyed hk) unitElem encStr (fun _ : Unit => Value.agg #[]) (fun key kl hkk => by obtain ⟨x, hx, _⟩ := Maps.keyOf_str hk hkk; exact ⟨x, hx⟩) (fun v y hv => by obtain ⟨rfl, _⟩ := unitElem_inv hv; exact ⟨(), rfl⟩) b w.heap.size L.length _ _ _ rfl hrg ?_ ?_)
      | go_in)
    · -- nothing is left
      intro hc0 hl0
      have hperm := hC.perm hown (string_keyed hk) hk hl0
      obtain ⟨hnd, hmem⟩ := HK.out ss hperm
      have HFIN := hid (show ∀ v w', w'.ownsRow w.heap.size 9 1 v ss.length ((ss.mergeSort fun x y => decide (x ≤ y)).map encStr) → OwnF fStr 9 w.heap.size w' v ((ss.mergeSort fun x y => decide (x ≤ y)).map toBA) from fun v w' ho => ⟨by
          rw [← map_toBA]
          have e : ((ss.mergeSort fun x y => decide (x ≤ y)).map toBA).length = ss.length := by rw [List.length_map, List.length_mergeSort]
          rw [e]
          exact ho, fun x hx => by
          obtain ⟨y, hy, rfl⟩ := List.mem_map.1 hx
          have hy' := (List.mergeSort_perm ss _).mem_iff.1 hy
          have := HLN.out y (hperm.mem_iff.1 hy')
          show (toBA y).data.size ≤ maxLen
          rw [← Array.length_toList, toBA_data]
          exact this⟩)
      have HR := hid (sorted_riseS hnd)
      have HM := hid (show ∀ s, s ∈ (ss.mergeSort fun x y => decide (x ≤ y)).map toBA ↔ s ∈ L from fun s => by
        rw [← hmem s, List.mem_map]
        constructor
        · rintro ⟨y, hy, rfl⟩
          exact (List.mergeSort_perm ss _).mem_iff.1 hy
        · intro hs
          exact ⟨_, (List.mergeSort_perm ss _).mem_iff.2 hs, ext_ba rfl⟩)
      clear hnd hmem hperm
      rcases hrow.2 with ⟨hnil, h0⟩ | ⟨g, cap, cur, rfl, hbase, hb, h1, h2, h3, h4⟩
      · subst hnil
        have hss : ss = [] := List.length_eq_zero_iff.1 h0
        subst hss
        have hc := Try.slices_Sort_string_none none 0 wr
        go_wp2_with (go_at_call 51; refine hc.mono ?_; rintro e w' ⟨rfl, rfl⟩)
        go_ret
        exact ⟨_, _, rfl, HFIN.out _ _ (by rw [show ([] : List (List UInt8)).mergeSort (fun x y => decide (x ≤ y)) = [] by simp]; exact hrow), HR.out, HM.out, hnx⟩
      · have hH : Holds encStr wr g 0 ss.toArray := holds_of_block hb (by simpa using h4)
        have hgl : g < wr.heap.size := (Array.getElem?_eq_some_iff.1 hb).1
        have hc := Try.slices_Sort_string g 0 cap ss wr hH hgl (by omega)
        go_wp2_with (go_at_call 51; refine hc.mono ?_; rintro e w' ⟨rfl, nn, os, rfl⟩)
        go_ret
        exact ⟨_, _, rfl, HFIN.out _ _ (ownsRow_sorted (by simp) hbase hb h1 h2 h3), HR.out, HM.out, hnx.grown (grownBy_sorted _) hnx.size (fun j hj => by cases hj; exact hbase)⟩
    · -- an entry has come
      intro x kl yd yp w2 cnt2 hkey hlk hv hat hrg2 hlt hg2 hs2 hen
      obtain ⟨x', ex, rfl, _⟩ := Maps.keyOf_str hk hkey
      obtain rfl : x = x' := encStr_inj ex
      have hrow2 := hrow.kept hg2 (Or.inr (row_ne_iter hrow hrg).symm)
      have hbw2 := hnx.grown hg2 hnx.size (fun j hj => by cases hj; exact Nat.le_refl _)
      have HB2 := hid hbw2
      clear hs2
      go_wp2_with (first
        | (at_builtin; refine wpList_append_own _ rfl _ _ 30 rfl w.heap.size 9 ii (.string ⟨#[]⟩) 1 16 Try.underlying30 HII.out.1 HII.out.2.1 HII.out.2.2.1 HII.out.2.2.2 rfl (by decide) _ _ _ rfl (hrow2.alloc _) ⟨w2.heap.size, 0, none⟩ 1 1 [encStr x] rfl rfl (cell_one_new _ _ _) (by simp [Value.oneCell', encStr]) (by unfold maxLen at *; omega) (by omega) (by have := HB2.out.size; simp; omega) ?_; intro v' w3 hown' hg3 hnil3)
        | go_in)
      have hrg3 := (hrg2.alloc _).kept hg3 (row_ne_low hrow2 hbl) (row_ne_iter hrow2 hrg2)
      go_roundw
      case rel =>
        refine ⟨_, cnt2, ss ++ [x], hrg3, by simp; omega, by simpa using hown', hC.step hlk hat, ?_⟩
        exact (hbw2.alloc hbw2.size _).grown hg3 (by have := hbw2.size; simp; omega) (fun j hj => (hrow2.lt j hj).1)
      case measure => rw [hrg3.left_eq, hrg.left_eq]; exact hlt
theorem clone_any (v : Value) (l : List ByteArray) (w : World) (h : SliceRd tStr w (Lt w.heap.size) v l) (hl : l.length ≤ 1000000) :
    Calls Try.prog 36 #[v] w fun e w' => ∃ v', e = .returned v' ∧ OwnF fStr 9 w.heap.size w' v' l ∧ Below w.heap.size w w' := by
  obtain ⟨A, cap, rfl, hcap, hmax, hc⟩ := h.strs
  have hs := strs_small h
  by_cases h0 : l = []
  · subst h0
    cases A with
    | none =>
      refine (Try.slices_Clone_string_nil 0 cap w).mono ?_
      rintro e w' ⟨rfl, rfl⟩
      exact ⟨_, rfl, OwnF.nil _ _ _ _, b0 _⟩
    | some a =>
      refine (Try.slices_Clone_string_zero a cap w).mono ?_
      rintro e w' ⟨v', rfl, ho, _, hb⟩
      exact ⟨_, rfl, ⟨ho, fun x hx => by cases hx⟩, hb⟩
  · obtain ⟨g, o, rfl, hF, -, -⟩ := hc 0 (List.length_pos_iff.2 h0)
    refine (Try.slices_Clone_string g o l.length cap l w (Nat.le_refl _) (by omega) fun j hj => ?_).mono ?_
    · obtain ⟨g', o', hA, -, hc', -⟩ := hc j hj
      injection hA with hA
      injection hA with e1 e2
      subst e1 e2
      rw [hc', getD_at hj]
    · rintro e w' ⟨v', rfl, ho, _, hb⟩
      refine ⟨_, rfl, ⟨?_, fun x hx => hs x hx⟩, hb⟩
      rw [strs_all]
      rw [List.take_length] at ho
      exact ho
end Go.Proofs.Ytdcdpkpomhjilaa
