import Derived.Test.YthneiolcljnbeaaGreatDoorzN9
import Derived.Test.YthneiolcljnbeaaGreatDoorzP2
import Derived.Outline
namespace Go.Proofs.YthneiolcljnbeaaGreatDoor
open Go Go.RowKit
theorem choiceF_len : ∀ (ns : List Nat) (n : Nat), (choiceF ns n).length = ns.length
 | [], _ => rfl
 | k :: r, n => by simp [choiceF, choiceF_len r]
theorem drop_at22 {ns : List Nat} {k : Nat} (h : k < ns.length) : ns.drop k = ns[k] :: ns.drop (k + 1) := List.drop_eq_getElem_cons h
def ChoicePost (ns : List Nat) (n : Nat) (w : World) (e : Ending) (w' : World) : Prop := ∃ v, e = .returned v ∧ OwnF fInt 3 w.heap.size w' v (choiceF ns n) ∧ Below w.heap.size w w'
set_option maxRecDepth 100000 in
set_option maxHeartbeats 2000000 in
theorem choice_any (v : Value) (ns : List Nat) (n : Nat) (w : World) (h : UniRd w (Lt w.heap.size) v ns) (ho : NsOk ns) (hn : n ≤ 100000000) :
  Calls Tryz.prog 9 #[v, .int .i64 n] w (ChoicePost ns n w) := by
 have HO := hid ho
 obtain ⟨g, cap0, rfl, hg, hat⟩ := h
 have h11 := ho.hi
 obtain ⟨ii, hii⟩ := info_parts int_info
 have HII := hid hii
 have HAT := hid hat
 have HFIN : Hid (∀ L, L ++ choiceF [] 0 = choiceF ns n → L = choiceF ns n) := hid (fun L h => by simpa [choiceF] using h)
 clear ho hii hat
 go_enter Tryz.func9, Tryz.ntmps9
 go_wp2_with fail
 obtain ⟨w0, hw0⟩ : ∃ w0 : World, w0 = w.alloc (.cells #[.slice (some ⟨g, 0, none⟩) ns.length cap0] 25) := ⟨_, rfl⟩
 have hb0 : Below w.heap.size w w0 := hw0 ▸ balloc (b0 w) _
 have hl0 : w.heap.size < w0.heap.size := by rw [hw0]; simp
 have q0 : w0.cell? ⟨w.heap.size, 0, none⟩ = some (.slice (some ⟨g, 0, none⟩) ns.length cap0) := by rw [hw0, alloc_cell]; rfl
 have HB0 := hid hb0
 have HQ := hid q0
 rw [← hw0]
 clear hw0 hb0 q0
 go_loopw [1, 5, 6, 7] (fun nv ov iv _ wr => ∃ (k m : Nat) (L : List Int), k ≤ ns.length ∧ m ≤ 100000000 ∧ nv = .int .i64 m ∧ iv = .int .i64 k ∧ L.length = k ∧ Hid (L ++ choiceF (ns.drop k) m = choiceF ns n) ∧ Hid (OwnF fInt 3 w0.heap.size wr ov L) ∧ Hid (Below w0.heap.size w0 wr)) (fun _ _ iv _ _ => ns.length - (intOf iv).toNat)
 case atStart => exact ⟨0, n, [], Nat.zero_le _, hn, rfl, rfl, rfl, hid (by simp), hid (OwnF.nil _ _ _ _), hid (b0 w0)⟩
 case round =>
  obtain ⟨k, m, L, hk, hm, rfl, rfl, hL, heq, hown, hb⟩ := hrel
  obtain ⟨Ao, co, rfl⟩ := hown.out.form
  have d0 := cell_below hb.out hl0 HQ.out
  have HLk := hid hL
  clear hL
  by_cases hlt : k < ns.length
  ·obtain ⟨Ak, ck, hck⟩ := HAT.out k hlt
   have c0 := cell_below hb.out (Nat.lt_of_lt_of_le hg HB0.out.size) (cell_below HB0.out hg hck)
   have hnk := HO.out.le k hlt
   have HEQ : Hid (L ++ [((m % (ns[k] + 1) : Nat) : Int) - 1] ++ choiceF (ns.drop (k + 1)) (m / (ns[k] + 1)) = choiceF ns n) := hid (by
    have := heq.out
    rw [drop_at22 hlt] at this
    simpa [choiceF] using this)
   generalize ns[k] = q at *
   have hmod : (m : Int).tmod ((q : Int) + 1) = ((m % (q + 1) : Nat) : Int) := by
    rw [Int.tmod_eq_emod_of_nonneg (by omega)]; push_cast; rfl
   have hdiv : (m : Int).tdiv ((q : Int) + 1) = ((m / (q + 1) : Nat) : Int) := by
    rw [Int.tdiv_eq_ediv_of_nonneg (by omega)]; push_cast; rfl
   have hr1 : m % (q + 1) < q + 1 := Nat.mod_lt _ (by omega)
   have hd1 : m / (q + 1) ≤ m := Nat.div_le_self _ _
   have hz : ((q : Int) + 1 == 0) = false := by simp; omega
   have i1 : (0 : Int) ≤ ↑k := by omega
   have i2 : (↑k : Int) < ↑ns.length := by omega
   have HLLE : L.length ≤ 11 := by have := HLk.out; omega
   generalize m % (q + 1) = r at *
   generalize hdq : m / (q + 1) = d at *
   have HI := hid (show I64 ((r : Int) - 1) from ⟨by omega, by omega⟩)
   have y1 : IntKind.i64.wrap ((r : Int) - 1) = (r : Int) - 1 := IntWalk.i64_in _ (by omega)
   clear hck heq hdq
   go_wp2_with (at_builtin; go_must (refine wpList_append_src _ rfl (.tmp 23) (.tmp 28) _ rfl w0.heap.size 3 ii _ 1 8 Tryz.underlying22 HII.out.1 HII.out.2.1 HII.out.2.2.1 HII.out.2.2.2 rfl (by omega) (.slice Ao L.length co) L.length (fInt.all L) (by rfl) (by exact hown.out.1.alloc _) (some ⟨wr.heap.size, 0, none⟩) 1 1 (fInt.cells ((r : Int) - 1)) (by rfl) (by exact src_one (f := fInt) rfl) (by simp [fInt, Value.oneCell']) (by unfold maxLen; omega) (by omega) (by have := hb.out.size; simp; omega) ?_; intro v2 w2 hown2 hg2 hat2; have HB2 := hid (own_app (v2 := v2) (balloc hb.out _) (hown.out.alloc _) (by have := hb.out.size; simp; omega) hg2 rfl); have HO2 := hid (hown.out.snoc (e := 3) (B := w0.heap.size) (v' := v2) (show fInt.ok ((r : Int) - 1) from HI.out) hown2); clear hown2 hg2 hat2))
   exact ⟨⟨k + 1, d, L ++ [(r : Int) - 1], by omega, by omega, by go_num, by go_num, by rw [List.length_append, HLk.out]; rfl, HEQ, HO2, HB2⟩, by simp [intOf]; omega⟩
  ·have HF : Hid (L = choiceF ns n) := hid (by
    have := heq.out
    rw [List.drop_eq_nil_of_le (by omega)] at this
    simpa [choiceF] using this)
   go_wp2
   go_ret
   exact ⟨_, rfl, by rw [← HF.out]; exact hown.out.mono HB0.out.size, bstep HB0.out hb.out⟩
set_option maxHeartbeats 2000000 in
theorem size_any (v : Value) (ns : List Nat) (w : World) (h : UniRd w (Lt w.heap.size) v ns) (ho : NsOk ns) :
  Calls Tryz.prog 8 #[v] w fun e w' => e = .returned (.int .i64 (sizeN ns : Nat)) ∧ Below w.heap.size w w' := by
 have HO := hid ho
 obtain ⟨g, cap0, rfl, hg, hat⟩ := h
 have h11 := ho.hi
 have HAT := hid hat
 clear ho hat
 go_enter Tryz.func8, Tryz.ntmps8
 go_wp2_with fail
 obtain ⟨w0, hw0⟩ : ∃ w0 : World, w0 = w.alloc (.cells #[.slice (some ⟨g, 0, none⟩) ns.length cap0] 25) := ⟨_, rfl⟩
 have hb0 : Below w.heap.size w w0 := hw0 ▸ balloc (b0 w) _
 have q0 : w0.cell? ⟨w.heap.size, 0, none⟩ = some (.slice (some ⟨g, 0, none⟩) ns.length cap0) := by rw [hw0, alloc_cell]; rfl
 have HB0 := hid hb0
 have HQ := hid q0
 rw [← hw0]
 clear hw0 hb0 q0
 go_loopw [3, 4] (fun sv iv wr => ∃ k s : Nat, k ≤ ns.length ∧ s ≤ 5000000 ∧ sv = .int .i64 s ∧ iv = .int .i64 k ∧ wr = w0 ∧ Hid (sizeGo s (ns.drop k) = sizeN ns)) (fun _ iv _ => ns.length - (intOf iv).toNat)
 case atStart => exact ⟨0, 1, Nat.zero_le _, by omega, rfl, rfl, rfl, hid (by rw [List.drop_zero]; rfl)⟩
 case round =>
  obtain ⟨k, s, hk, hs, rfl, rfl, rfl, heq⟩ := hrel
  have d0 := HQ.out
  by_cases hlt : k < ns.length
  ·by_cases hbig : s < 1000000
   ·obtain ⟨Ak, ck, hck⟩ := HAT.out k hlt
    have c0 := cell_below HB0.out hg hck
    have hnk := HO.out.le k hlt
    have HEQ : Hid (sizeGo (s * (ns[k] + 1)) (ns.drop (k + 1)) = sizeN ns) := hid (by
     have := heq.out
     rw [drop_at22 hlt] at this
     unfold sizeGo at this
     rwa [if_pos hbig] at this)
    generalize ns[k] = q at *
    have hmul : (s : Int) * ((q : Int) + 1) = ((s * (q + 1) : Nat) : Int) := by push_cast; rfl
    have hle : s * (q + 1) ≤ 5000000 := by
     have : s * (q + 1) ≤ 1000000 * 5 := Nat.mul_le_mul (by omega) (by omega)
     omega
    have i1 : (0 : Int) ≤ ↑k := by omega
    have i2 : (↑k : Int) < ↑ns.length := by omega
    have i3 : (s : Int) < 1000000 := by omega
    generalize s * (q + 1) = s2 at *
    clear hck heq
    go_wp2
    exact ⟨⟨k + 1, s2, by omega, hle, by go_num, by go_num, by first | trivial | rfl, HEQ⟩, by simp [intOf]; omega⟩
   ·have HF : Hid (sizeN ns = s) := hid (by
     have := heq.out
     rw [drop_at22 hlt] at this
     unfold sizeGo at this
     rw [if_neg hbig] at this
     exact this.symm)
    have i2 : (↑k : Int) < ↑ns.length := by omega
    have i3 : ¬ ((s : Int) < 1000000) := by omega
    go_wp2
    go_ret
    exact ⟨ret_int (by rw [HF.out]), HB0.out⟩
  ·have HF : Hid (sizeN ns = s) := hid (by
    have := heq.out
    rw [List.drop_eq_nil_of_le (by omega)] at this
    exact this.symm)
   go_wp2
   go_ret
   exact ⟨ret_int (by rw [HF.out]), HB0.out⟩
end Go.Proofs.YthneiolcljnbeaaGreatDoor
