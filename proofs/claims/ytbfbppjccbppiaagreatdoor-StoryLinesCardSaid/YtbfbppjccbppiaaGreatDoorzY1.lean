import Derived.Test.YtbfbppjccbppiaaGreatDoorzV1
import Derived.Laws.RangeAny
import Derived.LoopTactic
import Derived.Outline
import Derived.Test.YtbfbppjccbppiaaGreatDoorzV6
import Derived.Test.YtbfbppjccbppiaaGreatDoorzV8
namespace Go.Proofs.YtbfbppjccbppiaaGreatDoor
open Go Go.RowKit
section
theorem ql2 (w : World) (s : ByteArray) (p : Nat) : Below w.heap.size w (w.iter s p) := qa0 (b0 w) _
theorem zq8 (c : UInt8) : digC c = true ↔ 48 ≤ c.toNat ∧ c.toNat ≤ 57 := by
 simp only [digC, Bool.and_eq_true, decide_eq_true_eq]
theorem all_next {p : UInt8 → Bool} {s : List UInt8} {k : Nat} (h : k < s.length) (ha : (s.take k).all p = true) (hc : p s[k] = true) : (s.take (k + 1)).all p = true := by
 rw [List.take_succ_eq_append_getElem h, List.all_append, ha]
 simp [hc]
theorem number_long {s : List UInt8} (h : 4 < s.length) : qc7 s = none := by
 unfold qc7
 rw [if_neg]
 rintro ⟨h1, h2, h3, h4, h5⟩
 obtain ⟨c, t, rfl⟩ : ∃ c t, s = c :: t := by cases s with | nil => simp at h | cons c t => exact ⟨c, t, rfl⟩
 have hc : c ≠ 48 := by
  intro e
  exact h3 (by omega) (by rw [e]; rfl)
 have hd : digC c = true := by simp only [List.all_cons, Bool.and_eq_true] at h4; exact h4.1
 rw [zq8] at hd
 have hcn : c.toNat ≠ 48 := fun e => hc (UInt8.toNat_inj.1 (by rw [e]; rfl))
 have hv : ∀ (t : List UInt8) (n : Nat), n * 10 ^ t.length ≤ t.foldl (fun n c => 10 * n + (c.toNat - 48)) n := by
  intro t
  induction t with
  | nil => intro n; simp
  | cons x t ih =>
   intro n
   have := ih (10 * n + (x.toNat - 48))
   rw [List.foldl_cons, List.length_cons, Nat.pow_succ]
   refine Nat.le_trans ?_ this
   rw [Nat.mul_comm (10 ^ t.length) 10, ← Nat.mul_assoc]
   exact Nat.mul_le_mul_right _ (by omega)
 have h6 := hv t (c.toNat - 48)
 have h7 : valF (c :: t) = t.foldl (fun n c => 10 * n + (c.toNat - 48)) (c.toNat - 48) := by
  show t.foldl _ (10 * 0 + (c.toNat - 48)) = _
  rw [Nat.mul_zero, Nat.zero_add]
 have h8 : 10 ^ 4 ≤ 10 ^ t.length := Nat.pow_le_pow_right (by omega) (by simp at h; omega)
 have h9 : 1 * 10 ^ 4 ≤ (c.toNat - 48) * 10 ^ t.length := Nat.mul_le_mul (by omega) h8
 omega
set_option maxRecDepth 100000 in
set_option maxHeartbeats 2000000 in
theorem inumber_any (s : ByteArray) (w : World) :
  Calls Tryz.prog 151 #[.string s] w fun e w' => e = .returned (qk1 s.data.toList) ∧ Below w.heap.size w w' := by
 have hsz : s.data.toList.length = s.size := by simp
 by_cases h1 : s.size < 1
 ·have hn : qc7 s.data.toList = none := by rw [qc7, if_neg]; rintro ⟨h, _⟩; omega
  have HN := hid hn
  have e0 := qe2 (s := s) (by omega)
  clear hn hsz
  go_enter Tryz.func151, Tryz.ntmps151
  go_wp2
  go_ret2
  exact ⟨by unfold qk1; rw [HN.out]; rfl, b0 w⟩
 ·have e0 := qb9 (s := s) (by omega)
  by_cases h2 : 4 < s.size
  ·have hn : qc7 s.data.toList = none := number_long (by omega)
   have HN := hid hn
   have e1 : (4 : Int) < s.size := by omega
   clear hn hsz
   go_enter Tryz.func151, Tryz.ntmps151
   go_wp2
   go_ret2
   exact ⟨by unfold qk1; rw [HN.out]; rfl, b0 w⟩
  ·have h0 : 0 < s.size := by omega
   have e1 : ¬ (4 : Int) < s.size := by omega
   have HSZ := hid hsz
   have hhd : s.data.toList.head? = some s[0] := by
    rw [List.head?_eq_getElem?, List.getElem?_eq_getElem (by omega)]; rfl
   have HHD := hid hhd
   clear hsz hhd
   by_cases hz : s[0].toNat = 48 ∧ 1 < s.size
   ·obtain ⟨hz0, hz1⟩ := hz
    have HN : Hid (qc7 s.data.toList = none) := hid (by
     rw [qc7, if_neg]
     rintro ⟨_, _, h, _⟩
     refine h (by rw [HSZ.out]; exact hz1) ?_
     rw [HHD.out]
     exact congrArg some (UInt8.toNat_inj.1 hz0))
    have hz0' : (s[0].toNat : Int) = 48 := by omega
    have hz1' : decide (1 < s.size) = true := decide_eq_true hz1
    go_enter Tryz.func151, Tryz.ntmps151
    go_wp2
    go_ret2
    exact ⟨by unfold qk1; rw [HN.out]; rfl, b0 w⟩
   ·have HLD : Hid (1 < s.data.toList.length → s.data.toList.head? ≠ some 48) := hid (fun hl he => by
     rw [HHD.out] at he
     rw [HSZ.out] at hl
     exact hz ⟨by rw [Option.some.inj he]; rfl, hl⟩)
    have hcase : (s[0].toNat = 48 ∧ s.size = 1) ∨ ((s[0].toNat : Int) == 48) = false := by
     by_cases e : s[0].toNat = 48
     ·exact .inl ⟨e, by omega⟩
     ·exact .inr (by rw [beq_eq_false_iff_ne]; omega)
    clear hz
    rcases hcase with ⟨h3, h4⟩ | h4
    all_goals
     first | (have h3' : (s[0].toNat : Int) = 48 := by omega) | skip
     first | (have h4' : decide (1 < s.size) = false := decide_eq_false (by omega)) | skip
     first | (have h4'' : ¬ (1 : Int) < s.size := by omega) | skip
     first | clear h3 | skip
     go_enter Tryz.func151, Tryz.ntmps151
     go_wp2
     go_loopw [4, 6] (fun nv _ wr => ∃ pos : Nat, pos ≤ s.size ∧ nv = .int .i64 (valF (s.data.toList.take pos) : Nat) ∧ wr = w.iter s pos ∧ Hid ((s.data.toList.take pos).all digC = true)) (fun _ _ wr => s.size - wr.iterPos w.heap.size)
     case atStart => exact ⟨0, Nat.zero_le _, rfl, rfl, hid rfl⟩
     case round =>
      obtain ⟨pos, hpos, rfl, rfl, hall⟩ := hrel
      have hvl : valF (s.data.toList.take pos) < 10000 := by
       have h1 := val_lt s.data.toList pos (by rw [HSZ.out]; exact hpos) hall.out
       have h2 : (10 : Nat) ^ pos ≤ 10 ^ 4 := Nat.pow_le_pow_right (by omega) (by omega)
       omega
      by_cases hp : pos < s.size
      ·have hnx : ∀ ty, (Instr.next (.pointer (some ⟨w.heap.size, 0, none⟩)) true ty).run Tryz.prog (w.iter s pos) = _ := fun ty => run_next_any w s pos ty hp
       have hlt : pos < s.data.toList.length := by rw [HSZ.out]; exact hp
       have HVT := hid (zs8 hlt)
       generalize hv : valF (s.data.toList.take pos) = v at hvl HVT ⊢
       clear hv
       by_cases hw : digC s[pos] = true
       ·have hw' := (zq8 _).1 hw
        have hd := decode_ascii s pos hp (by omega)
        rw [hd] at hnx
        have HALL := hid (all_next (p := digC) hlt hall.out hw)
        have HVT2 : Hid ((valF (s.data.toList.take (pos + 1)) : Int) = 10 * v + ((s[pos].toNat : Int) - 48)) := hid (by rw [HVT.out, ql8 s pos hp]; omega)
        have e3 : (48 : Int) ≤ s[pos].toNat := by omega
        have e2 : (s[pos].toNat : Int) ≤ 57 := by omega
        have e2' : decide ((s[pos].toNat : Int) ≤ 57) = true := decide_eq_true e2
        have e5 : IntKind.i32.wrap ((s[pos].toNat : Int) - 48) = (s[pos].toNat : Int) - 48 := IntWalk.i32_in _ (by omega)
        clear hd hw
        go_wp2
        exact ⟨⟨pos + 1, by omega, by rw [HVT2.out], rfl, HALL⟩, by simp; omega⟩
       ·have hw2 : digC s[pos] = false := by simpa using hw
        have HBAD : Hid (qc7 s.data.toList = none) := hid (number_no ⟨s[pos], by rw [← ql8 s pos hp]; exact List.getElem_mem _, hw2⟩)
        obtain ⟨r, n, hr, hrx⟩ : ∃ (r : Nat) (n : Nat), Utf8.decode s pos = (r, n) ∧ ¬ (48 ≤ r ∧ r ≤ 57) := by
         refine ⟨(Utf8.decode s pos).1, (Utf8.decode s pos).2, rfl, ?_⟩
         by_cases ha : s[pos].toNat < 128
         ·rw [decode_ascii s pos hp ha]
          exact fun h => hw ((zq8 _).2 h)
         ·have := (decode_high s pos hp (by omega)).1
          omega
        rw [hr] at hnx
        clear hr hw hw2
        by_cases c3 : (48 : Int) ≤ r
        ·have c4 : ¬ (r : Int) ≤ 57 := by omega
         have c5 : decide ((r : Int) ≤ 57) = false := decide_eq_false c4
         clear hrx
         go_wp2
         go_ret2
         exact ⟨by unfold qk1; rw [HBAD.out]; rfl, ql2 w s _⟩
        ·clear hrx
         go_wp2
         go_ret2
         exact ⟨by unfold qk1; rw [HBAD.out]; rfl, ql2 w s _⟩
      ·have hnx : ∀ ty, (Instr.next (.pointer (some ⟨w.heap.size, 0, none⟩)) true ty).run Tryz.prog (w.iter s pos) = _ := fun ty => run_next_end w s pos ty hp
       have HV : Hid (valF (s.data.toList.take pos) = valF s.data.toList) := hid (by rw [List.take_of_length_le (by rw [HSZ.out]; omega)])
       have HA : Hid (s.data.toList.all digC = true) := hid (by
        have := hall.out
        rwa [List.take_of_length_le (by rw [HSZ.out]; omega)] at this)
       generalize hv : valF (s.data.toList.take pos) = v at hvl HV ⊢
       clear hv
       have HN : Hid (qc7 s.data.toList = some v) := hid (by
        rw [qc7, if_pos, HV.out]
        exact ⟨by rw [HSZ.out]; omega, by rw [HSZ.out]; omega, HLD.out, HA.out, by rw [← HV.out]; omega⟩)
       have hb1 : (v : Int) ≤ 9999 := by omega
       have hb2 : decide ((v : Int) ≤ 9999) = true := decide_eq_true hb1
       go_wp2
       go_ret2
       exact ⟨by unfold qk1; rw [HN.out]; rfl, ql2 w s pos⟩
theorem pfits_any (n : Int) (w : World) :
  Calls Tryz.prog 123 #[.int .i64 n] w fun e w' => e = .returned (.bool (qr0 n)) ∧ w' = w := by
 by_cases h1 : 0 ≤ n
 ·by_cases h2 : n ≤ 9999
  ·have e3 : decide (n ≤ 9999) = true := decide_eq_true h2
   have H : Hid (qr0 n = true) := hid (by simp [qr0]; omega)
   go_enter Tryz.func123, Tryz.ntmps123
   go_wp2
   go_ret
   exact ⟨qa4 H.out.symm, rfl⟩
  ·have e3 : decide (n ≤ 9999) = false := decide_eq_false h2
   have H : Hid (qr0 n = false) := hid (by simp [qr0]; omega)
   go_enter Tryz.func123, Tryz.ntmps123
   go_wp2
   go_ret
   exact ⟨qa4 H.out.symm, rfl⟩
 ·have H : Hid (qr0 n = false) := hid (by simp [qr0]; omega)
  go_enter Tryz.func123, Tryz.ntmps123
  go_wp2
  go_ret
  exact ⟨qa4 H.out.symm, rfl⟩
end
section
set_option maxRecDepth 100000 in
set_option maxHeartbeats 1000000 in
theorem isplit_any (s : ByteArray) (c : UInt8) (w : World) (hs : s.size ≤ 100000) :
    Calls Tryz.prog 150 #[.string s, .int .u8 (c.toNat : Int)] w (SplitPost c s w) := by
  obtain ⟨ii, hii⟩ := info_parts zf4
  have HII := hid hii
  have HSZ := hid (show s.data.toList.length = s.size by simp)
  clear hii
  go_enter Tryz.func150, Tryz.ntmps150
  go_wp2
  go_loopw [5, 6, 7, 10] (fun ov av _ iv wr => ∃ (k a : Nat) (L : List ByteArray), k ≤ s.size ∧ a ≤ k ∧ L.length ≤ k ∧ iv = .int .i64 k ∧ av = .int .i64 a ∧ Hid (wr.ownsRow w.heap.size 9 1 ov L.length (L.map Value.string)) ∧ Hid (qe8 c s.data.toList = L.map (fun x => x.data.toList) ++ qe8 c (s.data.toList.drop a)) ∧ Hid (c ∉ (s.data.toList.drop a).take (k - a)) ∧ Hid (Below w.heap.size w wr)) (fun _ _ _ iv _ => s.size - (intOf iv).toNat)
  case atStart => exact ⟨0, 0, [], Nat.zero_le _, Nat.le_refl _, Nat.le_refl _, rfl, rfl, hid ⟨rfl, .inl ⟨rfl, rfl⟩⟩, hid (by simp), hid (by simp), hid (Below.refl _ _)⟩
  case round =>
    obtain ⟨k, a, L, hk, hak, hL, rfl, rfl, hown, hsp, hno, hb⟩ := hrel
    obtain ⟨A, cap, rfl⟩ := qb1 hown.out
    have hbz := hb.out.size
    have i1 : (0 : Int) ≤ ↑k := by omega
    have a1 : (0 : Int) ≤ ↑a := by omega
    have a2 : (↑a : Int) ≤ ↑k := by omega
    have a3 : (↑a : Int) ≤ ↑s.size := by omega
    have i3 : (↑k : Int) ≤ ↑s.size := by omega
    by_cases hlt : k < s.size
    · have i2 : (↑k : Int) < ↑s.size := by omega
      have hlt' : k < s.data.toList.length := by rw [HSZ.out]; exact hlt
      have HAT := hid (show s.data.toList[k] = s[k] from rfl)
      have HTN := hid (take_next hak hlt')
      have HDA := hid (drop_at hak hlt')
      by_cases hc : s[k] = c
      · have hq : ((s[k].toNat : Int) == (c.toNat : Int)) = true := by rw [zq3]; exact decide_eq_true hc
        have HC := hid hc
        clear hc
        go_wp2_with (first
          | (at_builtin
             refine qa5 _ rfl (.tmp 18) (.tmp 23) _ rfl w.heap.size 9 ii _ 1 16 Tryz.underlying45 HII.out.1 HII.out.2.1 HII.out.2.2.1 HII.out.2.2.2 rfl (by omega) (.slice A L.length cap) L.length (L.map Value.string) rfl (by exact hown.out.alloc _) (some ⟨wr.heap.size, 0, none⟩) 1 1 [.string (s.extract a k)] rfl (by exact qe1 _ _ rfl 1 _ rfl rfl) (by simp [Value.oneCell']) (by unfold maxLen; omega) (by omega) (by simp; omega) ?_
             intro v4 w4 hown4 hg4 _
             have HB4 := hid (show Below w.heap.size w w4 from Below.grown (hb.out.alloc hbz _) hg4 (by simp; omega) (fun k hk => (hown.out.lt k hk).1))
             have HO4 := hid hown4
             clear hown4 hg4))
        refine ⟨⟨k + 1, k + 1, L ++ [s.extract a k], by omega, Nat.le_refl _, by simp; omega, by go_num, by go_num, hid ?_, hid ?_, hid (by simp), HB4⟩, by simp [intOf]; omega⟩
        · rw [List.length_append, List.map_append]
          exact HO4.out
        · rw [hsp.out, HDA.out, HAT.out, HC.out, zs6 hno.out, List.map_append, List.append_assoc]
          congr 1
          simp only [List.map_cons, List.map_nil, List.cons_append, List.nil_append]
          rw [qv2]
      · have hq : ((s[k].toNat : Int) == (c.toNat : Int)) = false := by rw [zq3]; exact decide_eq_false hc
        have HC := hid hc
        clear hc
        go_wp2
        refine ⟨⟨k + 1, a, L, by omega, by omega, by omega, by go_num, rfl, hown, hsp, hid ?_, hb⟩, by simp [intOf]; omega⟩
        rw [HTN.out]
        intro hm
        rcases List.mem_append.1 hm with hm | hm
        · exact hno.out hm
        · exact HC.out (by rw [← HAT.out]; exact (List.mem_singleton.1 hm).symm)
    · have hk' : k = s.size := by omega
      have HDN := hid (zp2 (c := c) (s := s.data.toList) (a := a) (k := k) (by rw [HSZ.out]; omega) hno.out)
      have i2 : ¬ (↑k : Int) < ↑s.size := by omega
      clear hk'
      go_wp2_with (first
        | (at_builtin
           refine qa5 _ rfl (.tmp 28) (.tmp 32) _ rfl w.heap.size 9 ii _ 1 16 Tryz.underlying45 HII.out.1 HII.out.2.1 HII.out.2.2.1 HII.out.2.2.2 rfl (by omega) (.slice A L.length cap) L.length (L.map Value.string) rfl (by exact hown.out.alloc _) (some ⟨wr.heap.size, 0, none⟩) 1 1 [.string (s.extract a s.size)] rfl (by exact qe1 _ _ rfl 1 _ rfl rfl) (by simp [Value.oneCell']) (by unfold maxLen; omega) (by omega) (by simp; omega) ?_
           intro v4 w4 hown4 hg4 _
           obtain ⟨A4, c4, rfl⟩ := qb1 hown4
           have HB4 := hid (show Below w.heap.size w w4 from Below.grown (hb.out.alloc hbz _) hg4 (by simp; omega) (fun k hk => (hown.out.lt k hk).1))
           have HO4 := hid hown4
           clear hown4 hg4))
      go_ret
      refine ⟨L ++ [s.extract a s.size], A4, c4, by rw [List.length_append]; rfl, ?_, ?_, HB4.out⟩
      · rw [List.length_append, List.map_append]
        exact HO4.out
      · rw [hsp.out, HDN.out, List.map_append]
        congr 1
        simp only [List.map_cons, List.map_nil]
        rw [qv2, List.take_of_length_le (by rw [List.length_drop, HSZ.out]; exact Nat.le_refl _)]
theorem iwords_any (s : ByteArray) (c : UInt8) (w : World) (hs : s.size ≤ 1000) :
    Calls Tryz.prog 150 #[.string s, .int .u8 (c.toNat : Int)] w (qy6 c s w) := by
  refine (isplit_any s c w (by omega)).mono ?_
  rintro e w' ⟨WB, A, cap, rfl, hown, hsp, hb⟩
  obtain ⟨h1, h2⟩ := zk5 c s.data.toList
  have hx : ∀ x ∈ WB, x.size ≤ s.size := by
    intro x hx
    have h3 : x.data.toList ∈ qe8 c s.data.toList := by rw [← hsp]; exact List.mem_map.2 ⟨x, hx, rfl⟩
    have := h2 _ h3
    simpa using this
  have hlen : (WB.map (fun x => x.data.toList)).length = (qe8 c s.data.toList).length := by rw [hsp]
  rw [List.length_map] at hlen
  have hs2 : s.data.toList.length = s.size := by simp
  refine ⟨WB, A, cap, rfl, ?_, hsp, hx, by omega, ?_, hb⟩
  · refine qf8 (f := fStr) (by rw [ze7]; exact hown) (fun x hx' => ?_) (fun g hg => (hown.lt g hg).2)
    have := hx x hx'
    show x.size ≤ maxLen
    unfold maxLen
    omega
  · have := zs5 c s.data.toList
    rcases Nat.eq_zero_or_pos (qe8 c s.data.toList).length with h | h
    · exact absurd (List.eq_nil_of_length_eq_zero h) this
    · omega
end
section
set_option maxHeartbeats 1000000 in
theorem pnumeric_any (s : ByteArray) (w : World) (hs : s.size ≤ 1000) :
  Calls Tryz.prog 152 #[.string s] w fun e w' => e = .returned (.bool (qd4 s.data.toList)) ∧ w' = w := by
 have HSZ := hid (show s.data.toList.length = s.size by simp)
 go_enter Tryz.func152, Tryz.ntmps152
 go_wp2
 go_loopw [3, 6] (fun _ iv wr => ∃ k : Nat, k ≤ s.size ∧ iv = .int .i64 k ∧ Hid ((s.data.toList.take k).all digC = true) ∧ wr = w) (fun _ iv _ => s.size - (intOf iv).toNat)
 case atStart => exact ⟨0, Nat.zero_le _, rfl, hid rfl, rfl⟩
 case round =>
  obtain ⟨k, hk, rfl, hall, rfl⟩ := hrel
  by_cases hlt : k < s.size
  ·have hlt' : k < s.data.toList.length := by rw [HSZ.out]; exact hlt
   have hu := s[k].toNat_lt
   have HAT := hid (show (s.data.toList.take (k + 1)).all digC = ((s.data.toList.take k).all digC && digC s[k]) by rw [List.take_succ_eq_append_getElem hlt', List.all_append]; simp; rfl)
   have i1 : (0 : Int) ≤ ↑k := by omega
   have i2 : (↑k : Int) < ↑s.size := by omega
   by_cases hd : digC s[k] = true
   ·have HD := hid hd
    simp only [digC, Bool.and_eq_true, decide_eq_true_eq] at hd
    have e1 : ¬ (s[k].toNat : Int) < 48 := by omega
    have e2 : ¬ (57 : Int) < s[k].toNat := by omega
    clear hd
    go_wp2
    exact ⟨⟨k + 1, by omega, by go_num, hid (by rw [HAT.out, hall.out, HD.out]; rfl), trivial⟩, by simp [intOf]; omega⟩
   ·have HN : Hid (qd4 s.data.toList = false) := hid (by
     unfold qd4
     rw [Bool.and_eq_false_iff]
     refine .inr ?_
     rw [List.all_eq_false]
     exact ⟨s[k], by rw [← ql8 s k hlt]; exact List.getElem_mem _, hd⟩)
    have hd2 : s[k].toNat < 48 ∨ 57 < s[k].toNat := by
     simp only [digC, Bool.and_eq_true, decide_eq_true_eq] at hd
     omega
    clear hd
    rcases hd2 with h | h
    ·have e1 : (s[k].toNat : Int) < 48 := by omega
     go_wp2
     go_ret
     exact ⟨qa4 HN.out.symm, rfl⟩
    ·have e1 : ¬ (s[k].toNat : Int) < 48 := by omega
     have e2 : (57 : Int) < s[k].toNat := by omega
     go_wp2
     go_ret
     exact ⟨qa4 HN.out.symm, rfl⟩
  ·have hk' : k = s.size := by omega
   have HA : Hid (s.data.toList.all digC = true) := hid (by
    have := hall.out
    rwa [hk', List.take_of_length_le (by rw [HSZ.out]; omega)] at this)
   clear hk'
   by_cases h0 : 0 < s.size
   ·have e0 := qb9 (s := s) h0
    have HN : Hid (qd4 s.data.toList = true) := hid (by unfold qd4; rw [HA.out, qm8 HSZ.out h0]; rfl)
    go_wp2
    go_ret
    exact ⟨qa4 HN.out.symm, rfl⟩
   ·have e0 := qe2 (s := s) (by omega)
    have HN : Hid (qd4 s.data.toList = false) := hid (by
     have : s.data.toList = [] := List.eq_nil_of_length_eq_zero (by rw [HSZ.out]; omega)
     rw [this]; rfl)
    go_wp2
    go_ret
    exact ⟨qa4 HN.out.symm, rfl⟩
def ze2 (s : List UInt8) : Bool := decide ((qe8 46 s).length ≤ 4) && (qe8 46 s).all tagB
def preB (s : List UInt8) : Bool := ze2 s && (qe8 46 s).all fun t => !(qd4 t && (qc7 t).isNone)
theorem all_both {α : Type} (l : List α) (f g : α → Bool) : (l.all f && l.all g) = l.all fun x => f x && g x := by
 induction l with
 | nil => rfl
 | cons x l ih =>
  simp only [List.all_cons, ← ih]
  cases f x <;> cases g x <;> cases l.all f <;> simp
theorem tagsF_b {s : List UInt8} (h : s.isEmpty = false) : qp2 s false = ze2 s := by
 unfold qp2 ze2
 rw [h, Bool.false_or]
 congr 2
 funext t
 unfold za8
 simp
theorem tagsF_p {s : List UInt8} (h : s.isEmpty = false) : qp2 s true = preB s := by
 unfold qp2 preB ze2
 rw [h, Bool.false_or, Bool.and_assoc, all_both]
 rfl
theorem zd7 (s : ByteArray) (w : World) (hs : s.size ≤ 1000) : Calls Tryz.prog 150 #[.string s, .int .u8 46] w (qy6 46 s w) := iwords_any s 46 w hs
set_option maxRecDepth 100000 in
set_option maxHeartbeats 4000000 in
theorem zj3 (s : ByteArray) (w : World) (hs : s.size ≤ 1000) :
  Calls Tryz.prog 125 #[.string s] w fun e w' => e = .returned (.bool (ze2 s.data.toList)) ∧ Below w.heap.size w w' := by
 go_enter Tryz.func125, Tryz.ntmps125
 go_wp2
 go_step3
 go_wp2_with fail
 refine (zd7 s _ hs).mono ?_
 rintro e w1 ⟨WB, A, cap, rfl, hrd, hsp, hx, hlen, hlen1, hb⟩
 have HSP := hid hsp
 have HX := hid hx
 obtain ⟨A', cap', hv, hcap, hmax, hc⟩ := hrd.flat
 injection hv with e1 e2 e3
 subst e1
 have HC := hid hc
 clear hsp hx hc hrd e2 e3
 have HB := hid hb
 have HL := hid (show (qe8 46 s.data.toList).length = WB.length by rw [← HSP.out, List.length_map])
 have HT : Hid (ze2 s.data.toList = (decide (WB.length ≤ 4) && WB.all fun x => tagB x.data.toList)) := hid (by
  unfold ze2
  rw [HL.out, ← HSP.out, List.all_map]; rfl)
 obtain ⟨g4, hg4⟩ : ∃ g4, decide ((WB.length : Int) ≤ 4) = g4 := ⟨_, rfl⟩
 have HG4 : Hid (decide (WB.length ≤ 4) = g4) := hid (by rw [← hg4]; exact decide_eq_decide.2 (by omega))
 obtain ⟨n, hn⟩ : ∃ n, WB.length = n := ⟨_, rfl⟩
 have HN := hid hn
 rw [hn] at hlen hlen1 hcap hg4 ⊢
 have hsz1 := hb.size
 clear hb hn
 go_wp2
 go_step3
 go_wp2
 go_loopw [4, 6, 8, 16] (fun gv _ _ iv wr => ∃ k : Nat, k ≤ n ∧ iv = .int .i64 k ∧ gv = .bool g4 ∧ Hid ((WB.take k).all (fun x => tagB x.data.toList) = true) ∧ Hid (Below w1.heap.size w1 wr)) (fun _ _ _ iv _ => n - (intOf iv).toNat)
 case atStart => exact ⟨0, Nat.zero_le _, rfl, rfl, hid rfl, hid (b0 w1)⟩
 case round =>
  obtain ⟨k, hk, rfl, rfl, hall, hbr⟩ := hrel
  rename World => wo
  by_cases hlt : k < n
  ·have hltW : k < WB.length := by rw [HN.out]; exact hlt
   obtain ⟨g, o, hA, hF, -, hcell⟩ := HC.out k hltW
   subst hA
   have c0 := hcell 0 _ rfl
   have hxk : (WB[k]).size ≤ 1000 := by have := HX.out _ (List.getElem_mem hltW); omega
   have HAT := hid (show (WB.take (k + 1)).all (fun x => tagB x.data.toList) = ((WB.take k).all (fun x => tagB x.data.toList) && tagB (WB[k]).data.toList) by rw [List.take_succ_eq_append_getElem hltW, List.all_append]; simp)
   have HBAD : Hid (tagB (WB[k]).data.toList = false → ze2 s.data.toList = false) := hid (fun hf => by
    rw [HT.out, Bool.and_eq_false_iff]
    refine .inr ?_
    rw [List.all_eq_false]
    exact ⟨WB[k], List.getElem_mem hltW, by rw [hf]; simp⟩)
   simp only [fStr, Nat.mul_one, Nat.add_zero] at c0
   have d0 := cell_below hbr.out hF c0
   clear hcell c0
   have i2 : (0 : Int) ≤ ↑k := by omega
   have i3 : (↑k : Int) < ↑n := by omega
   have hwk : IntKind.i64.wrap (↑k + 1) = (↑k : Int) + 1 := IntWalk.i64_in _ (by omega)
   generalize WB[k] = t at *
   have HSZ := hid (show t.data.toList.length = t.size by simp)
   have hend : ∀ w' : World, tagB t.data.toList = false → Below wo.heap.size wo w' → (Ending.returned (.bool false) = Ending.returned (.bool (ze2 s.data.toList)) ∧ Below w.heap.size w w') := fun _ h h' => ⟨by rw [HBAD.out h], HB.out.trans ((hbr.out.trans (h'.mono hbr.out.size)).mono hsz1)⟩
   have HEND := hid hend
   clear hend
   by_cases h0 : t.size < 1
   ·have e0 := qe2 (s := t) (by omega)
    have HF0 : Hid (tagB t.data.toList = false) := hid (by unfold tagB; rw [HSZ.out, decide_eq_false (by omega : ¬ 1 ≤ t.size)]; rfl)
    go_wp2
    try rw [Exit.noGoto_ret]
    go_ret
    exact HEND.out _ HF0.out (b0 wo)
   ·have e0 := qb9 (s := t) (by omega)
    by_cases h8 : (8 : Int) < t.size
    ·have HF0 : Hid (tagB t.data.toList = false) := hid (by unfold tagB; rw [HSZ.out, decide_eq_false (by omega : ¬ t.size ≤ 8)]; simp)
     have e8 : decide ((8 : Int) < t.size) = true := decide_eq_true h8
     go_wp2
     try rw [Exit.noGoto_ret]
     go_ret
     exact HEND.out _ HF0.out (b0 wo)
    ·have HT2 : Hid (tagB t.data.toList = t.data.toList.all tagC) := hid (by unfold tagB; rw [HSZ.out, decide_eq_true (by omega : 1 ≤ t.size), decide_eq_true (by omega : t.size ≤ 8)]; rfl)
     have e8 : decide ((8 : Int) < t.size) = false := decide_eq_false h8
     go_wp2_with fail
     go_loopw [4, 8] (fun gv _ w2 => ∃ pos : Nat, pos ≤ t.size ∧ gv = .bool g4 ∧ w2 = wo.iter t pos ∧ Hid ((t.data.toList.take pos).all tagC = true)) (fun _ _ w2 => t.size - w2.iterPos wo.heap.size)
     case atStart => exact ⟨0, Nat.zero_le _, rfl, rfl, hid rfl⟩
     case round =>
      obtain ⟨pos, hpos, rfl, rfl, hall2⟩ := hrel
      by_cases hp : pos < t.size
      ·have hnx : ∀ ty, (Instr.next (.pointer (some ⟨wo.heap.size, 0, none⟩)) true ty).run Tryz.prog (wo.iter t pos) = _ := fun ty => run_next_any wo t pos ty hp
       have hltp : pos < t.data.toList.length := by rw [HSZ.out]; exact hp
       by_cases hw : tagC t[pos] = true
       ·have hw' := (qv7 _).1 hw
        have ha : t[pos].toNat < 128 := by omega
        have hd := decode_ascii t pos hp ha
        rw [hd] at hnx
        have HALL := hid (all_next (p := tagC) hltp hall2.out hw)
        have HR : Hid (∃ p, p ≤ t.size ∧ Value.bool g4 = .bool g4 ∧ wo.iter t (pos + 1) = wo.iter t p ∧ Hid ((t.data.toList.take p).all tagC = true)) := hid ⟨pos + 1, by omega, rfl, rfl, HALL⟩
        clear hd hw
        rcases hw' with ⟨a1, a2⟩ | ⟨a1, a2⟩ | a1
        ·have e1 : ¬ (t[pos].toNat : Int) < 97 := by omega
         have e2 : ¬ (122 : Int) < t[pos].toNat := by omega
         have e3 : decide ((122 : Int) < t[pos].toNat) = false := decide_eq_false e2
         go_wp2
         exact ⟨HR.out, by simp; omega⟩
        ·have e1 : (t[pos].toNat : Int) < 97 := by omega
         have e2 : ¬ (t[pos].toNat : Int) < 48 := by omega
         have e3 : ¬ (57 : Int) < t[pos].toNat := by omega
         have e4 : decide ((57 : Int) < t[pos].toNat) = false := decide_eq_false e3
         go_wp2
         exact ⟨HR.out, by simp; omega⟩
        ·have e1 : (t[pos].toNat : Int) < 97 := by omega
         have e2 : (t[pos].toNat : Int) < 48 := by omega
         have e3 : ((t[pos].toNat : Int) != 45) = false := by simp; omega
         clear a1
         go_wp2
         exact ⟨HR.out, by simp; omega⟩
       ·have HF0 : Hid (tagB t.data.toList = false) := hid (by
         rw [HT2.out, List.all_eq_false]
         exact ⟨t[pos], by rw [← ql8 t pos hp]; exact List.getElem_mem _, hw⟩)
        obtain ⟨r, m, hr, hrx⟩ : ∃ (r : Nat) (m : Nat), Utf8.decode t pos = (r, m) ∧ ((r < 48 ∧ r ≠ 45) ∨ (57 < r ∧ r < 97) ∨ 122 < r) := by
         refine ⟨(Utf8.decode t pos).1, (Utf8.decode t pos).2, rfl, ?_⟩
         by_cases ha : t[pos].toNat < 128
         ·rw [decode_ascii t pos hp ha]
          show (t[pos].toNat < 48 ∧ _) ∨ _
          rw [qv7] at hw
          omega
         ·have := (decode_high t pos hp (by omega)).1
          omega
        rw [hr] at hnx
        clear hr hw
        rcases hrx with ⟨h, h'⟩ | ⟨h, h'⟩ | h
        ·have e1 : (r : Int) < 97 := by omega
         have e2 : (r : Int) < 48 := by omega
         have e3 : ((r : Int) != 45) = true := by simp; omega
         clear h'
         go_wp2
         try rw [Exit.noGoto_ret]
         go_ret
         exact HEND.out _ HF0.out (ql2 wo t _)
        ·have e1 : (r : Int) < 97 := by omega
         have e2 : ¬ (r : Int) < 48 := by omega
         have e4 : (57 : Int) < r := by omega
         have e3 : ((r : Int) != 45) = true := by simp; omega
         go_wp2
         try rw [Exit.noGoto_ret]
         go_ret
         exact HEND.out _ HF0.out (ql2 wo t _)
        ·have e1 : ¬ (r : Int) < 97 := by omega
         have e2 : ¬ (r : Int) < 48 := by omega
         have e4 : (57 : Int) < r := by omega
         have e5 : (122 : Int) < r := by omega
         have e3 : ((r : Int) != 45) = true := by simp; omega
         go_wp2
         try rw [Exit.noGoto_ret]
         go_ret
         exact HEND.out _ HF0.out (ql2 wo t _)
      ·have hnx : ∀ ty, (Instr.next (.pointer (some ⟨wo.heap.size, 0, none⟩)) true ty).run Tryz.prog (wo.iter t pos) = _ := fun ty => run_next_end wo t pos ty hp
       have HOK : Hid (tagB t.data.toList = true) := hid (by
        have := hall2.out
        rw [List.take_of_length_le (by rw [HSZ.out]; omega)] at this
        rw [HT2.out, this])
       go_wp2
       exact ⟨⟨k + 1, by omega, by go_num, rfl, hid (by rw [HAT.out, hall.out, HOK.out]; rfl), hid (qa1 hbr.out (ql2 wo t pos))⟩, by simp [intOf]; omega⟩
  ·have hkn : k = n := by omega
   have HV : Hid (g4 = ze2 s.data.toList) := hid (by
    rw [HT.out, HG4.out]
    have := hall.out
    rw [List.take_of_length_le (by rw [HN.out]; omega)] at this
    rw [this, Bool.and_true])
   clear hkn
   go_wp2
   try rw [Exit.noGoto_ret]
   go_ret
   exact ⟨qa4 HV.out, HB.out.trans (hbr.out.mono hsz1)⟩
set_option maxRecDepth 100000 in
set_option maxHeartbeats 4000000 in
theorem ppre_any (s : ByteArray) (w : World) (hs : s.size ≤ 1000) :
  Calls Tryz.prog 124 #[.string s] w fun e w' => e = .returned (.bool (preB s.data.toList)) ∧ Below w.heap.size w w' := by
 cases ht : ze2 s.data.toList with
 | false =>
  have HTG := hid ht
  have HP : Hid (preB s.data.toList = false) := hid (by unfold preB; rw [ht]; rfl)
  clear ht
  go_enter Tryz.func124, Tryz.ntmps124
  go_wp2_with (go_at_call 125; (with_reducible refine (zj3 s _ hs).mono ?_); rintro e w1 ⟨rfl, hb1⟩; rw [HTG.out]; have HB1 := hid hb1; clear hb1)
  go_ret
  exact ⟨qa4 HP.out.symm, HB1.out⟩
 | true =>
  have HTG := hid ht
  have HP : Hid (preB s.data.toList = (qe8 46 s.data.toList).all fun t => !(qd4 t && (qc7 t).isNone)) := hid (by unfold preB; rw [ht]; rfl)
  clear ht
  go_enter Tryz.func124, Tryz.ntmps124
  go_wp2_with (first
   | (go_at_call 125; (with_reducible refine (zj3 s _ hs).mono ?_); rintro e w0 ⟨rfl, hb0⟩; rw [HTG.out]; have HB0 := hid hb0; clear hb0)
   | (go_at_call 150; refine (zd7 s _ hs).mono ?_; rintro e w1 ⟨WB, A, cap, rfl, hrd, hsp, hx, hlen, hlen1, hb⟩; have HSP := hid hsp; have HX := hid hx; obtain ⟨A', cap', hv, hcap, hmax, hc⟩ := hrd.flat; injection hv with e1 e2 e3; subst e1; have HC := hid hc; clear hsp hx hc hrd e2 e3; have HB := hid (qa1 HB0.out hb); clear hb))
  have HT : Hid (preB s.data.toList = WB.all fun x => !(qd4 x.data.toList && (qc7 x.data.toList).isNone)) := hid (by
   rw [HP.out, ← HSP.out, List.all_map]; rfl)
  obtain ⟨n, hn⟩ : ∃ n, WB.length = n := ⟨_, rfl⟩
  have HN := hid hn
  rw [hn] at hlen hlen1 hcap ⊢
  have hsz1 := HB.out.size
  clear hn
  go_loopw [4, 5, 6, 13] (fun _ _ _ iv wr => ∃ k : Nat, k ≤ n ∧ iv = .int .i64 k ∧ Hid ((WB.take k).all (fun x => !(qd4 x.data.toList && (qc7 x.data.toList).isNone)) = true) ∧ Hid (Below w1.heap.size w1 wr)) (fun _ _ _ iv _ => n - (intOf iv).toNat)
  case atStart => exact ⟨0, Nat.zero_le _, rfl, hid rfl, hid (b0 w1)⟩
  case round =>
   obtain ⟨k, hk, rfl, hall, hbr⟩ := hrel
   by_cases hlt : k < n
   ·have hltW : k < WB.length := by rw [HN.out]; exact hlt
    obtain ⟨g, o, hA, hF, -, hcell⟩ := HC.out k hltW
    subst hA
    have c0 := hcell 0 _ rfl
    have hxk : (WB[k]).size ≤ 1000 := by have := HX.out _ (List.getElem_mem hltW); omega
    have HAT := hid (show (WB.take (k + 1)).all (fun x => !(qd4 x.data.toList && (qc7 x.data.toList).isNone)) = ((WB.take k).all (fun x => !(qd4 x.data.toList && (qc7 x.data.toList).isNone)) && !(qd4 (WB[k]).data.toList && (qc7 (WB[k]).data.toList).isNone)) by rw [List.take_succ_eq_append_getElem hltW, List.all_append]; simp)
    have HBAD : Hid ((!(qd4 (WB[k]).data.toList && (qc7 (WB[k]).data.toList).isNone)) = false → preB s.data.toList = false) := hid (fun hf => by
     rw [HT.out, List.all_eq_false]
     exact ⟨WB[k], List.getElem_mem hltW, by rw [hf]; simp⟩)
    simp only [fStr, Nat.mul_one, Nat.add_zero] at c0
    have d0 := cell_below hbr.out hF c0
    clear hcell c0
    have i2 : (0 : Int) ≤ ↑k := by omega
    have i3 : (↑k : Int) < ↑n := by omega
    have hwk : IntKind.i64.wrap (↑k + 1) = (↑k : Int) + 1 := IntWalk.i64_in _ (by omega)
    generalize WB[k] = t at *
    have HNR := hid (zi7 t.data.toList)
    cases hnb : qd4 t.data.toList <;> cases hnf : (qc7 t.data.toList).isSome
    all_goals
     have HNB := hid hnb
     have HNF := hid hnf
     have HNN : Hid ((qc7 t.data.toList).isNone = !(qc7 t.data.toList).isSome) := hid (by cases qc7 t.data.toList <;> rfl)
     clear hnb hnf
     go_wp2_with (first
      | (go_at_call 151; (with_reducible refine (inumber_any t _).mono ?_); rintro e w2 ⟨rfl, hb2⟩; rw [HNR.out, HNF.out]; have HB2 := hid (qa1 hbr.out hb2); clear hb2)
      | (go_at_call 152; (with_reducible refine (pnumeric_any t _ hxk).mono ?_); rintro e w' ⟨rfl, hww⟩; rw [hww, HNB.out]; clear hww))
     first
      | exact ⟨⟨k + 1, by omega, by go_num, hid (by rw [HAT.out, hall.out, HNB.out, HNN.out, HNF.out]; rfl), HB2⟩, by simp [intOf]; omega⟩
      | (go_ret; exact ⟨qa4 (HBAD.out (by rw [HNB.out, HNN.out, HNF.out]; rfl)).symm, HB.out.trans (HB2.out.mono hsz1)⟩)
   ·have hkn : k = n := by omega
    have HV : Hid (preB s.data.toList = true) := hid (by
     rw [HT.out]
     have := hall.out
     rwa [List.take_of_length_le (by rw [HN.out]; omega)] at this)
    clear hkn
    go_wp2
    go_ret
    exact ⟨qa4 HV.out.symm, HB.out.trans (hbr.out.mono hsz1)⟩
end
section
set_option maxHeartbeats 2000000 in
theorem pvmay_any (a b c : Int) (p q : ByteArray) (w : World) (h : VB a b c p q) :
  Calls Tryz.prog 91 #[.agg #[.int .i64 a, .int .i64 b, .int .i64 c, .string p, .string q]] w fun e w' => e = .returned (.bool (mayV ⟨a, b, c, p, q⟩)) ∧ Below w.heap.size w w' := by
 obtain ⟨-, -, -, hp, hq⟩ := h
 have HP : Hid (p.size = 0 ∨ (0 < p.size ∧ qp2 p.data.toList true = preB p.data.toList)) := hid (by
  by_cases h0 : p.size = 0
  ·exact .inl h0
  ·exact .inr ⟨by omega, tagsF_p (qr4 (by omega))⟩)
 have HQ : Hid (q.size = 0 ∨ (0 < q.size ∧ qp2 q.data.toList false = ze2 q.data.toList)) := hid (by
  by_cases h0 : q.size = 0
  ·exact .inl h0
  ·exact .inr ⟨by omega, tagsF_b (qr4 (by omega))⟩)
 rcases HP.out with h0 | ⟨h0, hpt⟩
 all_goals rcases HQ.out with h1 | ⟨h1, hqt⟩
 all_goals
  first | (have e0 := qe2 h0; have hpt : qp2 p.data.toList true = true := by unfold qp2; rw [zb8 h0]; rfl) | (have e0 := qb9 (s := p) h0)
  first | (have e1 := qe2 h1; have hqt : qp2 q.data.toList false = true := by unfold qp2; rw [zb8 h1]; rfl) | (have e1 := qb9 (s := q) h1)
  have HPT := hid hpt
  have HQT := hid hqt
  clear h0 h1 hpt hqt HP HQ
  go_enter Tryz.func91, Tryz.ntmps91
  go_wp2_with (first
   | (go_at_call 123; refine (pfits_any _ _).mono ?_; rintro e w' ⟨rfl, rfl⟩)
   | (go_at_call 124; (with_reducible refine (ppre_any p _ hp).mono ?_); rintro e w1 ⟨rfl, hb1⟩; obtain ⟨hbc, hbf⟩ := qb4 hb1)
   | (go_at_call 125; (with_reducible refine (zj3 q _ hq).mono ?_); rintro e w2 ⟨rfl, hb2⟩))
  all_goals go_ret
  all_goals refine ⟨qa4 (by have h1 := HPT.out; have h2 := HQT.out; simp [mayV, *]), ?_⟩
  all_goals first
   | exact qa0 (b0 w) _
   | exact qa1 (qa0 (b0 w) _) hb1
   | exact qa1 (qa0 (b0 w) _) hb2
   | exact qa1 (qa1 (qa0 (b0 w) _) hb1) hb2
end
end Go.Proofs.YtbfbppjccbppiaaGreatDoor
