import Derived.Test.YthneiolcljnbeaaGreatDoorzN10
import Derived.Test.YthneiolcljnbeaaGreatDoorzV4
import Derived.Outline
import Derived.Test.YthneiolcljnbeaaGreatDoorV7
import Derived.Test.YthneiolcljnbeaaGreatDoorzV8
namespace Go.Proofs.YthneiolcljnbeaaGreatDoor
open Go Go.RowKit
section
set_option maxHeartbeats 1000000 in
theorem pnumeric_any (s : ByteArray) (w : World) (hs : s.size ≤ 1000) :
  Calls Tryz.prog 152 #[.string s] w fun e w' => e = .returned (.bool (numericB s.data.toList)) ∧ w' = w := by
 have HSZ := hid (show s.data.toList.length = s.size by simp)
 go_enter Tryz.func152, Tryz.ntmps152
 go_wp2
 go_loopw [3, 6] (fun _ iv wr => ∃ k : Nat, k ≤ s.size ∧ iv = .int .i64 k ∧ Hid ((s.data.toList.take k).all digC = true) ∧ wr = w) (fun _ iv _ => s.size - (intOf iv).toNat)
 case atStart => exact ⟨0, Nat.zero_le _, rfl, hid rfl, rfl⟩
 case round =>
  obtain ⟨k, hk, rfl, hall, rfl⟩ := hrel
  by_cases hlt : k < s.size
  ·have hlt' : k < s.data.toList.length := by rw [HSZ.out]; exact hlt
   have hu := s[k].toNat_lt
   have HAT := hid (show (s.data.toList.take (k + 1)).all digC = ((s.data.toList.take k).all digC && digC s[k]) by rw [List.take_succ_eq_append_getElem hlt', List.all_append]; simp; rfl)
   have i1 : (0 : Int) ≤ ↑k := by omega
   have i2 : (↑k : Int) < ↑s.size := by omega
   by_cases hd : digC s[k] = true
   ·have HD := hid hd
    simp only [digC, Bool.and_eq_true, decide_eq_true_eq] at hd
    have e1 : ¬ (s[k].toNat : Int) < 48 := by omega
    have e2 : ¬ (57 : Int) < s[k].toNat := by omega
    clear hd
    go_wp2
    exact ⟨⟨k + 1, by omega, by go_num, hid (by rw [HAT.out, hall.out, HD.out]; rfl), trivial⟩, by simp [intOf]; omega⟩
   ·have HN : Hid (numericB s.data.toList = false) := hid (by
     unfold numericB
     rw [Bool.and_eq_false_iff]
     refine .inr ?_
     rw [List.all_eq_false]
     exact ⟨s[k], by rw [← byte_list s k hlt]; exact List.getElem_mem _, hd⟩)
    have hd2 : s[k].toNat < 48 ∨ 57 < s[k].toNat := by
     simp only [digC, Bool.and_eq_true, decide_eq_true_eq] at hd
     omega
    clear hd
    rcases hd2 with h | h
    ·have e1 : (s[k].toNat : Int) < 48 := by omega
     go_wp2
     go_ret
     exact ⟨ret_bool HN.out.symm, rfl⟩
    ·have e1 : ¬ (s[k].toNat : Int) < 48 := by omega
     have e2 : (57 : Int) < s[k].toNat := by omega
     go_wp2
     go_ret
     exact ⟨ret_bool HN.out.symm, rfl⟩
  ·have hk' : k = s.size := by omega
   have HA : Hid (s.data.toList.all digC = true) := hid (by
    have := hall.out
    rwa [hk', List.take_of_length_le (by rw [HSZ.out]; omega)] at this)
   clear hk'
   by_cases h0 : 0 < s.size
   ·have e0 := nonempty_toList (s := s) h0
    have HN : Hid (numericB s.data.toList = true) := hid (by unfold numericB; rw [HA.out, isEmpty_false HSZ.out h0]; rfl)
    go_wp2
    go_ret
    exact ⟨ret_bool HN.out.symm, rfl⟩
   ·have e0 := empty_toList (s := s) (by omega)
    have HN : Hid (numericB s.data.toList = false) := hid (by
     have : s.data.toList = [] := List.eq_nil_of_length_eq_zero (by rw [HSZ.out]; omega)
     rw [this]; rfl)
    go_wp2
    go_ret
    exact ⟨ret_bool HN.out.symm, rfl⟩
def tagsB (s : List UInt8) : Bool := decide ((splitC 46 s).length ≤ 4) && (splitC 46 s).all tagB
def preB (s : List UInt8) : Bool := tagsB s && (splitC 46 s).all fun t => !(numericB t && (numberF t).isNone)
theorem all_both {α : Type} (l : List α) (f g : α → Bool) : (l.all f && l.all g) = l.all fun x => f x && g x := by
 induction l with
 | nil => rfl
 | cons x l ih =>
  simp only [List.all_cons, ← ih]
  cases f x <;> cases g x <;> cases l.all f <;> simp
theorem tagsF_b {s : List UInt8} (h : s.isEmpty = false) : tagsF s false = tagsB s := by
 unfold tagsF tagsB
 rw [h, Bool.false_or]
 congr 2
 funext t
 unfold tagOk
 simp
theorem tagsF_p {s : List UInt8} (h : s.isEmpty = false) : tagsF s true = preB s := by
 unfold tagsF preB tagsB
 rw [h, Bool.false_or, Bool.and_assoc, all_both]
 rfl
theorem iwords46_any (s : ByteArray) (w : World) (hs : s.size ≤ 1000) : Calls Tryz.prog 150 #[.string s, .int .u8 46] w (WordsPost 46 s w) := iwords_any s 46 w hs
set_option maxRecDepth 100000 in
set_option maxHeartbeats 4000000 in
theorem ptags_any (s : ByteArray) (w : World) (hs : s.size ≤ 1000) :
  Calls Tryz.prog 123 #[.string s] w fun e w' => e = .returned (.bool (tagsB s.data.toList)) ∧ Below w.heap.size w w' := by
 go_enter Tryz.func123, Tryz.ntmps123
 go_wp2
 go_step3
 go_wp2_with fail
 refine (iwords46_any s _ hs).mono ?_
 rintro e w1 ⟨WB, A, cap, rfl, hrd, hsp, hx, hlen, hlen1, hb⟩
 have HSP := hid hsp
 have HX := hid hx
 obtain ⟨A', cap', hv, hcap, hmax, hc⟩ := hrd.flat
 injection hv with e1 e2 e3
 subst e1
 have HC := hid hc
 clear hsp hx hc hrd e2 e3
 have HB := hid hb
 have HL := hid (show (splitC 46 s.data.toList).length = WB.length by rw [← HSP.out, List.length_map])
 have HT : Hid (tagsB s.data.toList = (decide (WB.length ≤ 4) && WB.all fun x => tagB x.data.toList)) := hid (by
  unfold tagsB
  rw [HL.out, ← HSP.out, List.all_map]; rfl)
 obtain ⟨g4, hg4⟩ : ∃ g4, decide ((WB.length : Int) ≤ 4) = g4 := ⟨_, rfl⟩
 have HG4 : Hid (decide (WB.length ≤ 4) = g4) := hid (by rw [← hg4]; exact decide_eq_decide.2 (by omega))
 obtain ⟨n, hn⟩ : ∃ n, WB.length = n := ⟨_, rfl⟩
 have HN := hid hn
 rw [hn] at hlen hlen1 hcap hg4 ⊢
 have hsz1 := hb.size
 clear hb hn
 go_wp2
 go_step3
 go_wp2
 go_loopw [4, 6, 8, 16] (fun gv _ _ iv wr => ∃ k : Nat, k ≤ n ∧ iv = .int .i64 k ∧ gv = .bool g4 ∧ Hid ((WB.take k).all (fun x => tagB x.data.toList) = true) ∧ Hid (Below w1.heap.size w1 wr)) (fun _ _ _ iv _ => n - (intOf iv).toNat)
 case atStart => exact ⟨0, Nat.zero_le _, rfl, rfl, hid rfl, hid (b0 w1)⟩
 case round =>
  obtain ⟨k, hk, rfl, rfl, hall, hbr⟩ := hrel
  rename World => wo
  by_cases hlt : k < n
  ·have hltW : k < WB.length := by rw [HN.out]; exact hlt
   obtain ⟨g, o, hA, hF, -, hcell⟩ := HC.out k hltW
   subst hA
   have c0 := hcell 0 _ rfl
   have hxk : (WB[k]).size ≤ 1000 := by have := HX.out _ (List.getElem_mem hltW); omega
   have HAT := hid (show (WB.take (k + 1)).all (fun x => tagB x.data.toList) = ((WB.take k).all (fun x => tagB x.data.toList) && tagB (WB[k]).data.toList) by rw [List.take_succ_eq_append_getElem hltW, List.all_append]; simp)
   have HBAD : Hid (tagB (WB[k]).data.toList = false → tagsB s.data.toList = false) := hid (fun hf => by
    rw [HT.out, Bool.and_eq_false_iff]
    refine .inr ?_
    rw [List.all_eq_false]
    exact ⟨WB[k], List.getElem_mem hltW, by rw [hf]; simp⟩)
   simp only [fStr, Nat.mul_one, Nat.add_zero] at c0
   have d0 := cell_below hbr.out hF c0
   clear hcell c0
   have i2 : (0 : Int) ≤ ↑k := by omega
   have i3 : (↑k : Int) < ↑n := by omega
   have hwk : IntKind.i64.wrap (↑k + 1) = (↑k : Int) + 1 := IntWalk.i64_in _ (by omega)
   generalize WB[k] = t at *
   have HSZ := hid (show t.data.toList.length = t.size by simp)
   have hend : ∀ w' : World, tagB t.data.toList = false → Below wo.heap.size wo w' → (Ending.returned (.bool false) = Ending.returned (.bool (tagsB s.data.toList)) ∧ Below w.heap.size w w') := fun _ h h' => ⟨by rw [HBAD.out h], HB.out.trans ((hbr.out.trans (h'.mono hbr.out.size)).mono hsz1)⟩
   have HEND := hid hend
   clear hend
   by_cases h0 : t.size < 1
   ·have e0 := empty_toList (s := t) (by omega)
    have HF0 : Hid (tagB t.data.toList = false) := hid (by unfold tagB; rw [HSZ.out, decide_eq_false (by omega : ¬ 1 ≤ t.size)]; rfl)
    go_wp2
    try rw [Exit.noGoto_ret]
    go_ret
    exact HEND.out _ HF0.out (b0 wo)
   ·have e0 := nonempty_toList (s := t) (by omega)
    by_cases h8 : (8 : Int) < t.size
    ·have HF0 : Hid (tagB t.data.toList = false) := hid (by unfold tagB; rw [HSZ.out, decide_eq_false (by omega : ¬ t.size ≤ 8)]; simp)
     have e8 : decide ((8 : Int) < t.size) = true := decide_eq_true h8
     go_wp2
     try rw [Exit.noGoto_ret]
     go_ret
     exact HEND.out _ HF0.out (b0 wo)
    ·have HT2 : Hid (tagB t.data.toList = t.data.toList.all tagC) := hid (by unfold tagB; rw [HSZ.out, decide_eq_true (by omega : 1 ≤ t.size), decide_eq_true (by omega : t.size ≤ 8)]; rfl)
     have e8 : decide ((8 : Int) < t.size) = false := decide_eq_false h8
     go_wp2_with fail
     go_loopw [4, 8] (fun gv _ w2 => ∃ pos : Nat, pos ≤ t.size ∧ gv = .bool g4 ∧ w2 = wo.iter t pos ∧ Hid ((t.data.toList.take pos).all tagC = true)) (fun _ _ w2 => t.size - w2.iterPos wo.heap.size)
     case atStart => exact ⟨0, Nat.zero_le _, rfl, rfl, hid rfl⟩
     case round =>
      obtain ⟨pos, hpos, rfl, rfl, hall2⟩ := hrel
      by_cases hp : pos < t.size
      ·have hnx : ∀ ty, (Instr.next (.pointer (some ⟨wo.heap.size, 0, none⟩)) true ty).run Tryz.prog (wo.iter t pos) = _ := fun ty => run_next_any wo t pos ty hp
       have hltp : pos < t.data.toList.length := by rw [HSZ.out]; exact hp
       by_cases hw : tagC t[pos] = true
       ·have hw' := (tagC_cases _).1 hw
        have ha : t[pos].toNat < 128 := by omega
        have hd := decode_ascii t pos hp ha
        rw [hd] at hnx
        have HALL := hid (all_next (p := tagC) hltp hall2.out hw)
        have HR : Hid (∃ p, p ≤ t.size ∧ Value.bool g4 = .bool g4 ∧ wo.iter t (pos + 1) = wo.iter t p ∧ Hid ((t.data.toList.take p).all tagC = true)) := hid ⟨pos + 1, by omega, rfl, rfl, HALL⟩
        clear hd hw
        rcases hw' with ⟨a1, a2⟩ | ⟨a1, a2⟩ | a1
        ·have e1 : ¬ (t[pos].toNat : Int) < 97 := by omega
         have e2 : ¬ (122 : Int) < t[pos].toNat := by omega
         have e3 : decide ((122 : Int) < t[pos].toNat) = false := decide_eq_false e2
         go_wp2
         exact ⟨HR.out, by simp; omega⟩
        ·have e1 : (t[pos].toNat : Int) < 97 := by omega
         have e2 : ¬ (t[pos].toNat : Int) < 48 := by omega
         have e3 : ¬ (57 : Int) < t[pos].toNat := by omega
         have e4 : decide ((57 : Int) < t[pos].toNat) = false := decide_eq_false e3
         go_wp2
         exact ⟨HR.out, by simp; omega⟩
        ·have e1 : (t[pos].toNat : Int) < 97 := by omega
         have e2 : (t[pos].toNat : Int) < 48 := by omega
         have e3 : ((t[pos].toNat : Int) != 45) = false := by simp; omega
         clear a1
         go_wp2
         exact ⟨HR.out, by simp; omega⟩
       ·have HF0 : Hid (tagB t.data.toList = false) := hid (by
         rw [HT2.out, List.all_eq_false]
         exact ⟨t[pos], by rw [← byte_list t pos hp]; exact List.getElem_mem _, hw⟩)
        obtain ⟨r, m, hr, hrx⟩ : ∃ (r : Nat) (m : Nat), Utf8.decode t pos = (r, m) ∧ ((r < 48 ∧ r ≠ 45) ∨ (57 < r ∧ r < 97) ∨ 122 < r) := by
         refine ⟨(Utf8.decode t pos).1, (Utf8.decode t pos).2, rfl, ?_⟩
         by_cases ha : t[pos].toNat < 128
         ·rw [decode_ascii t pos hp ha]
          show (t[pos].toNat < 48 ∧ _) ∨ _
          rw [tagC_cases] at hw
          omega
         ·have := (decode_high t pos hp (by omega)).1
          omega
        rw [hr] at hnx
        clear hr hw
        rcases hrx with ⟨h, h'⟩ | ⟨h, h'⟩ | h
        ·have e1 : (r : Int) < 97 := by omega
         have e2 : (r : Int) < 48 := by omega
         have e3 : ((r : Int) != 45) = true := by simp; omega
         clear h'
         go_wp2
         try rw [Exit.noGoto_ret]
         go_ret
         exact HEND.out _ HF0.out (below_iter wo t _)
        ·have e1 : (r : Int) < 97 := by omega
         have e2 : ¬ (r : Int) < 48 := by omega
         have e4 : (57 : Int) < r := by omega
         have e3 : ((r : Int) != 45) = true := by simp; omega
         go_wp2
         try rw [Exit.noGoto_ret]
         go_ret
         exact HEND.out _ HF0.out (below_iter wo t _)
        ·have e1 : ¬ (r : Int) < 97 := by omega
         have e2 : ¬ (r : Int) < 48 := by omega
         have e4 : (57 : Int) < r := by omega
         have e5 : (122 : Int) < r := by omega
         have e3 : ((r : Int) != 45) = true := by simp; omega
         go_wp2
         try rw [Exit.noGoto_ret]
         go_ret
         exact HEND.out _ HF0.out (below_iter wo t _)
      ·have hnx : ∀ ty, (Instr.next (.pointer (some ⟨wo.heap.size, 0, none⟩)) true ty).run Tryz.prog (wo.iter t pos) = _ := fun ty => run_next_end wo t pos ty hp
       have HOK : Hid (tagB t.data.toList = true) := hid (by
        have := hall2.out
        rw [List.take_of_length_le (by rw [HSZ.out]; omega)] at this
        rw [HT2.out, this])
       go_wp2
       exact ⟨⟨k + 1, by omega, by go_num, rfl, hid (by rw [HAT.out, hall.out, HOK.out]; rfl), hid (bstep hbr.out (below_iter wo t pos))⟩, by simp [intOf]; omega⟩
  ·have hkn : k = n := by omega
   have HV : Hid (g4 = tagsB s.data.toList) := hid (by
    rw [HT.out, HG4.out]
    have := hall.out
    rw [List.take_of_length_le (by rw [HN.out]; omega)] at this
    rw [this, Bool.and_true])
   clear hkn
   go_wp2
   try rw [Exit.noGoto_ret]
   go_ret
   exact ⟨ret_bool HV.out, HB.out.trans (hbr.out.mono hsz1)⟩
set_option maxRecDepth 100000 in
set_option maxHeartbeats 4000000 in
theorem ppre_any (s : ByteArray) (w : World) (hs : s.size ≤ 1000) :
  Calls Tryz.prog 122 #[.string s] w fun e w' => e = .returned (.bool (preB s.data.toList)) ∧ Below w.heap.size w w' := by
 cases ht : tagsB s.data.toList with
 | false =>
  have HTG := hid ht
  have HP : Hid (preB s.data.toList = false) := hid (by unfold preB; rw [ht]; rfl)
  clear ht
  go_enter Tryz.func122, Tryz.ntmps122
  go_wp2_with (go_at_call 123; (with_reducible refine (ptags_any s _ hs).mono ?_); rintro e w1 ⟨rfl, hb1⟩; rw [HTG.out]; have HB1 := hid hb1; clear hb1)
  go_ret
  exact ⟨ret_bool HP.out.symm, HB1.out⟩
 | true =>
  have HTG := hid ht
  have HP : Hid (preB s.data.toList = (splitC 46 s.data.toList).all fun t => !(numericB t && (numberF t).isNone)) := hid (by unfold preB; rw [ht]; rfl)
  clear ht
  go_enter Tryz.func122, Tryz.ntmps122
  go_wp2_with (first
   | (go_at_call 123; (with_reducible refine (ptags_any s _ hs).mono ?_); rintro e w0 ⟨rfl, hb0⟩; rw [HTG.out]; have HB0 := hid hb0; clear hb0)
   | (go_at_call 150; refine (iwords46_any s _ hs).mono ?_; rintro e w1 ⟨WB, A, cap, rfl, hrd, hsp, hx, hlen, hlen1, hb⟩; have HSP := hid hsp; have HX := hid hx; obtain ⟨A', cap', hv, hcap, hmax, hc⟩ := hrd.flat; injection hv with e1 e2 e3; subst e1; have HC := hid hc; clear hsp hx hc hrd e2 e3; have HB := hid (bstep HB0.out hb); clear hb))
  have HT : Hid (preB s.data.toList = WB.all fun x => !(numericB x.data.toList && (numberF x.data.toList).isNone)) := hid (by
   rw [HP.out, ← HSP.out, List.all_map]; rfl)
  obtain ⟨n, hn⟩ : ∃ n, WB.length = n := ⟨_, rfl⟩
  have HN := hid hn
  rw [hn] at hlen hlen1 hcap ⊢
  have hsz1 := HB.out.size
  clear hn
  go_loopw [4, 5, 6, 13] (fun _ _ _ iv wr => ∃ k : Nat, k ≤ n ∧ iv = .int .i64 k ∧ Hid ((WB.take k).all (fun x => !(numericB x.data.toList && (numberF x.data.toList).isNone)) = true) ∧ Hid (Below w1.heap.size w1 wr)) (fun _ _ _ iv _ => n - (intOf iv).toNat)
  case atStart => exact ⟨0, Nat.zero_le _, rfl, hid rfl, hid (b0 w1)⟩
  case round =>
   obtain ⟨k, hk, rfl, hall, hbr⟩ := hrel
   by_cases hlt : k < n
   ·have hltW : k < WB.length := by rw [HN.out]; exact hlt
    obtain ⟨g, o, hA, hF, -, hcell⟩ := HC.out k hltW
    subst hA
    have c0 := hcell 0 _ rfl
    have hxk : (WB[k]).size ≤ 1000 := by have := HX.out _ (List.getElem_mem hltW); omega
    have HAT := hid (show (WB.take (k + 1)).all (fun x => !(numericB x.data.toList && (numberF x.data.toList).isNone)) = ((WB.take k).all (fun x => !(numericB x.data.toList && (numberF x.data.toList).isNone)) && !(numericB (WB[k]).data.toList && (numberF (WB[k]).data.toList).isNone)) by rw [List.take_succ_eq_append_getElem hltW, List.all_append]; simp)
    have HBAD : Hid ((!(numericB (WB[k]).data.toList && (numberF (WB[k]).data.toList).isNone)) = false → preB s.data.toList = false) := hid (fun hf => by
     rw [HT.out, List.all_eq_false]
     exact ⟨WB[k], List.getElem_mem hltW, by rw [hf]; simp⟩)
    simp only [fStr, Nat.mul_one, Nat.add_zero] at c0
    have d0 := cell_below hbr.out hF c0
    clear hcell c0
    have i2 : (0 : Int) ≤ ↑k := by omega
    have i3 : (↑k : Int) < ↑n := by omega
    have hwk : IntKind.i64.wrap (↑k + 1) = (↑k : Int) + 1 := IntWalk.i64_in _ (by omega)
    generalize WB[k] = t at *
    have HNR := hid (numRes_eq t.data.toList)
    cases hnb : numericB t.data.toList <;> cases hnf : (numberF t.data.toList).isSome
    all_goals
     have HNB := hid hnb
     have HNF := hid hnf
     have HNN : Hid ((numberF t.data.toList).isNone = !(numberF t.data.toList).isSome) := hid (by cases numberF t.data.toList <;> rfl)
     clear hnb hnf
     go_wp2_with (first
      | (go_at_call 151; (with_reducible refine (inumber_any t _).mono ?_); rintro e w2 ⟨rfl, hb2⟩; rw [HNR.out, HNF.out]; have HB2 := hid (bstep hbr.out hb2); clear hb2)
      | (go_at_call 152; (with_reducible refine (pnumeric_any t _ hxk).mono ?_); rintro e w' ⟨rfl, hww⟩; rw [hww, HNB.out]; clear hww))
     first
      | exact ⟨⟨k + 1, by omega, by go_num, hid (by rw [HAT.out, hall.out, HNB.out, HNN.out, HNF.out]; rfl), HB2⟩, by simp [intOf]; omega⟩
      | (go_ret; exact ⟨ret_bool (HBAD.out (by rw [HNB.out, HNN.out, HNF.out]; rfl)).symm, HB.out.trans (HB2.out.mono hsz1)⟩)
   ·have hkn : k = n := by omega
    have HV : Hid (preB s.data.toList = true) := hid (by
     rw [HT.out]
     have := hall.out
     rwa [List.take_of_length_le (by rw [HN.out]; omega)] at this)
    clear hkn
    go_wp2
    go_ret
    exact ⟨ret_bool HV.out.symm, HB.out.trans (hbr.out.mono hsz1)⟩
end
section
set_option maxHeartbeats 2000000 in
theorem pvmay_any (a b c : Int) (p q : ByteArray) (w : World) (h : VB a b c p q) :
  Calls Tryz.prog 101 #[.agg #[.int .i64 a, .int .i64 b, .int .i64 c, .string p, .string q]] w fun e w' => e = .returned (.bool (mayV ⟨a, b, c, p, q⟩)) ∧ Below w.heap.size w w' := by
 obtain ⟨-, -, -, hp, hq⟩ := h
 have HP : Hid (p.size = 0 ∨ (0 < p.size ∧ tagsF p.data.toList true = preB p.data.toList)) := hid (by
  by_cases h0 : p.size = 0
  ·exact .inl h0
  ·exact .inr ⟨by omega, tagsF_p (nonempty_data (by omega))⟩)
 have HQ : Hid (q.size = 0 ∨ (0 < q.size ∧ tagsF q.data.toList false = tagsB q.data.toList)) := hid (by
  by_cases h0 : q.size = 0
  ·exact .inl h0
  ·exact .inr ⟨by omega, tagsF_b (nonempty_data (by omega))⟩)
 rcases HP.out with h0 | ⟨h0, hpt⟩
 all_goals rcases HQ.out with h1 | ⟨h1, hqt⟩
 all_goals
  first | (have e0 := empty_toList h0; have hpt : tagsF p.data.toList true = true := by unfold tagsF; rw [empty_data h0]; rfl) | (have e0 := nonempty_toList (s := p) h0)
  first | (have e1 := empty_toList h1; have hqt : tagsF q.data.toList false = true := by unfold tagsF; rw [empty_data h1]; rfl) | (have e1 := nonempty_toList (s := q) h1)
  have HPT := hid hpt
  have HQT := hid hqt
  clear h0 h1 hpt hqt HP HQ
  go_enter Tryz.func101, Tryz.ntmps101
  go_wp2_with (first
   | (go_at_call 121; refine (pfits_any _ _).mono ?_; rintro e w' ⟨rfl, rfl⟩)
   | (go_at_call 122; (with_reducible refine (ppre_any p _ hp).mono ?_); rintro e w1 ⟨rfl, hb1⟩; obtain ⟨hbc, hbf⟩ := bcell hb1)
   | (go_at_call 123; (with_reducible refine (ptags_any q _ hq).mono ?_); rintro e w2 ⟨rfl, hb2⟩))
  all_goals go_ret
  all_goals refine ⟨ret_bool (by have h1 := HPT.out; have h2 := HQT.out; simp [mayV, *]), ?_⟩
  all_goals first
   | exact balloc (b0 w) _
   | exact bstep (balloc (b0 w) _) hb1
   | exact bstep (balloc (b0 w) _) hb2
   | exact bstep (bstep (balloc (b0 w) _) hb1) hb2
theorem pcore_any (a b c : Int) (p q : ByteArray) (w : World) :
  Calls Tryz.prog 174 #[.agg #[.int .i64 a, .int .i64 b, .int .i64 c, .string p, .string q]] w fun e w' => e = .returned (.agg #[.int .i64 a, .int .i64 b, .int .i64 c, .string p, .string ⟨#[]⟩]) ∧ Below w.heap.size w w' := by
 go_enter Tryz.func174, Tryz.ntmps174
 go_wp2
 refine bodyPost_ret (v := .agg #[.int .i64 a, .int .i64 b, .int .i64 c, .string p, .string ⟨#[]⟩]) (by simp [results, Tryz.results174, go_sem]) rfl ⟨rfl, ?_⟩
 repeat (first | exact b0 _ | refine bset ?_ (by first | exact Nat.le_refl _ | (simp; done)) _ | refine balloc ?_ _)
theorem nani_any (a : Int) (w : World) :
  Calls Tryz.prog 159 #[.int .i64 a] w fun e w' => e = .returned (.bool false) ∧ w' = w := by
 go_enter Tryz.func159, Tryz.ntmps159
 go_wp2
 go_ret
 exact ⟨ret_bool (by simp), rfl⟩
theorem nans_any (a : ByteArray) (w : World) :
  Calls Tryz.prog 178 #[.string a] w fun e w' => e = .returned (.bool false) ∧ w' = w := by
 go_enter Tryz.func178, Tryz.ntmps178
 go_wp2
 go_ret
 exact ⟨ret_bool (by simp), rfl⟩
theorem cmpi_any (a b : Int) (w : World) :
  Calls Tryz.prog 168 #[.int .i64 a, .int .i64 b] w fun e w' => e = .returned (.int .i64 (intsF a b)) ∧ w' = w := by
 by_cases h1 : a < b
 ·have H : Hid (intsF a b = -1) := hid (by unfold intsF; rw [if_pos h1])
  go_enter Tryz.func168, Tryz.ntmps168
  go_wp2_with (go_at_call 159; refine (nani_any _ _).mono ?_; rintro e w' ⟨rfl, rfl⟩)
  go_ret
  exact ⟨ret_int H.out.symm, rfl⟩
 ·by_cases h2 : b < a
  ·have H : Hid (intsF a b = 1) := hid (by unfold intsF; rw [if_neg h1, if_pos h2])
   go_enter Tryz.func168, Tryz.ntmps168
   go_wp2_with (go_at_call 159; refine (nani_any _ _).mono ?_; rintro e w' ⟨rfl, rfl⟩)
   go_ret
   exact ⟨ret_int H.out.symm, rfl⟩
  ·have H : Hid (intsF a b = 0) := hid (by unfold intsF; rw [if_neg h1, if_neg h2])
   go_enter Tryz.func168, Tryz.ntmps168
   go_wp2_with (go_at_call 159; refine (nani_any _ _).mono ?_; rintro e w' ⟨rfl, rfl⟩)
   go_ret
   exact ⟨ret_int H.out.symm, rfl⟩
theorem cmps_any (a b : ByteArray) (w : World) :
  Calls Tryz.prog 177 #[.string a, .string b] w fun e w' => e = .returned (.int .i64 (textsF a b)) ∧ w' = w := by
 go_enter Tryz.func177, Tryz.ntmps177
 go_wp2_with (go_at_call 178; refine (nans_any _ _).mono ?_; rintro e w' ⟨rfl, rfl⟩)
 all_goals go_ret
 all_goals refine ⟨ret_int ?_, rfl⟩
 all_goals unfold textsF
 all_goals simp [*]
def or3 (x y z : Int) : Int := if x ≠ 0 then x else if y ≠ 0 then y else z
theorem or3_any (x y z : Int) (g : Nat) (w : World) (hg : g < w.heap.size) (h0 : w.cell? ⟨g, 0, none⟩ = some (.int .i64 x)) (h1 : w.cell? ⟨g, 1, none⟩ = some (.int .i64 y)) (h2 : w.cell? ⟨g, 2, none⟩ = some (.int .i64 z)) :
  Calls Tryz.prog 175 #[.slice (some ⟨g, 0, none⟩) 3 3] w fun e w' => e = .returned (.int .i64 (or3 x y z)) ∧ w' = w := by
 go_enter Tryz.func175, Tryz.ntmps175
 go_wp2
 go_loopw [5, 8] (fun _ iv wr => ∃ k : Nat, k ≤ 3 ∧ iv = .int .i64 k ∧ wr = w ∧ Hid (0 < k → x = 0) ∧ Hid (1 < k → y = 0) ∧ Hid (2 < k → z = 0)) (fun _ iv _ => 3 - (intOf iv).toNat)
 case atStart => exact ⟨0, by omega, rfl, rfl, hid (fun h => by omega), hid (fun h => by omega), hid (fun h => by omega)⟩
 case round =>
  obtain ⟨k, hk, rfl, rfl, hx, hy, hz⟩ := hrel
  have hcase : k = 0 ∨ k = 1 ∨ k = 2 ∨ k = 3 := by omega
  rcases hcase with rfl | rfl | rfl | rfl
  ·by_cases e : x = 0
   ·have e1 : (x != 0) = false := by rw [e]; rfl
    have HE := hid e
    clear e
    go_wp2
    exact ⟨⟨1, by omega, rfl, trivial, hid (fun _ => HE.out), hid (fun h => by omega), hid (fun h => by omega)⟩, by simp [intOf]⟩
   ·have e1 : (x != 0) = true := by rw [bne_iff_ne]; exact e
    have H : Hid (or3 x y z = x) := hid (by unfold or3; rw [if_pos e])
    clear e
    go_wp2
    go_ret
    exact ⟨ret_int H.out.symm, rfl⟩
  ·have hx0 := hx.out (by omega)
   by_cases e : y = 0
   ·have e1 : (y != 0) = false := by rw [e]; rfl
    have HE := hid e
    clear e hx0
    go_wp2
    exact ⟨⟨2, by omega, rfl, trivial, hid (fun _ => hx.out (by omega)), hid (fun _ => HE.out), hid (fun h => by omega)⟩, by simp [intOf]⟩
   ·have e1 : (y != 0) = true := by rw [bne_iff_ne]; exact e
    have H : Hid (or3 x y z = y) := hid (by unfold or3; rw [if_neg (by simpa using hx0), if_pos e])
    clear e hx0
    go_wp2
    go_ret
    exact ⟨ret_int H.out.symm, rfl⟩
  ·have hx0 := hx.out (by omega)
   have hy0 := hy.out (by omega)
   by_cases e : z = 0
   ·have e1 : (z != 0) = false := by rw [e]; rfl
    have HE := hid e
    clear e hx0 hy0
    go_wp2
    exact ⟨⟨3, by omega, rfl, trivial, hid (fun _ => hx.out (by omega)), hid (fun _ => hy.out (by omega)), hid (fun _ => HE.out)⟩, by simp [intOf]⟩
   ·have e1 : (z != 0) = true := by rw [bne_iff_ne]; exact e
    have H : Hid (or3 x y z = z) := hid (by unfold or3; rw [if_neg (by simpa using hx0), if_neg (by simpa using hy0)])
    clear e hx0 hy0
    go_wp2
    go_ret
    exact ⟨ret_int H.out.symm, rfl⟩
  ·have hx0 := hx.out (by omega)
   have hy0 := hy.out (by omega)
   have hz0 := hz.out (by omega)
   have H : Hid (or3 x y z = 0) := hid (by unfold or3; rw [if_neg (by simpa using hx0), if_neg (by simpa using hy0)]; exact hz0)
   clear hx0 hy0 hz0
   go_wp2
   go_ret
   exact ⟨ret_int H.out.symm, rfl⟩
set_option maxHeartbeats 1000000 in
theorem ptag_any (a b : ByteArray) (w : World) (ha : a.size ≤ 1000) (hb : b.size ≤ 1000) :
  Calls Tryz.prog 176 #[.string a, .string b] w fun e w' => e = .returned (.int .i64 (oneF a b)) ∧ Below w.heap.size w w' := by
 have hC : oneF a b = if numericB a.data.toList = true then (if numericB b.data.toList = true then intsF (numV a.data.toList) (numV b.data.toList) else -1) else if numericB b.data.toList = true then 1 else textsF a b := rfl
 have HC := hid hC
 clear hC
 cases hx : numericB a.data.toList <;> cases hy : numericB b.data.toList
 all_goals
  have HX := hid hx
  have HY := hid hy
  have HC2 := hid HC.out
  clear HC
  have HC := HC2
  clear HC2 hx hy
  go_enter Tryz.func176, Tryz.ntmps176
  go_wp2_with (first
   | (go_at_call 152; (with_reducible refine (pnumeric_any a _ ha).mono ?_); rintro e w' ⟨rfl, hw'⟩; rw [hw', HX.out]; clear hw')
   | (go_at_call 152; (with_reducible refine (pnumeric_any b _ hb).mono ?_); rintro e w' ⟨rfl, hw'⟩; rw [hw', HY.out]; clear hw')
   | (go_at_call 151; (with_reducible refine (inumber_any a _).mono ?_); rintro e w1 ⟨rfl, hb1⟩; rw [numRes_eq]; have HB1 := hid hb1; clear hb1)
   | (go_at_call 151; (with_reducible refine (inumber_any b _).mono ?_); rintro e w2 ⟨rfl, hb2⟩; rw [numRes_eq]; have HB2 := hid (bstep HB1.out hb2); clear hb2)
   | (go_at_call 168; refine (cmpi_any _ _ _).mono ?_; rintro e w' ⟨rfl, hw'⟩; rw [hw']; clear hw')
   | (go_at_call 177; refine (cmps_any _ _ _).mono ?_; rintro e w' ⟨rfl, hw'⟩; rw [hw']; clear hw'))
  go_ret
  refine ⟨ret_int (by rw [HC.out, HX.out, HY.out]; rfl), ?_⟩
  first | exact HB2.out | exact b0 w
end
end Go.Proofs.YthneiolcljnbeaaGreatDoor
