import Derived.Test.YtbfbppjccbppiaaGreatDoorzA
import Derived.Test.YtbfbppjccbppiaaGreatDoorRows
import Derived.Laws.IdiomStrings
import Derived.Outline
namespace Go.Proofs.YtbfbppjccbppiaaGreatDoor
open Go Go.RowKit
section
structure Ver where
 major : Int
 minor : Int
 patch : Int
 pre : ByteArray
 build : ByteArray
 deriving DecidableEq, Inhabited
structure Cut where
 en : Int
 v : Ver
 after : Bool
 deriving DecidableEq, Inhabited
structure Span where
 lo : Cut
 hi : Cut
 deriving DecidableEq, Inhabited
def VB (a b c : Int) (p q : ByteArray) : Prop := (-100000 ≤ a ∧ a ≤ 100000) ∧ (-100000 ≤ b ∧ b ≤ 100000) ∧ (-100000 ≤ c ∧ c ≤ 100000) ∧ p.size ≤ 1000 ∧ q.size ≤ 1000
def Ver.B (v : Ver) : Prop := VB v.major v.minor v.patch v.pre v.build
def Cut.B (c : Cut) : Prop := (-100000 ≤ c.en ∧ c.en ≤ 100000) ∧ c.v.B
def Span.B (s : Span) : Prop := s.lo.B ∧ s.hi.B
def zt0 (v : Ver) : List Value := [.int .i64 v.major, .int .i64 v.minor, .int .i64 v.patch, .string v.pre, .string v.build]
def qd3 (c : Cut) : List Value := [.int .i64 c.en, .int .i64 c.v.major, .int .i64 c.v.minor, .int .i64 c.v.patch, .string c.v.pre, .string c.v.build, .bool c.after]
def spanCells (s : Span) : List Value := qd3 s.lo ++ qd3 s.hi
def fVer : Flat Ver := ⟨5, zt0, Ver.B, fun _ => rfl, fun _ u h => by simp [zt0] at h; rcases h with rfl | rfl | rfl | rfl | rfl <;> rfl, by decide⟩
theorem qh6 (c : Cut) : ∀ u ∈ qd3 c, u.oneCell' = true := by
 intro u h
 simp [qd3] at h
 rcases h with rfl | rfl | rfl | rfl | rfl | rfl | rfl <;> rfl
def fCut : Flat Cut := ⟨7, qd3, Cut.B, fun _ => rfl, fun c => qh6 c, by decide⟩
def qd6 : Flat Span := ⟨14, spanCells, Span.B, fun _ => rfl, fun s u h => by rcases List.mem_append.1 h with h | h <;> exact qh6 _ u h, by decide⟩
def qe8 (c : UInt8) : List UInt8 → List (List UInt8)
 | [] => [[]]
 | x :: s => if x = c then [] :: qe8 c s else match qe8 c s with | w :: ws => (x :: w) :: ws | [] => [[x]]
theorem zs5 (c : UInt8) (s : List UInt8) : qe8 c s ≠ [] := by
 cases s with
 | nil => simp [qe8]
 | cons x s =>
  unfold qe8
  split
  ·simp
  ·split <;> simp
theorem split_no {c : UInt8} : ∀ {a : List UInt8}, c ∉ a → qe8 c a = [a]
 | [], _ => rfl
 | x :: a, h => by
  have hx : x ≠ c := fun e => h (by rw [e]; simp)
  have := split_no (a := a) (fun hm => h (List.mem_cons_of_mem _ hm))
  simp only [qe8, if_neg hx, this]
theorem zs6 {c : UInt8} : ∀ {a b : List UInt8}, c ∉ a → qe8 c (a ++ c :: b) = a :: qe8 c b
 | [], b, _ => by simp [qe8]
 | x :: a, b, h => by
  have hx : x ≠ c := fun e => h (by rw [e]; simp)
  have := zs6 (a := a) (b := b) (fun hm => h (List.mem_cons_of_mem _ hm))
  simp only [List.cons_append, qe8, if_neg hx, this]
theorem zk5 (c : UInt8) : ∀ s : List UInt8, (qe8 c s).length ≤ s.length + 1 ∧ ∀ x ∈ qe8 c s, x.length ≤ s.length
 | [] => by simp [qe8]
 | x :: s => by
  obtain ⟨h1, h2⟩ := zk5 c s
  unfold qe8
  split
  ·refine ⟨by simp; omega, fun y hy => ?_⟩
   rcases List.mem_cons.1 hy with rfl | hy
   ·simp
   ·have := h2 y hy; simp; omega
  ·split
   ·rename_i w ws hw
    rw [hw] at h1 h2
    refine ⟨by simpa using Nat.le_succ_of_le h1, fun y hy => ?_⟩
    rcases List.mem_cons.1 hy with rfl | hy
    ·have := h2 w (by simp); simpa using this
    ·have := h2 y (by simp [hy]); simp; omega
   ·exact absurd (by assumption) (zs5 c s)
def digC (c : UInt8) : Bool := decide (48 ≤ c.toNat) && decide (c.toNat ≤ 57)
def tagC (c : UInt8) : Bool := (decide (97 ≤ c.toNat) && decide (c.toNat ≤ 122)) || digC c || c.toNat == 45
def valF (s : List UInt8) : Nat := s.foldl (fun n c => 10 * n + (c.toNat - 48)) 0
theorem val_snoc (s : List UInt8) (c : UInt8) : valF (s ++ [c]) = 10 * valF s + (c.toNat - 48) := by simp [valF]
theorem zs8 {s : List UInt8} {k : Nat} (h : k < s.length) : valF (s.take (k + 1)) = 10 * valF (s.take k) + (s[k].toNat - 48) := by
 rw [List.take_succ_eq_append_getElem h, val_snoc]
theorem val_lt (s : List UInt8) : ∀ k, k ≤ s.length → (s.take k).all digC = true → valF (s.take k) < 10 ^ k
 | 0, _, _ => by simp [valF]
 | k + 1, h, ha => by
  have hk : k < s.length := h
  rw [List.take_succ_eq_append_getElem hk, List.all_append, Bool.and_eq_true] at ha
  have ih := val_lt s k (by omega) ha.1
  rw [zs8 hk]
  have hd : digC s[k] = true := by simpa using ha.2
  simp only [digC, Bool.and_eq_true, decide_eq_true_eq] at hd
  rw [Nat.pow_succ]
  omega
def qd4 (s : List UInt8) : Bool := !s.isEmpty && s.all digC
def tagB (s : List UInt8) : Bool := decide (1 ≤ s.length) && decide (s.length ≤ 8) && s.all tagC
def numOk (s : List UInt8) : Prop := 1 ≤ s.length ∧ s.length ≤ 9 ∧ (1 < s.length → s.head? ≠ some 48) ∧ s.all digC = true ∧ valF s ≤ 9999
instance (s : List UInt8) : Decidable (numOk s) := by unfold numOk; infer_instance
def qc7 (s : List UInt8) : Option Nat := if numOk s then some (valF s) else none
theorem number_no {s : List UInt8} (h : ∃ c ∈ s, digC c = false) : qc7 s = none := by
 unfold qc7
 rw [if_neg]
 rintro ⟨_, _, _, h2, _⟩
 obtain ⟨c, hc, hd⟩ := h
 rw [List.all_eq_true] at h2
 rw [h2 c hc] at hd
 cases hd
def qk1 (s : List UInt8) : Value := match qc7 s with
 | some n => .tuple #[.int .i64 (n : Int), .bool true]
 | none => .tuple #[.int .i64 0, .bool false]
def za8 (pre : Bool) (s : List UInt8) : Bool := tagB s && !(pre && qd4 s && (qc7 s).isNone)
def qp2 (s : List UInt8) (pre : Bool) : Bool := s.isEmpty || (decide ((qe8 46 s).length ≤ 4) && (qe8 46 s).all (za8 pre))
def qr0 (n : Int) : Bool := decide (0 ≤ n) && decide (n ≤ 9999)
def mayV (v : Ver) : Bool := qr0 v.major && qr0 v.minor && qr0 v.patch && qp2 v.pre.data.toList true && qp2 v.build.data.toList false
def qh0 (a b : Int) : Int := if a < b then -1 else if b < a then 1 else 0
end
section
theorem ql8 (s : ByteArray) (i : Nat) (h : i < s.size) : s.data.toList[i]'(by simpa using h) = s[i] := rfl
set_option maxHeartbeats 400000 in
theorem digit_any (c : UInt8) (w : World) :
  Calls Tryz.prog 155 #[.int .u8 (c.toNat : Int)] w fun e w' => e = .returned (.bool (digC c)) ∧ w' = w := by
 have hu := c.toNat_lt
 by_cases h1 : c.toNat < 48
 ·have e1 : ¬ (48 : Int) ≤ c.toNat := by omega
  have H : Hid (digC c = false) := hid (by simp [digC]; omega)
  go_enter Tryz.func155, Tryz.ntmps155
  go_wp2
  go_ret
  exact ⟨qa4 H.out.symm, rfl⟩
 ·have e1 : (48 : Int) ≤ c.toNat := by omega
  by_cases h2 : c.toNat ≤ 57
  ·have e2 : (c.toNat : Int) ≤ 57 := by omega
   have e3 : decide ((c.toNat : Int) ≤ 57) = true := decide_eq_true e2
   have H : Hid (digC c = true) := hid (by simp [digC]; omega)
   go_enter Tryz.func155, Tryz.ntmps155
   go_wp2
   go_ret
   exact ⟨qa4 H.out.symm, rfl⟩
  ·have e2 : ¬ (c.toNat : Int) ≤ 57 := by omega
   have e3 : decide ((c.toNat : Int) ≤ 57) = false := decide_eq_false e2
   have H : Hid (digC c = false) := hid (by simp [digC]; omega)
   go_enter Tryz.func155, Tryz.ntmps155
   go_wp2
   go_ret
   exact ⟨qa4 H.out.symm, rfl⟩
set_option maxHeartbeats 400000 in
theorem num_any (n : Int) (w : World) :
  Calls Tryz.prog 96 #[.int .i64 n] w fun e w' => e = .returned (.bool (qr0 n)) ∧ w' = w := by
 by_cases h1 : 0 ≤ n
 ·by_cases h2 : n ≤ 9999
  ·have e3 : decide (n ≤ 9999) = true := decide_eq_true h2
   have H : Hid (qr0 n = true) := hid (by simp [qr0]; omega)
   go_enter Tryz.func96, Tryz.ntmps96
   go_wp2
   go_ret
   exact ⟨qa4 H.out.symm, rfl⟩
  ·have e3 : decide (n ≤ 9999) = false := decide_eq_false h2
   have H : Hid (qr0 n = false) := hid (by simp [qr0]; omega)
   go_enter Tryz.func96, Tryz.ntmps96
   go_wp2
   go_ret
   exact ⟨qa4 H.out.symm, rfl⟩
 ·have H : Hid (qr0 n = false) := hid (by simp [qr0]; omega)
  go_enter Tryz.func96, Tryz.ntmps96
  go_wp2
  go_ret
  exact ⟨qa4 H.out.symm, rfl⟩
set_option maxHeartbeats 400000 in
theorem qg6 (a b : Int) (w : World) :
  Calls Tryz.prog 195 #[.int .i64 a, .int .i64 b] w fun e w' => e = .returned (.int .i64 (qh0 a b)) ∧ w' = w := by
 by_cases h1 : a < b
 ·have H : Hid (qh0 a b = -1) := hid (by unfold qh0; rw [if_pos h1])
  go_enter Tryz.func195, Tryz.ntmps195
  go_wp2
  go_ret
  exact ⟨qb7 H.out.symm, rfl⟩
 ·by_cases h2 : b < a
  ·have H : Hid (qh0 a b = 1) := hid (by unfold qh0; rw [if_neg h1, if_pos h2])
   go_enter Tryz.func195, Tryz.ntmps195
   go_wp2
   go_ret
   exact ⟨qb7 H.out.symm, rfl⟩
  ·have H : Hid (qh0 a b = 0) := hid (by unfold qh0; rw [if_neg h1, if_neg h2])
   go_enter Tryz.func195, Tryz.ntmps195
   go_wp2
   go_ret
   exact ⟨qb7 H.out.symm, rfl⟩
theorem qm8 {s : List UInt8} {n : Nat} (h : s.length = n) (hn : 0 < n) : s.isEmpty = false := by
 cases s with
 | nil => simp at h; omega
 | cons _ _ => rfl
set_option maxHeartbeats 400000 in
theorem qg0 (s : ByteArray) (w : World) (hs : s.size ≤ 1000) :
  Calls Tryz.prog 131 #[.string s] w fun e w' => e = .returned (.bool (qd4 s.data.toList)) ∧ w' = w := by
 have HSZ := hid (show s.data.toList.length = s.size by simp)
 go_enter Tryz.func131, Tryz.ntmps131
 go_wp2
 go_loop [3] (fun iv => ∃ k : Nat, k ≤ s.size ∧ iv = .int .i64 k ∧ Hid ((s.data.toList.take k).all digC = true)) (fun iv => s.size - (intOf iv).toNat)
 case atStart => exact ⟨0, Nat.zero_le _, rfl, hid rfl⟩
 case round =>
  obtain ⟨k, hk, rfl, hall⟩ := hrel
  by_cases hlt : k < s.size
  ·have hlt' : k < s.data.toList.length := by rw [HSZ.out]; exact hlt
   have hu := s[k].toNat_lt
   have HAT := hid (show (s.data.toList.take (k + 1)).all digC = ((s.data.toList.take k).all digC && digC s[k]) by rw [List.take_succ_eq_append_getElem hlt', List.all_append]; simp; rfl)
   have i1 : (0 : Int) ≤ ↑k := by omega
   have i2 : (↑k : Int) < ↑s.size := by omega
   by_cases hd : digC s[k] = true
   ·have HD := hid hd
    simp only [digC, Bool.and_eq_true, decide_eq_true_eq] at hd
    have e1 : ¬ (s[k].toNat : Int) < 48 := by omega
    have e2 : ¬ (57 : Int) < s[k].toNat := by omega
    clear hd
    go_wp2
    go_round
    case rel => exact ⟨k + 1, by omega, by go_num, hid (by rw [HAT.out, hall.out, HD.out]; rfl)⟩
    case measure => simp [intOf]; omega
   ·have HN : Hid (qd4 s.data.toList = false) := hid (by
     unfold qd4
     rw [Bool.and_eq_false_iff]
     refine .inr ?_
     rw [List.all_eq_false]
     exact ⟨s[k], by rw [← ql8 s k hlt]; exact List.getElem_mem _, hd⟩)
    have hd2 : s[k].toNat < 48 ∨ 57 < s[k].toNat := by
     simp only [digC, Bool.and_eq_true, decide_eq_true_eq] at hd
     omega
    clear hd
    rcases hd2 with h | h
    ·have e1 : (s[k].toNat : Int) < 48 := by omega
     go_wp2
     go_ret
     exact ⟨qa4 HN.out.symm, rfl⟩
    ·have e1 : ¬ (s[k].toNat : Int) < 48 := by omega
     have e2 : (57 : Int) < s[k].toNat := by omega
     go_wp2
     go_ret
     exact ⟨qa4 HN.out.symm, rfl⟩
  ·have hk' : k = s.size := by omega
   have HA : Hid (s.data.toList.all digC = true) := hid (by
    have := hall.out
    rwa [hk', List.take_of_length_le (by rw [HSZ.out]; omega)] at this)
   clear hk'
   by_cases h0 : 0 < s.size
   ·have e0 : decide (0 < s.size) = true := decide_eq_true h0
    have HN : Hid (qd4 s.data.toList = true) := hid (by unfold qd4; rw [HA.out, qm8 HSZ.out h0]; rfl)
    go_wp2
    go_ret
    exact ⟨qa4 HN.out.symm, rfl⟩
   ·have e0 : decide (0 < s.size) = false := decide_eq_false h0
    have HN : Hid (qd4 s.data.toList = false) := hid (by
     have : s.data.toList = [] := List.eq_nil_of_length_eq_zero (by rw [HSZ.out]; omega)
     rw [this]; rfl)
    go_wp2
    go_ret
    exact ⟨qa4 HN.out.symm, rfl⟩
theorem qv7 (c : UInt8) : tagC c = true ↔ ((97 ≤ c.toNat ∧ c.toNat ≤ 122) ∨ (48 ≤ c.toNat ∧ c.toNat ≤ 57) ∨ c.toNat = 45) := by
 simp only [tagC, digC, Bool.or_eq_true, Bool.and_eq_true, decide_eq_true_eq, beq_iff_eq]
 omega
set_option maxRecDepth 100000 in
set_option maxHeartbeats 1000000 in
theorem zk6 (s : ByteArray) (w : World) (hs : s.size ≤ 1000) :
  Calls Tryz.prog 129 #[.string s] w fun e w' => e = .returned (.bool (tagB s.data.toList)) ∧ w' = w := by
 have HSZ := hid (show s.data.toList.length = s.size by simp)
 by_cases h1 : s.size < 1
 ·have HN : Hid (tagB s.data.toList = false) := hid (by unfold tagB; rw [HSZ.out, decide_eq_false (by omega : ¬ 1 ≤ s.size)]; rfl)
  go_enter Tryz.func129, Tryz.ntmps129
  go_wp2
  go_ret
  exact ⟨qa4 HN.out.symm, rfl⟩
 ·by_cases h2 : 8 < s.size
  ·have HN : Hid (tagB s.data.toList = false) := hid (by unfold tagB; rw [HSZ.out, decide_eq_false (by omega : ¬ s.size ≤ 8)]; simp)
   go_enter Tryz.func129, Tryz.ntmps129
   go_wp2
   go_ret
   exact ⟨qa4 HN.out.symm, rfl⟩
  ·have HT : Hid (tagB s.data.toList = s.data.toList.all tagC) := hid (by unfold tagB; rw [HSZ.out, decide_eq_true (by omega : 1 ≤ s.size), decide_eq_true (by omega : s.size ≤ 8)]; rfl)
   go_enter Tryz.func129, Tryz.ntmps129
   go_wp2
   go_loop [3] (fun iv => ∃ k : Nat, k ≤ s.size ∧ iv = .int .i64 k ∧ Hid ((s.data.toList.take k).all tagC = true)) (fun iv => s.size - (intOf iv).toNat)
   case atStart => exact ⟨0, Nat.zero_le _, rfl, hid rfl⟩
   case round =>
    obtain ⟨k, hk, rfl, hall⟩ := hrel
    by_cases hlt : k < s.size
    ·have hlt' : k < s.data.toList.length := by rw [HSZ.out]; exact hlt
     have hu := s[k].toNat_lt
     have HAT := hid (show (s.data.toList.take (k + 1)).all tagC = ((s.data.toList.take k).all tagC && tagC s[k]) by rw [List.take_succ_eq_append_getElem hlt', List.all_append]; simp; rfl)
     have i1 : (0 : Int) ≤ ↑k := by omega
     have i2 : (↑k : Int) < ↑s.size := by omega
     by_cases hd : tagC s[k] = true
     ·have HD := hid hd
      rw [qv7] at hd
      rcases hd with ⟨a1, a2⟩ | ⟨a1, a2⟩ | a1
      ·have e1 : ¬ (s[k].toNat : Int) < 97 := by omega
       have e2 : ¬ (122 : Int) < s[k].toNat := by omega
       go_wp2
       go_round
       case rel => exact ⟨k + 1, by omega, by go_num, hid (by rw [HAT.out, hall.out, HD.out]; rfl)⟩
       case measure => simp [intOf]; omega
      ·have e1 : (s[k].toNat : Int) < 97 := by omega
       have e2 : ¬ (s[k].toNat : Int) < 48 := by omega
       have e3 : ¬ (57 : Int) < s[k].toNat := by omega
       go_wp2
       go_round
       case rel => exact ⟨k + 1, by omega, by go_num, hid (by rw [HAT.out, hall.out, HD.out]; rfl)⟩
       case measure => simp [intOf]; omega
      ·have e1 : (s[k].toNat : Int) < 97 := by omega
       have e2 : (s[k].toNat : Int) < 48 := by omega
       have e3 : ((s[k].toNat : Int) != 45) = false := by simp; omega
       clear a1
       go_wp2
       go_round
       case rel => exact ⟨k + 1, by omega, by go_num, hid (by rw [HAT.out, hall.out, HD.out]; rfl)⟩
       case measure => simp [intOf]; omega
     ·have HN : Hid (tagB s.data.toList = false) := hid (by
       rw [HT.out, List.all_eq_false]
       exact ⟨s[k], by rw [← ql8 s k hlt]; exact List.getElem_mem _, hd⟩)
      have hd2 : (s[k].toNat < 48 ∧ s[k].toNat ≠ 45) ∨ (57 < s[k].toNat ∧ s[k].toNat < 97) ∨ 122 < s[k].toNat := by
       rw [qv7] at hd
       omega
      clear hd
      rcases hd2 with ⟨h, h'⟩ | ⟨h, h'⟩ | h
      ·have e1 : (s[k].toNat : Int) < 97 := by omega
       have e2 : (s[k].toNat : Int) < 48 := by omega
       have e3 : ((s[k].toNat : Int) != 45) = true := by simp; omega
       clear h'
       go_wp2
       go_ret
       exact ⟨qa4 HN.out.symm, rfl⟩
      ·have e1 : (s[k].toNat : Int) < 97 := by omega
       have e2 : ¬ (s[k].toNat : Int) < 48 := by omega
       have e4 : (57 : Int) < s[k].toNat := by omega
       have e3 : ((s[k].toNat : Int) != 45) = true := by simp; omega
       go_wp2
       go_ret
       exact ⟨qa4 HN.out.symm, rfl⟩
      ·have e1 : ¬ (s[k].toNat : Int) < 97 := by omega
       have e2 : ¬ (s[k].toNat : Int) < 48 := by omega
       have e4 : (57 : Int) < s[k].toNat := by omega
       have e5 : (122 : Int) < s[k].toNat := by omega
       have e3 : ((s[k].toNat : Int) != 45) = true := by simp; omega
       go_wp2
       go_ret
       exact ⟨qa4 HN.out.symm, rfl⟩
    ·have hk' : k = s.size := by omega
     have HN : Hid (tagB s.data.toList = true) := hid (by
      have := hall.out
      rw [hk', List.take_of_length_le (by rw [HSZ.out]; omega)] at this
      rw [HT.out, this])
     clear hk'
     go_wp2
     go_ret
     exact ⟨qa4 HN.out.symm, rfl⟩
end
section
set_option maxRecDepth 100000 in
set_option maxHeartbeats 1000000 in
theorem ql5 (s : ByteArray) (w : World) (hs : s.size ≤ 1000) :
  Calls Tryz.prog 130 #[.string s] w fun e w' => e = .returned (qk1 s.data.toList) ∧ w' = w := by
 have hsz : s.data.toList.length = s.size := by simp
 by_cases h1 : s.size < 1
 ·have hn : qc7 s.data.toList = none := by rw [qc7, if_neg]; rintro ⟨h, _⟩; omega
  have HN := hid hn
  clear hn hsz
  go_enter Tryz.func130, Tryz.ntmps130
  go_wp2
  go_ret2
  exact ⟨by unfold qk1; rw [HN.out]; rfl, rfl⟩
 ·by_cases h2 : 9 < s.size
  ·have hn : qc7 s.data.toList = none := by rw [qc7, if_neg]; rintro ⟨_, h, _⟩; omega
   have HN := hid hn
   clear hn hsz
   go_enter Tryz.func130, Tryz.ntmps130
   go_wp2
   go_ret2
   exact ⟨by unfold qk1; rw [HN.out]; rfl, rfl⟩
  ·have h0 : 0 < s.size := by omega
   have HSZ := hid hsz
   have hhd : s.data.toList.head? = some s[0] := by
    rw [List.head?_eq_getElem?, List.getElem?_eq_getElem (by omega)]; rfl
   have HHD := hid hhd
   clear hsz hhd
   by_cases hz : s[0].toNat = 48 ∧ 1 < s.size
   ·obtain ⟨hz0, hz1⟩ := hz
    have HN : Hid (qc7 s.data.toList = none) := hid (by
     rw [qc7, if_neg]
     rintro ⟨_, _, h, _⟩
     refine h (by rw [HSZ.out]; exact hz1) ?_
     rw [HHD.out]
     exact congrArg some (UInt8.toNat_inj.1 hz0))
    have hz0' : (s[0].toNat : Int) = 48 := by omega
    go_enter Tryz.func130, Tryz.ntmps130
    go_wp2
    go_ret2
    exact ⟨by unfold qk1; rw [HN.out]; rfl, rfl⟩
   ·have HLD : Hid (1 < s.data.toList.length → s.data.toList.head? ≠ some 48) := hid (fun hl he => by
     rw [HHD.out] at he
     rw [HSZ.out] at hl
     exact hz ⟨by rw [Option.some.inj he]; rfl, hl⟩)
    have hcase : s.size = 1 ∨ (1 < s.size ∧ ((s[0].toNat : Int) == 48) = false) := by
     rcases Nat.lt_or_ge 1 s.size with h | h
     ·refine .inr ⟨h, ?_⟩
      rw [beq_eq_false_iff_ne]
      intro e
      exact hz ⟨by omega, h⟩
     ·exact .inl (by omega)
    clear hz
    rcases hcase with h3 | ⟨h3, h4⟩
    all_goals
     go_enter Tryz.func130, Tryz.ntmps130
     go_wp2
     go_loopw [4, 5] (fun nv iv wr => ∃ k : Nat, k ≤ s.size ∧ iv = .int .i64 k ∧ nv = .int .i64 (valF (s.data.toList.take k) : Nat) ∧ Hid ((s.data.toList.take k).all digC = true) ∧ wr = w) (fun _ iv _ => s.size - (intOf iv).toNat)
     case atStart => exact ⟨0, Nat.zero_le _, rfl, rfl, hid rfl, rfl⟩
     case round =>
      obtain ⟨k, hk, rfl, rfl, hall, rfl⟩ := hrel
      have hvl : valF (s.data.toList.take k) < 1000000000 := by
       have h1 := val_lt s.data.toList k (by rw [HSZ.out]; exact hk) hall.out
       have h2 : (10 : Nat) ^ k ≤ 10 ^ 9 := Nat.pow_le_pow_right (by omega) (by omega)
       omega
      by_cases hlt : k < s.size
      ·have hlt' : k < s.data.toList.length := by rw [HSZ.out]; exact hlt
       have hu := s[k].toNat_lt
       have HVT := hid (zs8 hlt')
       have HAT := hid (show (s.data.toList.take (k + 1)).all digC = ((s.data.toList.take k).all digC && digC s[k]) by rw [List.take_succ_eq_append_getElem hlt', List.all_append]; simp; rfl)
       have i1 : (0 : Int) ≤ ↑k := by omega
       have i2 : (↑k : Int) < ↑s.size := by omega
       generalize hv : valF (s.data.toList.take k) = v at hvl HVT ⊢
       clear hv
       by_cases hd : digC s[k] = true
       ·have HD := hid hd
        have hd2 := hd
        simp only [digC, Bool.and_eq_true, decide_eq_true_eq] at hd2
        have e3 : (48 : Int) ≤ s[k].toNat := by omega
        have e2 : ¬ (57 : Int) < s[k].toNat := by omega
        have HVT2 : Hid ((valF (s.data.toList.take (k + 1)) : Int) = v * 10 + ((s[k].toNat : Int) - 48)) := hid (by rw [HVT.out, ql8 s k hlt]; omega)
        clear hd2
        go_wp2_with (go_at_call 155; refine (digit_any s[k] _).mono ?_; rintro e w' ⟨rfl, rfl⟩)
        exact ⟨⟨k + 1, by omega, by go_num, by rw [HVT2.out], hid (by rw [HAT.out, hall.out, HD.out]; rfl), trivial⟩, by simp [intOf]; omega⟩
       ·have hd' : digC s[k] = false := by simpa using hd
        have HN : Hid (qc7 s.data.toList = none) := hid (number_no ⟨s[k], by rw [← ql8 s k hlt]; exact List.getElem_mem _, hd'⟩)
        clear hd
        go_wp2_with (go_at_call 155; refine (digit_any s[k] _).mono ?_; rintro e w' ⟨rfl, rfl⟩)
        go_ret2
        exact ⟨by unfold qk1; rw [HN.out]; rfl, rfl⟩
      ·have hk' : k = s.size := by omega
       have HV : Hid (valF (s.data.toList.take k) = valF s.data.toList) := hid (by rw [hk', List.take_of_length_le (by rw [HSZ.out]; omega)])
       have HA : Hid (s.data.toList.all digC = true) := hid (by
        have := hall.out
        rwa [hk', List.take_of_length_le (by rw [HSZ.out]; omega)] at this)
       clear hk'
       generalize hv : valF (s.data.toList.take k) = v at hvl HV ⊢
       clear hv
       by_cases hb : 9999 < v
       ·have HN : Hid (qc7 s.data.toList = none) := hid (by
         rw [qc7, if_neg]
         rintro ⟨_, _, _, _, h⟩
         rw [← HV.out] at h
         omega)
        go_wp2
        go_ret2
        exact ⟨by unfold qk1; rw [HN.out]; rfl, rfl⟩
       ·have HN : Hid (qc7 s.data.toList = some v) := hid (by
         rw [qc7, if_pos, HV.out]
         exact ⟨by rw [HSZ.out]; omega, by rw [HSZ.out]; omega, HLD.out, HA.out, by rw [← HV.out]; omega⟩)
        go_wp2
        go_ret2
        exact ⟨by unfold qk1; rw [HN.out]; rfl, rfl⟩
end
section
theorem qv2 (s : ByteArray) (a b : Nat) : (s.extract a b).data.toList = (s.data.toList.drop a).take (b - a) := by
  simp [ByteArray.data_extract, List.extract_eq_take_drop]
theorem zf4 : (Tryz.prog.info? 9).map (fun i => (i.zero, i.size, i.bytes)) = some (some (.string ⟨#[]⟩), 1, 16) := by kernel_rfl
def SplitPost (c : UInt8) (s : ByteArray) (w : World) (e : Ending) (w' : World) : Prop :=
  ∃ (WB : List ByteArray) (A : Option Addr) (cap : Nat), e = .returned (.slice A WB.length cap) ∧ w'.ownsRow w.heap.size 9 1 (.slice A WB.length cap) WB.length (WB.map Value.string) ∧ WB.map (fun x => x.data.toList) = qe8 c s.data.toList ∧ Below w.heap.size w w'
theorem zp2 {c : UInt8} {s : List UInt8} {a k : Nat} (hk : s.length ≤ k) (h : c ∉ (s.drop a).take (k - a)) : qe8 c (s.drop a) = [s.drop a] := by
  rw [List.take_of_length_le (by simp; omega)] at h
  exact split_no h
theorem drop_at {s : List UInt8} {a k : Nat} (ha : a ≤ k) (hk : k < s.length) : s.drop a = (s.drop a).take (k - a) ++ s[k] :: s.drop (k + 1) := by
  have h1 := (List.take_append_drop (k - a) (s.drop a)).symm
  rw [List.drop_drop, show a + (k - a) = k by omega, List.drop_eq_getElem_cons hk] at h1
  exact h1
theorem take_next {s : List UInt8} {a k : Nat} (ha : a ≤ k) (hk : k < s.length) : (s.drop a).take (k + 1 - a) = (s.drop a).take (k - a) ++ [s[k]] := by
  rw [show k + 1 - a = (k - a) + 1 by omega, List.take_succ_eq_append_getElem (by simp; omega)]
  simp [show a + (k - a) = k by omega]
theorem zq3 {x c : UInt8} : ((x.toNat : Int) == (c.toNat : Int)) = decide (x = c) := by
  rw [Bool.eq_iff_iff, beq_iff_eq, decide_eq_true_iff]
  constructor
  · intro h
    exact UInt8.toNat_inj.1 (by omega)
  · rintro rfl
    rfl
set_option maxRecDepth 100000 in
set_option maxHeartbeats 1000000 in
theorem split1_any (s : ByteArray) (c : UInt8) (w : World) (hs : s.size ≤ 100000) :
    Calls Tryz.prog 128 #[.string s, .int .u8 (c.toNat : Int)] w (SplitPost c s w) := by
  obtain ⟨ii, hii⟩ := info_parts zf4
  have HII := hid hii
  have HSZ := hid (show s.data.toList.length = s.size by simp)
  clear hii
  go_enter Tryz.func128, Tryz.ntmps128
  go_wp2
  go_loopw [5, 6, 7] (fun ov av iv wr => ∃ (k a : Nat) (L : List ByteArray), k ≤ s.size ∧ a ≤ k ∧ L.length ≤ k ∧ iv = .int .i64 k ∧ av = .int .i64 a ∧ Hid (wr.ownsRow w.heap.size 9 1 ov L.length (L.map Value.string)) ∧ Hid (qe8 c s.data.toList = L.map (fun x => x.data.toList) ++ qe8 c (s.data.toList.drop a)) ∧ Hid (c ∉ (s.data.toList.drop a).take (k - a)) ∧ Hid (Below w.heap.size w wr)) (fun _ _ iv _ => s.size - (intOf iv).toNat)
  case atStart => exact ⟨0, 0, [], Nat.zero_le _, Nat.le_refl _, Nat.le_refl _, rfl, rfl, hid ⟨rfl, .inl ⟨rfl, rfl⟩⟩, hid (by simp), hid (by simp), hid (Below.refl _ _)⟩
  case round =>
    obtain ⟨k, a, L, hk, hak, hL, rfl, rfl, hown, hsp, hno, hb⟩ := hrel
    obtain ⟨A, cap, rfl⟩ := qb1 hown.out
    have hbz := hb.out.size
    have i1 : (0 : Int) ≤ ↑k := by omega
    have a1 : (0 : Int) ≤ ↑a := by omega
    have a2 : (↑a : Int) ≤ ↑k := by omega
    have a3 : (↑a : Int) ≤ ↑s.size := by omega
    have i3 : (↑k : Int) ≤ ↑s.size := by omega
    by_cases hlt : k < s.size
    · have i2 : (↑k : Int) < ↑s.size := by omega
      have hlt' : k < s.data.toList.length := by rw [HSZ.out]; exact hlt
      have HAT := hid (show s.data.toList[k] = s[k] from rfl)
      have HTN := hid (take_next hak hlt')
      have HDA := hid (drop_at hak hlt')
      by_cases hc : s[k] = c
      · have hq : ((s[k].toNat : Int) == (c.toNat : Int)) = true := by rw [zq3]; exact decide_eq_true hc
        have HC := hid hc
        clear hc
        go_wp2_with (first
          | (at_builtin
             refine qa5 _ rfl (.tmp 19) (.tmp 24) _ rfl w.heap.size 9 ii _ 1 16 Tryz.underlying45 HII.out.1 HII.out.2.1 HII.out.2.2.1 HII.out.2.2.2 rfl (by omega) (.slice A L.length cap) L.length (L.map Value.string) rfl (by exact hown.out.alloc _) (some ⟨wr.heap.size, 0, none⟩) 1 1 [.string (s.extract a k)] rfl (by exact qe1 _ _ rfl 1 _ rfl rfl) (by simp [Value.oneCell']) (by unfold maxLen; omega) (by omega) (by simp; omega) ?_
             intro v4 w4 hown4 hg4 _
             have HB4 := hid (show Below w.heap.size w w4 from Below.grown (hb.out.alloc hbz _) hg4 (by simp; omega) (fun k hk => (hown.out.lt k hk).1))
             have HO4 := hid hown4
             clear hown4 hg4))
        refine ⟨⟨k + 1, k + 1, L ++ [s.extract a k], by omega, Nat.le_refl _, by simp; omega, by go_num, by go_num, hid ?_, hid ?_, hid (by simp), HB4⟩, by simp [intOf]; omega⟩
        · rw [List.length_append, List.map_append]
          exact HO4.out
        · rw [hsp.out, HDA.out, HAT.out, HC.out, zs6 hno.out, List.map_append, List.append_assoc]
          congr 1
          simp only [List.map_cons, List.map_nil, List.cons_append, List.nil_append]
          rw [qv2]
      · have hq : ((s[k].toNat : Int) == (c.toNat : Int)) = false := by rw [zq3]; exact decide_eq_false hc
        have HC := hid hc
        clear hc
        go_wp2
        refine ⟨⟨k + 1, a, L, by omega, by omega, by omega, by go_num, rfl, hown, hsp, hid ?_, hb⟩, by simp [intOf]; omega⟩
        rw [HTN.out]
        intro hm
        rcases List.mem_append.1 hm with hm | hm
        · exact hno.out hm
        · exact HC.out (by rw [← HAT.out]; exact (List.mem_singleton.1 hm).symm)
    · have hk' : k = s.size := by omega
      have HDN := hid (zp2 (c := c) (s := s.data.toList) (a := a) (k := k) (by rw [HSZ.out]; omega) hno.out)
      have i2 : ¬ (↑k : Int) < ↑s.size := by omega
      clear hk'
      go_wp2_with (first
        | (at_builtin
           refine qa5 _ rfl (.tmp 28) (.tmp 32) _ rfl w.heap.size 9 ii _ 1 16 Tryz.underlying45 HII.out.1 HII.out.2.1 HII.out.2.2.1 HII.out.2.2.2 rfl (by omega) (.slice A L.length cap) L.length (L.map Value.string) rfl (by exact hown.out.alloc _) (some ⟨wr.heap.size, 0, none⟩) 1 1 [.string (s.extract a s.size)] rfl (by exact qe1 _ _ rfl 1 _ rfl rfl) (by simp [Value.oneCell']) (by unfold maxLen; omega) (by omega) (by simp; omega) ?_
           intro v4 w4 hown4 hg4 _
           obtain ⟨A4, c4, rfl⟩ := qb1 hown4
           have HB4 := hid (show Below w.heap.size w w4 from Below.grown (hb.out.alloc hbz _) hg4 (by simp; omega) (fun k hk => (hown.out.lt k hk).1))
           have HO4 := hid hown4
           clear hown4 hg4))
      go_ret
      refine ⟨L ++ [s.extract a s.size], A4, c4, by rw [List.length_append]; rfl, ?_, ?_, HB4.out⟩
      · rw [List.length_append, List.map_append]
        exact HO4.out
      · rw [hsp.out, HDN.out, List.map_append]
        congr 1
        simp only [List.map_cons, List.map_nil]
        rw [qv2, List.take_of_length_le (by rw [List.length_drop, HSZ.out]; exact Nat.le_refl _)]
end
section
theorem ze7 (l : List ByteArray) : fStr.all l = l.map Value.string := by
 induction l with
 | nil => rfl
 | cons x l ih => rw [fStr.all_cons, ih]; rfl
def qy6 (c : UInt8) (s : ByteArray) (w : World) (e : Ending) (w' : World) : Prop :=
 ∃ (WB : List ByteArray) (A : Option Addr) (cap : Nat), e = .returned (.slice A WB.length cap) ∧ SliceRd fStr.ty w' (Lt w'.heap.size) (.slice A WB.length cap) WB ∧ WB.map (fun x => x.data.toList) = qe8 c s.data.toList ∧
  (∀ x ∈ WB, x.size ≤ s.size) ∧ WB.length ≤ s.size + 1 ∧ 1 ≤ WB.length ∧ Below w.heap.size w w'
theorem words_any (s : ByteArray) (c : UInt8) (w : World) (hs : s.size ≤ 1000) :
  Calls Tryz.prog 128 #[.string s, .int .u8 (c.toNat : Int)] w (qy6 c s w) := by
 refine (split1_any s c w (by omega)).mono ?_
 rintro e w' ⟨WB, A, cap, rfl, hown, hsp, hb⟩
 obtain ⟨h1, h2⟩ := zk5 c s.data.toList
 have hx : ∀ x ∈ WB, x.size ≤ s.size := by
  intro x hx
  have h3 : x.data.toList ∈ qe8 c s.data.toList := by rw [← hsp]; exact List.mem_map.2 ⟨x, hx, rfl⟩
  have := h2 _ h3
  simpa using this
 have hlen : (WB.map (fun x => x.data.toList)).length = (qe8 c s.data.toList).length := by rw [hsp]
 rw [List.length_map] at hlen
 have hs2 : s.data.toList.length = s.size := by simp
 refine ⟨WB, A, cap, rfl, ?_, hsp, hx, by omega, ?_, hb⟩
 ·refine qf8 (f := fStr) (by rw [ze7]; exact hown) (fun x hx' => ?_) (fun g hg => (hown.lt g hg).2)
  have := hx x hx'
  show x.size ≤ maxLen
  unfold maxLen
  omega
 ·have := zs5 c s.data.toList
  rcases Nat.eq_zero_or_pos (qe8 c s.data.toList).length with h | h
  ·exact absurd (List.eq_nil_of_length_eq_zero h) this
  ·omega
theorem numRes_some {s : List UInt8} {n : Nat} (h : qc7 s = some n) : qk1 s = .tuple #[.int .i64 (n : Int), .bool true] := by unfold qk1; rw [h]
theorem numRes_none {s : List UInt8} (h : qc7 s = none) : qk1 s = .tuple #[.int .i64 0, .bool false] := by unfold qk1; rw [h]
theorem qe2 {s : ByteArray} (h : s.size = 0) : s.toList = [] := by
 rw [ByteArray.toList_eq]
 exact List.eq_nil_of_length_eq_zero (by simpa using h)
theorem zb8 {s : ByteArray} (h : s.size = 0) : s.data.toList = [] := List.eq_nil_of_length_eq_zero (by simpa using h)
theorem qb9 {s : ByteArray} (h : 0 < s.size) : s.toList.isEmpty = false := by
 rw [ByteArray.toList_eq]
 exact qm8 (n := s.size) (by simp) h
theorem qr4 {s : ByteArray} (h : 0 < s.size) : s.data.toList.isEmpty = false := qm8 (n := s.size) (by simp) h
set_option maxRecDepth 100000 in
set_option maxHeartbeats 1000000 in
theorem tags_any (s : ByteArray) (pre : Bool) (w : World) (hs : s.size ≤ 1000) :
  Calls Tryz.prog 97 #[.string s, .bool pre] w fun e w' => e = .returned (.bool (qp2 s.data.toList pre)) ∧ Below w.heap.size w w' := by
 by_cases h0 : s.size = 0
 ·have e0 := qe2 h0
  have HN : Hid (qp2 s.data.toList pre = true) := hid (by unfold qp2; rw [zb8 h0]; rfl)
  clear h0
  go_enter Tryz.func97, Tryz.ntmps97
  go_wp2
  go_ret
  exact ⟨qa4 HN.out.symm, Below.refl _ _⟩
 ·have e0 := qb9 (s := s) (by omega)
  have HT : Hid (qp2 s.data.toList pre = (decide ((qe8 46 s.data.toList).length ≤ 4) && (qe8 46 s.data.toList).all (za8 pre))) := hid (by unfold qp2; rw [qr4 (by omega)]; rfl)
  have e1 : (!s.toList.isEmpty) = true := by rw [e0]; rfl
  go_enter Tryz.func97, Tryz.ntmps97
  go_wp2_with fail
  refine (words_any s 46 _ hs).mono ?_
  rintro e w1 ⟨WB, A, cap, rfl, hrd, hsp, hx, hlen, hlen1, hb⟩
  have HSP := hid hsp
  have HX := hid hx
  obtain ⟨A', cap', hv, hcap, hmax, hc⟩ := hrd.flat
  injection hv with e1 e2 e3
  subst e1
  have HC := hid hc
  clear hsp hx hc hrd e2 e3
  have HB := hid hb
  have HL := hid (show (qe8 46 s.data.toList).length = WB.length by rw [← HSP.out, List.length_map])
  by_cases h4 : 4 < WB.length
  ·have HN : Hid (qp2 s.data.toList pre = false) := hid (by rw [HT.out, HL.out, decide_eq_false (by omega : ¬ WB.length ≤ 4)]; rfl)
   have i1 : (4 : Int) < ↑WB.length := by omega
   go_wp2
   go_ret
   exact ⟨qa4 HN.out.symm, HB.out⟩
  ·have HT2 : Hid (qp2 s.data.toList pre = WB.all (fun x => za8 pre x.data.toList)) := hid (by
    rw [HT.out, HL.out, decide_eq_true (by omega : WB.length ≤ 4), ← HSP.out, List.all_map]; rfl)
   have i1 : ¬ (4 : Int) < ↑WB.length := by omega
   clear hb
   go_wp2
   go_loopw [6] (fun iv wr => ∃ k : Nat, k ≤ WB.length ∧ iv = .int .i64 k ∧ Hid ((WB.take k).all (fun x => za8 pre x.data.toList) = true) ∧ wr = w1) (fun iv _ => WB.length - (intOf iv).toNat)
   case atStart => exact ⟨0, Nat.zero_le _, rfl, hid rfl, rfl⟩
   case round =>
    obtain ⟨k, hk, rfl, hall, rfl⟩ := hrel
    by_cases hlt : k < WB.length
    ·obtain ⟨g, o, hA, hF, -, hcell⟩ := HC.out k hlt
     cases hA
     have c0 := hcell 0 _ rfl
     have hxk : (WB[k]).size ≤ 1000 := by have := HX.out _ (List.getElem_mem hlt); omega
     have HAT := hid (show (WB.take (k + 1)).all (fun x => za8 pre x.data.toList) = ((WB.take k).all (fun x => za8 pre x.data.toList) && za8 pre (WB[k]).data.toList) by rw [List.take_succ_eq_append_getElem hlt, List.all_append]; simp)
     have HBAD : Hid (za8 pre (WB[k]).data.toList = false → qp2 s.data.toList pre = false) := hid (fun hf => by
      rw [HT2.out, List.all_eq_false]
      exact ⟨WB[k], List.getElem_mem hlt, by rw [hf]; simp⟩)
     simp only [fStr, Nat.mul_one, Nat.add_zero] at c0
     clear hcell
     have i2 : (0 : Int) ≤ ↑k := by omega
     have i3 : (↑k : Int) < ↑WB.length := by omega
     generalize WB[k] = t at *
     cases ht : tagB t.data.toList with
     | false =>
      have HTB := hid ht
      clear ht
      go_wp2_with (go_at_call 129; refine (zk6 t _ hxk).mono ?_; rintro e w' ⟨rfl, rfl⟩; rw [HTB.out])
      go_ret
      exact ⟨qa4 (HBAD.out (by unfold za8; rw [HTB.out]; rfl)).symm, HB.out⟩
     | true =>
      have HTB := hid ht
      clear ht
      cases hn : qc7 t.data.toList with
      | none =>
       have HNU := hid (numRes_none hn)
       have HNF := hid hn
       clear hn
       cases hnu : qd4 t.data.toList with
       | false =>
        have HNB := hid hnu
        clear hnu
        cases pre
        all_goals
         go_wp2_with (first
          | (go_at_call 129; refine (zk6 t _ hxk).mono ?_; rintro e w' ⟨rfl, rfl⟩; rw [HTB.out])
          | (go_at_call 130; refine (ql5 t _ hxk).mono ?_; rintro e w' ⟨rfl, rfl⟩; rw [HNU.out])
          | (go_at_call 131; refine (qg0 t _ hxk).mono ?_; rintro e w' ⟨rfl, rfl⟩; rw [HNB.out]))
         go_roundw
         case rel => exact ⟨k + 1, by omega, by go_num, hid (by rw [HAT.out, hall.out]; unfold za8; rw [HTB.out, HNB.out]; rfl), trivial⟩
         case measure => simp [intOf]; omega
       | true =>
        have HNB := hid hnu
        clear hnu
        cases pre
        ·go_wp2_with (first
          | (go_at_call 129; refine (zk6 t _ hxk).mono ?_; rintro e w' ⟨rfl, rfl⟩; rw [HTB.out])
          | (go_at_call 130; refine (ql5 t _ hxk).mono ?_; rintro e w' ⟨rfl, rfl⟩; rw [HNU.out])
          | (go_at_call 131; refine (qg0 t _ hxk).mono ?_; rintro e w' ⟨rfl, rfl⟩; rw [HNB.out]))
         go_roundw
         case rel => exact ⟨k + 1, by omega, by go_num, hid (by rw [HAT.out, hall.out]; unfold za8; rw [HTB.out]; rfl), trivial⟩
         case measure => simp [intOf]; omega
        ·go_wp2_with (first
          | (go_at_call 129; refine (zk6 t _ hxk).mono ?_; rintro e w' ⟨rfl, rfl⟩; rw [HTB.out])
          | (go_at_call 130; refine (ql5 t _ hxk).mono ?_; rintro e w' ⟨rfl, rfl⟩; rw [HNU.out])
          | (go_at_call 131; refine (qg0 t _ hxk).mono ?_; rintro e w' ⟨rfl, rfl⟩; rw [HNB.out]))
         go_ret
         exact ⟨qa4 (HBAD.out (by unfold za8; rw [HTB.out, HNB.out, HNF.out]; rfl)).symm, HB.out⟩
      | some n =>
       have HNU := hid (numRes_some hn)
       have HNF := hid hn
       clear hn
       cases hnu : qd4 t.data.toList
       all_goals
        have HNB := hid hnu
        clear hnu
        cases pre
        all_goals
         go_wp2_with (first
          | (go_at_call 129; refine (zk6 t _ hxk).mono ?_; rintro e w' ⟨rfl, rfl⟩; rw [HTB.out])
          | (go_at_call 130; refine (ql5 t _ hxk).mono ?_; rintro e w' ⟨rfl, rfl⟩; rw [HNU.out])
          | (go_at_call 131; refine (qg0 t _ hxk).mono ?_; rintro e w' ⟨rfl, rfl⟩; rw [HNB.out]))
         go_roundw
         case rel => exact ⟨k + 1, by omega, by go_num, hid (by rw [HAT.out, hall.out]; unfold za8; rw [HTB.out, HNF.out]; simp), trivial⟩
         case measure => simp [intOf]; omega
    ·have HN : Hid (qp2 s.data.toList pre = true) := hid (by
      have := hall.out
      rw [List.take_of_length_le (by omega)] at this
      rw [HT2.out, this])
     go_wp2
     go_ret
     exact ⟨qa4 HN.out.symm, HB.out⟩
end
section
set_option maxHeartbeats 1000000 in
theorem qb6 (a b c : Int) (p q : ByteArray) (w : World) (h : VB a b c p q) :
  Calls Tryz.prog 54 #[.agg #[.int .i64 a, .int .i64 b, .int .i64 c, .string p, .string q]] w fun e w' => e = .returned (.bool (mayV ⟨a, b, c, p, q⟩)) ∧ Below w.heap.size w w' := by
 obtain ⟨ha, hb, hc, hp, hq⟩ := h
 go_enter Tryz.func54, Tryz.ntmps54
 go_wp2_with (first
  | (go_at_call 96; refine (num_any _ _).mono ?_; rintro e w' ⟨rfl, rfl⟩)
  | (go_at_call 97; (with_reducible refine (tags_any p true _ hp).mono ?_); rintro e w1 ⟨rfl, hb1⟩; obtain ⟨hbc, hbf⟩ := qb4 hb1)
  | (go_at_call 97; (with_reducible refine (tags_any q false _ hq).mono ?_); rintro e w2 ⟨rfl, hb2⟩))
 all_goals go_ret
 all_goals refine ⟨qa4 (by simp [mayV, *]), ?_⟩
 all_goals first
  | exact qa0 (b0 w) _
  | exact qa1 (qa0 (b0 w) _) hb1
  | exact qa1 (qa1 (qa0 (b0 w) _) hb1) hb2
def zp5 (a b : ByteArray) : Int := if Op.bytesLess a.toList b.toList = true then -1 else if (!a.toList == b.toList) = true then 1 else 0
set_option maxHeartbeats 400000 in
theorem texts_any (a b : ByteArray) (w : World) :
  Calls Tryz.prog 205 #[.string a, .string b] w fun e w' => e = .returned (.int .i64 (zp5 a b)) ∧ w' = w := by
 go_enter Tryz.func205, Tryz.ntmps205
 go_wp2
 all_goals go_ret
 ·exact ⟨qb7 (by unfold zp5; rw [if_pos (by assumption)]), rfl⟩
 ·exact ⟨qb7 (by unfold zp5; rw [if_neg (by rw [‹Op.bytesLess _ _ = false›]; simp), if_pos (by assumption)]), rfl⟩
 ·exact ⟨qb7 (by unfold zp5; rw [if_neg (by rw [‹Op.bytesLess _ _ = false›]; simp), if_neg (by rw [‹(!_ == _) = false›]; simp)]), rfl⟩
def numV (s : List UInt8) : Int := match qc7 s with | some n => (n : Int) | none => 0
theorem zi7 (s : List UInt8) : qk1 s = .tuple #[.int .i64 (numV s), .bool (qc7 s).isSome] := by
 unfold qk1 numV
 cases qc7 s <;> rfl
def oneF (a b : ByteArray) : Int :=
 if qd4 a.data.toList = true then (if qd4 b.data.toList = true then qh0 (numV a.data.toList) (numV b.data.toList) else -1)
 else if qd4 b.data.toList = true then 1 else zp5 a b
set_option maxHeartbeats 400000 in
theorem one_any (a b : ByteArray) (w : World) (ha : a.size ≤ 1000) (hb : b.size ≤ 1000) :
  Calls Tryz.prog 204 #[.string a, .string b] w fun e w' => e = .returned (.int .i64 (oneF a b)) ∧ w' = w := by
 cases hx : qd4 a.data.toList with
 | true =>
  cases hy : qd4 b.data.toList with
  | true =>
   have HX := hid hx
   have HY := hid hy
   have H : Hid (oneF a b = qh0 (numV a.data.toList) (numV b.data.toList)) := hid (by unfold oneF; rw [if_pos hx, if_pos hy])
   clear hx hy
   go_enter Tryz.func204, Tryz.ntmps204
   go_wp2_with (first
    | (go_at_call 131; (with_reducible refine (qg0 a _ ha).mono ?_); rintro e w' ⟨rfl, rfl⟩; rw [HX.out])
    | (go_at_call 131; (with_reducible refine (qg0 b _ hb).mono ?_); rintro e w' ⟨rfl, rfl⟩; rw [HY.out])
    | (go_at_call 130; (with_reducible refine (ql5 a _ ha).mono ?_); rintro e w' ⟨rfl, rfl⟩; rw [zi7])
    | (go_at_call 130; (with_reducible refine (ql5 b _ hb).mono ?_); rintro e w' ⟨rfl, rfl⟩; rw [zi7])
    | (go_at_call 195; refine (qg6 _ _ _).mono ?_; rintro e w' ⟨rfl, rfl⟩))
   go_ret
   exact ⟨qb7 H.out.symm, rfl⟩
  | false =>
   have HX := hid hx
   have HY := hid hy
   have H : Hid (oneF a b = -1) := hid (by unfold oneF; rw [if_pos hx, if_neg (by rw [hy]; simp)])
   clear hx hy
   go_enter Tryz.func204, Tryz.ntmps204
   go_wp2_with (first
    | (go_at_call 131; (with_reducible refine (qg0 a _ ha).mono ?_); rintro e w' ⟨rfl, rfl⟩; rw [HX.out])
    | (go_at_call 131; (with_reducible refine (qg0 b _ hb).mono ?_); rintro e w' ⟨rfl, rfl⟩; rw [HY.out]))
   go_ret
   exact ⟨qb7 H.out.symm, rfl⟩
 | false =>
  cases hy : qd4 b.data.toList with
  | true =>
   have HX := hid hx
   have HY := hid hy
   have H : Hid (oneF a b = 1) := hid (by unfold oneF; rw [if_neg (by rw [hx]; simp), if_pos hy])
   clear hx hy
   go_enter Tryz.func204, Tryz.ntmps204
   go_wp2_with (first
    | (go_at_call 131; (with_reducible refine (qg0 a _ ha).mono ?_); rintro e w' ⟨rfl, rfl⟩; rw [HX.out])
    | (go_at_call 131; (with_reducible refine (qg0 b _ hb).mono ?_); rintro e w' ⟨rfl, rfl⟩; rw [HY.out]))
   go_ret
   exact ⟨qb7 H.out.symm, rfl⟩
  | false =>
   have HX := hid hx
   have HY := hid hy
   have H : Hid (oneF a b = zp5 a b) := hid (by unfold oneF; rw [if_neg (by rw [hx]; simp), if_neg (by rw [hy]; simp)])
   clear hx hy
   go_enter Tryz.func204, Tryz.ntmps204
   go_wp2_with (first
    | (go_at_call 131; (with_reducible refine (qg0 a _ ha).mono ?_); rintro e w' ⟨rfl, rfl⟩; rw [HX.out])
    | (go_at_call 131; (with_reducible refine (qg0 b _ hb).mono ?_); rintro e w' ⟨rfl, rfl⟩; rw [HY.out])
    | (go_at_call 205; refine (texts_any _ _ _).mono ?_; rintro e w' ⟨rfl, rfl⟩))
   go_ret
   exact ⟨qb7 H.out.symm, rfl⟩
end
end Go.Proofs.YtbfbppjccbppiaaGreatDoor
