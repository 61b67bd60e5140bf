/- Texts of words and names: plain words; contracts: ident.Word, linchpinref1.low, digit, Word. -/
import Derived.Test.YtdcdpkpomhjilaaRows
import Derived.Test.YtdcdpkpomhjilaaFlat
import Derived.Laws.RangeAny
import Derived.LoopTactic
namespace Go.Proofs.Ytdcdpkpomhjilaa
open Go Go.RowKit

theorem rbool {a b : Bool} (h : a = b) : Ending.returned (.bool a) = .returned (.bool b) := by rw [h]
def lowB (c : UInt8) : Bool := decide (97 ≤ c.toNat) && decide (c.toNat ≤ 122)
def digB (c : UInt8) : Bool := decide (48 ≤ c.toNat) && decide (c.toNat ≤ 57)
def wordC (c : UInt8) : Bool := lowB c || digB c || decide (c.toNat = 95)
def wordB (s : List UInt8) : Bool := !s.isEmpty && decide (s.length ≤ 12) && s.all wordC
theorem wordC_iff (c : UInt8) : wordC c = true ↔ ((97 ≤ c.toNat ∧ c.toNat ≤ 122) ∨ (48 ≤ c.toNat ∧ c.toNat ≤ 57)) ∨ c.toNat = 95 := by
  simp only [wordC, lowB, digB, Bool.or_eq_true, Bool.and_eq_true, decide_eq_true_eq]
theorem wordB_long {s : List UInt8} (h : 12 < s.length) : wordB s = false := by
  unfold wordB
  rw [decide_eq_false (by omega)]
  simp
theorem wordB_nil {s : List UInt8} (h : s.length < 1) : wordB s = false := by
  have : s = [] := List.eq_nil_of_length_eq_zero (by omega)
  rw [this]; rfl
theorem wordB_bad {s : List UInt8} {k : Nat} (h : k < s.length) (hc : ¬ wordC s[k] = true) : wordB s = false := by
  have : s.all wordC = false := by
    rw [List.all_eq_false]
    exact ⟨s[k], List.getElem_mem h, hc⟩
  unfold wordB
  rw [this, Bool.and_false]
theorem wordB_good {s : List UInt8} (h1 : 1 ≤ s.length) (h2 : s.length ≤ 12) (h : s.all wordC = true) : wordB s = true := by
  unfold wordB
  rw [h, decide_eq_true h2]
  cases s with
  | nil => simp at h1
  | cons _ _ => rfl
theorem all_next {p : UInt8 → Bool} {s : List UInt8} {k : Nat} (h : k < s.length) (ha : (s.take k).all p = true) (hc : p s[k] = true) : (s.take (k + 1)).all p = true := by
  rw [List.take_succ_eq_append_getElem h, List.all_append, ha]
  simp [hc]
theorem empty_iff (s : ByteArray) : (s.toList.isEmpty = true ↔ s.size < 1) ∧ (s.toList.isEmpty = false ↔ 1 ≤ s.size) := by
  have h : s.data.toList.length = s.size := by simp
  rw [ByteArray.toList_eq]
  cases hs : s.data.toList with
  | nil => rw [hs] at h; simp only [List.length_nil] at h; exact ⟨⟨fun _ => by omega, fun _ => rfl⟩, ⟨fun h => (by cases h), fun h => absurd h (by omega)⟩⟩
  | cons a l => rw [hs] at h; simp only [List.length_cons] at h; exact ⟨⟨fun h => (by cases h), fun h => absurd h (by omega)⟩, ⟨fun _ => by omega, fun _ => rfl⟩⟩

theorem below_iter (w : World) (s : ByteArray) (p : Nat) : Below w.heap.size w (w.iter s p) := balloc (b0 w) _

set_option maxRecDepth 100000 in
set_option maxHeartbeats 1000000 in
theorem iword_any (s : ByteArray) (w : World) :
    Calls Try.prog 26 #[.string s] w fun e w' => e = .returned (.bool (wordB s.data.toList)) ∧ Below w.heap.size w w' := by
  have HSZ := hid (show s.data.toList.length = s.size by simp)
  by_cases h0 : s.size < 1
  · have e0 := (empty_iff s).1.2 h0
    go_enter Try.func26, Try.ntmps26
    go_wp2
    go_ret
    exact ⟨rbool (wordB_nil (by rw [HSZ.out]; exact h0)).symm, Below.refl _ _⟩
  · have e0 := (empty_iff s).2.2 (by omega)
    by_cases h12 : (12 : Int) < s.size
    · go_enter Try.func26, Try.ntmps26
      go_wp2
      go_ret
      exact ⟨rbool (wordB_long (by rw [HSZ.out]; omega)).symm, Below.refl _ _⟩
    · go_enter Try.func26, Try.ntmps26
      go_wp2
      go_loopw [4] (fun _ wr => ∃ pos, pos ≤ s.size ∧ wr = w.iter s pos ∧ Hid ((s.data.toList.take pos).all wordC = true)) (fun _ wr => s.size - wr.iterPos w.heap.size)
      case atStart => exact ⟨0, by omega, rfl, hid rfl⟩
      case round =>
        obtain ⟨pos, hpos, rfl, hall⟩ := hrel
        by_cases hp : pos < s.size
        · have hnx : ∀ ty, (Instr.next (.pointer (some ⟨w.heap.size, 0, none⟩)) true ty).run Try.prog (w.iter s pos) = _ := fun ty => run_next_any w s pos ty hp
          have hlt : pos < s.data.toList.length := by rw [HSZ.out]; exact hp
          by_cases hw : wordC s[pos] = true
          · have ha : s[pos].toNat < 128 := by have := (wordC_iff _).1 hw; omega
            have hd := decode_ascii s pos hp ha
            rw [hd] at hnx
            have HALL := hid (all_next (p := wordC) hlt hall.out hw)
            have hw' := (wordC_iff _).1 hw
            clear hd hw
            have HR : Hid (∃ p, p ≤ s.size ∧ w.iter s (pos + 1) = w.iter s p ∧ Hid ((s.data.toList.take p).all wordC = true)) := hid ⟨pos + 1, by omega, rfl, HALL⟩
            by_cases c1 : (97 : Int) ≤ s[pos].toNat
            · by_cases c2 : (s[pos].toNat : Int) ≤ 122
              · clear hw'
                go_wp2
                exact ⟨HR.out, by simp; omega⟩
              · omega
            · by_cases c3 : (48 : Int) ≤ s[pos].toNat
              · by_cases c4 : (s[pos].toNat : Int) ≤ 57
                · clear hw'
                  go_wp2
                  exact ⟨HR.out, by simp; omega⟩
                · have c5 : ((s[pos].toNat : Int) == 95) = true := by rw [beq_iff_eq]; omega
                  clear hw'
                  go_wp2
                  exact ⟨HR.out, by simp; omega⟩
              · omega
          · have HBAD := hid (wordB_bad hlt hw)
            obtain ⟨r, n, hr, hrx⟩ : ∃ (r : Nat) (n : Nat), Utf8.decode s pos = (r, n) ∧ ¬ (((97 ≤ r ∧ r ≤ 122) ∨ (48 ≤ r ∧ r ≤ 57)) ∨ r = 95) := by
              refine ⟨(Utf8.decode s pos).1, (Utf8.decode s pos).2, rfl, ?_⟩
              by_cases ha : s[pos].toNat < 128
              · rw [decode_ascii s pos hp ha]
                exact fun h => hw ((wordC_iff _).2 h)
              · have := (decode_high s pos hp (by omega)).1
                omega
            rw [hr] at hnx
            clear hr hw
            have HX := hid hrx
            by_cases c1 : (97 : Int) ≤ r
            · by_cases c2 : (r : Int) ≤ 122
              · omega
              · by_cases c3 : (48 : Int) ≤ r
                · by_cases c4 : (r : Int) ≤ 57
                  · omega
                  · have c5 : ((r : Int) == 95) = false := by rw [beq_eq_false_iff_ne]; omega
                    clear hrx
                    go_wp2
                    go_ret
                    exact ⟨rbool HBAD.out.symm, below_iter w s _⟩
                · omega
            · by_cases c3 : (48 : Int) ≤ r
              · by_cases c4 : (r : Int) ≤ 57
                · omega
                · have c5 : ((r : Int) == 95) = false := by rw [beq_eq_false_iff_ne]; omega
                  clear hrx
                  go_wp2
                  go_ret
                  exact ⟨rbool HBAD.out.symm, below_iter w s _⟩
              · have c5 : ((r : Int) == 95) = false := by rw [beq_eq_false_iff_ne]; omega
                clear hrx
                go_wp2
                go_ret
                exact ⟨rbool HBAD.out.symm, below_iter w s _⟩
        · have hnx : ∀ ty, (Instr.next (.pointer (some ⟨w.heap.size, 0, none⟩)) true ty).run Try.prog (w.iter s pos) = _ := fun ty => run_next_end w s pos ty hp
          have HG := hid (wordB_good (by rw [HSZ.out]; omega) (by rw [HSZ.out]; omega) (by have := hall.out; rwa [List.take_of_length_le (by rw [HSZ.out]; omega)] at this))
          go_wp2
          go_ret
          exact ⟨rbool HG.out.symm, below_iter w s pos⟩
end Go.Proofs.Ytdcdpkpomhjilaa
