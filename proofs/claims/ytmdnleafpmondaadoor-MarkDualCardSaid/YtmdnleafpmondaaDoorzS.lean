import Derived.Test.YtmdnleafpmondaaDoorzA
import Derived.Test.YtmdnleafpmondaaDoorRows
import Derived.Laws.RangeAny
import Derived.LoopTactic
section
/- Slices of texts in memory. No program stands here. -/
namespace Go.Proofs.YtmdnleafpmondaaDoor
open Go Go.RowKit

/-- A slice of texts, opened. -/
theorem SliceRd.strs {w : World} {F : Nat → Prop} {v : Value} {l : List ByteArray} (h : SliceRd tStr w F v l) :
    ∃ A cap, v = .slice A l.length cap ∧ l.length ≤ cap ∧ cap ≤ maxLen ∧
      ∀ k, (hk : k < l.length) → ∃ g o, A = some ⟨g, o, none⟩ ∧ F g ∧ w.cell? ⟨g, o + k, none⟩ = some (.string l[k]) ∧ l[k].size ≤ maxLen := by
  obtain ⟨A, cap, hv, h1, h2, h3⟩ := h.shape
  refine ⟨A, cap, hv, h1, h2, fun k hk => ?_⟩
  obtain ⟨g, o, cs, hA, hF, hc, hcell, rfl, hi⟩ := h3 k hk
  have e0 := hcell 0 (by show 0 < 1; omega)
  simp only [tStr, Nat.mul_one, Nat.add_zero] at e0
  exact ⟨g, o, hA, hF, e0, hi⟩
theorem strs_all (l : List ByteArray) : fStr.all l = l.map Value.string := by
  induction l with
  | nil => rfl
  | cons x l ih => rw [Flat.all_cons, ih]; rfl
theorem strs_small {w : World} {F : Nat → Prop} {v : Value} {l : List ByteArray} (h : SliceRd tStr w F v l) : ∀ x ∈ l, x.size ≤ maxLen := by
  obtain ⟨A, cap, hv, h1, h2, h3⟩ := h.strs
  intro x hx
  obtain ⟨k, hk, rfl⟩ := List.getElem_of_mem hx
  obtain ⟨_, _, _, _, _, h⟩ := h3 k hk
  exact h
/-- A piece of a slice of texts. -/
theorem SliceRd.cutS {w : World} {F : Nat → Prop} {A : Option Addr} {n cap : Nat} {l : List ByteArray} (h : SliceRd tStr w F (.slice A n cap) l) (a b : Nat) (hab : a ≤ b) (hb : b ≤ l.length) (c' : Nat) (hc : b - a ≤ c') (hc2 : c' ≤ maxLen) (A' : Option Addr) (hA : ∀ g o, A = some ⟨g, o, none⟩ → a < b → A' = some ⟨g, o + a, none⟩) :
    SliceRd tStr w F (.slice A' (b - a) c') ((l.drop a).take (b - a)) := by
  obtain ⟨A0, cap0, hv, h1, h2, h3⟩ := h.shape
  injection hv with e1 e2 e3
  subst e1 e2 e3
  have hl : ((l.drop a).take (b - a)).length = b - a := by rw [List.length_take, List.length_drop]; omega
  refine ⟨A', c', by rw [hl], by rw [hl]; exact hc, hc2, fun k hk => ?_⟩
  rw [hl] at hk
  obtain ⟨g, o, cs, hA0, hF, hcl, hcell, hr⟩ := h3 (a + k) (by omega)
  refine ⟨g, o + a, cs, hA g o hA0 (by omega), hF, hcl, fun j hj => ?_, ?_⟩
  · have := hcell j hj
    simp only [tStr, Nat.mul_one] at this ⊢
    rw [← this]
    congr 2
    omega
  · have e : ((l.drop a).take (b - a))[k]'(by rw [hl]; exact hk) = l[a + k] := by
      rw [List.getElem_take, List.getElem_drop]
    rw [e]
    exact hr
def ltS (a b : ByteArray) : Bool := Op.bytesLess a.toList b.toList
theorem eqS_iff (a b : ByteArray) : (a.toList == b.toList) = decide (a = b) := by
  rw [Bool.eq_iff_iff, beq_iff_eq, decide_eq_true_iff, ByteArray.toList_eq, ByteArray.toList_eq]
  constructor
  · intro h
    exact ByteArray.ext (Array.ext' h)
  · rintro rfl; rfl
/-- Do texts rise, none twice? -/
def risesB (l : List ByteArray) : Bool := (List.range l.length).all fun i => decide (i = 0) || ltS (l.getD (i - 1) ByteArray.empty) (l.getD i ByteArray.empty)
theorem risesB_bad {l : List ByteArray} {i : Nat} (h0 : 1 ≤ i) (hi : i < l.length) (h : ltS (l[i - 1]'(by omega)) l[i] = false) : risesB l = false := by
  unfold risesB
  rw [List.all_eq_false]
  refine ⟨i, List.mem_range.2 hi, ?_⟩
  rw [List.getD_eq_getElem?_getD, List.getD_eq_getElem?_getD, List.getElem?_eq_getElem (show i - 1 < l.length by omega), List.getElem?_eq_getElem hi]
  simp only [Option.getD_some, h, Bool.or_false, decide_eq_true_eq]
  omega
theorem risesB_good {l : List ByteArray} (h : ∀ i, (h0 : 1 ≤ i) → (hi : i < l.length) → ltS (l[i - 1]'(by omega)) l[i] = true) : risesB l = true := by
  unfold risesB
  rw [List.all_eq_true]
  intro i hi
  have hi := List.mem_range.1 hi
  by_cases h0 : i = 0
  · simp [h0]
  · rw [List.getD_eq_getElem?_getD, List.getD_eq_getElem?_getD, List.getElem?_eq_getElem (show i - 1 < l.length by omega), List.getElem?_eq_getElem hi]
    simp only [Option.getD_some, h i (by omega) hi, Bool.or_true]
theorem risesB_iff {l : List ByteArray} : risesB l = true ↔ ∀ i, (h0 : 1 ≤ i) → (hi : i < l.length) → ltS (l[i - 1]'(by omega)) l[i] = true := by
  constructor
  · intro h i h0 hi
    cases hb : ltS (l[i - 1]'(by omega)) l[i] with
    | true => rfl
    | false => rw [risesB_bad h0 hi hb] at h; cases h
  · exact risesB_good
end Go.Proofs.YtmdnleafpmondaaDoor
end
section
/- Texts of words and names: plain words; contracts: ident.Word, linchpinref1.low, digit, Word. -/
namespace Go.Proofs.YtmdnleafpmondaaDoor
open Go Go.RowKit

theorem rbool {a b : Bool} (h : a = b) : Ending.returned (.bool a) = .returned (.bool b) := by rw [h]
def lowB (c : UInt8) : Bool := decide (97 ≤ c.toNat) && decide (c.toNat ≤ 122)
def digB (c : UInt8) : Bool := decide (48 ≤ c.toNat) && decide (c.toNat ≤ 57)
def wordC (c : UInt8) : Bool := lowB c || digB c || decide (c.toNat = 95)
def wordB (s : List UInt8) : Bool := !s.isEmpty && decide (s.length ≤ 12) && s.all wordC
theorem wordC_iff (c : UInt8) : wordC c = true ↔ ((97 ≤ c.toNat ∧ c.toNat ≤ 122) ∨ (48 ≤ c.toNat ∧ c.toNat ≤ 57)) ∨ c.toNat = 95 := by
  simp only [wordC, lowB, digB, Bool.or_eq_true, Bool.and_eq_true, decide_eq_true_eq]
theorem wordB_long {s : List UInt8} (h : 12 < s.length) : wordB s = false := by
  unfold wordB
  rw [decide_eq_false (by omega)]
  simp
theorem wordB_nil {s : List UInt8} (h : s.length < 1) : wordB s = false := by
  have : s = [] := List.eq_nil_of_length_eq_zero (by omega)
  rw [this]; rfl
theorem wordB_bad {s : List UInt8} {k : Nat} (h : k < s.length) (hc : ¬ wordC s[k] = true) : wordB s = false := by
  have : s.all wordC = false := by
    rw [List.all_eq_false]
    exact ⟨s[k], List.getElem_mem h, hc⟩
  unfold wordB
  rw [this, Bool.and_false]
theorem wordB_good {s : List UInt8} (h1 : 1 ≤ s.length) (h2 : s.length ≤ 12) (h : s.all wordC = true) : wordB s = true := by
  unfold wordB
  rw [h, decide_eq_true h2]
  cases s with
  | nil => simp at h1
  | cons _ _ => rfl
theorem all_next {p : UInt8 → Bool} {s : List UInt8} {k : Nat} (h : k < s.length) (ha : (s.take k).all p = true) (hc : p s[k] = true) : (s.take (k + 1)).all p = true := by
  rw [List.take_succ_eq_append_getElem h, List.all_append, ha]
  simp [hc]
theorem empty_iff (s : ByteArray) : (s.toList.isEmpty = true ↔ s.size < 1) ∧ (s.toList.isEmpty = false ↔ 1 ≤ s.size) := by
  have h : s.data.toList.length = s.size := by simp
  rw [ByteArray.toList_eq]
  cases hs : s.data.toList with
  | nil => rw [hs] at h; simp only [List.length_nil] at h; exact ⟨⟨fun _ => by omega, fun _ => rfl⟩, ⟨fun h => (by cases h), fun h => absurd h (by omega)⟩⟩
  | cons a l => rw [hs] at h; simp only [List.length_cons] at h; exact ⟨⟨fun h => (by cases h), fun h => absurd h (by omega)⟩, ⟨fun _ => by omega, fun _ => rfl⟩⟩

theorem below_iter (w : World) (s : ByteArray) (p : Nat) : Below w.heap.size w (w.iter s p) := balloc (b0 w) _

set_option maxRecDepth 100000 in
set_option maxHeartbeats 1000000 in
theorem iword_any (s : ByteArray) (w : World) :
    Calls Tryd.prog 51 #[.string s] w fun e w' => e = .returned (.bool (wordB s.data.toList)) ∧ Below w.heap.size w w' := by
  have HSZ := hid (show s.data.toList.length = s.size by simp)
  by_cases h0 : s.size < 1
  · have e0 := (empty_iff s).1.2 h0
    go_enter Tryd.func51, Tryd.ntmps51
    go_wp2
    go_ret
    exact ⟨rbool (wordB_nil (by rw [HSZ.out]; exact h0)).symm, Below.refl _ _⟩
  · have e0 := (empty_iff s).2.2 (by omega)
    by_cases h12 : (12 : Int) < s.size
    · go_enter Tryd.func51, Tryd.ntmps51
      go_wp2
      go_ret
      exact ⟨rbool (wordB_long (by rw [HSZ.out]; omega)).symm, Below.refl _ _⟩
    · go_enter Tryd.func51, Tryd.ntmps51
      go_wp2
      go_loopw [4] (fun _ wr => ∃ pos, pos ≤ s.size ∧ wr = w.iter s pos ∧ Hid ((s.data.toList.take pos).all wordC = true)) (fun _ wr => s.size - wr.iterPos w.heap.size)
      case atStart => exact ⟨0, by omega, rfl, hid rfl⟩
      case round =>
        obtain ⟨pos, hpos, rfl, hall⟩ := hrel
        by_cases hp : pos < s.size
        · have hnx : ∀ ty, (Instr.next (.pointer (some ⟨w.heap.size, 0, none⟩)) true ty).run Tryd.prog (w.iter s pos) = _ := fun ty => run_next_any w s pos ty hp
          have hlt : pos < s.data.toList.length := by rw [HSZ.out]; exact hp
          by_cases hw : wordC s[pos] = true
          · have ha : s[pos].toNat < 128 := by have := (wordC_iff _).1 hw; omega
            have hd := decode_ascii s pos hp ha
            rw [hd] at hnx
            have HALL := hid (all_next (p := wordC) hlt hall.out hw)
            have hw' := (wordC_iff _).1 hw
            clear hd hw
            have HR : Hid (∃ p, p ≤ s.size ∧ w.iter s (pos + 1) = w.iter s p ∧ Hid ((s.data.toList.take p).all wordC = true)) := hid ⟨pos + 1, by omega, rfl, HALL⟩
            by_cases c1 : (97 : Int) ≤ s[pos].toNat
            · by_cases c2 : (s[pos].toNat : Int) ≤ 122
              · clear hw'
                go_wp2
                exact ⟨HR.out, by simp; omega⟩
              · omega
            · by_cases c3 : (48 : Int) ≤ s[pos].toNat
              · by_cases c4 : (s[pos].toNat : Int) ≤ 57
                · clear hw'
                  go_wp2
                  exact ⟨HR.out, by simp; omega⟩
                · have c5 : ((s[pos].toNat : Int) == 95) = true := by rw [beq_iff_eq]; omega
                  clear hw'
                  go_wp2
                  exact ⟨HR.out, by simp; omega⟩
              · omega
          · have HBAD := hid (wordB_bad hlt hw)
            obtain ⟨r, n, hr, hrx⟩ : ∃ (r : Nat) (n : Nat), Utf8.decode s pos = (r, n) ∧ ¬ (((97 ≤ r ∧ r ≤ 122) ∨ (48 ≤ r ∧ r ≤ 57)) ∨ r = 95) := by
              refine ⟨(Utf8.decode s pos).1, (Utf8.decode s pos).2, rfl, ?_⟩
              by_cases ha : s[pos].toNat < 128
              · rw [decode_ascii s pos hp ha]
                exact fun h => hw ((wordC_iff _).2 h)
              · have := (decode_high s pos hp (by omega)).1
                omega
            rw [hr] at hnx
            clear hr hw
            have HX := hid hrx
            by_cases c1 : (97 : Int) ≤ r
            · by_cases c2 : (r : Int) ≤ 122
              · omega
              · by_cases c3 : (48 : Int) ≤ r
                · by_cases c4 : (r : Int) ≤ 57
                  · omega
                  · have c5 : ((r : Int) == 95) = false := by rw [beq_eq_false_iff_ne]; omega
                    clear hrx
                    go_wp2
                    go_ret
                    exact ⟨rbool HBAD.out.symm, below_iter w s _⟩
                · omega
            · by_cases c3 : (48 : Int) ≤ r
              · by_cases c4 : (r : Int) ≤ 57
                · omega
                · have c5 : ((r : Int) == 95) = false := by rw [beq_eq_false_iff_ne]; omega
                  clear hrx
                  go_wp2
                  go_ret
                  exact ⟨rbool HBAD.out.symm, below_iter w s _⟩
              · have c5 : ((r : Int) == 95) = false := by rw [beq_eq_false_iff_ne]; omega
                clear hrx
                go_wp2
                go_ret
                exact ⟨rbool HBAD.out.symm, below_iter w s _⟩
        · have hnx : ∀ ty, (Instr.next (.pointer (some ⟨w.heap.size, 0, none⟩)) true ty).run Tryd.prog (w.iter s pos) = _ := fun ty => run_next_end w s pos ty hp
          have HG := hid (wordB_good (by rw [HSZ.out]; omega) (by rw [HSZ.out]; omega) (by have := hall.out; rwa [List.take_of_length_le (by rw [HSZ.out]; omega)] at this))
          go_wp2
          go_ret
          exact ⟨rbool HG.out.symm, below_iter w s pos⟩
end Go.Proofs.YtmdnleafpmondaaDoor
end
section
/- Contracts: linchpinref1.low, digit, Word. -/
namespace Go.Proofs.YtmdnleafpmondaaDoor
open Go Go.RowKit

theorem low_any (c : UInt8) (w : World) :
    Calls Tryd.prog 76 #[.int .u8 (c.toNat : Int)] w fun e w' => e = .returned (.bool (lowB c)) ∧ w = w' := by
  have hu := c.toNat_lt
  have H := hid (show lowB c = true ↔ (97 : Int) ≤ c.toNat ∧ (c.toNat : Int) ≤ 122 by simp only [lowB, Bool.and_eq_true, decide_eq_true_eq]; omega)
  go_enter Tryd.func76, Tryd.ntmps76
  by_cases c1 : (97 : Int) ≤ c.toNat <;> by_cases c2 : (c.toNat : Int) ≤ 122 <;> go_wp2 <;> go_ret
  · exact ⟨rbool (H.out.2 ⟨c1, c2⟩).symm, rfl⟩
  all_goals exact ⟨rbool (Bool.eq_false_iff.2 fun h => by have := H.out.1 h; omega).symm, rfl⟩
theorem digit1_any (c : UInt8) (w : World) :
    Calls Tryd.prog 77 #[.int .u8 (c.toNat : Int)] w fun e w' => e = .returned (.bool (digB c)) ∧ w = w' := by
  have hu := c.toNat_lt
  have H := hid (show digB c = true ↔ (48 : Int) ≤ c.toNat ∧ (c.toNat : Int) ≤ 57 by simp only [digB, Bool.and_eq_true, decide_eq_true_eq]; omega)
  go_enter Tryd.func77, Tryd.ntmps77
  by_cases c1 : (48 : Int) ≤ c.toNat <;> by_cases c2 : (c.toNat : Int) ≤ 57 <;> go_wp2 <;> go_ret
  · exact ⟨rbool (H.out.2 ⟨c1, c2⟩).symm, rfl⟩
  all_goals exact ⟨rbool (Bool.eq_false_iff.2 fun h => by have := H.out.1 h; omega).symm, rfl⟩

set_option maxRecDepth 100000 in
set_option maxHeartbeats 1000000 in
theorem rword_any (s : ByteArray) (w : World) :
    Calls Tryd.prog 67 #[.string s] w fun e w' => e = .returned (.bool (wordB s.data.toList)) ∧ Below w.heap.size w w' := by
  have HSZ := hid (show s.data.toList.length = s.size by simp)
  by_cases h0 : (s.size : Int) < 1
  · go_enter Tryd.func67, Tryd.ntmps67
    go_wp2
    go_ret
    exact ⟨rbool (wordB_nil (by rw [HSZ.out]; omega)).symm, Below.refl _ _⟩
  · by_cases h12 : (12 : Int) < s.size
    · go_enter Tryd.func67, Tryd.ntmps67
      go_wp2
      go_ret
      exact ⟨rbool (wordB_long (by rw [HSZ.out]; omega)).symm, Below.refl _ _⟩
    · go_enter Tryd.func67, Tryd.ntmps67
      go_wp2
      go_loopw [3] (fun iv wr => ∃ k : Nat, k ≤ s.size ∧ iv = .int .i64 k ∧ Hid ((s.data.toList.take k).all wordC = true) ∧ Below w.heap.size w wr) (fun iv _ => s.size - (intOf iv).toNat)
      case atStart => exact ⟨0, Nat.zero_le _, rfl, hid rfl, Below.refl _ _⟩
      case round =>
        obtain ⟨k, hk, rfl, hall, hb⟩ := hrel
        have i1 : (0 : Int) ≤ ↑k := by omega
        by_cases hlt : k < s.size
        · have i2 : (↑k : Int) < ↑s.size := by omega
          have hl : k < s.data.toList.length := by rw [HSZ.out]; exact hlt
          have hu := s[k].toNat_lt
          by_cases hw : wordC s[k] = true
          · have HALL := hid (all_next (p := wordC) hl hall.out hw)
            obtain ⟨cl, hcl⟩ : ∃ b, lowB s[k] = b := ⟨_, rfl⟩
            obtain ⟨cd, hcd⟩ : ∃ b, digB s[k] = b := ⟨_, rfl⟩
            have HW : Hid (cl = true ∨ cd = true ∨ ((s[k].toNat : Int) != 95) = false) := hid (by
              simp only [wordC, Bool.or_eq_true, decide_eq_true_eq] at hw
              rw [← hcl, ← hcd]
              rcases hw with (h | h) | h
              · exact .inl h
              · exact .inr (.inl h)
              · exact .inr (.inr (by simp [h])))
            have HCL := hid hcl
            have HCD := hid hcd
            clear hw hcl hcd
            cases cl <;> cases cd
            all_goals
              try (have c9 : ((s[k].toNat : Int) != 95) = false := by rcases HW.out with h | h | h <;> first | cases h | exact h)
              go_wp2_with (first
                | (go_at_call 76; refine (low_any s[k] _).mono ?_; rintro e w' ⟨rfl, rfl⟩; rw [HCL.out])
                | (go_at_call 77; refine (digit1_any s[k] _).mono ?_; rintro e w' ⟨rfl, rfl⟩; rw [HCD.out]))
              exact ⟨⟨k + 1, by omega, by go_num, HALL, hb⟩, by simp [intOf]; omega⟩
          · have HBAD := hid (wordB_bad hl hw)
            have HCL : Hid (lowB s[k] = false) := hid (by
              simp only [wordC, Bool.or_eq_true, not_or, Bool.not_eq_true] at hw
              exact hw.1.1)
            have HCD : Hid (digB s[k] = false) := hid (by
              simp only [wordC, Bool.or_eq_true, not_or, Bool.not_eq_true] at hw
              exact hw.1.2)
            have c9 : ((s[k].toNat : Int) != 95) = true := by
              simp only [wordC, Bool.or_eq_true, not_or, decide_eq_true_eq] at hw
              have := hw.2
              simp only [bne_iff_ne, ne_eq]
              omega
            clear hw
            go_wp2_with (first
              | (go_at_call 76; refine (low_any s[k] _).mono ?_; rintro e w' ⟨rfl, rfl⟩; rw [HCL.out])
              | (go_at_call 77; refine (digit1_any s[k] _).mono ?_; rintro e w' ⟨rfl, rfl⟩; rw [HCD.out]))
            go_ret
            exact ⟨rbool HBAD.out.symm, hb⟩
        · have i2 : ¬ (↑k : Int) < ↑s.size := by omega
          have HG := hid (wordB_good (s := s.data.toList) (by rw [HSZ.out]; omega) (by rw [HSZ.out]; omega) (by have := hall.out; rwa [List.take_of_length_le (by rw [HSZ.out]; omega)] at this))
          go_wp2
          go_ret
          exact ⟨rbool HG.out.symm, hb⟩

theorem eqI (x y : Int) : ((x == y) = true ∧ x = y) ∨ ((x == y) = false ∧ x ≠ y) := by
  by_cases h : x = y
  · exact .inl ⟨by simp [h], h⟩
  · exact .inr ⟨by simp [h], h⟩
end Go.Proofs.YtmdnleafpmondaaDoor
end
