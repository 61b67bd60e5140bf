/- Contracts: linchpinref1.low, digit, Word; ident.Name, linchpinref1.Name. -/
import Derived.Test.YtdcdpkpomhjilaaS1
namespace Go.Proofs.Ytdcdpkpomhjilaa
open Go Go.RowKit

theorem low_any (c : UInt8) (w : World) :
    Calls Try.prog 49 #[.int .u8 (c.toNat : Int)] w fun e w' => e = .returned (.bool (lowB c)) ∧ w = w' := by
  have hu := c.toNat_lt
  have H := hid (show lowB c = true ↔ (97 : Int) ≤ c.toNat ∧ (c.toNat : Int) ≤ 122 by simp only [lowB, Bool.and_eq_true, decide_eq_true_eq]; omega)
  go_enter Try.func49, Try.ntmps49
  by_cases c1 : (97 : Int) ≤ c.toNat <;> by_cases c2 : (c.toNat : Int) ≤ 122 <;> go_wp2 <;> go_ret
  · exact ⟨rbool (H.out.2 ⟨c1, c2⟩).symm, rfl⟩
  all_goals exact ⟨rbool (Bool.eq_false_iff.2 fun h => by have := H.out.1 h; omega).symm, rfl⟩
theorem digit1_any (c : UInt8) (w : World) :
    Calls Try.prog 50 #[.int .u8 (c.toNat : Int)] w fun e w' => e = .returned (.bool (digB c)) ∧ w = w' := by
  have hu := c.toNat_lt
  have H := hid (show digB c = true ↔ (48 : Int) ≤ c.toNat ∧ (c.toNat : Int) ≤ 57 by simp only [digB, Bool.and_eq_true, decide_eq_true_eq]; omega)
  go_enter Try.func50, Try.ntmps50
  by_cases c1 : (48 : Int) ≤ c.toNat <;> by_cases c2 : (c.toNat : Int) ≤ 57 <;> go_wp2 <;> go_ret
  · exact ⟨rbool (H.out.2 ⟨c1, c2⟩).symm, rfl⟩
  all_goals exact ⟨rbool (Bool.eq_false_iff.2 fun h => by have := H.out.1 h; omega).symm, rfl⟩

set_option maxRecDepth 100000 in
set_option maxHeartbeats 1000000 in
theorem rword_any (s : ByteArray) (w : World) :
    Calls Try.prog 30 #[.string s] w fun e w' => e = .returned (.bool (wordB s.data.toList)) ∧ Below w.heap.size w w' := by
  have HSZ := hid (show s.data.toList.length = s.size by simp)
  by_cases h0 : (s.size : Int) < 1
  · go_enter Try.func30, Try.ntmps30
    go_wp2
    go_ret
    exact ⟨rbool (wordB_nil (by rw [HSZ.out]; omega)).symm, Below.refl _ _⟩
  · by_cases h12 : (12 : Int) < s.size
    · go_enter Try.func30, Try.ntmps30
      go_wp2
      go_ret
      exact ⟨rbool (wordB_long (by rw [HSZ.out]; omega)).symm, Below.refl _ _⟩
    · go_enter Try.func30, Try.ntmps30
      go_wp2
      go_loopw [3] (fun iv wr => ∃ k : Nat, k ≤ s.size ∧ iv = .int .i64 k ∧ Hid ((s.data.toList.take k).all wordC = true) ∧ Below w.heap.size w wr) (fun iv _ => s.size - (intOf iv).toNat)
      case atStart => exact ⟨0, Nat.zero_le _, rfl, hid rfl, Below.refl _ _⟩
      case round =>
        obtain ⟨k, hk, rfl, hall, hb⟩ := hrel
        have i1 : (0 : Int) ≤ ↑k := by omega
        by_cases hlt : k < s.size
        · have i2 : (↑k : Int) < ↑s.size := by omega
          have hl : k < s.data.toList.length := by rw [HSZ.out]; exact hlt
          have hu := s[k].toNat_lt
          by_cases hw : wordC s[k] = true
          · have HALL := hid (all_next (p := wordC) hl hall.out hw)
            obtain ⟨cl, hcl⟩ : ∃ b, lowB s[k] = b := ⟨_, rfl⟩
            obtain ⟨cd, hcd⟩ : ∃ b, digB s[k] = b := ⟨_, rfl⟩
            have HW : Hid (cl = true ∨ cd = true ∨ ((s[k].toNat : Int) != 95) = false) := hid (by
              simp only [wordC, Bool.or_eq_true, decide_eq_true_eq] at hw
              rw [← hcl, ← hcd]
              rcases hw with (h | h) | h
              · exact .inl h
              · exact .inr (.inl h)
              · exact .inr (.inr (by simp [h])))
            have HCL := hid hcl
            have HCD := hid hcd
            clear hw hcl hcd
            cases cl <;> cases cd
            all_goals
              try (have c9 : ((s[k].toNat : Int) != 95) = false := by rcases HW.out with h | h | h <;> first | cases h | exact h)
              go_wp2_with (first
                | (go_at_call 49; refine (low_any s[k] _).mono ?_; rintro e w' ⟨rfl, rfl⟩; rw [HCL.out])
                | (go_at_call 50; refine (digit1_any s[k] _).mono ?_; rintro e w' ⟨rfl, rfl⟩; rw [HCD.out]))
              exact ⟨⟨k + 1, by omega, by go_num, HALL, hb⟩, by simp [intOf]; omega⟩
          · have HBAD := hid (wordB_bad hl hw)
            have HCL : Hid (lowB s[k] = false) := hid (by
              simp only [wordC, Bool.or_eq_true, not_or, Bool.not_eq_true] at hw
              exact hw.1.1)
            have HCD : Hid (digB s[k] = false) := hid (by
              simp only [wordC, Bool.or_eq_true, not_or, Bool.not_eq_true] at hw
              exact hw.1.2)
            have c9 : ((s[k].toNat : Int) != 95) = true := by
              simp only [wordC, Bool.or_eq_true, not_or, decide_eq_true_eq] at hw
              have := hw.2
              simp only [bne_iff_ne, ne_eq]
              omega
            clear hw
            go_wp2_with (first
              | (go_at_call 49; refine (low_any s[k] _).mono ?_; rintro e w' ⟨rfl, rfl⟩; rw [HCL.out])
              | (go_at_call 50; refine (digit1_any s[k] _).mono ?_; rintro e w' ⟨rfl, rfl⟩; rw [HCD.out]))
            go_ret
            exact ⟨rbool HBAD.out.symm, hb⟩
        · have i2 : ¬ (↑k : Int) < ↑s.size := by omega
          have HG := hid (wordB_good (s := s.data.toList) (by rw [HSZ.out]; omega) (by rw [HSZ.out]; omega) (by have := hall.out; rwa [List.take_of_length_le (by rw [HSZ.out]; omega)] at this))
          go_wp2
          go_ret
          exact ⟨rbool HG.out.symm, hb⟩

/-! Names. -/
def atC (l : List UInt8) (i : Nat) : Nat := (l.getD i 0).toNat
theorem atC_list {l : List UInt8} {i : Nat} (h : i < l.length) : atC l i = l[i].toNat := by unfold atC; rw [List.getD_eq_getElem?_getD, List.getElem?_eq_getElem h]; rfl
theorem atC_at (s : ByteArray) {i : Nat} (h : i < s.size) : atC s.data.toList i = s[i].toNat := atC_list (by simpa using h)
def okAt (l : List UInt8) (i : Nat) : Prop := (97 ≤ atC l i ∧ atC l i ≤ 122) ∨ (48 ≤ atC l i ∧ atC l i ≤ 57 ∧ i ≠ 0) ∨ (atC l i = 45 ∧ i ≠ 0 ∧ i + 1 ≠ l.length ∧ atC l (i - 1) ≠ 45)
instance (l : List UInt8) (i : Nat) : Decidable (okAt l i) := by unfold okAt; infer_instance
def nameB (l : List UInt8) : Bool := decide (1 ≤ l.length) && decide (l.length ≤ 16) && (List.range l.length).all fun i => decide (okAt l i)
theorem nameB_iff {l : List UInt8} : nameB l = true ↔ 1 ≤ l.length ∧ l.length ≤ 16 ∧ ∀ i, i < l.length → okAt l i := by
  simp only [nameB, Bool.and_eq_true, decide_eq_true_eq, List.all_eq_true, List.mem_range, and_assoc]
theorem nameB_bad {l : List UInt8} {k : Nat} (hk : k < l.length) (h : ¬ okAt l k) : nameB l = false := Bool.eq_false_iff.2 fun hn => h ((nameB_iff.1 hn).2.2 k hk)
theorem eqI (x y : Int) : ((x == y) = true ∧ x = y) ∨ ((x == y) = false ∧ x ≠ y) := by
  by_cases h : x = y
  · exact .inl ⟨by simp [h], h⟩
  · exact .inr ⟨by simp [h], h⟩

set_option maxRecDepth 100000 in
set_option maxHeartbeats 4000000 in
theorem iname_any (s : ByteArray) (w : World) :
    Calls Try.prog 29 #[.string s] w fun e w' => e = .returned (.bool (nameB s.data.toList)) ∧ Below w.heap.size w w' := by
  have HSZ := hid (show s.data.toList.length = s.size by simp)
  by_cases h0 : s.size < 1
  · have e0 := (empty_iff s).1.2 h0
    go_enter Try.func29, Try.ntmps29
    go_wp2
    go_ret
    exact ⟨rbool (Bool.eq_false_iff.2 fun h => by have := (nameB_iff.1 h).1; rw [HSZ.out] at this; omega).symm, Below.refl _ _⟩
  · have e0 := (empty_iff s).2.2 (by omega)
    by_cases h12 : (16 : Int) < s.size
    · go_enter Try.func29, Try.ntmps29
      go_wp2
      go_ret
      exact ⟨rbool (Bool.eq_false_iff.2 fun h => by have := (nameB_iff.1 h).2.1; rw [HSZ.out] at this; omega).symm, Below.refl _ _⟩
    · go_enter Try.func29, Try.ntmps29
      go_wp2
      go_loopw [4] (fun _ wr => ∃ pos, pos ≤ s.size ∧ wr = w.iter s pos ∧ Hid (∀ i, i < pos → okAt s.data.toList i)) (fun _ wr => s.size - wr.iterPos w.heap.size)
      case atStart => exact ⟨0, by omega, rfl, hid fun i hi => absurd hi (by omega)⟩
      case round =>
        obtain ⟨pos, hpos, rfl, hall⟩ := hrel
        by_cases hp : pos < s.size
        · have hnx : ∀ ty, (Instr.next (.pointer (some ⟨w.heap.size, 0, none⟩)) true ty).run Try.prog (w.iter s pos) = _ := fun ty => run_next_any w s pos ty hp
          have hlt : pos < s.data.toList.length := by rw [HSZ.out]; exact hp
          have HAT := hid (atC_at s hp)
          obtain ⟨r, n, hr, HR, HH⟩ : ∃ (r : Nat) (n : Nat), Utf8.decode s pos = (r, n) ∧ Hid (r < 128 → r = atC s.data.toList pos ∧ n = 1) ∧ Hid (128 ≤ r → 128 ≤ atC s.data.toList pos) := by
            refine ⟨(Utf8.decode s pos).1, (Utf8.decode s pos).2, rfl, hid ?_, hid ?_⟩
            all_goals
              rw [HAT.out]
              by_cases ha : s[pos].toNat < 128
              · rw [decode_ascii s pos hp ha]
                simp
                try omega
              · have := (decode_high s pos hp (by omega)).1
                omega
          rw [hr] at hnx
          clear hr
          have j0 : (0 : Int) ≤ ↑pos := by omega
          have j1 : (↑pos : Int) < ↑s.size := by omega
          have HBAD := hid (fun h => nameB_bad (l := s.data.toList) (k := pos) hlt h)
          have HOK := hid (fun (hn : n = 1) (h : okAt s.data.toList pos) => show ∃ p, p ≤ s.size ∧ w.iter s (pos + n) = w.iter s p ∧ Hid (∀ i, i < p → okAt s.data.toList i) from ⟨pos + 1, by omega, by rw [hn], hid fun i hi => by
            by_cases e : i = pos
            · rw [e]; exact h
            · exact hall.out i (by omega)⟩)
          rcases eqI (r : Int) 45 with ⟨c5, d5⟩ | ⟨c5, d5⟩
          · have c1 : ¬ (97 : Int) ≤ r := by omega
            have c3 : ¬ (48 : Int) ≤ r := by omega
            have hr := HR.out (by omega)
            have h45 : atC s.data.toList pos = 45 := by omega
            have hn1 := hr.2
            clear hr d5
            rcases eqI (pos : Int) 0 with ⟨c6, d6⟩ | ⟨c6, d6⟩
            · have HX := hid (HBAD.out (by unfold okAt; omega))
              clear h45 d6 hn1
              go_wp2
              go_ret
              exact ⟨rbool HX.out.symm, below_iter w s _⟩
            · rcases eqI (pos : Int) ((s.size : Int) - 1) with ⟨c7, d7⟩ | ⟨c7, d7⟩
              · have HX := hid (HBAD.out (by unfold okAt; rw [HSZ.out]; omega))
                clear h45 d6 d7 hn1
                go_wp2
                go_ret
                exact ⟨rbool HX.out.symm, below_iter w s _⟩
              · have hp1 : pos - 1 < s.size := by omega
                have k0 : (0 : Int) ≤ ↑pos - 1 := by omega
                have k1 : (↑pos : Int) - 1 < ↑s.size := by omega
                have k2 : ((↑pos : Int) - 1).toNat = pos - 1 := by omega
                have HP := hid (atC_at s hp1)
                rcases eqI (s[pos - 1].toNat : Int) 45 with ⟨c8, d8⟩ | ⟨c8, d8⟩
                · have HX := hid (HBAD.out (by unfold okAt; have := HP.out; omega))
                  clear h45 d6 d7 d8 hn1
                  go_wp2
                  go_ret
                  exact ⟨rbool HX.out.symm, below_iter w s _⟩
                · have HX := hid (HOK.out hn1 (by unfold okAt; rw [HSZ.out]; have := HP.out; omega))
                  have hn0 := hid hn1
                  clear h45 d6 d7 d8 hn1
                  go_wp2
                  exact ⟨HX.out, by have := hn0.out; simp; omega⟩
          · rcases eqI (pos : Int) 0 with ⟨c6, d6⟩ | ⟨c6, d6⟩ <;> by_cases c1 : (97 : Int) ≤ r <;> by_cases c2 : (r : Int) ≤ 122 <;> by_cases c3 : (48 : Int) ≤ r <;> by_cases c4 : (r : Int) ≤ 57
            all_goals first
              | (exfalso; omega)
              | (have HX := hid (HBAD.out (by unfold okAt; by_cases hr : r < 128; · have := HR.out hr; omega
                                              · have := HH.out (by omega); omega))
                 clear d5 d6
                 go_wp2
                 go_ret
                 exact ⟨rbool HX.out.symm, below_iter w s _⟩)
              | (have hn0 := hid (HR.out (by omega)).2
                 have HX := hid (HOK.out hn0.out (by unfold okAt; have := HR.out (by omega); omega))
                 clear d5 d6
                 go_wp2
                 exact ⟨HX.out, by have := hn0.out; simp; omega⟩)
        · have hnx : ∀ ty, (Instr.next (.pointer (some ⟨w.heap.size, 0, none⟩)) true ty).run Try.prog (w.iter s pos) = _ := fun ty => run_next_end w s pos ty hp
          have HG := hid (nameB_iff.2 ⟨by rw [HSZ.out]; omega, by rw [HSZ.out]; omega, fun i hi => hall.out i (by rw [HSZ.out] at hi; omega)⟩)
          go_wp2
          go_ret
          exact ⟨rbool HG.out.symm, below_iter w s _⟩

set_option maxRecDepth 100000 in
set_option maxHeartbeats 4000000 in
theorem rname_any (s : ByteArray) (w : World) :
    Calls Try.prog 32 #[.string s] w fun e w' => e = .returned (.bool (nameB s.data.toList)) ∧ Below w.heap.size w w' := by
  have HSZ := hid (show s.data.toList.length = s.size by simp)
  by_cases h0 : (s.size : Int) < 1
  · go_enter Try.func32, Try.ntmps32
    go_wp2
    go_ret
    exact ⟨rbool (Bool.eq_false_iff.2 fun h => by have := (nameB_iff.1 h).1; rw [HSZ.out] at this; omega).symm, Below.refl _ _⟩
  by_cases h12 : (16 : Int) < s.size
  · go_enter Try.func32, Try.ntmps32
    go_wp2
    go_ret
    exact ⟨rbool (Bool.eq_false_iff.2 fun h => by have := (nameB_iff.1 h).2.1; rw [HSZ.out] at this; omega).symm, Below.refl _ _⟩
  have i0 : (0 : Int) < ↑s.size := by omega
  have i1 : (0 : Int) ≤ ↑s.size - 1 := by omega
  have i2 : (↑s.size : Int) - 1 < ↑s.size := by omega
  have i3 : ((↑s.size : Int) - 1).toNat = s.size - 1 := by omega
  have z0 : 0 < s.size := by omega
  have z1 : s.size - 1 < s.size := by omega
  have HA0 := hid (atC_at s z0)
  have HA1 := hid (atC_at s z1)
  obtain ⟨cl, hcl⟩ : ∃ b, lowB s[0] = b := ⟨_, rfl⟩
  have HCL := hid hcl
  clear hcl
  cases cl with
  | false =>
    have HX := hid (nameB_bad (l := s.data.toList) (k := 0) (by rw [HSZ.out]; exact z0) (by
      have := HCL.out
      have := HA0.out
      unfold okAt
      simp only [lowB, Bool.and_eq_false_iff, decide_eq_false_iff_not] at *
      omega))
    go_enter Try.func32, Try.ntmps32
    go_wp2_with (first
      | (go_at_call 49; refine (low_any s[0] _).mono ?_; rintro e w' ⟨rfl, rfl⟩; rw [HCL.out]))
    go_ret
    exact ⟨rbool HX.out.symm, Below.refl _ _⟩
  | true =>
    rcases eqI (s[s.size - 1].toNat : Int) 45 with ⟨c8, d8⟩ | ⟨c8, d8⟩
    · have HX := hid (nameB_bad (l := s.data.toList) (k := s.size - 1) (by rw [HSZ.out]; exact z1) (by
        have := HA1.out
        unfold okAt
        rw [HSZ.out]
        omega))
      clear d8
      go_enter Try.func32, Try.ntmps32
      go_wp2_with (first
        | (go_at_call 49; refine (low_any s[0] _).mono ?_; rintro e w' ⟨rfl, rfl⟩; rw [HCL.out]))
      go_ret
      exact ⟨rbool HX.out.symm, Below.refl _ _⟩
    · have HL := hid d8
      clear d8
      go_enter Try.func32, Try.ntmps32
      go_wp2_with (first
        | (go_at_call 49; refine (low_any s[0] _).mono ?_; rintro e w' ⟨rfl, rfl⟩; rw [HCL.out]))
      go_loopw [3] (fun iv wr => ∃ k : Nat, 1 ≤ k ∧ k ≤ s.size ∧ iv = .int .i64 k ∧ Hid (∀ i, i < k → okAt s.data.toList i) ∧ Below w.heap.size w wr) (fun iv _ => s.size - (intOf iv).toNat)
      case atStart =>
        refine ⟨1, Nat.le_refl _, by omega, rfl, hid fun i hi => ?_, Below.refl _ _⟩
        have := HCL.out
        have := HA0.out
        have e : i = 0 := by omega
        subst e
        unfold okAt
        simp only [lowB, Bool.and_eq_true, decide_eq_true_eq] at *
        omega
      case round =>
        obtain ⟨k, hk1, hk, rfl, hall, hb⟩ := hrel
        have j1 : (0 : Int) ≤ ↑k := by omega
        by_cases hlt : k < s.size
        · have j2 : (↑k : Int) < ↑s.size := by omega
          have j3 : (0 : Int) ≤ ↑k - 1 := by omega
          have j4 : (↑k : Int) - 1 < ↑s.size := by omega
          have j5 : ((↑k : Int) - 1).toNat = k - 1 := by omega
          have hp1 : k - 1 < s.size := by omega
          have HAK := hid (atC_at s hlt)
          have HAP := hid (atC_at s hp1)
          have hl : k < s.data.toList.length := by rw [HSZ.out]; exact hlt
          have HBAD := hid (fun h => nameB_bad (l := s.data.toList) (k := k) hl h)
          have HOK := hid (fun (h : okAt s.data.toList k) => show ∀ i, i < k + 1 → okAt s.data.toList i from fun i hi => by
            by_cases e : i = k
            · rw [e]; exact h
            · exact hall.out i (by omega))
          have HLL := hid (show k = s.size - 1 → atC s.data.toList k ≠ 45 by
            intro e
            have := HA1.out
            have := HL.out
            subst e
            omega)
          obtain ⟨x, hx⟩ : ∃ b, lowB s[k] = b := ⟨_, rfl⟩
          obtain ⟨y, hy⟩ : ∃ b, digB s[k] = b := ⟨_, rfl⟩
          have HX := hid hx
          have HY := hid hy
          clear hx hy
          rcases eqI (s[k].toNat : Int) 45 with ⟨c9, d9⟩ | ⟨c9, d9⟩
          · have n9 : ((s[k].toNat : Int) != 45) = false := by rw [bne, c9]; rfl
            rcases eqI (s[k - 1].toNat : Int) 45 with ⟨c7, d7⟩ | ⟨c7, d7⟩
            · have HB := hid (HBAD.out (by have := HAK.out; have := HAP.out; unfold okAt; omega))
              clear d9 d7
              cases x <;> cases y
              all_goals
                go_wp2_with (first
                  | (go_at_call 49; refine (low_any s[k] _).mono ?_; rintro e w' ⟨rfl, rfl⟩; rw [HX.out])
                  | (go_at_call 50; refine (digit1_any s[k] _).mono ?_; rintro e w' ⟨rfl, rfl⟩; rw [HY.out]))
                go_ret
                exact ⟨rbool HB.out.symm, hb⟩
            · have HB := hid (HOK.out (by have := HAK.out; have := HAP.out; have := HLL.out; unfold okAt; rw [HSZ.out]; omega))
              clear d9 d7
              cases x <;> cases y
              all_goals
                go_wp2_with (first
                  | (go_at_call 49; refine (low_any s[k] _).mono ?_; rintro e w' ⟨rfl, rfl⟩; rw [HX.out])
                  | (go_at_call 50; refine (digit1_any s[k] _).mono ?_; rintro e w' ⟨rfl, rfl⟩; rw [HY.out]))
                exact ⟨⟨k + 1, by omega, by omega, by go_num, HB, hb⟩, by simp [intOf]; omega⟩
          · have n9 : ((s[k].toNat : Int) != 45) = true := by rw [bne, c9]; rfl
            cases x with
            | true =>
              have HB := hid (HOK.out (by
                have := HAK.out
                have := HX.out
                unfold okAt
                simp only [lowB, Bool.and_eq_true, decide_eq_true_eq] at *
                omega))
              clear d9
              go_wp2_with (first
                | (go_at_call 49; refine (low_any s[k] _).mono ?_; rintro e w' ⟨rfl, rfl⟩; rw [HX.out]))
              exact ⟨⟨k + 1, by omega, by omega, by go_num, HB, hb⟩, by simp [intOf]; omega⟩
            | false =>
              cases y with
              | true =>
                have HB := hid (HOK.out (by
                  have := HAK.out
                  have := HY.out
                  unfold okAt
                  simp only [digB, Bool.and_eq_true, decide_eq_true_eq] at *
                  omega))
                clear d9
                go_wp2_with (first
                  | (go_at_call 49; refine (low_any s[k] _).mono ?_; rintro e w' ⟨rfl, rfl⟩; rw [HX.out])
                  | (go_at_call 50; refine (digit1_any s[k] _).mono ?_; rintro e w' ⟨rfl, rfl⟩; rw [HY.out]))
                exact ⟨⟨k + 1, by omega, by omega, by go_num, HB, hb⟩, by simp [intOf]; omega⟩
              | false =>
                have HB := hid (HBAD.out (by
                  have h1 := HAK.out
                  have h2 := HY.out
                  have h3 := HX.out
                  unfold okAt
                  simp only [digB, lowB, Bool.and_eq_false_iff, decide_eq_false_iff_not] at h2 h3
                  omega))
                clear d9
                go_wp2_with (first
                  | (go_at_call 49; refine (low_any s[k] _).mono ?_; rintro e w' ⟨rfl, rfl⟩; rw [HX.out])
                  | (go_at_call 50; refine (digit1_any s[k] _).mono ?_; rintro e w' ⟨rfl, rfl⟩; rw [HY.out]))
                go_ret
                exact ⟨rbool HB.out.symm, hb⟩
        · have j2 : ¬ (↑k : Int) < ↑s.size := by omega
          have HG := hid (nameB_iff.2 ⟨by rw [HSZ.out]; omega, by rw [HSZ.out]; omega, fun i hi => hall.out i (by rw [HSZ.out] at hi; omega)⟩)
          go_wp2
          go_ret
          exact ⟨rbool HG.out.symm, hb⟩
end Go.Proofs.Ytdcdpkpomhjilaa
