/- Platforms; contracts: mark.EnvMay, linchpinref10.EnvMay, mark.May. -/
import Derived.Test.YtmdnleafpmondaaDoorU6
import Derived.Test.YtmdnleafpmondaaDoorU3e
namespace Go.Proofs.YtmdnleafpmondaaDoor
open Go Go.RowKit

/-- A platform. -/
structure EnvT where
  a : ByteArray
  b : ByteArray
  c : ByteArray
def EnvT.at (e : EnvT) : Nat → ByteArray
  | 0 => e.a
  | 1 => e.b
  | _ => e.c
def EnvT.val (e : EnvT) : Value := .agg #[.string e.a, .string e.b, .string e.c]
def okS (s : ByteArray) : Bool := s.toList.isEmpty || wordB s.data.toList
def EnvT.ok (e : EnvT) : Bool := okS e.a && (okS e.b && okS e.c)
theorem EnvT.okAt {e : EnvT} (h : e.ok = true) (k : Nat) : okS (e.at k) = true := by
  unfold EnvT.ok at h
  rw [Bool.and_eq_true, Bool.and_eq_true] at h
  match k with
  | 0 => exact h.1
  | 1 => exact h.2.1
  | _ + 2 => exact h.2.2
theorem EnvT.badAt {e : EnvT} {k : Nat} (hk : k < 3) (h : okS (e.at k) = false) : e.ok = false := by
  unfold EnvT.ok
  match k, hk with
  | 0, _ => rw [show okS e.a = false from h]; rfl
  | 1, _ => rw [show okS e.b = false from h]; simp
  | 2, _ => rw [show okS e.c = false from h]; simp
theorem EnvT.goodAt {e : EnvT} (h : ∀ k, k < 3 → okS (e.at k) = true) : e.ok = true := by
  unfold EnvT.ok
  rw [show okS e.a = true from h 0 (by omega), show okS e.b = true from h 1 (by omega), show okS e.c = true from h 2 (by omega)]
  rfl
theorem env_ix0 (a b c : ByteArray) (w : World) : (Instr.index 36 (.agg #[.string a, .string b, .string c]) (.int .i64 0)).run Tryd.prog w = .ok (.string a) w := by kernel_rfl
theorem env_ix1 (a b c : ByteArray) (w : World) : (Instr.index 36 (.agg #[.string a, .string b, .string c]) (.int .i64 1)).run Tryd.prog w = .ok (.string b) w := by kernel_rfl
theorem env_ix2 (a b c : ByteArray) (w : World) : (Instr.index 36 (.agg #[.string a, .string b, .string c]) (.int .i64 2)).run Tryd.prog w = .ok (.string c) w := by kernel_rfl
theorem env_ix (e : EnvT) (k : Nat) (hk : k < 3) (w : World) : (Instr.index 36 (.agg #[.string e.a, .string e.b, .string e.c]) (.int .i64 k)).run Tryd.prog w = .ok (.string (e.at k)) w := by
  match k, hk with
  | 0, _ => exact env_ix0 ..
  | 1, _ => exact env_ix1 ..
  | 2, _ => exact env_ix2 ..

set_option maxRecDepth 100000 in
set_option maxHeartbeats 2000000 in
theorem envMay_any (e : EnvT) (w : World) : Calls Tryd.prog 37 #[e.val] w fun x w' => x = .returned (.bool e.ok) ∧ Below w.heap.size w w' := by
  unfold EnvT.val
  go_enter Tryd.func37, Tryd.ntmps37
  go_wp2
  go_loopw [7] (fun iv wr => ∃ k : Nat, k ≤ 3 ∧ iv = .int .i64 k ∧ Hid (∀ j, j < k → okS (e.at j) = true) ∧ Hid (Below w.heap.size w wr)) (fun iv _ => 3 - (intOf iv).toNat)
  case atStart => exact ⟨0, by omega, rfl, hid (fun j hj => by omega), hid (balloc (b0 w) _)⟩
  case round =>
    obtain ⟨k, hk, rfl, hall, hb⟩ := hrel
    have i1 : (0 : Int) ≤ ↑k := by omega
    by_cases hlt : k < 3
    · have i2 : (↑k : Int) < 3 := by omega
      have hix := env_ix e k hlt
      have HBAD := hid (fun h => EnvT.badAt (e := e) hlt h)
      have HN := hid (fun (h : okS (e.at k) = true) => show ∀ j, j < k + 1 → okS (e.at j) = true from fun j hj => by
        by_cases h1 : j = k
        · rw [h1]; exact h
        · exact hall.out j (by omega))
      unfold okS at HBAD HN
      generalize e.at k = s at *
      rcases Bool.eq_false_or_eq_true s.toList.isEmpty with h0 | h0
      · have H := hid (HN.out (by rw [h0]; rfl))
        go_wp2
        exact ⟨⟨k + 1, by omega, by go_num, H, hid hb.out⟩, by simp [intOf]; omega⟩
      · rcases Bool.eq_false_or_eq_true (wordB s.data.toList) with hw | hw
        · have H := hid (HN.out (by rw [hw, Bool.or_true]))
          go_wp2_with (first | (go_at_call 51; refine (iword_any _ _).mono ?_; rintro x w2 ⟨rfl, hbw⟩; rw [hw]))
          exact ⟨⟨k + 1, by omega, by go_num, H, hid (hb.out.trans (hbw.mono hb.out.size))⟩, by simp [intOf]; omega⟩
        · have H := hid (HBAD.out (by rw [h0, hw]; rfl))
          go_wp2_with (first | (go_at_call 51; refine (iword_any _ _).mono ?_; rintro x w2 ⟨rfl, hbw⟩; rw [hw]))
          go_ret
          exact ⟨rbool H.out.symm, hb.out.trans (hbw.mono hb.out.size)⟩
    · have H := hid (EnvT.goodAt (e := e) fun j hj => hall.out j (by omega))
      go_wp2
      go_ret
      exact ⟨rbool H.out.symm, hb.out⟩

set_option maxRecDepth 100000 in
set_option maxHeartbeats 2000000 in
theorem renvMay_any (e : EnvT) (w : World) : Calls Tryd.prog 54 #[e.val] w fun x w' => x = .returned (.bool e.ok) ∧ Below w.heap.size w w' := by
  unfold EnvT.val
  go_enter Tryd.func54, Tryd.ntmps54
  go_wp2
  obtain ⟨wt, hwt⟩ : ∃ wt : World, wt = w.alloc (.cells #[.string e.a, .string e.b, .string e.c] 38) := ⟨_, rfl⟩
  have hbx : w.heap.size < wt.heap.size := by rw [hwt]; simp
  have HBT := hid (show Below w.heap.size w wt by rw [hwt]; exact balloc (b0 w) _)
  have HC : Hid (∀ k, k < 3 → wt.cell? ⟨w.heap.size, k, none⟩ = some (.string (e.at k))) := hid (fun k hk => by
    rw [hwt, World.cell?_alloc_new]
    match k, hk with
    | 0, _ => rfl
    | 1, _ => rfl
    | 2, _ => rfl)
  rw [← hwt]
  clear hwt
  go_loopw [3] (fun iv wr => ∃ k : Nat, k ≤ 3 ∧ iv = .int .i64 k ∧ Hid (∀ j, j < k → okS (e.at j) = true) ∧ Hid (Below wt.heap.size wt wr)) (fun iv _ => 3 - (intOf iv).toNat)
  case atStart => exact ⟨0, by omega, rfl, hid (fun j hj => by omega), hid (b0 wt)⟩
  case round =>
    obtain ⟨k, hk, rfl, hall, hb⟩ := hrel
    have i1 : (0 : Int) ≤ ↑k := by omega
    have HBO := hid (HBT.out.trans (hb.out.mono HBT.out.size))
    by_cases hlt : k < 3
    · have i2 : (↑k : Int) < 3 := by omega
      have c0 := cell_below hb.out hbx (HC.out k hlt)
      have HBAD := hid (fun h => EnvT.badAt (e := e) hlt h)
      have HN := hid (fun (h : okS (e.at k) = true) => show ∀ j, j < k + 1 → okS (e.at j) = true from fun j hj => by
        by_cases h1 : j = k
        · rw [h1]; exact h
        · exact hall.out j (by omega))
      unfold okS at HBAD HN
      generalize e.at k = s at *
      rcases Bool.eq_false_or_eq_true s.toList.isEmpty with h0 | h0
      · have H := hid (HN.out (by rw [h0]; rfl))
        go_wp2
        exact ⟨⟨k + 1, by omega, by go_num, H, hid hb.out⟩, by simp [intOf]; omega⟩
      · rcases Bool.eq_false_or_eq_true (wordB s.data.toList) with hw | hw
        · have H := hid (HN.out (by rw [hw, Bool.or_true]))
          go_wp2_with (first | (go_at_call 67; refine (rword_any _ _).mono ?_; rintro x w2 ⟨rfl, hbw⟩; rw [hw]))
          exact ⟨⟨k + 1, by omega, by go_num, H, hid (hb.out.trans (hbw.mono hb.out.size))⟩, by simp [intOf]; omega⟩
        · have H := hid (HBAD.out (by rw [h0, hw]; rfl))
          go_wp2_with (first | (go_at_call 67; refine (rword_any _ _).mono ?_; rintro x w2 ⟨rfl, hbw⟩; rw [hw]))
          go_ret
          exact ⟨rbool H.out.symm, HBO.out.trans (hbw.mono HBO.out.size)⟩
    · have H := hid (EnvT.goodAt (e := e) fun j hj => hall.out j (by omega))
      go_wp2
      go_ret
      exact ⟨rbool H.out.symm, HBO.out⟩
/-- May a marker be? -/
def mayB (l : List Node) : Bool := (decide (l.length ≤ 15) && treeB l) && decide ((wholeL l).length ≤ 96)

set_option maxRecDepth 100000 in
set_option maxHeartbeats 2000000 in
theorem may_any (v : Value) (l : List Node) (w : World) (h : SliceRd tNode w (Lt w.heap.size) v l) :
    Calls Tryd.prog 15 #[.agg #[v]] w fun x w' => x = .returned (.bool (mayB l)) ∧ Below w.heap.size w w' := by
  have H := hid h
  obtain ⟨A, cap, rfl, -⟩ := h.shape
  clear h
  have hbx : w.heap.size < (w.alloc (.cells #[.slice A l.length cap] 25)).heap.size := by simp
  have HB := hid (balloc (b0 w) (.cells #[.slice A l.length cap] 25))
  have HR := hid (H.out.lift HB.out HB.out.size)
  rcases Bool.eq_false_or_eq_true (decide (l.length ≤ 15) && treeB l) with ht | ht
  · have HM : Hid (mayB l = decide ((wholeL l).length ≤ 96)) := hid (by unfold mayB; rw [ht]; rfl)
    have HT := hid ht
    have h1 := (Bool.and_eq_true_iff.1 ht)
    have HW := hid (fun (w2 : World) (hb : Below (w.alloc (.cells #[.slice A l.length cap] 25)).heap.size (w.alloc (.cells #[.slice A l.length cap] 25)) w2) => whole_any _ l w2 (HR.out.lift hb hb.size) (of_decide_eq_true h1.1) h1.2)
    have hz := strV_size (wholeL l)
    clear ht h1
    go_enter Tryd.func15, Tryd.ntmps15
    go_wp2_with (first
      | (go_at_call 35; refine (tree_any _ l _ HR.out).mono ?_; rintro x w2 ⟨rfl, hb2⟩; rw [HT.out]
         have c0 : w2.cell? ⟨w.heap.size, 0, none⟩ = some (.slice A l.length cap) := cell_below hb2 hbx (World.cell?_alloc_new ..))
      | (go_at_call 36; refine (HW.out _ hb2).mono ?_; rintro x w3 ⟨rfl, hb3⟩; unfold strV))
    go_ret
    refine ⟨rbool ?_, HB.out.trans ((bstep hb2 hb3).mono HB.out.size)⟩
    rw [HM.out]
    simp
    omega
  · have HM : Hid (mayB l = false) := hid (by unfold mayB; rw [ht]; rfl)
    have HT := hid ht
    clear ht
    go_enter Tryd.func15, Tryd.ntmps15
    go_wp2_with (first
      | (go_at_call 35; refine (tree_any _ l _ HR.out).mono ?_; rintro x w2 ⟨rfl, hb2⟩; rw [HT.out]))
    go_ret
    exact ⟨rbool HM.out.symm, HB.out.trans (hb2.mono HB.out.size)⟩
end Go.Proofs.YtmdnleafpmondaaDoor
