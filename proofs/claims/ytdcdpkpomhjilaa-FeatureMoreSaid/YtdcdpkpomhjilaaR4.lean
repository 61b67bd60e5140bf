/- Contracts: linchpinref6.Print; linchpinlaw0.Few, When, Wish. -/
import Derived.Test.YtdcdpkpomhjilaaR3
import Derived.Test.YtdcdpkpomhjilaaLater
import Derived.Deep.RegionLaw
namespace Go.Proofs.Ytdcdpkpomhjilaa
open Go Go.RowKit

set_option maxRecDepth 100000 in
set_option maxHeartbeats 1000000 in
theorem print6_any (op a b c : Int) (w : World) (h1 : 1 ≤ op) (h8 : op ≤ 8) (a0 : 0 ≤ a) (a9 : a ≤ 9) (hb0 : 0 ≤ b) (hb9 : b ≤ 9) (c0 : 0 ≤ c) (c9 : c ≤ 9) :
    Calls Try.prog 56 #[compV op a b c] w (StrPost 8 w) := by
  have on : (op == 9) = false := by simp; omega
  have CM := hid (fun w => may6_any op a b c w h1 h8 a0 a9 hb0 hb9 c0 c9)
  have CT := hid (fun w => told_any op a b c w a0 a9 hb0 hb9 c0 c9)
  have CS := hid (fun w => sign_any op w h1 h8)
  unfold compV at *
  clear h1 h8 a0 a9 hb0 hb9 c0 c9
  go_enter Try.func56, Try.ntmps56
  go_wp2_with (first
    | (go_at_call 62; refine (CM.out _).mono ?_; rintro e w1 ⟨rfl, hb1⟩; obtain ⟨hbc, hbf⟩ := bcell hb1; have hz : w.heap.size < w1.heap.size := by have := hb1.size; simp at this; omega)
    | (go_at_call 63; refine (CT.out _).mono ?_; rintro e w2 ⟨hb2, tv, l, rfl, hrd, hl, hs⟩; obtain ⟨hbc2, hbf2⟩ := bcell hb2; have hz2 := Nat.lt_of_lt_of_le hz hb2.size; have HRD := hid hrd; have HSS := hid hs; clear hrd hs)
    | (go_at_call 65; refine (CS.out _).mono ?_; rintro e w3 ⟨hb3, s3, rfl, hs3⟩; obtain ⟨hbc3, hbf3⟩ := bcell hb3; have hz3 := Nat.lt_of_lt_of_le hz2 hb3.size)
    | (go_at_call 64; refine (join_any tv l _ (HRD.out.lift hb3 hb3.size) hl HSS.out).mono ?_; rintro e w4 ⟨hb4, s4, rfl, hs4⟩; obtain ⟨hbc4, hbf4⟩ := bcell hb4; have hz4 := Nat.lt_of_lt_of_le hz3 hb4.size; have hsz : ¬ 9223372036854775807 < s3.size + s4.size := by omega))
  go_ret
  exact ⟨bstep (bstep (bstep (bstep (balloc (b0 w) _) hb1) hb2) hb3) hb4, _, rfl, by simp only [ByteArray.size_append]; omega⟩

/-- What the numbers answer, in each later world. -/
def AtAll (w : World) (v : Value) (l : List Int) : Prop := ∀ wx, Below w.heap.size w wx → SliceRd tInt wx (Lt wx.heap.size) v l
theorem atAll {w : World} {v : Value} {l : List Int} (h : SliceRd tInt w (Lt w.heap.size) v l) : AtAll w v l := fun _ hb => h.lift hb hb.size
theorem AtAll.later {w w' : World} {v : Value} {l : List Int} (h : AtAll w v l) (hb : Below w.heap.size w w') : AtAll w' v l := fun _ hb' => h _ (bstep hb hb')
theorem from_lat {w : World} {v : Value} {l : List Int} (h : AtAll w v l) {i n k : Int} (hi : I64 i) (hn : 1 ≤ n) (hn2 : n ≤ 1000) (hk : fromF l i n = k) : ∀ e : Later w, Calls Try.prog 42 #[v, .int .i64 i, .int .i64 n] e.w fun x w'' => x = .returned (.int .i64 k) ∧ ∃ e2 : Later w, w'' = e2.w :=
  fun e => (from_any v l i n e.w (h _ e.below) hi hn hn2).mono fun _ _ ⟨hx, hw⟩ => ⟨by rw [hx, hk], e, hw.symm⟩
theorem word_lat (w : World) {n : Int} (hn : I64 n) : ∀ e : Later w, Calls Try.prog 55 #[.int .i64 n] e.w fun x w'' => x = .returned (.string (wordAt n)) ∧ ∃ e2 : Later w, w'' = e2.w :=
  fun e => (word_any n e.w hn).mono fun _ _ ⟨hx, hw⟩ => ⟨hx, e, hw⟩
theorem wordAt_size (n : Int) : (wordAt n).size ≤ 3 := by
  have h : ∀ s ∈ wordL, s.size ≤ 3 := by
    intro s hs
    simp only [wordL, List.mem_cons, List.not_mem_nil, or_false] at hs
    rcases hs with rfl | rfl | rfl | rfl <;> decide
  exact h _ (wordAt_mem n)

set_option maxRecDepth 100000 in
set_option maxHeartbeats 4000000 in
theorem few0_any (v : Value) (l : List Int) (i : Int) (w : World) (h : SliceRd tInt w (Lt w.heap.size) v l) (hi0 : 0 ≤ i) (hi1 : i ≤ 1000) :
    Calls Try.prog 44 #[v, .int .i64 i] w (StrPost 8 w) := by
  have HA := hid (atAll h)
  have l0 := fromF_lo l i (n := 6) (by decide)
  have l1 := fromF_hi l i (n := 6) (by decide)
  have m0 := fromF_lo l (i + 1) (n := 3) (by decide)
  have m1 := fromF_hi l (i + 1) (n := 3) (by decide)
  have n0 := fromF_lo l (i + 2) (n := 2) (by decide)
  have n1 := fromF_hi l (i + 2) (n := 2) (by decide)
  generalize h6 : fromF l i 6 = p at *
  generalize h3 : fromF l (i + 1) 3 = q at *
  generalize h2 : fromF l (i + 2) 2 = r at *
  have s1 : IntKind.i64.wrap (i + 1) = i + 1 := IntWalk.i64_in _ (by omega)
  have s2 : IntKind.i64.wrap (i + 2) = i + 2 := IntWalk.i64_in _ (by omega)
  have C6 := hid (fun (wx : World) (hx : SliceRd tInt wx (Lt wx.heap.size) v l) => h6 ▸ from_any v l i 6 wx hx ⟨by omega, by omega⟩ (by decide) (by decide))
  have C3 := hid (fun (wx : World) (hx : SliceRd tInt wx (Lt wx.heap.size) v l) => h3 ▸ from_any v l (i + 1) 3 wx hx ⟨by omega, by omega⟩ (by decide) (by decide))
  have C2 := hid (fun (wx : World) (hx : SliceRd tInt wx (Lt wx.heap.size) v l) => h2 ▸ from_any v l (i + 2) 2 wx hx ⟨by omega, by omega⟩ (by decide) (by decide))
  clear h h6 h3 h2
  go_enter Try.func44, Try.ntmps44
  go_wp2_with fail
  obtain ⟨w0, hw0⟩ : ∃ w0 : World, w0 = w.alloc (.cells #[.int .i64 9, .int .i64 7, .int .i64 6, .int .i64 3, .int .i64 1, .int .i64 2] 84) := ⟨_, rfl⟩
  have hb0 : Below w.heap.size w w0 := hw0 ▸ balloc (b0 w) _
  have hl0 : w.heap.size < w0.heap.size := by rw [hw0]; simp
  obtain ⟨op, hop1, hop9, hcell⟩ : ∃ op : Int, 1 ≤ op ∧ (op = 9 ∨ op ≤ 8) ∧ w0.cell? ⟨w.heap.size, p.toNat, none⟩ = some (.int .i64 op) := by
    rcases (by omega : p = 0 ∨ p = 1 ∨ p = 2 ∨ p = 3 ∨ p = 4 ∨ p = 5) with rfl | rfl | rfl | rfl | rfl | rfl
    · exact ⟨9, by decide, .inl rfl, by rw [hw0]; exact World.cell?_alloc_new ..⟩
    · exact ⟨7, by decide, .inr (by decide), by rw [hw0]; exact World.cell?_alloc_new ..⟩
    · exact ⟨6, by decide, .inr (by decide), by rw [hw0]; exact World.cell?_alloc_new ..⟩
    · exact ⟨3, by decide, .inr (by decide), by rw [hw0]; exact World.cell?_alloc_new ..⟩
    · exact ⟨1, by decide, .inr (by decide), by rw [hw0]; exact World.cell?_alloc_new ..⟩
    · exact ⟨2, by decide, .inr (by decide), by rw [hw0]; exact World.cell?_alloc_new ..⟩
  have HB0 := hid hb0
  have HAT := HA.out _ (bdrew hb0)
  have D6 := hid (C6.out w0.drew HAT)
  have D3 := hid (C3.out w0.drew HAT)
  have D2 := hid (C2.out w0.drew HAT)
  have HA2 := fun o => HA.out _ (bdrew (balloc hb0 o))
  have E6 := hid (fun o => C6.out (w0.alloc o).drew (HA2 o))
  have E3 := hid (fun o => C3.out (w0.alloc o).drew (HA2 o))
  have E2 := hid (fun o => C2.out (w0.alloc o).drew (HA2 o))
  rw [← hw0]
  clear hw0 hb0 HAT HA2
  go_region_law ((first
    | (go_simp; go_at_call 42; (first | (with_reducible refine D6.out.mono ?_) | (with_reducible refine (E6.out _).mono ?_)); rintro e w' ⟨rfl, rfl⟩)
    | (go_simp; go_at_call 42; (first | (with_reducible refine D3.out.mono ?_) | (with_reducible refine (E3.out _).mono ?_)); rintro e w' ⟨rfl, rfl⟩)
    | (go_simp; go_at_call 42; (first | (with_reducible refine D2.out.mono ?_) | (with_reducible refine (E2.out _).mono ?_)); rintro e w' ⟨rfl, rfl⟩)))
  all_goals
    rcases hop9 with rfl | h8
    · go_wp2
      go_ret
      exact ⟨by first | exact balloc HB0.out _ | exact bdrew (balloc HB0.out _), _, rfl, by decide⟩
    · have on : (op == 9) = false := by simp; omega
      have CP := hid (fun w => print6_any op q r 0 w hop1 h8 m0 (by omega) n0 (by omega) (by decide) (by decide))
      unfold compV at CP
      clear hop1 h8
      go_wp2_with (first
        | (go_at_call 56; refine (CP.out _).mono ?_; rintro e w2 ⟨hb2, s, rfl, hs⟩))
      go_ret
      exact ⟨bstep (by first | exact balloc HB0.out _ | exact bdrew (balloc HB0.out _)) hb2, s, rfl, hs⟩
end Go.Proofs.Ytdcdpkpomhjilaa
