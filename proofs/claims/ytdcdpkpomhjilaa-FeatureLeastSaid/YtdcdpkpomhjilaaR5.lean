/- Contracts: linchpinlaw0.When, Wish. -/
import Derived.Test.YtdcdpkpomhjilaaR4
namespace Go.Proofs.Ytdcdpkpomhjilaa
open Go Go.RowKit

theorem op_ix0 (w : World) : (Instr.index 88 (.agg #[.string ⟨#[111, 115]⟩, .string ⟨#[97, 114, 99, 104]⟩, .string ⟨#[97, 98, 105]⟩]) (.int .i64 0)).run Try.prog w = .ok (.string ⟨#[111, 115]⟩) w := by kernel_rfl
theorem op_ix1 (w : World) : (Instr.index 88 (.agg #[.string ⟨#[111, 115]⟩, .string ⟨#[97, 114, 99, 104]⟩, .string ⟨#[97, 98, 105]⟩]) (.int .i64 1)).run Try.prog w = .ok (.string ⟨#[97, 114, 99, 104]⟩) w := by kernel_rfl
theorem op_ix2 (w : World) : (Instr.index 88 (.agg #[.string ⟨#[111, 115]⟩, .string ⟨#[97, 114, 99, 104]⟩, .string ⟨#[97, 98, 105]⟩]) (.int .i64 2)).run Try.prog w = .ok (.string ⟨#[97, 98, 105]⟩) w := by kernel_rfl
theorem sg_ix0 (w : World) : (Instr.index 89 (.agg #[.string ⟨#[32, 61, 32]⟩, .string ⟨#[32, 33, 61, 32]⟩]) (.int .i64 0)).run Try.prog w = .ok (.string ⟨#[32, 61, 32]⟩) w := by kernel_rfl
theorem sg_ix1 (w : World) : (Instr.index 89 (.agg #[.string ⟨#[32, 61, 32]⟩, .string ⟨#[32, 33, 61, 32]⟩]) (.int .i64 1)).run Try.prog w = .ok (.string ⟨#[32, 33, 61, 32]⟩) w := by kernel_rfl

set_option maxRecDepth 100000 in
set_option maxHeartbeats 4000000 in
theorem when_any (v : Value) (l : List Int) (i : Int) (w : World) (h : SliceRd tInt w (Lt w.heap.size) v l) (hi0 : 0 ≤ i) (hi1 : i ≤ 1000) :
    Calls Try.prog 45 #[v, .int .i64 i] w (StrPost 12 w) := by
  have HA := hid (atAll h)
  have l0 := fromF_lo l i (n := 6) (by decide)
  have l1 := fromF_hi l i (n := 6) (by decide)
  have m0 := fromF_lo l (i + 1) (n := 3) (by decide)
  have m1 := fromF_hi l (i + 1) (n := 3) (by decide)
  have n0 := fromF_lo l (i + 1) (n := 2) (by decide)
  have n1 := fromF_hi l (i + 1) (n := 2) (by decide)
  generalize h6 : fromF l i 6 = p at *
  generalize h3 : fromF l (i + 1) 3 = q at *
  generalize h2 : fromF l (i + 1) 2 = r at *
  have s1 : IntKind.i64.wrap (i + 1) = i + 1 := IntWalk.i64_in _ (by omega)
  have s2 : IntKind.i64.wrap (1 + q) = 1 + q := IntWalk.i64_in _ (by omega)
  have HH := hid h
  have H6 := hid h6
  have HI := hid (show I64 i from ⟨by omega, by omega⟩)
  have HD := hid (show (1 : Int) ≤ 6 ∧ (6 : Int) ≤ 1000 by decide)
  have D3 := hid (from_lat (atAll h) (i := i + 1) (n := 3) ⟨by omega, by omega⟩ (by decide) (by decide) h3)
  have D2 := hid (from_lat (atAll h) (i := i + 1) (n := 2) ⟨by omega, by omega⟩ (by decide) (by decide) h2)
  have DW := hid (word_lat w (n := 1 + q) ⟨by omega, by omega⟩)
  have hz := wordAt_size (1 + q)
  clear h h6 h3 h2
  have a0 := op_ix0
  have a1 := op_ix1
  have a2 := op_ix2
  have g0 := sg_ix0
  have g1 := sg_ix1
  by_cases hp : 2 < p
  · go_enter Try.func45, Try.ntmps45
    go_wp2_with (first
      | (go_at_call 42; (with_reducible refine (from_any v l i 6 _ HH.out HI.out HD.out.1 HD.out.2).mono ?_); rintro e w' ⟨rfl, rfl⟩; rw [H6.out]))
    go_ret
    exact ⟨b0 w, _, rfl, by decide⟩
  · generalize hwq : wordAt (1 + q) = wq at *
    clear hwq
    rcases (by omega : p = 0 ∨ p = 1 ∨ p = 2) with rfl | rfl | rfl <;> rcases (by omega : r = 0 ∨ r = 1) with rfl | rfl
    all_goals
      go_enter Try.func45, Try.ntmps45
      go_wp2_with (first
        | (go_at_call 42; (with_reducible refine (from_any v l i 6 _ HH.out HI.out HD.out.1 HD.out.2).mono ?_); rintro e w' ⟨rfl, rfl⟩; rw [H6.out])
        | fail)
      (refine wp_region_later (by kernel_rfl) (by kernel_rfl) ?_; (repeat (go_big_quiet_step ((first | (go_at_call 42; with_reducible exact D3.out _) | (go_at_call 42; with_reducible exact D2.out _) | (go_at_call 55; with_reducible exact DW.out _))))); refine wpQuiet_nil ?_; rintro _ ⟨e1, rfl⟩)
      go_wp2
      go_ret
      exact ⟨e1.below, _, rfl, by simp only [ByteArray.size_append]; have e1 : (⟨#[111, 115]⟩ : ByteArray).size = 2 := rfl; have e2 : (⟨#[97, 114, 99, 104]⟩ : ByteArray).size = 4 := rfl; have e3 : (⟨#[97, 98, 105]⟩ : ByteArray).size = 3 := rfl; have e4 : (⟨#[32, 61, 32]⟩ : ByteArray).size = 3 := rfl; have e5 : (⟨#[32, 33, 61, 32]⟩ : ByteArray).size = 4 := rfl; omega⟩

/-- Four cells stored into one block. -/
theorem four_set {w w1 : World} {r : Nat} {T : TypeId} {x0 x1 x2 x3 : Value} (h : w1.heap[r]? = some (.cells #[x0, x1, x2, x3] T (0, 0))) (hb : Below w.heap.size w w1) (hr : w.heap.size ≤ r) (a b c d : Value) :
    ∃ wS : World, wS = (((w1.setCell ⟨r, 0, none⟩ a).setCell ⟨r, 1, none⟩ b).setCell ⟨r, 2, none⟩ c).setCell ⟨r, 3, none⟩ d ∧ wS.cell? ⟨r, 0, none⟩ = some a ∧ wS.cell? ⟨r, 1, none⟩ = some b ∧ wS.cell? ⟨r, 2, none⟩ = some c ∧ wS.cell? ⟨r, 3, none⟩ = some d ∧ r < wS.heap.size ∧ Hid (Below w.heap.size w wS) := by
  have h1 := heap_setCell_same _ _ 0 _ _ a h
  have h2 := heap_setCell_same _ _ 1 _ _ b h1
  have h3 := heap_setCell_same _ _ 2 _ _ c h2
  have h4 := heap_setCell_same _ _ 3 _ _ d h3
  refine ⟨_, rfl, ?_, ?_, ?_, ?_, (Array.getElem?_eq_some_iff.1 h4).1, hid (bset (bset (bset (bset hb hr a) hr b) hr c) hr d)⟩ <;> (rw [cell_of_row _ _ _ _ _ _ h4]; rfl)
/-- A wish: its name is one of some. -/
def WishPost (w : World) (e : Ending) (w' : World) : Prop := Below w.heap.size w w' ∧ ∃ (nm rg : ByteArray) (A : Option Addr) (n c : Nat) (b : Bool), e = .returned (.agg #[.string nm, .string rg, .slice A n c, .bool b]) ∧ nm ∈ nameL

set_option maxRecDepth 100000 in
set_option maxHeartbeats 4000000 in
theorem wish_any (v : Value) (l : List Int) (i own : Int) (alone : Bool) (w : World) (h : SliceRd tInt w (Lt w.heap.size) v l) (hi0 : 0 ≤ i) (hi1 : i ≤ 900) (ho0 : 0 ≤ own) (ho1 : own ≤ 100) :
    Calls Try.prog 54 #[v, .int .i64 i, .int .i64 own, .bool alone] w (WishPost w) := by
  have HA := hid (atAll h)
  have l0 := fromF_lo l i (n := 4) (by decide)
  have l1 := fromF_hi l i (n := 4) (by decide)
  have m0 := fromF_lo l (i + 5) (n := 5) (by decide)
  have m1 := fromF_hi l (i + 5) (n := 5) (by decide)
  have s0 : IntKind.i64.wrap (own + 1) = own + 1 := IntWalk.i64_in _ (by omega)
  have C4 := hid (fun (wx : World) (hx : SliceRd tInt wx (Lt wx.heap.size) v l) => from_any v l i 4 wx hx ⟨by omega, by omega⟩ (by decide) (by decide))
  have C3 := hid (fun (wx : World) (hx : SliceRd tInt wx (Lt wx.heap.size) v l) => from_any v l (i + 4) 3 wx hx ⟨by omega, by omega⟩ (by decide) (by decide))
  have C5 := hid (fun (wx : World) (hx : SliceRd tInt wx (Lt wx.heap.size) v l) => from_any v l (i + 5) 5 wx hx ⟨by omega, by omega⟩ (by decide) (by decide))
  have CF := hid (fun (wx : World) (hx : SliceRd tInt wx (Lt wx.heap.size) v l) => few0_any v l (i + 1) wx hx (by omega) (by omega))
  generalize h4 : fromF l i 4 = p at *
  generalize h5 : fromF l (i + 5) 5 = q at *
  have CN := hid (fun (wx : World) => name_any (own + 1 + p) wx ⟨by omega, by omega⟩)
  have NM := hid (nameAt_mem (own + 1 + p))
  generalize nameAt (own + 1 + p) = nm at *
  clear h h4 h5
  go_enter Try.func54, Try.ntmps54
  have hb0 := balloc (b0 w) (.cells #[.string ⟨#[]⟩, .string ⟨#[]⟩, .slice none 0 0, .bool false] 82)
  have HA0 := hid (HA.out _ hb0)
  have HBA := hid hb0
  clear hb0
  go_wp2_with (first
    | (go_at_call 42; (with_reducible refine (C4.out _ HA0.out).mono ?_); rintro e w' ⟨rfl, rfl⟩)
    | (go_at_call 41; (with_reducible refine (CN.out _).mono ?_); rintro e w' ⟨rfl, rfl⟩)
    | (go_at_call 44; (with_reducible refine (CF.out _ HA0.out).mono ?_); rintro e w1 ⟨hb1, rg, rfl, hrg⟩; have HB1 := hid (bstep HBA.out hb1); have HA1 := hid (HA.out _ HB1.out); have hrb : w1.heap[w.heap.size]? = some (.cells #[.string ⟨#[]⟩, .string ⟨#[]⟩, .slice none 0 0, .bool false] 82 (0, 0)) := (hb1.block _ (by simp)).trans (heap_alloc_new w _); have r0 : w1.cell? ⟨w.heap.size, 0, none⟩ = some (.string ⟨#[]⟩) := (by rw [cell_of_row _ _ _ _ _ _ hrb]; rfl); have r1 : w1.cell? ⟨w.heap.size, 1, none⟩ = some (.string ⟨#[]⟩) := (by rw [cell_of_row _ _ _ _ _ _ hrb]; rfl); have r2 : w1.cell? ⟨w.heap.size, 2, none⟩ = some (.slice none 0 0) := (by rw [cell_of_row _ _ _ _ _ _ hrb]; rfl); have r3 : w1.cell? ⟨w.heap.size, 3, none⟩ = some (.bool false) := (by rw [cell_of_row _ _ _ _ _ _ hrb]; rfl); have rf : ∀ o, w1.frozen? ⟨w.heap.size, o, none⟩ = false := fun o => frozen_of_row _ _ o _ _ hrb; have hrl : w.heap.size < w1.heap.size := (Array.getElem?_eq_some_iff.1 hrb).1; have HRB := hid hrb; clear hrb hb1)
    | (go_at_call 42; (with_reducible refine (C3.out _ HA1.out).mono ?_); rintro e w' ⟨rfl, rfl⟩)
    | fail)
  generalize (fromF l (i + 4) 3 == 0) = bare
  have HA2 := hid (HA.out _ (balloc HB1.out (.cells #[.string nm, .string rg, .slice none 0 0, .bool bare] 82)))
  have hcs : (alone = false ∨ q ≤ 2) ∨ (alone = true ∧ (q = 3 ∨ q = 4)) := by
    cases alone with
    | false => exact .inl (.inl rfl)
    | true =>
      by_cases h : q ≤ 2
      · exact .inl (.inr h)
      · exact .inr ⟨rfl, by omega⟩
  rcases hcs with (rfl | hq) | ⟨rfl, rfl | rfl⟩
  · go_wp2_with (first
      | (go_at_call 42; (with_reducible refine (C5.out _ HA2.out).mono ?_); rintro e w' ⟨rfl, rfl⟩))
    obtain ⟨wS, hwS, t0, t1, t2, t3, hrS, HBS⟩ := four_set HRB.out HB1.out (Nat.le_refl _) (.string nm) (.string rg) (.slice none 0 0) (.bool bare)
    rw [← hwS]
    exact bodyPost_ret (v := .agg #[.string nm, .string rg, .slice none 0 0, .bool bare]) (by simp [results, Try.results54, go_sem, t0, t1, t2, t3, hrS]) rfl ⟨balloc HBS.out _, nm, rg, none, 0, 0, bare, rfl, NM.out⟩
  · have hq' : ¬ 2 < q := by omega
    clear hq
    cases alone
    all_goals
      go_wp2_with (first
        | (go_at_call 42; (with_reducible refine (C5.out _ HA2.out).mono ?_); rintro e w' ⟨rfl, rfl⟩))
      obtain ⟨wS, hwS, t0, t1, t2, t3, hrS, HBS⟩ := four_set HRB.out HB1.out (Nat.le_refl _) (.string nm) (.string rg) (.slice none 0 0) (.bool bare)
      rw [← hwS]
      exact bodyPost_ret (v := .agg #[.string nm, .string rg, .slice none 0 0, .bool bare]) (by simp [results, Try.results54, go_sem, t0, t1, t2, t3, hrS]) rfl ⟨balloc HBS.out _, nm, rg, none, 0, 0, bare, rfl, NM.out⟩
  · go_wp2_with (first
      | (go_at_call 42; (with_reducible refine (C5.out _ HA2.out).mono ?_); rintro e w' ⟨rfl, rfl⟩))
    obtain ⟨wS, hwS, t0, t1, t2, t3, hrS, HBS⟩ := four_set HRB.out HB1.out (Nat.le_refl _) (.string nm) (.string rg) (.slice (some ⟨w1.heap.size + 1, 0, none⟩) 1 2) (.bool bare)
    rw [← hwS]
    exact bodyPost_ret (v := .agg #[.string nm, .string rg, .slice (some ⟨w1.heap.size + 1, 0, none⟩) 1 2, .bool bare]) (by simp [results, Try.results54, go_sem, t0, t1, t2, t3, hrS]) rfl ⟨balloc (balloc HBS.out _) _, nm, rg, (some ⟨w1.heap.size + 1, 0, none⟩), 1, 2, bare, rfl, NM.out⟩
  · go_wp2_with (first
      | (go_at_call 42; (with_reducible refine (C5.out _ HA2.out).mono ?_); rintro e w' ⟨rfl, rfl⟩))
    obtain ⟨wS, hwS, t0, t1, t2, t3, hrS, HBS⟩ := four_set HRB.out HB1.out (Nat.le_refl _) (.string nm) (.string rg) (.slice (some ⟨w1.heap.size + 1, 0, none⟩) 2 2) (.bool bare)
    rw [← hwS]
    exact bodyPost_ret (v := .agg #[.string nm, .string rg, .slice (some ⟨w1.heap.size + 1, 0, none⟩) 2 2, .bool bare]) (by simp [results, Try.results54, go_sem, t0, t1, t2, t3, hrS]) rfl ⟨balloc (balloc HBS.out _) _, nm, rg, (some ⟨w1.heap.size + 1, 0, none⟩), 2, 2, bare, rfl, NM.out⟩
end Go.Proofs.Ytdcdpkpomhjilaa
