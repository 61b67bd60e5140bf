/- Contracts: linchpinmade.G.Next, Versions. -/
import Derived.Test.YtilkhofgcgfnlaaGreatV18
namespace Go.Proofs.YtilkhofgcgfnlaaGreat
open Go Go.RowKit

/-- The numbers, and how many were used. -/
structure GAt (w : World) (bG : Nat) (lv : Value) (xs : List Int) (i : Int) : Prop where
  blk : w.heap[bG]? = some (.cells #[lv, .int .i64 i] 51 (0, 0))
  rd : SliceRd tInt w (Lt bG) lv xs
  bd : 0 ≤ i ∧ i ≤ 1000000
theorem GAt.lt {w : World} {bG : Nat} {lv : Value} {xs : List Int} {i : Int} (h : GAt w bG lv xs i) : bG < w.heap.size := (Array.getElem?_eq_some_iff.1 h.blk).1
theorem GAt.keep {w w' : World} {bG : Nat} {lv : Value} {xs : List Int} {i : Int} (h : GAt w bG lv xs i) (hk : ∀ k, k ≤ bG → w'.heap[k]? = w.heap[k]?) : GAt w' bG lv xs i :=
  ⟨(hk _ (Nat.le_refl _)).trans h.blk, h.rd.keep fun k hl => hk k (Nat.le_of_lt hl), h.bd⟩
theorem GAt.below {w w' : World} {bG B : Nat} {lv : Value} {xs : List Int} {i : Int} (h : GAt w bG lv xs i) (hb : Below B w w') (hB : bG < B) : GAt w' bG lv xs i := h.keep fun k hk => hb.block k (by omega)
def NextPost (bG : Nat) (lv : Value) (xs : List Int) (i : Int) (n : Int) (w : World) (e : Ending) (w' : World) : Prop :=
  ∃ r : Int, e = .returned (.int .i64 r) ∧ 0 ≤ r ∧ (1 ≤ n → r < n) ∧ (n < 1 → r = 0) ∧ GAt w' bG lv xs (i + 1) ∧ w.grownBy w' (some bG)
theorem placeF_nonpos {v n : Int} (h : n < 1) : placeF v n = 0 := by unfold placeF; rw [if_pos h]
theorem grownBy_set {w : World} {b o : Nat} {v : Value} : w.grownBy (w.setCell ⟨b, o, none⟩ v) (some b) :=
  ⟨rfl, rfl, rfl, by simp, fun k _ hne => heap_setCell_other _ _ _ _ (fun e => hne (by rw [e]))⟩
theorem grownBy_drewN {w w' : World} {b : Option Nat} (h : w.grownBy w' b) (n : Nat) : w.grownBy (w'.drewN n) b := ⟨h.os, h.tape, h.output, h.size, h.block⟩
theorem ints_i64 {w : World} {F : Nat → Prop} {v : Value} {l : List Int} (h : SliceRd tInt w F v l) : ∀ x ∈ l, I64 x := by
  obtain ⟨A, cap, rfl, -, -, hc⟩ := h.ints
  intro x hx
  obtain ⟨k, hk, rfl⟩ := List.getElem_of_mem hx
  obtain ⟨_, _, _, _, _, hi⟩ := hc k hk
  exact hi

theorem rd_drewN {α : Type} {t : Ty α} {w : World} {F : Nat → Prop} {v : Value} {l : List α} (h : SliceRd t w F v l) (n : Nat) : SliceRd t (w.drewN n) F v l := SliceRd.keep (w := w) (w' := w.drewN n) (fun _ _ => rfl) h
theorem at_same (v : Value) (l : List Int) (i : Int) (w : World) (n : Nat) (F : Nat → Prop) (h : SliceRd tInt w F v l) (hi : I64 i) :
    Calls Tryz.prog 58 #[v, .int .i64 i] (w.drewN n) fun e w' => e = .returned (.int .i64 (atF l i)) ∧ w' = w.drewN n :=
  (at_any v l i (w.drewN n) F (rd_drewN h n) hi).mono fun _ _ h => ⟨h.1, h.2.symm⟩
theorem place_same (v n : Int) (w : World) (hv : I64 v) (hn : I64 n) :
    Calls Tryz.prog 12 #[.int .i64 v, .int .i64 n] w fun e w' => e = .returned (.int .i64 (placeF v n)) ∧ w' = w :=
  (place_any v n w hv hn).mono fun _ _ h => ⟨h.1, h.2.symm⟩

set_option maxRecDepth 100000 in
set_option maxHeartbeats 1000000 in
theorem next_g (bG : Nat) (lv : Value) (xs : List Int) (i : Int) (n : Int) (w : World) (h : GAt w bG lv xs i) (hi : i < 1000000) (hn : I64 n) :
    Calls Tryz.prog 32 #[.pointer (some ⟨bG, 0, none⟩), .int .i64 n] w (NextPost bG lv xs i n w) := by
  have HG := hid h
  have HN := hid hn
  obtain ⟨hb0, hb1⟩ := h.bd
  obtain ⟨A, cap, rfl, -⟩ := h.rd.ints
  have c0 : w.cell? ⟨bG, 0, none⟩ = some (.slice A xs.length cap) := by rw [cell_of_row _ _ _ _ _ _ h.blk]; rfl
  have c1 : w.cell? ⟨bG, 1, none⟩ = some (.int .i64 i) := by rw [cell_of_row _ _ _ _ _ _ h.blk]; rfl
  have cf : ∀ o, w.frozen? ⟨bG, o, none⟩ = false := fun o => frozen_of_row w bG o _ _ h.blk
  have HR := hid (h.rd)
  have HAI := hid (atF_i64 (l := xs) (i := i) (ints_i64 h.rd) ⟨by omega, by omega⟩)
  have HII : Hid (I64 i) := hid ⟨by omega, by omega⟩
  have HB : Hid (GAt (w.setCell ⟨bG, 1, none⟩ (.int .i64 (i + 1))) bG (.slice A xs.length cap) xs (i + 1)) := hid (by
    refine ⟨?_, h.rd.keep fun k hk => heap_setCell_other _ _ _ _ (by show k ≠ bG; exact Nat.ne_of_lt hk), by omega⟩
    rw [heap_setCell_same w bG 1 _ _ _ h.blk]
    rfl)

  clear h hn
  have k0 : IntKind.i64.wrap (i + 1 - 1) = i := by rw [show i + 1 - 1 = i by omega]; exact IntWalk.i64_in _ (by omega)
  go_enter Tryz.func32, Tryz.ntmps32
  go_wp2
  obtain ⟨w1, hw1⟩ : ∃ w1 : World, w1 = w.setCell ⟨bG, 1, none⟩ (.int .i64 (i + 1)) := ⟨_, rfl⟩
  have HW1 := hid (show GAt w1 bG (.slice A xs.length cap) xs (i + 1) by rw [hw1]; exact HB.out)
  have HGR := hid (show w.grownBy w1 (some bG) by rw [hw1]; exact grownBy_set)
  rw [← hw1]
  clear hw1 c0 c1 cf
  have d0 : w1.cell? ⟨bG, 0, none⟩ = some (.slice A xs.length cap) := by rw [cell_of_row _ _ _ _ _ _ HW1.out.blk]; rfl
  have d1 : w1.cell? ⟨bG, 1, none⟩ = some (.int .i64 (i + 1)) := by rw [cell_of_row _ _ _ _ _ _ HW1.out.blk]; rfl
  go_quiet ((first
    | (go_at_call 58; exact Calls.quiet_of_same (at_same _ xs i w1 _ (Lt bG) HW1.out.rd HII.out))
    | (go_at_call 12; exact Calls.quiet_of_same (place_same (atF xs i) n _ HAI.out HN.out))))
  go_wp2
  go_ret
  exact ⟨placeF (atF xs i) n, rfl, placeF_lo _ _, placeF_hi _ _, placeF_nonpos, ⟨HW1.out.blk, rd_drewN HW1.out.rd _, HW1.out.bd⟩, grownBy_drewN HGR.out _⟩

def versL : List Ver := [⟨1, 0, 0, ⟨#[]⟩, ⟨#[]⟩⟩, ⟨1, 2, 0, ⟨#[]⟩, ⟨#[]⟩⟩, ⟨2, 0, 0, ⟨#[97, 46, 49]⟩, ⟨#[]⟩⟩, ⟨2, 0, 0, ⟨#[]⟩, ⟨#[]⟩⟩]
def VersPost (w : World) (e : Ending) (w' : World) : Prop := ∃ b, e = .returned (.slice (some ⟨b, 0, none⟩) 4 4) ∧ w.heap.size ≤ b ∧ w'.heap[b]? = some (.cells (fVer.all versL).toArray 56 (0, 0)) ∧ Below w.heap.size w w'
set_option maxHeartbeats 1000000 in
theorem versions_any (w : World) : Calls Tryz.prog 51 #[] w (VersPost w) := by
  go_enter Tryz.func51, Tryz.ntmps51
  go_wp2
  go_ret
  exact ⟨w.heap.size, rfl, Nat.le_refl _, heap_alloc_new w _, balloc (b0 w) _⟩
end Go.Proofs.YtilkhofgcgfnlaaGreat
