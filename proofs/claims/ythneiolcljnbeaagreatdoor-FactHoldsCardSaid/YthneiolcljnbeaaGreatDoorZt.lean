import Derived.Test.YthneiolcljnbeaaGreatDoorzY13
import Derived.Test.YthneiolcljnbeaaGreatDoorzV18
import Derived.Deep.RegionHeld3
import Derived.Outline
namespace Go.Proofs.YthneiolcljnbeaaGreatDoor
open Go Go.RowKit
def AllSet (w : World) (e : Ending) (w' : World) : Prop := ∃ A1 c1 A2 c2, e = .returned (.agg #[.slice A1 1 c1, .slice A2 1 c2]) ∧ OwnSpans w.heap.size w' (.slice A1 1 c1) [wholeSpan] ∧ OwnSpans w.heap.size w' (.slice A2 1 c2) [wholeSpan] ∧ Below w.heap.size w w'
set_option maxHeartbeats 1000000 in
theorem all5_set (w : World) : Calls Tryz.prog 68 #[] w (AllSet w) := by
 go_enter Tryz.func68, Tryz.ntmps68
 have tok := hid True.intro
 go_wp2_with (first
  | (go_at_call 91; clear tok; refine (whole_any _).mono ?_; rintro e w1 ⟨v1, rfl, ho1, hb1⟩; obtain ⟨A1, c1, rfl⟩ := ho1.form; have HO1 := hid ho1; obtain ⟨hbc, hbf⟩ := bcell hb1; have hz0 : w.heap.size < w1.heap.size := Nat.lt_of_lt_of_le (by simp) hb1.size; have HB1 := hid (bstep (balloc (b0 w) _) hb1); clear ho1)
  | (go_at_call 91; refine (whole_any _).mono ?_; rintro e w2 ⟨v2, rfl, ho2, hb2⟩; obtain ⟨A2, c2, rfl⟩ := ho2.form; have HO2 := hid ho2; obtain ⟨hbc2, hbf2⟩ := bcell hb2; have hy0 : w.heap.size < w2.heap.size := Nat.lt_of_lt_of_le hz0 hb2.size; have HB2 := hid (bstep HB1.out hb2); have HO3 := hid (HO1.out.below hb2 (Nat.le_refl _)); clear ho2))
 exact bodyPost_ret (v := .agg #[.slice A1 1 c1, .slice A2 1 c2]) (by simp [results, Tryz.results68, go_sem, hbc, hz0, hbc2]) rfl ⟨A1, c1, A2, c2, rfl, ((HO3.out.set (p := ⟨w.heap.size, 0, none⟩) (by simp) _).set (p := ⟨w.heap.size, 1, none⟩) (by simp) _).mono (by simp), ((HO2.out.set (p := ⟨w.heap.size, 0, none⟩) hz0 _).set (p := ⟨w.heap.size, 1, none⟩) hz0 _).mono (Nat.le_of_lt hz0), by repeat (first | (with_reducible exact HB2.out) | (with_reducible exact b0 _) | (with_reducible refine bset ?_ (by first | exact Nat.le_refl _ | (simp; done) | omega | (simp; omega)) _) | (with_reducible refine balloc ?_ _) | (with_reducible refine bdrew ?_))⟩
theorem rd_one {α : Type} {t : Ty α} {w : World} {F : Nat → Prop} {b : Nat} {ca : Array Value} {T : TypeId} {x : α} (h : w.heap[b]? = some (.cells ca T (0, 0))) (hF : F b) (hx : t.rd w F ca.toList x) : SliceRd t w F (.slice (some ⟨b, 0, none⟩) 1 1) [x] := by
 refine ⟨_, 1, rfl, Nat.le_refl _, by unfold maxLen; omega, fun k hk => ⟨b, 0, ca.toList, rfl, hF, t.len hx, fun j _ => ?_, ?_⟩⟩
 ·obtain rfl : k = 0 := by simpa using hk
  rw [cell_of_row _ _ _ _ _ _ h, Nat.zero_mul, Nat.add_zero, Nat.zero_add, Array.getElem?_toList]
 ·obtain rfl : k = 0 := by simpa using hk
  exact hx
theorem cand_one {W : World} {b1 b2 b3 : Nat} {rv pv : Value} {xu sh a : Int} {T1 T2 T3 : TypeId} (h1 : W.heap[b1]? = some (.cells #[.int .i64 xu, rv, pv] T1 (0, 0))) (h2 : W.heap[b2]? = some (.cells #[.slice (some ⟨b1, 0, none⟩) 1 1] T2 (0, 0)))
  (h3 : W.heap[b3]? = some (.cells #[.int .i64 a, .int .i64 0, .int .i64 0, .string ⟨#[]⟩, .string ⟨#[]⟩, .int .i64 sh, .slice (some ⟨b2, 0, none⟩) 1 1, .slice none 0 0] T3 (0, 0))) (hx : I64 xu) (ha : 0 ≤ a ∧ a ≤ 1)
  (hr : SliceRd fSpan.ty W (Lt W.heap.size) rv [wholeSpan]) (hp : SliceRd fSpan.ty W (Lt W.heap.size) pv [wholeSpan]) : Seen tCand W (Lt W.heap.size) (.slice (some ⟨b3, 0, none⟩) 1 1) [⟨⟨a, 0, 0, e0, e0⟩, sh, [[⟨xu, sAll⟩]], []⟩] := by
 have lt : ∀ {b : Nat} {o : Obj}, W.heap[b]? = some o → b < W.heap.size := fun h => (Array.getElem?_eq_some_iff.1 h).1
 have e1 : SliceRd tWant W (Lt W.heap.size) (.slice (some ⟨b1, 0, none⟩) 1 1) [⟨xu, sAll⟩] := rd_one h1 (lt h1) ⟨rv, pv, rfl, hx, rv, pv, rfl, hr, hp⟩
 have e2 : SliceRd (tSlice tWant) W (Lt W.heap.size) (.slice (some ⟨b2, 0, none⟩) 1 1) [[⟨xu, sAll⟩]] := rd_one h2 (lt h2) ⟨_, rfl, e1⟩
 refine ⟨_, 1, rfl, fun i hi => ?_⟩
 obtain rfl : i = 0 := by have h : i < 1 := hi; omega
 refine ⟨b3, 0, [.int .i64 a, .int .i64 0, .int .i64 0, .string ⟨#[]⟩, .string ⟨#[]⟩, .int .i64 sh, .slice (some ⟨b2, 0, none⟩) 1 1, .slice none 0 0], rfl, lt h3, rfl, fun j hj => ?_, _, _, rfl, (show VB a 0 0 ⟨#[]⟩ ⟨#[]⟩ from ⟨⟨by omega, by omega⟩, ⟨by omega, by omega⟩, ⟨by omega, by omega⟩, by decide, by decide⟩), e2, SliceRd.nil _ _ _⟩
 rw [cell_of_row _ _ _ _ _ _ h3]
 match j, hj with
 | 0, _ => rfl
 | 1, _ => rfl
 | 2, _ => rfl
 | 3, _ => rfl
 | 4, _ => rfl
 | 5, _ => rfl
 | 6, _ => rfl
 | 7, _ => rfl
theorem smallT_world {W : World} {b1 b2 b3 d1 d2 d3 g : Nat} {rv pv : Value} {T1 T2 T3 T4 S1 S2 S3 : TypeId} (h1 : W.heap[b1]? = some (.cells #[.int .i64 1, rv, pv] T1 (0, 0))) (h2 : W.heap[b2]? = some (.cells #[.slice (some ⟨b1, 0, none⟩) 1 1] T2 (0, 0)))
  (h3 : W.heap[b3]? = some (.cells #[.int .i64 0, .int .i64 0, .int .i64 0, .string ⟨#[]⟩, .string ⟨#[]⟩, .int .i64 (-1), .slice (some ⟨b2, 0, none⟩) 1 1, .slice none 0 0] T3 (0, 0)))
  (k1 : W.heap[d1]? = some (.cells #[.int .i64 2, rv, pv] S1 (0, 0))) (k2 : W.heap[d2]? = some (.cells #[.slice (some ⟨d1, 0, none⟩) 1 1] S2 (0, 0)))
  (k3 : W.heap[d3]? = some (.cells #[.int .i64 1, .int .i64 0, .int .i64 0, .string ⟨#[]⟩, .string ⟨#[]⟩, .int .i64 0, .slice (some ⟨d2, 0, none⟩) 1 1, .slice none 0 0] S3 (0, 0)))
  (h4 : W.heap[g]? = some (.cells #[.string ⟨#[]⟩, .string ⟨#[]⟩, .slice (some ⟨b3, 0, none⟩) 1 1, .string ⟨#[97, 110, 116]⟩, .string ⟨#[]⟩, .slice (some ⟨d3, 0, none⟩) 1 1, .string ⟨#[98, 101, 101]⟩, .string ⟨#[]⟩, .slice none 0 0] T4 (0, 0)))
  (hr : SliceRd fSpan.ty W (Lt W.heap.size) rv [wholeSpan]) (hp : SliceRd fSpan.ty W (Lt W.heap.size) pv [wholeSpan]) : WorldRd W (Lt W.heap.size) (.agg #[.slice (some ⟨g, 0, none⟩) 3 3]) smallT := by
 have lt : ∀ {b : Nat} {o : Obj}, W.heap[b]? = some o → b < W.heap.size := fun h => (Array.getElem?_eq_some_iff.1 h).1
 have s1 := cand_one (xu := 1) (sh := -1) (a := 0) h1 h2 h3 ⟨by omega, by omega⟩ (by omega) hr hp
 have s2 := cand_one (xu := 2) (sh := 0) (a := 1) k1 k2 k3 ⟨by omega, by omega⟩ (by omega) hr hp
 refine ⟨g, 3, rfl, lt h4, _, 3, rfl, Nat.le_refl _, by unfold maxLen; omega, fun k hk => ?_⟩
 match k, hk with
 | 0, _ =>
  refine ⟨g, 0, [.string ⟨#[]⟩, .string ⟨#[]⟩, .slice (some ⟨b3, 0, none⟩) 1 1], rfl, lt h4, rfl, fun j hj => ?_, _, rfl, s1⟩
  rw [cell_of_row _ _ _ _ _ _ h4]
  match j, hj with
  | 0, _ => rfl
  | 1, _ => rfl
  | 2, _ => rfl
 | 1, _ =>
  refine ⟨g, 0, [.string ⟨#[97, 110, 116]⟩, .string ⟨#[]⟩, .slice (some ⟨d3, 0, none⟩) 1 1], rfl, lt h4, rfl, fun j hj => ?_, _, rfl, s2⟩
  rw [cell_of_row _ _ _ _ _ _ h4]
  match j, hj with
  | 0, _ => rfl
  | 1, _ => rfl
  | 2, _ => rfl
 | 2, _ =>
  refine ⟨g, 0, [.string ⟨#[98, 101, 101]⟩, .string ⟨#[]⟩, .slice none 0 0], rfl, lt h4, rfl, fun j hj => ?_, _, rfl, ⟨_, 0, rfl, fun i hi => absurd hi (by show ¬ i < 0; omega)⟩⟩
  rw [cell_of_row _ _ _ _ _ _ h4]
  match j, hj with
  | 0, _ => rfl
  | 1, _ => rfl
  | 2, _ => rfl
def SmallPost (w : World) (e : Ending) (w' : World) : Prop := ∃ g, e = .returned (.agg #[.slice (some ⟨g, 0, none⟩) 3 3]) ∧ WorldRd w' (Lt w'.heap.size) (.agg #[.slice (some ⟨g, 0, none⟩) 3 3]) smallT ∧ Below w.heap.size w w'
theorem old2 {w w' : World} (hb : Below w.heap.size w w') {b i M : Nat} {v x : Value} (hlt : b < w.heap.size) (hne : b ≠ M) (h : w.cell? ⟨b, i, none⟩ = some v) : (w'.setCell ⟨M, 0, none⟩ x).drew.cell? ⟨b, i, none⟩ = some v := by
 show (w'.setCell ⟨M, 0, none⟩ x).cell? ⟨b, i, none⟩ = some v
 rw [World.cell?_of_block (a := ⟨b, i, none⟩) (heap_setCell_other _ _ _ _ hne)]
 exact cell_below hb hlt h
theorem old2' {w w' : World} (hb : Below w.heap.size w w') {b i M : Nat} {v x : Value} (hlt : b < w.heap.size) (hne : b ≠ M) (h : w.cell? ⟨b, i, none⟩ = some v) : (w'.setCell ⟨M, 0, none⟩ x).cell? ⟨b, i, none⟩ = some v := old2 hb hlt hne h
def SmallS (b b2 : Nat) (A1 A2 : Option Addr) (c1 c2 : Nat) (W : World) : Prop := W.cell? ⟨b, 0, none⟩ = some (.int .i64 1) ∧ W.cell? ⟨b, 1, none⟩ = some (.int .i64 0) ∧ W.cell? ⟨b, 2, none⟩ = some (.int .i64 0) ∧ W.cell? ⟨b, 3, none⟩ = some (.string ⟨#[]⟩) ∧ W.cell? ⟨b, 4, none⟩ = some (.string ⟨#[]⟩) ∧ W.cell? ⟨b2, 0, none⟩ = some (.slice A1 1 c1) ∧ W.cell? ⟨b2, 1, none⟩ = some (.slice A2 1 c2)
theorem small_keep1 {w3 W : World} {b b2 c1 c2 : Nat} {A1 A2 : Option Addr} (hb : Below w3.heap.size w3 W) (n2 : b < w3.heap.size) (n1 : b2 < w3.heap.size) (h : SmallS b b2 A1 A2 c1 c2 w3) : W.cell? ⟨b, 0, none⟩ = some (.int .i64 1) ∧ W.cell? ⟨b, 1, none⟩ = some (.int .i64 0) ∧ W.cell? ⟨b, 2, none⟩ = some (.int .i64 0) ∧ W.cell? ⟨b, 3, none⟩ = some (.string ⟨#[]⟩) ∧ W.cell? ⟨b, 4, none⟩ = some (.string ⟨#[]⟩) ∧ W.cell? ⟨b2, 0, none⟩ = some (.slice A1 1 c1) ∧ W.cell? ⟨b2, 1, none⟩ = some (.slice A2 1 c2) := by
 obtain ⟨x0, x1, x2, x3, x4, s0, s1⟩ := h
 exact ⟨cell_below hb n2 x0, cell_below hb n2 x1, cell_below hb n2 x2, cell_below hb n2 x3, cell_below hb n2 x4, cell_below hb n1 s0, cell_below hb n1 s1⟩
theorem small_keep2 {w3 w' : World} {b b2 c1 c2 M : Nat} {x : Value} {A1 A2 : Option Addr} (hb : Below w3.heap.size w3 w') (n2 : b < w3.heap.size) (n1 : b2 < w3.heap.size) (m2 : b ≠ M) (m1 : b2 ≠ M) (h : SmallS b b2 A1 A2 c1 c2 w3) : (w'.setCell ⟨M, 0, none⟩ x).cell? ⟨b, 0, none⟩ = some (.int .i64 1) ∧ (w'.setCell ⟨M, 0, none⟩ x).cell? ⟨b, 1, none⟩ = some (.int .i64 0) ∧ (w'.setCell ⟨M, 0, none⟩ x).cell? ⟨b, 2, none⟩ = some (.int .i64 0) ∧ (w'.setCell ⟨M, 0, none⟩ x).cell? ⟨b, 3, none⟩ = some (.string ⟨#[]⟩) ∧ (w'.setCell ⟨M, 0, none⟩ x).cell? ⟨b, 4, none⟩ = some (.string ⟨#[]⟩) ∧ (w'.setCell ⟨M, 0, none⟩ x).cell? ⟨b2, 0, none⟩ = some (.slice A1 1 c1) ∧ (w'.setCell ⟨M, 0, none⟩ x).cell? ⟨b2, 1, none⟩ = some (.slice A2 1 c2) := by
 obtain ⟨x0, x1, x2, x3, x4, s0, s1⟩ := h
 exact ⟨old2' hb n2 m2 x0, old2' hb n2 m2 x1, old2' hb n2 m2 x2, old2' hb n2 m2 x3, old2' hb n2 m2 x4, old2' hb n1 m1 s0, old2' hb n1 m1 s1⟩
theorem small_keep3 {w3 w' : World} {b b2 c1 c2 M : Nat} {x : Value} {A1 A2 : Option Addr} (hb : Below w3.heap.size w3 w') (n2 : b < w3.heap.size) (n1 : b2 < w3.heap.size) (m2 : b ≠ M) (m1 : b2 ≠ M) (h : SmallS b b2 A1 A2 c1 c2 w3) : (w'.setCell ⟨M, 0, none⟩ x).drew.cell? ⟨b, 0, none⟩ = some (.int .i64 1) ∧ (w'.setCell ⟨M, 0, none⟩ x).drew.cell? ⟨b, 1, none⟩ = some (.int .i64 0) ∧ (w'.setCell ⟨M, 0, none⟩ x).drew.cell? ⟨b, 2, none⟩ = some (.int .i64 0) ∧ (w'.setCell ⟨M, 0, none⟩ x).drew.cell? ⟨b, 3, none⟩ = some (.string ⟨#[]⟩) ∧ (w'.setCell ⟨M, 0, none⟩ x).drew.cell? ⟨b, 4, none⟩ = some (.string ⟨#[]⟩) ∧ (w'.setCell ⟨M, 0, none⟩ x).drew.cell? ⟨b2, 0, none⟩ = some (.slice A1 1 c1) ∧ (w'.setCell ⟨M, 0, none⟩ x).drew.cell? ⟨b2, 1, none⟩ = some (.slice A2 1 c2) := small_keep2 hb n2 n1 m2 m1 h
theorem small_heap {w3 : World} {M : Nat} (hM : M < w3.heap.size) (x : Value) (o1 o2 o3 o4 o5 o6 o7 : Obj) : let W := (((((((w3.alloc o1).alloc o2).alloc o3).alloc o4).alloc o5).alloc o6).alloc o7).setCell ⟨M, 0, none⟩ x
  W.heap[w3.heap.size]? = some o1 ∧ W.heap[w3.heap.size + 1]? = some o2 ∧ W.heap[w3.heap.size + 1 + 1]? = some o3 ∧ W.heap[w3.heap.size + 1 + 1 + 1]? = some o4 ∧ W.heap[w3.heap.size + 1 + 1 + 1 + 1]? = some o5 ∧ W.heap[w3.heap.size + 1 + 1 + 1 + 1 + 1]? = some o6 ∧ W.heap[w3.heap.size + 1 + 1 + 1 + 1 + 1 + 1]? = some o7 := by
 intro W
 have e : ∀ k, M < k → W.heap[k]? = (((((((w3.alloc o1).alloc o2).alloc o3).alloc o4).alloc o5).alloc o6).alloc o7).heap[k]? := fun k hk => heap_setCell_other _ _ _ _ (by show k ≠ M; omega)
 have s1 : (w3.alloc o1).heap.size = w3.heap.size + 1 := by simp
 have s2 : ((w3.alloc o1).alloc o2).heap.size = w3.heap.size + 1 + 1 := by simp
 have s3 : (((w3.alloc o1).alloc o2).alloc o3).heap.size = w3.heap.size + 1 + 1 + 1 := by simp
 have s4 : ((((w3.alloc o1).alloc o2).alloc o3).alloc o4).heap.size = w3.heap.size + 1 + 1 + 1 + 1 := by simp
 have s5 : (((((w3.alloc o1).alloc o2).alloc o3).alloc o4).alloc o5).heap.size = w3.heap.size + 1 + 1 + 1 + 1 + 1 := by simp
 have s6 : ((((((w3.alloc o1).alloc o2).alloc o3).alloc o4).alloc o5).alloc o6).heap.size = w3.heap.size + 1 + 1 + 1 + 1 + 1 + 1 := by simp
 have e1 := heap_alloc_new w3 o1
 have e2 := heap_alloc_new (w3.alloc o1) o2
 have e3 := heap_alloc_new ((w3.alloc o1).alloc o2) o3
 have e4 := heap_alloc_new (((w3.alloc o1).alloc o2).alloc o3) o4
 have e5 := heap_alloc_new ((((w3.alloc o1).alloc o2).alloc o3).alloc o4) o5
 have e6 := heap_alloc_new (((((w3.alloc o1).alloc o2).alloc o3).alloc o4).alloc o5) o6
 have e7 := heap_alloc_new ((((((w3.alloc o1).alloc o2).alloc o3).alloc o4).alloc o5).alloc o6) o7
 rw [s1] at e2
 rw [s2] at e3
 rw [s3] at e4
 rw [s4] at e5
 rw [s5] at e6
 rw [s6] at e7
 refine ⟨?_, ?_, ?_, ?_, ?_, ?_, ?_⟩
 ·rw [e _ (by omega), Below.heap_alloc _ _ _ (by omega), Below.heap_alloc _ _ _ (by omega), Below.heap_alloc _ _ _ (by omega), Below.heap_alloc _ _ _ (by omega), Below.heap_alloc _ _ _ (by omega), Below.heap_alloc _ _ _ (by omega)]; exact e1
 ·rw [e _ (by omega), Below.heap_alloc _ _ _ (by omega), Below.heap_alloc _ _ _ (by omega), Below.heap_alloc _ _ _ (by omega), Below.heap_alloc _ _ _ (by omega), Below.heap_alloc _ _ _ (by omega)]; exact e2
 ·rw [e _ (by omega), Below.heap_alloc _ _ _ (by omega), Below.heap_alloc _ _ _ (by omega), Below.heap_alloc _ _ _ (by omega), Below.heap_alloc _ _ _ (by omega)]; exact e3
 ·rw [e _ (by omega), Below.heap_alloc _ _ _ (by omega), Below.heap_alloc _ _ _ (by omega), Below.heap_alloc _ _ _ (by omega)]; exact e4
 ·rw [e _ (by omega), Below.heap_alloc _ _ _ (by omega), Below.heap_alloc _ _ _ (by omega)]; exact e5
 ·rw [e _ (by omega), Below.heap_alloc _ _ _ (by omega)]; exact e6
 ·rw [e _ (by omega)]; exact e7
theorem small_fin {w w3 : World} {A1 A2 : Option Addr} {c1 c2 n : Nat} (hM : w.heap.size < w3.heap.size) (hn : w.heap.size < n) (hb3 : Below w.heap.size w w3) (h1 : OwnSpans n w3 (.slice A1 1 c1) [wholeSpan]) (h2 : OwnSpans n w3 (.slice A2 1 c2) [wholeSpan]) (x : Value) (o1 o2 o3 o4 o5 o6 o7 : Obj) : let W := (((((((w3.alloc o1).alloc o2).alloc o3).alloc o4).alloc o5).alloc o6).alloc o7).setCell ⟨w.heap.size, 0, none⟩ x
  SliceRd fSpan.ty W (Lt W.heap.size) (.slice A1 1 c1) [wholeSpan] ∧ SliceRd fSpan.ty W (Lt W.heap.size) (.slice A2 1 c2) [wholeSpan] ∧ Below w.heap.size w W := by
 intro W
 have hb : Below w3.heap.size w3 (((((((w3.alloc o1).alloc o2).alloc o3).alloc o4).alloc o5).alloc o6).alloc o7) := balloc (balloc (balloc (balloc (balloc (balloc (balloc (b0 w3) _) _) _) _) _) _) _
 exact ⟨((h1.below hb (Nat.le_refl _)).set (p := ⟨w.heap.size, 0, none⟩) hn x).rd, ((h2.below hb (Nat.le_refl _)).set (p := ⟨w.heap.size, 0, none⟩) hn x).rd, bset (hb3.trans (hb.mono (Nat.le_of_lt hM))) (Nat.le_refl _) x⟩
theorem small_close {w w3 : World} {A1 A2 : Option Addr} {c1 c2 n : Nat} {e : Ending} (hM : w.heap.size < w3.heap.size) (hn : w.heap.size < n) (hb3 : Below w.heap.size w w3) (h1 : OwnSpans n w3 (.slice A1 1 c1) [wholeSpan]) (h2 : OwnSpans n w3 (.slice A2 1 c2) [wholeSpan]) {x : Value} {o1 o2 o3 o4 o5 o6 o7 : Obj}
  (h : ∀ W : World, W.heap[w3.heap.size]? = some o1 → W.heap[w3.heap.size + 1]? = some o2 → W.heap[w3.heap.size + 1 + 1]? = some o3 → W.heap[w3.heap.size + 1 + 1 + 1]? = some o4 → W.heap[w3.heap.size + 1 + 1 + 1 + 1]? = some o5 → W.heap[w3.heap.size + 1 + 1 + 1 + 1 + 1]? = some o6 → W.heap[w3.heap.size + 1 + 1 + 1 + 1 + 1 + 1]? = some o7 → SliceRd fSpan.ty W (Lt W.heap.size) (.slice A1 1 c1) [wholeSpan] → SliceRd fSpan.ty W (Lt W.heap.size) (.slice A2 1 c2) [wholeSpan] → Below w.heap.size w W → SmallPost w e W) : SmallPost w e ((((((((w3.alloc o1).alloc o2).alloc o3).alloc o4).alloc o5).alloc o6).alloc o7).setCell ⟨w.heap.size, 0, none⟩ x) := by
 obtain ⟨e1, e2, e3, e4, e5, e6, e7⟩ := small_heap hM x o1 o2 o3 o4 o5 o6 o7
 obtain ⟨f1, f2, f3⟩ := small_fin hM hn hb3 h1 h2 x o1 o2 o3 o4 o5 o6 o7
 exact h _ e1 e2 e3 e4 e5 e6 e7 f1 f2 f3
theorem SmallPost.drew {w W : World} {e : Ending} (h : SmallPost w e W) : SmallPost w e W.drew := by
 obtain ⟨g, rfl, h1, h2⟩ := h
 exact ⟨g, rfl, h1.lift (b0 W).drew (Nat.le_refl _), h2.drew⟩
set_option maxRecDepth 100000 in
set_option maxHeartbeats 16000000 in
theorem small_any (w : World) : Calls Tryz.prog 34 #[] w (SmallPost w) := by
 go_enter Tryz.func34, Tryz.ntmps34
 go_wp2_with (first
  | (go_at_call 35; refine (versions_any _).mono ?_; rintro e w1 ⟨b, rfl, hbB, hblk, hb1⟩; have HBLK := hid hblk; have HB1 := hid hb1; have HBB := hid hbB; clear hblk hb1 hbB)
  | (go_at_call 68; refine (all5_set _).mono ?_; rintro e w2 ⟨A1, c1, A2, c2, rfl, ho1, ho2, hb2⟩; have HO1 := hid ho1; have HO2 := hid ho2; have HB2 := hid hb2; clear ho1 ho2 hb2))
 obtain ⟨w3, hw3⟩ : ∃ w3 : World, w3 = w2.alloc (.cells #[.slice A1 1 c1, .slice A2 1 c2] 62) := ⟨_, rfl⟩
 have hwz : w.heap.size < w1.heap.size := Nat.lt_of_lt_of_le (by simp) HB1.out.size
 have h12 := HB2.out.size
 have hbl : b < w1.heap.size := (Array.getElem?_eq_some_iff.1 HBLK.out).1
 have hs3 : w3.heap.size = w2.heap.size + 1 := by rw [hw3]; simp
 have hb3 : Below w2.heap.size w2 w3 := hw3 ▸ balloc (b0 w2) _
 have hb13 := bstep HB2.out hb3
 have hblk3 : w3.heap[b]? = some (.cells (fVer.all versL).toArray 52 (0, 0)) := (hb13.block b hbl).trans HBLK.out
 have x0 : w3.cell? ⟨b, 0, none⟩ = some (.int .i64 1) := by rw [cell_of_row _ _ _ _ _ _ hblk3]; rfl
 have x1 : w3.cell? ⟨b, 1, none⟩ = some (.int .i64 0) := by rw [cell_of_row _ _ _ _ _ _ hblk3]; rfl
 have x2 : w3.cell? ⟨b, 2, none⟩ = some (.int .i64 0) := by rw [cell_of_row _ _ _ _ _ _ hblk3]; rfl
 have x3 : w3.cell? ⟨b, 3, none⟩ = some (.string ⟨#[]⟩) := by rw [cell_of_row _ _ _ _ _ _ hblk3]; rfl
 have x4 : w3.cell? ⟨b, 4, none⟩ = some (.string ⟨#[]⟩) := by rw [cell_of_row _ _ _ _ _ _ hblk3]; rfl
 have s0 : w3.cell? ⟨w2.heap.size, 0, none⟩ = some (.slice A1 1 c1) := by rw [hw3, alloc_cell]; rfl
 have s1 : w3.cell? ⟨w2.heap.size, 1, none⟩ = some (.slice A2 1 c2) := by rw [hw3, alloc_cell]; rfl
 have hrb : w3.heap[w.heap.size]? = some (.cells #[.slice none 0 0] 25 (0, 0)) := (hb13.block _ hwz).trans ((HB1.out.block _ (by simp)).trans (heap_alloc_new w _))
 have z0 : w3.cell? ⟨w.heap.size, 0, none⟩ = some (.slice none 0 0) := by rw [cell_of_row _ _ _ _ _ _ hrb]; rfl
 have zf : w3.frozen? ⟨w.heap.size, 0, none⟩ = false := frozen_of_row _ _ 0 _ _ hrb
 have n0 : w.heap.size < w3.heap.size := by omega
 have hrb7 : ∀ o1 o2 o3 o4 o5 o6 o7 : Obj, (((((((w3.alloc o1).alloc o2).alloc o3).alloc o4).alloc o5).alloc o6).alloc o7).heap[w.heap.size]? = some (.cells #[.slice none 0 0] 25 (0, 0)) := fun o1 o2 o3 o4 o5 o6 o7 => ((balloc (balloc (balloc (balloc (balloc (balloc (balloc (b0 w3) o1) o2) o3) o4) o5) o6) o7).block _ n0).trans hrb
 have HRB7 := hid hrb7
 have zf7 : ∀ o1 o2 o3 o4 o5 o6 o7 : Obj, (((((((w3.alloc o1).alloc o2).alloc o3).alloc o4).alloc o5).alloc o6).alloc o7).frozen? ⟨w.heap.size, 0, none⟩ = false := fun o1 o2 o3 o4 o5 o6 o7 => frozen_of_row _ _ 0 _ _ (hrb7 o1 o2 o3 o4 o5 o6 o7)
 have z07 : ∀ o1 o2 o3 o4 o5 o6 o7 : Obj, (((((((w3.alloc o1).alloc o2).alloc o3).alloc o4).alloc o5).alloc o6).alloc o7).cell? ⟨w.heap.size, 0, none⟩ = some (.slice none 0 0) := fun o1 o2 o3 o4 o5 o6 o7 => by rw [cell_of_row _ _ _ _ _ _ (hrb7 o1 o2 o3 o4 o5 o6 o7)]; rfl
 have n1 : w2.heap.size < w3.heap.size := by omega
 have n2 : b < w3.heap.size := by omega
 have m2 : b ≠ w.heap.size := by have h := HBB.out; rw [World.size_alloc] at h; omega
 have m1 : w2.heap.size ≠ w.heap.size := by omega
 have HB3 := hid hb3
 have HRB := hid hrb
 have HBW3 := hid (((balloc (b0 w) (.cells #[.slice none 0 0] 25)).trans (HB1.out.mono (by simp))).trans (hb13.mono (Nat.le_of_lt hwz)))
 have HO1' := hid (HO1.out.below hb3 (Nat.le_refl _))
 have HO2' := hid (HO2.out.below hb3 (Nat.le_refl _))
 have HS3 := hid hs3
 have HSM := hid (show SmallS b w2.heap.size A1 A2 c1 c2 w3 from ⟨x0, x1, x2, x3, x4, s0, s1⟩)
 rw [← hw3]
 clear hw3 hs3 hb3 hb13 hblk3 hrb h12 hrb7 z0 zf
 go_region_held3 (fun w' => w'.cell? ⟨b, 0, none⟩ = some (.int .i64 1) ∧ w'.cell? ⟨b, 1, none⟩ = some (.int .i64 0) ∧ w'.cell? ⟨b, 2, none⟩ = some (.int .i64 0) ∧ w'.cell? ⟨b, 3, none⟩ = some (.string ⟨#[]⟩) ∧ w'.cell? ⟨b, 4, none⟩ = some (.string ⟨#[]⟩) ∧ w'.cell? ⟨w2.heap.size, 0, none⟩ = some (.slice A1 1 c1) ∧ w'.cell? ⟨w2.heap.size, 1, none⟩ = some (.slice A2 1 c2)) (first | (refine small_keep1 (w3 := w3) ?_ n2 n1 HSM.out; (repeat (first | (with_reducible exact b0 _) | (with_reducible refine balloc ?_ _) | (with_reducible refine bdrew ?_))); done) | (refine small_keep2 (w3 := w3) ?_ n2 n1 m2 m1 HSM.out; (repeat (first | (with_reducible exact b0 _) | (with_reducible refine balloc ?_ _) | (with_reducible refine bdrew ?_))); done) | (refine small_keep3 (w3 := w3) ?_ n2 n1 m2 m1 HSM.out; (repeat (first | (with_reducible exact b0 _) | (with_reducible refine balloc ?_ _) | (with_reducible refine bdrew ?_))); done)) (fail)
 all_goals go_wp2
 all_goals (refine bodyPost_ret (v := .agg #[.slice (some ⟨w3.heap.size + 1 + 1 + 1 + 1 + 1 + 1, 0, none⟩) 3 3]) (results_cell rfl rfl ?_) rfl ?_; (focus go_simp); ((first | (with_reducible refine small_close n0 hwz HBW3.out HO1'.out HO2'.out ?_) | (refine SmallPost.drew ?_; refine small_close n0 hwz HBW3.out HO1'.out HO2'.out ?_)); intro W e1 e2 e3 e4 e5 e6 e7 f1 f2 f3; exact ⟨_, rfl, smallT_world (by assumption) (by assumption) (by assumption) (by assumption) (by assumption) (by assumption) e7 f1 f2, f3⟩))
end Go.Proofs.YthneiolcljnbeaaGreatDoor
