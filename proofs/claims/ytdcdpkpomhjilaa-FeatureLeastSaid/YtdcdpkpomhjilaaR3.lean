/- Contracts: linchpinref6.told, sign, May, Print; linchpinref1.Join. -/
import Derived.Test.YtdcdpkpomhjilaaR2
import Derived.Test.YtdcdpkpomhjilaaS1
import Derived.Deep.RegionLaw
import Derived.Deep.RegionHeld3
import Derived.Deep.DrawnRows
namespace Go.Proofs.Ytdcdpkpomhjilaa
open Go Go.RowKit

theorem strs_blk {w : World} (e : TypeId) (l : List ByteArray) (cs : Array Value) (hc : cs.toList = l.map Value.string) (hs : ∀ x ∈ l, x.size ≤ maxLen) (hm : l.length ≤ maxLen) :
    SliceRd tStr (w.alloc (.cells cs e)) (Lt (w.alloc (.cells cs e)).heap.size) (.slice (some ⟨w.heap.size, 0, none⟩) l.length l.length) l := by
  have hz : w.heap.size < (w.alloc (.cells cs e)).heap.size := by simp
  refine ⟨_, _, rfl, Nat.le_refl _, hm, fun k hk => ⟨w.heap.size, 0, [.string l[k]], rfl, hz, rfl, fun j hj => ?_, ⟨rfl, hs _ (List.getElem_mem hk)⟩⟩⟩
  have hj : j < 1 := hj
  obtain rfl : j = 0 := by omega
  show (w.alloc (.cells cs e)).cell? ⟨w.heap.size, 0 + k * 1 + 0, none⟩ = _
  rw [World.cell?_alloc_new, ← Array.getElem?_toList, hc]
  simp [hk]
/-- A few short texts are answered. -/
def TextsPost (w : World) (e : Ending) (w' : World) : Prop := Below w.heap.size w w' ∧ ∃ v l, e = .returned v ∧ SliceRd tStr w' (Lt w'.heap.size) v l ∧ l.length ≤ 3 ∧ ∀ s ∈ l, s.size ≤ 1
def compV (op a b c : Int) : Value := .agg #[.int .i64 op, .int .i64 3, .int .i64 a, .int .i64 b, .int .i64 c, .string ⟨#[]⟩, .string ⟨#[]⟩]
theorem digits_at {n : Int} (h0 : 0 ≤ n) (h9 : n ≤ 9) {w0 w : World} (hb : Below w0.heap.size w0 w) : Calls Try.prog 82 #[.int .i64 n] w (fun e w' => ∃ s : ByteArray, e = .returned (.string s) ∧ s.size ≤ 1 ∧ Below w0.heap.size w0 w') :=
  (digits1_any n w h0 h9).mono fun _ _ ⟨hb1, s, he, hs⟩ => ⟨s, he, hs, bstep hb hb1⟩

set_option maxRecDepth 100000 in
set_option maxHeartbeats 1000000 in
theorem told_any (op a b c : Int) (w : World) (a0 : 0 ≤ a) (a9 : a ≤ 9) (hb0 : 0 ≤ b) (hb9 : b ≤ 9) (c0 : 0 ≤ c) (c9 : c ≤ 9) :
    Calls Try.prog 63 #[compV op a b c] w (TextsPost w) := by
  unfold compV
  go_enter Try.func63, Try.ntmps63
  go_wp2_with fail
  obtain ⟨w0, hw0⟩ : ∃ w0 : World, w0 = w.alloc (.cells #[.int .i64 op, .int .i64 3, .int .i64 a, .int .i64 b, .int .i64 c, .string ⟨#[]⟩, .string ⟨#[]⟩] 86) := ⟨_, rfl⟩
  have HB0 : Hid (Below w.heap.size w w0) := hid (hw0 ▸ balloc (b0 w) _)
  have hl0 : w.heap.size < w0.heap.size := by rw [hw0]; simp
  have x1 : w0.cell? ⟨w.heap.size, 1, none⟩ = some (.int .i64 3) := by rw [hw0]; exact World.cell?_alloc_new ..
  have x2 : w0.cell? ⟨w.heap.size, 2, none⟩ = some (.int .i64 a) := by rw [hw0]; exact World.cell?_alloc_new ..
  have x3 : w0.cell? ⟨w.heap.size, 3, none⟩ = some (.int .i64 b) := by rw [hw0]; exact World.cell?_alloc_new ..
  have x4 : w0.cell? ⟨w.heap.size, 4, none⟩ = some (.int .i64 c) := by rw [hw0]; exact World.cell?_alloc_new ..
  rw [← hw0]
  clear hw0
  have HX1 := hid x1
  clear x1
  go_region_held3 (fun w' => w'.cell? ⟨w.heap.size, 2, none⟩ = some (.int .i64 a) ∧ w'.cell? ⟨w.heap.size, 3, none⟩ = some (.int .i64 b) ∧ w'.cell? ⟨w.heap.size, 4, none⟩ = some (.int .i64 c)) (first | exact ⟨by assumption, by assumption, by assumption⟩ | go_keep)
    ((first
      | (go_at_call 82; (with_reducible refine (digits1_any a _ a0 a9).mono ?_); rintro e w1 ⟨hb1, s1, rfl, hs1⟩
         replace hb1 : Below w0.heap.size w0 w1 := ((Below.refl _ _).drew).trans hb1
         have y2 := cell_below hb1 hl0 x2; have y3 := cell_below hb1 hl0 x3; have y4 := cell_below hb1 hl0 x4)
      | (go_at_call 82; (with_reducible refine (digits1_any b _ hb0 hb9).mono ?_); rintro e w2 ⟨hb2, s2, rfl, hs2⟩
         replace hb2 : Below w0.heap.size w0 w2 := bstep hb1 hb2
         have z2 := cell_below hb2 hl0 x2; have z3 := cell_below hb2 hl0 x3; have z4 := cell_below hb2 hl0 x4)
      | (go_at_call 82; (with_reducible refine (digits1_any c _ c0 c9).mono ?_); rintro e w3 ⟨hb3, s3, rfl, hs3⟩
         replace hb3 : Below w0.heap.size w0 w3 := bstep hb2 hb3
         have z2 := cell_below hb3 hl0 x2; have z3 := cell_below hb3 hl0 x3; have z4 := cell_below hb3 hl0 x4)))
  have q1 := cell_below hb3 hl0 HX1.out
  have HB3 := hid (bstep HB0.out hb3)
  have HSS := hid (show ∀ s ∈ [s1, s2, s3], s.size ≤ 1 from fun s hs => by
    simp only [List.mem_cons, List.not_mem_nil, or_false] at hs
    rcases hs with rfl | rfl | rfl <;> assumption)
  have hz3 : w.heap.size < w3.heap.size := Nat.lt_of_lt_of_le hl0 hb3.size
  clear hs1 hs2 hs3
  go_wp2
  go_ret
  refine ⟨?_, _, [s1, s2, s3], rfl, ?_, by simp, HSS.out⟩
  · first | exact balloc HB3.out _ | exact bdrew (balloc HB3.out _)
  · first
      | exact strs_blk _ [s1, s2, s3] _ rfl (fun x hx => by have := HSS.out x hx; unfold maxLen; omega) (by show 3 ≤ maxLen; unfold maxLen; decide)
      | exact (strs_blk _ [s1, s2, s3] _ rfl (fun x hx => by have := HSS.out x hx; unfold maxLen; omega) (by show 3 ≤ maxLen; unfold maxLen; decide)).lift (b0 _).drew (Nat.le_refl _)

set_option maxRecDepth 100000 in
set_option maxHeartbeats 1000000 in
theorem join_any (v : Value) (l : List ByteArray) (w : World) (h : SliceRd tStr w (Lt w.heap.size) v l) (hl : l.length ≤ 3) (hs : ∀ s ∈ l, s.size ≤ 1) :
    Calls Try.prog 64 #[v, .int .u8 46] w (StrPost 6 w) := by
  obtain ⟨A, cap, rfl, hcap, hmax, hc⟩ := h.strs
  unfold maxLen at hmax
  have HC := hid hc
  have HS := hid hs
  have hcv := fun w => conv_one Try.underlying113 Try.underlying5 Try.underlying9 w 46 46 rfl
  clear h hc hs
  go_enter Try.func64, Try.ntmps64
  go_wp2
  go_loopw [5, 6] (fun sv iv wr => ∃ (k : Nat) (S : ByteArray), k ≤ l.length ∧ iv = .int .i64 k ∧ sv = .string S ∧ S.size ≤ 2 * k ∧ Hid (Below w.heap.size w wr)) (fun _ iv _ => l.length - (intOf iv).toNat)
  case atStart => exact ⟨0, ⟨#[]⟩, Nat.zero_le _, rfl, rfl, Nat.le_refl _, hid (b0 w)⟩
  case round =>
    obtain ⟨k, S, hk, rfl, rfl, hS, hb⟩ := hrel
    have i1 : (0 : Int) ≤ ↑k := by omega
    by_cases hlt : k < l.length
    · obtain ⟨g, o, hA, hF, g0, -⟩ := HC.out k hlt
      subst hA
      have c0 := cell_below hb.out hF g0
      have h1 := HS.out l[k] (List.getElem_mem hlt)
      clear g0
      have i2 : (↑k : Int) < ↑l.length := by omega
      generalize l[k] = x at *
      by_cases hk0 : k = 0
      · subst hk0
        simp only [Nat.add_zero] at c0
        go_wp2
        exact ⟨⟨1, _, by omega, by go_num, rfl, by simp only [ByteArray.size_append]; omega, hb⟩, by simp [intOf]; omega⟩
      · have i3 : (0 : Int) < ↑k := by omega
        have i4 : decide (0 < k) = true := by simp; omega
        have c1 := fun o => cell_below (balloc (b0 wr) o) (World.block_lt_of_cell? _ _ c0) c0
        go_wp2
        exact ⟨⟨k + 1, _, by omega, by go_num, rfl, by simp only [ByteArray.size_append]; have e46 : (⟨#[46]⟩ : ByteArray).size = 1 := rfl; omega, hid (balloc hb.out _)⟩, by simp [intOf]; omega⟩
    · have i2 : ¬ (↑k : Int) < ↑l.length := by omega
      go_wp2
      go_ret
      exact ⟨hb.out, _, rfl, by omega⟩

set_option maxHeartbeats 1000000 in
theorem sign_any (op : Int) (w : World) (h1 : 1 ≤ op) (h8 : op ≤ 8) :
    Calls Try.prog 65 #[.int .i64 op] w (StrPost 2 w) := by
  rcases (by omega : op = 1 ∨ op = 2 ∨ op = 3 ∨ op = 4 ∨ op = 5 ∨ op = 6 ∨ op = 7 ∨ op = 8) with rfl | rfl | rfl | rfl | rfl | rfl | rfl | rfl
  all_goals
    go_enter Try.func65, Try.ntmps65
    go_wp2
    go_ret
    exact ⟨b0 w, _, rfl, by decide⟩

set_option maxRecDepth 100000 in
set_option maxHeartbeats 1000000 in
theorem may6_any (op a b c : Int) (w : World) (h1 : 1 ≤ op) (h8 : op ≤ 8) (a0 : 0 ≤ a) (a9 : a ≤ 9) (hb0 : 0 ≤ b) (hb9 : b ≤ 9) (c0 : 0 ≤ c) (c9 : c ≤ 9) :
    Calls Try.prog 62 #[compV op a b c] w fun e w' => e = .returned (.bool true) ∧ Below w.heap.size w w' := by
  unfold compV
  have o1 : ¬ op < 1 := by omega
  have o9 : ¬ 9 < op := by omega
  have on : (op == 9) = false := by simp; omega
  go_enter Try.func62, Try.ntmps62
  go_wp2_with (first
    | (go_at_call 81; (with_reducible refine (vmay_any a b c _ a0 a9 hb0 hb9 c0 c9).mono ?_); rintro e w1 ⟨rfl, hb1⟩; obtain ⟨hbc, hbf⟩ := bcell hb1; have hz : w.heap.size < w1.heap.size := by have := hb1.size; simp at this; omega))
  go_ret
  exact ⟨rfl, bstep (balloc (b0 w) _) hb1⟩
end Go.Proofs.Ytdcdpkpomhjilaa
