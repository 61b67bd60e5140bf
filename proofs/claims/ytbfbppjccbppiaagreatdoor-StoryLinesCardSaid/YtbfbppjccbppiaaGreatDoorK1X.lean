/- Contract: linchpinlaw32.small: a small world. -/
import Derived.Test.YtbfbppjccbppiaaGreatDoorzJ7
import Derived.Test.YtbfbppjccbppiaaGreatDoorzV15
import Derived.Outline
namespace Go.Proofs.YtbfbppjccbppiaaGreatDoor
open Go Go.RowKit

def smallU (s : SetD) : List UnitW := [⟨⟨#[]⟩, ⟨#[]⟩, [⟨⟨0, 0, 0, ⟨#[]⟩, ⟨#[]⟩⟩, -1, [[⟨1, s⟩]], []⟩]⟩, ⟨⟨#[97, 110, 116]⟩, ⟨#[]⟩, []⟩]
theorem small_st (s : SetD) : StW (smallU s) := by
 refine ⟨⟨by show 2 ≤ 2; omega, by show 2 ≤ 11; omega, fun k hk => ?_⟩, fun u hu => ?_, [false], by decide, rfl⟩
 ·match k, hk with
  | 0, _ => show 1 ≤ 4; omega
  | 1, _ => show 0 ≤ 4; omega
 ·rcases List.mem_cons.1 hu with rfl | hu
  ·exact .inr rfl
  ·rw [List.mem_singleton.1 hu]
   exact .inl (List.nil_sublist _)
theorem rd_one {α : Type} {t : Ty α} {w : World} {F : Nat → Prop} {b : Nat} {ca : Array Value} {T : TypeId} {x : α} (h : w.heap[b]? = some (.cells ca T (0, 0))) (hF : F b) (hx : t.rd w F ca.toList x) : SliceRd t w F (.slice (some ⟨b, 0, none⟩) 1 1) [x] := by
 refine ⟨_, 1, rfl, Nat.le_refl _, by unfold maxLen; omega, fun k hk => ⟨b, 0, ca.toList, rfl, hF, t.len hx, fun j _ => ?_, ?_⟩⟩
 ·obtain rfl : k = 0 := by simpa using hk
  rw [cell_of_row _ _ _ _ _ _ h, Nat.zero_mul, Nat.add_zero, Nat.zero_add, Array.getElem?_toList]
 ·obtain rfl : k = 0 := by simpa using hk
  exact hx
theorem small_world {W : World} {b1 b2 b3 b4 : Nat} {rv pv : Value} {s : SetD} {T1 T2 T3 T4 : TypeId} (h1 : W.heap[b1]? = some (.cells #[.int .i64 1, rv, pv] T1 (0, 0))) (h2 : W.heap[b2]? = some (.cells #[.slice (some ⟨b1, 0, none⟩) 1 1] T2 (0, 0)))
  (h3 : W.heap[b3]? = some (.cells #[.int .i64 0, .int .i64 0, .int .i64 0, .string ⟨#[]⟩, .string ⟨#[]⟩, .int .i64 (-1), .slice (some ⟨b2, 0, none⟩) 1 1, .slice none 0 0] T3 (0, 0)))
  (h4 : W.heap[b4]? = some (.cells #[.string ⟨#[]⟩, .string ⟨#[]⟩, .slice (some ⟨b3, 0, none⟩) 1 1, .string ⟨#[97, 110, 116]⟩, .string ⟨#[]⟩, .slice none 0 0] T4 (0, 0)))
  (hr : SliceRd qd6.ty W (Lt W.heap.size) rv s.rel) (hp : SliceRd qd6.ty W (Lt W.heap.size) pv s.pre) : qd0 W (Lt W.heap.size) (.agg #[.slice (some ⟨b4, 0, none⟩) 2 2]) (smallU s) := by
 have lt : ∀ {b : Nat} {o : Obj}, W.heap[b]? = some o → b < W.heap.size := fun h => (Array.getElem?_eq_some_iff.1 h).1
 have e1 : SliceRd qh5 W (Lt W.heap.size) (.slice (some ⟨b1, 0, none⟩) 1 1) [⟨1, s⟩] := rd_one h1 (lt h1) ⟨rv, pv, rfl, ⟨by show (-9223372036854775808 : Int) ≤ 1; omega, by show (1 : Int) ≤ 9223372036854775807; omega⟩, rv, pv, rfl, hr, hp⟩
 have e2 : SliceRd (qk2 qh5) W (Lt W.heap.size) (.slice (some ⟨b2, 0, none⟩) 1 1) [[⟨1, s⟩]] := rd_one h2 (lt h2) ⟨_, rfl, e1⟩
 refine ⟨b4, 2, rfl, lt h4, _, 2, rfl, Nat.le_refl _, by unfold maxLen; omega, fun k hk => ?_⟩
 match k, hk with
 | 0, _ =>
  refine ⟨b4, 0, [.string ⟨#[]⟩, .string ⟨#[]⟩, .slice (some ⟨b3, 0, none⟩) 1 1], rfl, lt h4, rfl, fun j hj => ?_, _, rfl, ⟨_, 1, rfl, fun i hi => ?_⟩⟩
  ·rw [cell_of_row _ _ _ _ _ _ h4]
   match j, hj with
   | 0, _ => rfl
   | 1, _ => rfl
   | 2, _ => rfl
  ·obtain rfl : i = 0 := by have h : i < 1 := hi; omega
   refine ⟨b3, 0, [.int .i64 0, .int .i64 0, .int .i64 0, .string ⟨#[]⟩, .string ⟨#[]⟩, .int .i64 (-1), .slice (some ⟨b2, 0, none⟩) 1 1, .slice none 0 0], rfl, lt h3, rfl, fun j hj => ?_, _, _, rfl, (show VB 0 0 0 ⟨#[]⟩ ⟨#[]⟩ from ⟨⟨by omega, by omega⟩, ⟨by omega, by omega⟩, ⟨by omega, by omega⟩, by decide, by decide⟩), e2, SliceRd.nil _ _ _⟩
   rw [cell_of_row _ _ _ _ _ _ h3]
   match j, hj with
   | 0, _ => rfl
   | 1, _ => rfl
   | 2, _ => rfl
   | 3, _ => rfl
   | 4, _ => rfl
   | 5, _ => rfl
   | 6, _ => rfl
   | 7, _ => rfl
 | 1, _ =>
  refine ⟨b4, 0, [.string ⟨#[97, 110, 116]⟩, .string ⟨#[]⟩, .slice none 0 0], rfl, lt h4, rfl, fun j hj => ?_, _, rfl, ⟨_, 0, rfl, fun i hi => absurd hi (by show ¬ i < 0; omega)⟩⟩
  rw [cell_of_row _ _ _ _ _ _ h4]
  match j, hj with
  | 0, _ => rfl
  | 1, _ => rfl
  | 2, _ => rfl
def SmallPost (w : World) (e : Ending) (w' : World) : Prop := ∃ g s, e = .returned (.agg #[.slice (some ⟨g, 0, none⟩) 2 2]) ∧ qd0 w' (Lt w'.heap.size) (.agg #[.slice (some ⟨g, 0, none⟩) 2 2]) (smallU s) ∧ Below w.heap.size w w'
theorem small_box {w w1 : World} (hb1 : Below (w.alloc (.cells #[.slice none 0 0] 26)).heap.size (w.alloc (.cells #[.slice none 0 0] 26)) w1) : w.heap.size < w1.heap.size ∧ ∀ o1 o2 o3 o4 : Obj, ((((w1.alloc o1).alloc o2).alloc o3).alloc o4).heap[w.heap.size]? = some (.cells #[.slice none 0 0] 26 (0, 0)) := by
 have hrb : w1.heap[w.heap.size]? = some (.cells #[.slice none 0 0] 26 (0, 0)) := (hb1.block _ (by simp)).trans (heap_alloc_new w _)
 have hrl : w.heap.size < w1.heap.size := (Array.getElem?_eq_some_iff.1 hrb).1
 exact ⟨hrl, fun o1 o2 o3 o4 => ((qa0 (qa0 (qa0 (qa0 (b0 w1) o1) o2) o3) o4).block _ hrl).trans hrb⟩
theorem small_zero {w1 : World} {o1 o2 o3 o4 : Obj} {g : Nat} (h : ((((w1.alloc o1).alloc o2).alloc o3).alloc o4).heap[g]? = some (.cells #[.slice none 0 0] 26 (0, 0))) : ((((w1.alloc o1).alloc o2).alloc o3).alloc o4).cell? ⟨g, 0, none⟩ = some (.slice none 0 0) := by
 rw [cell_of_row _ _ _ _ _ _ h]
 rfl
theorem small_set {w1 : World} {o1 o2 o3 o4 : Obj} {g : Nat} (x : Value) (h : ((((w1.alloc o1).alloc o2).alloc o3).alloc o4).heap[g]? = some (.cells #[.slice none 0 0] 26 (0, 0))) : (((((w1.alloc o1).alloc o2).alloc o3).alloc o4).setCell ⟨g, 0, none⟩ x).cell? ⟨g, 0, none⟩ = some x := by
 rw [cell_of_row _ _ _ _ _ _ (heap_setCell_same _ _ _ _ _ _ h)]
 rfl
theorem small_blocks {w1 : World} {o1 o2 o3 o4 : Obj} {p : Addr} (x : Value) (hp : p.block < w1.heap.size) : (((((w1.alloc o1).alloc o2).alloc o3).alloc o4).setCell p x).heap[w1.heap.size]? = some o1 ∧ (((((w1.alloc o1).alloc o2).alloc o3).alloc o4).setCell p x).heap[w1.heap.size + 1]? = some o2 ∧ (((((w1.alloc o1).alloc o2).alloc o3).alloc o4).setCell p x).heap[w1.heap.size + 1 + 1]? = some o3 ∧ (((((w1.alloc o1).alloc o2).alloc o3).alloc o4).setCell p x).heap[w1.heap.size + 1 + 1 + 1]? = some o4 := by
 have s1 : (w1.alloc o1).heap.size = w1.heap.size + 1 := by simp
 have s2 : ((w1.alloc o1).alloc o2).heap.size = w1.heap.size + 1 + 1 := by simp
 have s3 : (((w1.alloc o1).alloc o2).alloc o3).heap.size = w1.heap.size + 1 + 1 + 1 := by simp
 have e1 := heap_alloc_new w1 o1
 have e2 := heap_alloc_new (w1.alloc o1) o2
 have e3 := heap_alloc_new ((w1.alloc o1).alloc o2) o3
 have e4 := heap_alloc_new (((w1.alloc o1).alloc o2).alloc o3) o4
 rw [s1] at e2
 rw [s2] at e3
 rw [s3] at e4
 refine ⟨?_, ?_, ?_, ?_⟩
 ·rw [heap_setCell_other _ _ _ _ (by omega), Below.heap_alloc _ _ _ (by omega), Below.heap_alloc _ _ _ (by omega), Below.heap_alloc _ _ _ (by omega)]; exact e1
 ·rw [heap_setCell_other _ _ _ _ (by omega), Below.heap_alloc _ _ _ (by omega), Below.heap_alloc _ _ _ (by omega)]; exact e2
 ·rw [heap_setCell_other _ _ _ _ (by omega), Below.heap_alloc _ _ _ (by omega)]; exact e3
 ·rw [heap_setCell_other _ _ _ _ (by omega)]; exact e4
set_option maxRecDepth 100000 in
set_option maxHeartbeats 4000000 in
theorem small_any (w : World) : Calls Tryz.prog 25 #[] w (SmallPost w) := by
 go_enter Tryz.func25, Tryz.ntmps25
 go_wp2_with (go_at_call 56; refine (all5_any _).mono ?_; rintro e w1 ⟨rv, pv, L, M, rfl, ho, ho', -, -, hb1⟩; obtain ⟨hrl, hbx⟩ := small_box hb1; have r0 := fun o1 o2 o3 o4 => small_zero (hbx o1 o2 o3 o4); have rf := fun o1 o2 o3 o4 => frozen_of_row _ _ 0 _ _ (hbx o1 o2 o3 o4); obtain ⟨A5, c5, rfl⟩ := ho.form; obtain ⟨A6, c6, rfl⟩ := ho'.form; have HO := hid ho; have HO' := hid ho'; have HB1 := hid (qa1 (qa0 (b0 w) _) hb1); have HBX := hid hbx; clear ho ho' hb1 hbx)
 have hset := fun o1 o2 o3 o4 x => small_set x (HBX.out o1 o2 o3 o4)
 have HBW := hid (fun o1 o2 o3 o4 x => bset (p := ⟨w.heap.size, 0, none⟩) (qa0 (qa0 (qa0 (qa0 HB1.out o1) o2) o3) o4) (Nat.le_refl _) x)
 have HS := hid (fun o1 o2 o3 o4 x => ((HO.out.below (qa0 (qa0 (qa0 (qa0 (b0 w1) o1) o2) o3) o4) (Nat.le_refl _)).set (p := ⟨w.heap.size, 0, none⟩) (by simp) x).rd)
 have HS' := hid (fun o1 o2 o3 o4 x => ((HO'.out.below (qa0 (qa0 (qa0 (qa0 (b0 w1) o1) o2) o3) o4) (Nat.le_refl _)).set (p := ⟨w.heap.size, 0, none⟩) (by simp) x).rd)
 obtain ⟨k1, k2, k3, k4⟩ := small_blocks (w1 := w1) (o1 := .cells #[.int .i64 1, .slice A5 L.length c5, .slice A6 M.length c6] 79) (o2 := .cells #[.slice (some ⟨w1.heap.size, 0, none⟩) 1 1] 61) (o3 := .cells #[.int .i64 0, .int .i64 0, .int .i64 0, .string ⟨#[]⟩, .string ⟨#[]⟩, .int .i64 (-1), .slice (some ⟨w1.heap.size + 1, 0, none⟩) 1 1, .slice none 0 0] 63) (o4 := .cells #[.string ⟨#[]⟩, .string ⟨#[]⟩, .slice (some ⟨w1.heap.size + 1 + 1, 0, none⟩) 1 1, .string ⟨#[97, 110, 116]⟩, .string ⟨#[]⟩, .slice none 0 0] 55) (p := ⟨w.heap.size, 0, none⟩) (.slice (some ⟨w1.heap.size + 1 + 1 + 1, 0, none⟩) 2 2) hrl
 refine bodyPost_ret (v := .agg #[.slice (some ⟨w1.heap.size + 1 + 1 + 1, 0, none⟩) 2 2]) (by simp [results, Tryz.results25, go_sem, hset]) rfl ⟨_, ⟨L, M⟩, rfl, ?_, HBW.out _ _ _ _ _⟩
 exact small_world k1 k2 k3 k4 (HS.out _ _ _ _ _) (HS'.out _ _ _ _ _)
end Go.Proofs.YtbfbppjccbppiaaGreatDoor
