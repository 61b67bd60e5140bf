/- Contract: linchpinlaw29.awake. -/
import Derived.Test.YtlinabifalfddaaDoorW15b
namespace Go.Proofs.YtlinabifalfddaaDoor
open Go Go.RowKit

theorem own_made {w : World} {B : Nat} (hB : B ≤ w.heap.size) (cur : Array Value) (e : TypeId) (size n : Nat) (xs : List Value) (hx : cur.toList = xs) (hl : xs.length = n * size) (hm : n ≤ maxLen) :
    (w.alloc (.cells cur e)).ownsRow B e size (.slice (some ⟨w.heap.size, 0, none⟩) n n) n xs :=
  ⟨hl, .inr ⟨_, n, cur, rfl, hB, heap_alloc_new w _, Nat.le_refl _, hm, by rw [← hl, ← hx, Array.length_toList], by rw [hx, ← hl, List.take_length]⟩⟩
def wakeCells (w : World) : Array Value :=
  #[Value.int IntKind.i64 1, Value.int IntKind.i64 0, Value.int IntKind.i64 0, Value.int IntKind.i64 0,
          Value.slice (some { block := w.heap.size, off := 0 }) 1 1, Value.int IntKind.i64 2, Value.int IntKind.i64 0,
          Value.int IntKind.i64 0, Value.int IntKind.i64 0,
          Value.slice (some { block := w.heap.size + 1, off := 0 }) 1 1, Value.int IntKind.i64 5,
          Value.int IntKind.i64 0, Value.int IntKind.i64 0, Value.int IntKind.i64 1, Value.slice none 0 0]
def wakeWorld (w : World) : World :=
  ((w.alloc (Obj.cells #[Value.int IntKind.i64 0, Value.int IntKind.i64 1] 52)).alloc (Obj.cells #[Value.int IntKind.i64 0, Value.int IntKind.i64 2] 52)).alloc
      (Obj.cells
        (wakeCells w)
        27)
theorem wake_copied (w : World) : Copied 27 52 (wakeWorld w) w.heap.size (Value.slice (some { block := w.heap.size + 1 + 1, off := 0 }) 3 3) wakeRows
    [Value.slice (some { block := w.heap.size, off := 0 }) 1 1, Value.slice (some { block := w.heap.size + 1, off := 0 }) 1 1, Value.slice none 0 0] := by
  have s1 : (w.alloc (Obj.cells #[Value.int IntKind.i64 0, Value.int IntKind.i64 1] 52)).heap.size = w.heap.size + 1 := by simp
  have o0 := ((own_made (w := w) (Nat.le_refl _) #[Value.int IntKind.i64 0, Value.int IntKind.i64 1] 52 2 1 (termCells [⟨0, 1⟩]) rfl rfl (by decide)).alloc (Obj.cells #[Value.int IntKind.i64 0, Value.int IntKind.i64 2] 52))
  have o1 := own_made (w := w.alloc (Obj.cells #[Value.int IntKind.i64 0, Value.int IntKind.i64 1] 52)) (B := w.heap.size) (by omega) #[Value.int IntKind.i64 0, Value.int IntKind.i64 2] 52 2 1 (termCells [⟨0, 2⟩]) rfl rfl (by decide)
  refine ⟨by decide, rfl, ?_, ?_, ?_, ?_⟩
  · refine ⟨rfl, .inr ⟨_, 3, wakeCells w, rfl, by omega, ?_, Nat.le_refl _, by decide, rfl, rfl⟩⟩
    have := heap_alloc_new ((w.alloc (Obj.cells #[Value.int IntKind.i64 0, Value.int IntKind.i64 1] 52)).alloc (Obj.cells #[Value.int IntKind.i64 0, Value.int IntKind.i64 2] 52))
    have s2 : ((w.alloc (Obj.cells #[Value.int IntKind.i64 0, Value.int IntKind.i64 1] 52)).alloc (Obj.cells #[Value.int IntKind.i64 0, Value.int IntKind.i64 2] 52)).heap.size = w.heap.size + 1 + 1 := by simp
    rw [s2] at this
    exact this _
  · intro r hr
    simp only [wakeRows, List.mem_cons, List.not_mem_nil, or_false] at hr
    rcases hr with rfl | rfl | rfl
    · exact ⟨⟨by decide, by decide⟩, ⟨by decide, by decide⟩, ⟨by decide, by decide⟩, ⟨by decide, by decide⟩, by intro t ht; simp only [List.mem_cons, List.not_mem_nil, or_false] at ht; subst ht; exact ⟨⟨by decide, by decide⟩, ⟨by decide, by decide⟩⟩⟩
    · exact ⟨⟨by decide, by decide⟩, ⟨by decide, by decide⟩, ⟨by decide, by decide⟩, ⟨by decide, by decide⟩, by intro t ht; simp only [List.mem_cons, List.not_mem_nil, or_false] at ht; subst ht; exact ⟨⟨by decide, by decide⟩, ⟨by decide, by decide⟩⟩⟩
    · exact ⟨⟨by decide, by decide⟩, ⟨by decide, by decide⟩, ⟨by decide, by decide⟩, ⟨by decide, by decide⟩, by intro t ht; simp at ht⟩
  · intro k h h'
    match k, h with
    | 0, _ => exact o0.alloc _
    | 1, _ => rw [s1] at o1; exact o1.alloc _
    | 2, _ => exact ⟨rfl, .inl ⟨rfl, rfl⟩⟩
  · intro j k hjk hk g hg
    match k, hk with
    | 0, _ => omega
    | 1, _ =>
      match j, hjk with
      | 0, _ =>
        injection hg with hg
        intro e
        injection e with e
        have hg' : w.heap.size = g := hg
        have e' : w.heap.size + 1 = g := e
        omega
    | 2, _ => intro e; cases e

set_option maxRecDepth 100000 in
theorem awake_any (w : World) (htab : Lib.TabBelow Tryd.prog w.heap.size w "internal/strconv.uint64pow10" .u64 Lib.pow10Tab) :
    Calls Tryd.prog 9 #[] w fun e w' => e = .returned (.bool true) ∧ Below w.heap.size w w' := by
  have HTAB := hid htab
  clear htab
  have hcw := hid (wake_copied w)
  have hbw : Below w.heap.size w (wakeWorld w) := (((Below.refl _ _).alloc (Nat.le_refl _) _).alloc (by simp) _).alloc (by simp; omega) _
  go_enter Tryd.func9, Tryd.ntmps9
  go_wp2_with fail
  refine (print_any _ wakeRows (wakeWorld w) ((hcw.out.rd (F := Lt (wakeWorld w).heap.size) (fun g _ h => h))) wake_may (fun w' h' => HTAB.out w' (hbw.trans (h'.mono hbw.size))) (by rw [wake_print]; decide)).mono ?_
  rintro e w1 ⟨rfl, hb1⟩
  rw [wake_print]
  have hb2 : Below w.heap.size w w1 := hbw.trans (hb1.mono hbw.size)
  have HR : Hid (SliceRd tRow w1 (Lt w1.heap.size) (Value.slice (some { block := w.heap.size + 1 + 1, off := 0 }) 3 3) wakeRows) := hid ((hcw.out.rd (F := Lt (wakeWorld w).heap.size) (fun g _ h => h)).lift hb1 hb1.size)
  clear hcw
  go_wp2_with (first
    | (go_at_call 15
       refine (print_bad _ [] _ (SliceRd.nil _ _ _) not_may_nil).mono ?_
       rintro e w2 ⟨rfl, hb3⟩)
    | (go_at_call 12
       refine (may_any _ wakeRows _ (HR.out.lift hb3 hb3.size)).mono ?_
       rintro e w3 ⟨rfl, hb4⟩
       rw [decide_eq_true wake_may]))
  go_ret
  exact ⟨rfl, (hb2.trans (hb3.mono hb2.size)).trans (hb4.mono (Nat.le_trans hb2.size hb3.size))⟩
end Go.Proofs.YtlinabifalfddaaDoor
