import Derived.RangeFuncNested
import Derived.RangeFuncBound
import Derived.RangeFuncCalls
import Derived.RangeFuncLeaves
import Derived.Shelf.Abstract
import Derived.Shelf.RegionOpen
import Derived.OwnWalkIn
import Derived.TacticsInMore
import Derived.LoopNIn
import Derived.LoopIn
import Derived.Stop.RegionWithIn
import Derived.Test.YtbfbppjccbppiaaGreatDoorzA4
import Derived.Test.YtbfbppjccbppiaaGreatDoorzA
import Derived.Outline
namespace Go.Proofs.YtbfbppjccbppiaaGreatDoor
open Go Go.RowKit
attribute [local go_sem] Oper.semAt_some
section
variable {P : Program} {ops : Array Oper} {md : Region.Mode} {C : World → Prop} {r : Nat} {n : Nat}
def qt8 (ops : Array Oper) : Bool := ops.toList.all fun o => match o.op with | .defer _ => false | _ => true
theorem zn9 (h : qt8 ops = true) {i : Nat} {o : Oper} (ho : ops[i]? = some o) : ∀ c, o.op ≠ .defer c := by
 intro c hc
 unfold qt8 at h
 rw [List.all_eq_true] at h
 have h1 := h o (List.mem_of_getElem? (by rw [Array.getElem?_toList]; exact ho))
 rw [hc] at h1
 cases h1
theorem round_op {o : Oper} {a : Act} {K : Act → Prop} {K' : Act → World → Prop} {Q' : Exit → Act → World → Prop} {w : World} (hnd : ∀ c, o.op ≠ .defer c) (hw : C w) (h : ∀ a w', C w' → K a → K' a w') (hh : o.quiet P a C K) : o.wpIn (Fence.wide.inRound r) n P a w K' Q' := by
 obtain ⟨v, h1, h2⟩ := hh
 refine ⟨fun f _ => trivial, ?_⟩
 have h3 := h1 w hw
 unfold Oper.quietAt at h3
 rw [Oper.semAt_eq _ _ _ hnd]
 revert h3
 cases (execOp a.eval o).run P w with
 | ok x w' =>
  cases x with
  | value u => rintro ⟨rfl, rfl⟩; exact h _ _ hw h2
  | skip => rintro ⟨rfl, rfl⟩; exact h _ _ hw h2
  | enter f args =>
   rintro ⟨rfl, hc⟩
   refine ⟨fun hd => (by cases hd), CallsIn.inRound r (callsIn_wide.2 (hc.mono fun e w'' he => ?_))⟩
   obtain ⟨rfl, hw''⟩ := he
   exact h _ _ hw'' h2
  | _ => intro h3; exact h3.elim
 | halt x w' => intro h3; exact h3.elim
theorem round_at (hnd : qt8 ops = true) {i : Nat} {a : Act} {K : Act → Prop} {K' : Act → World → Prop} {Q' : Exit → Act → World → Prop} {w : World} (hC : C w) (h : ∀ a w', C w' → K a → K' a w') (hh : qOp P ops C i K a) : wpOpIn (Fence.wide.inRound r) n P ops Q' i K' a w := by
 unfold qOp at hh
 unfold wpOpIn
 cases ho : ops[i]? with
 | none => rw [ho] at hh; exact h _ _ hC hh
 | some o =>
  rw [ho] at hh
  dsimp only at hh ⊢
  by_cases hw : Region.wanted o (yielded ops a.tmps) = true
  ·rw [if_pos hw] at hh ⊢
   exact round_op (zn9 hnd ho) hC h hh
  ·rw [if_neg hw] at hh ⊢
   exact ⟨fun f _ => trivial, h _ _ hC hh⟩
theorem round_any (hnd : qt8 ops = true) {Q : Act → Prop} {Q' : Exit → Act → World → Prop} (hQ : ∀ a w, C w → Q a → Q' .normal a w) : ∀ (fuel : Nat) (listed : Array Bool) (a : Act) (w : World), C w →
  wpAnyQ P md ops C Q fuel listed a → wpAnyIn (Fence.wide.inRound r) n P md ops Q' fuel listed a w
 | 0, _, _, _, hw, h => ⟨h.1, hQ _ _ hw h.2⟩
 | fuel + 1, _, _, _, hw, h => ⟨fun h0 => hQ _ _ hw (h.1 h0), fun _ hi => round_at hnd hw (fun a' w' hw' => round_any hnd hQ fuel _ a' w' hw') (h.2 _ hi)⟩
end
theorem wpIn_region_later {P : Program} {id r n : Nat} {Q : Exit → Act → World → Prop} {a : Act} {w : World} {l : List Oper} (hm : P.follows .mixedOrders = true) (hB : Region.lexB .any l.toArray = true) (hnd : qt8 l.toArray = true)
  (h : wpQuiet P l.toArray (fun w' => ∃ e : Later w, w' = e.w) (fun a' => ∀ w', (∃ e : Later w, w' = e.w) → Q .normal a' w') l a) : (Code.region id l.toArray true).wpIn (Fence.wide.inRound r) n P Q a w := by
 simp only [Region.lexB, Bool.and_eq_true] at hB
 refine wpIn_region_any hm (round_any (Q := fun a' => ∀ w', (∃ e : Later w, w' = e.w) → Q .normal a' w') hnd (fun _ w' hw' h => h w' hw') _ _ _ _ (⟨⟨_, (b0 w).drew⟩, rfl⟩ : (fun w' => ∃ e : Later w, w' = e.w) _) ?_)
 have := wpAnyQ_lex (P := P) (C := fun w' => ∃ e : Later w, w' = e.w) (md := .any) hB.1 l 0 (Array.replicate l.toArray.size false) a (by simp) (by simpa using hB.2) h
 simpa using this
def qs6 (n M : Nat) (W W' : World) : Prop := (W'.os = W.os ∧ W'.tape = W.tape ∧ W'.output = W.output) ∧ W.heap.size ≤ W'.heap.size ∧ ∀ k, k < n → k ≠ M → W'.heap[k]? = W.heap[k]?
theorem qs6.refl (n M : Nat) (W : World) : qs6 n M W W := ⟨⟨rfl, rfl, rfl⟩, Nat.le_refl _, fun _ _ _ => rfl⟩
theorem qs6.trans {n M : Nat} {A B C : World} (h : qs6 n M A B) (h' : qs6 n M B C) : qs6 n M A C := ⟨⟨h'.1.1.trans h.1.1, h'.1.2.1.trans h.1.2.1, h'.1.2.2.trans h.1.2.2⟩, Nat.le_trans h.2.1 h'.2.1, fun k hk hne => (h'.2.2 k hk hne).trans (h.2.2 k hk hne)⟩
theorem qs6.cell {n M : Nat} {A B : World} (h : qs6 n M A B) {g o : Nat} {v : Value} (hg : g < n) (hne : g ≠ M) (hc : A.cell? ⟨g, o, none⟩ = some v) : B.cell? ⟨g, o, none⟩ = some v := by
 rw [← hc]
 exact World.cell?_of_block (h.2.2 g hg hne)
theorem qs6.of_below {n M : Nat} {A B : World} (hb : Below n A B) : qs6 n M A B := ⟨⟨hb.os, hb.tape, hb.output⟩, hb.size, fun k hk _ => hb.block k hk⟩
theorem qs6.put {n M B : Nat} (hB : n ≤ B) (W : World) (l : Nat) (o' : Obj) (hl : B ≤ l) : qs6 n M W (W.putObj l o') := ⟨⟨rfl, rfl, rfl⟩, by simp, fun k hk _ => World.putObj_heap_other (by omega)⟩
theorem qs6.below {n M B : Nat} {A W : World} (h : qs6 n M A W) (hn : B ≤ n) (hM : B ≤ M) : Below B A W := ⟨h.1.1, h.1.2.1, h.1.2.2, h.2.1, fun k hk => h.2.2 k (by omega) (by omega)⟩
theorem qs6.grown {n M : Nat} {A W W' : World} {row : Option Nat} (h : qs6 n M A W) (hs : n ≤ W.heap.size) (hg : W.grownBy W' row) (hr : ∀ r, row = some r → n ≤ r) : qs6 n M A W' :=
 h.trans ⟨⟨hg.os, hg.tape, hg.output⟩, hg.size, fun k hk _ => hg.block k (by omega) (fun e => by have := hr k e.symm; omega)⟩
theorem qm6 {A B : World} (hb : Below A.heap.size A B) : KeepsOthers A B := ⟨hb.size, fun k _o hk _ => (hb.block k (Array.getElem?_eq_some_iff.1 hk).1).trans hk⟩
abbrev PlaceOf (m : Nat) := { p : Nat // m.testBit (p + 1) = true }
def placesTo (m : Nat) : Nat → List (PlaceOf m)
 | 0 => []
 | k + 1 => placesTo m k ++ (if h : m.testBit (k + 1) = true then [⟨k, h⟩] else [])
theorem bit_and {m k : Nat} (hm : m ≤ 31) (hk : k ≤ 16) : bits .and .i64 (m : Int) (pw k : Int) = ((m &&& 2 ^ k : Nat) : Int) := by
 have hp : 2 ^ k ≤ 2 ^ 16 := Nat.pow_le_pow_right (by omega) hk
 have h := qy7 m (pw k : Int) hm
 rw [h]
 have : nm (pw k : Int) = 2 ^ k := by
  unfold pw
  exact ql1 (by omega)
 rw [this]
theorem bit_zero {m k : Nat} : (((m &&& 2 ^ k : Nat) : Int) != 0) = m.testBit k := by
 have h := pow_and k m
 rw [Nat.and_comm] at h
 cases hb : m.testBit k with
 | true =>
  rw [bne_iff_ne]
  intro e
  exact h.2 hb (by omega)
 | false =>
  rw [bne_eq_false_iff_eq]
  by_cases e : m &&& 2 ^ k = 0
  ·rw [e]; rfl
  ·rw [h.1 e] at hb; cases hb
theorem each_any (m : Int) (w : World) :
  Calls Tryz.prog 51 #[.int .i64 m] w fun e w' => e = .returned (.func (.func 90) #[] #[.pointer (some ⟨w.heap.size, 0, none⟩)]) ∧ w' = w.alloc (.cells #[.int .i64 m] 3) := by
 go_enter Tryz.func51, Tryz.ntmps51
 go_wp2
 go_ret
 exact ⟨rfl, rfl⟩
end Go.Proofs.YtbfbppjccbppiaaGreatDoor
