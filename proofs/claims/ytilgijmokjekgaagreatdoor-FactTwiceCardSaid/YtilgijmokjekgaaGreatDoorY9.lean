/- A region that draws its order inside a round of a range over a function; the iterator term.Each. -/
import Derived.RangeFuncNested
import Derived.RangeFuncBound
import Derived.RangeFuncCalls
import Derived.RangeFuncLeaves
import Derived.Shelf.Abstract
import Derived.Shelf.RegionOpen
import Derived.OwnWalkIn
import Derived.TacticsInMore
import Derived.LoopNIn
import Derived.LoopIn
import Derived.Stop.RegionWithIn
import Derived.Test.YtilgijmokjekgaaGreatDoorzN9
import Derived.Test.YtilgijmokjekgaaGreatDoorzBase
import Derived.Outline
namespace Go.Proofs.YtilgijmokjekgaaGreatDoor
open Go Go.RowKit

attribute [local go_sem] Oper.semAt_some
section
variable {P : Program} {ops : Array Oper} {md : Region.Mode} {C : World → Prop} {r : Nat} {n : Nat}
/-- No operation is a defer. -/
def noDefer (ops : Array Oper) : Bool := ops.toList.all fun o => match o.op with | .defer _ => false | _ => true
theorem noDefer_at (h : noDefer ops = true) {i : Nat} {o : Oper} (ho : ops[i]? = some o) : ∀ c, o.op ≠ .defer c := by
  intro c hc
  unfold noDefer at h
  rw [List.all_eq_true] at h
  have h1 := h o (List.mem_of_getElem? (by rw [Array.getElem?_toList]; exact ho))
  rw [hc] at h1
  cases h1
theorem round_op {o : Oper} {a : Act} {K : Act → Prop} {K' : Act → World → Prop} {Q' : Exit → Act → World → Prop} {w : World} (hnd : ∀ c, o.op ≠ .defer c) (hw : C w) (h : ∀ a w', C w' → K a → K' a w') (hh : o.quiet P a C K) : o.wpIn (Fence.wide.inRound r) n P a w K' Q' := by
  obtain ⟨v, h1, h2⟩ := hh
  refine ⟨fun f _ => trivial, ?_⟩
  have h3 := h1 w hw
  unfold Oper.quietAt at h3
  rw [Oper.semAt_eq _ _ _ hnd]
  revert h3
  cases (execOp a.eval o).run P w with
  | ok x w' =>
    cases x with
    | value u => rintro ⟨rfl, rfl⟩; exact h _ _ hw h2
    | skip => rintro ⟨rfl, rfl⟩; exact h _ _ hw h2
    | enter f args =>
      rintro ⟨rfl, hc⟩
      refine ⟨fun hd => (by cases hd), CallsIn.inRound r (callsIn_wide.2 (hc.mono fun e w'' he => ?_))⟩
      obtain ⟨rfl, hw''⟩ := he
      exact h _ _ hw'' h2
    | _ => intro h3; exact h3.elim
  | halt x w' => intro h3; exact h3.elim
theorem round_at (hnd : noDefer ops = true) {i : Nat} {a : Act} {K : Act → Prop} {K' : Act → World → Prop} {Q' : Exit → Act → World → Prop} {w : World} (hC : C w) (h : ∀ a w', C w' → K a → K' a w') (hh : qOp P ops C i K a) : wpOpIn (Fence.wide.inRound r) n P ops Q' i K' a w := by
  unfold qOp at hh
  unfold wpOpIn
  cases ho : ops[i]? with
  | none => rw [ho] at hh; exact h _ _ hC hh
  | some o =>
    rw [ho] at hh
    dsimp only at hh ⊢
    by_cases hw : Region.wanted o (yielded ops a.tmps) = true
    · rw [if_pos hw] at hh ⊢
      exact round_op (noDefer_at hnd ho) hC h hh
    · rw [if_neg hw] at hh ⊢
      exact ⟨fun f _ => trivial, h _ _ hC hh⟩
theorem round_any (hnd : noDefer ops = true) {Q : Act → Prop} {Q' : Exit → Act → World → Prop} (hQ : ∀ a w, C w → Q a → Q' .normal a w) : ∀ (fuel : Nat) (listed : Array Bool) (a : Act) (w : World), C w →
    wpAnyQ P md ops C Q fuel listed a → wpAnyIn (Fence.wide.inRound r) n P md ops Q' fuel listed a w
  | 0, _, _, _, hw, h => ⟨h.1, hQ _ _ hw h.2⟩
  | fuel + 1, _, _, _, hw, h => ⟨fun h0 => hQ _ _ hw (h.1 h0), fun _ hi => round_at hnd hw (fun a' w' hw' => round_any hnd hQ fuel _ a' w' hw') (h.2 _ hi)⟩
end
theorem wpIn_region_later {P : Program} {id r n : Nat} {Q : Exit → Act → World → Prop} {a : Act} {w : World} {l : List Oper} (hm : P.follows .mixedOrders = true) (hB : Region.lexB .any l.toArray = true) (hnd : noDefer l.toArray = true)
    (h : wpQuiet P l.toArray (fun w' => ∃ e : Later w, w' = e.w) (fun a' => ∀ w', (∃ e : Later w, w' = e.w) → Q .normal a' w') l a) : (Code.region id l.toArray true).wpIn (Fence.wide.inRound r) n P Q a w := by
  simp only [Region.lexB, Bool.and_eq_true] at hB
  refine wpIn_region_any hm (round_any (Q := fun a' => ∀ w', (∃ e : Later w, w' = e.w) → Q .normal a' w') hnd (fun _ w' hw' h => h w' hw') _ _ _ _ (⟨⟨_, (b0 w).drew⟩, rfl⟩ : (fun w' => ∃ e : Later w, w' = e.w) _) ?_)
  have := wpAnyQ_lex (P := P) (C := fun w' => ∃ e : Later w, w' = e.w) (md := .any) hB.1 l 0 (Array.replicate l.toArray.size false) a (by simp) (by simpa using hB.2) h
  simpa using this
/-- What a round keeps: all blocks that lay there, but one. -/
def KeepB (n M : Nat) (W W' : World) : Prop := (W'.os = W.os ∧ W'.tape = W.tape ∧ W'.output = W.output) ∧ W.heap.size ≤ W'.heap.size ∧ ∀ k, k < n → k ≠ M → W'.heap[k]? = W.heap[k]?
theorem KeepB.refl (n M : Nat) (W : World) : KeepB n M W W := ⟨⟨rfl, rfl, rfl⟩, Nat.le_refl _, fun _ _ _ => rfl⟩
theorem KeepB.trans {n M : Nat} {A B C : World} (h : KeepB n M A B) (h' : KeepB n M B C) : KeepB n M A C := ⟨⟨h'.1.1.trans h.1.1, h'.1.2.1.trans h.1.2.1, h'.1.2.2.trans h.1.2.2⟩, Nat.le_trans h.2.1 h'.2.1, fun k hk hne => (h'.2.2 k hk hne).trans (h.2.2 k hk hne)⟩
theorem KeepB.cell {n M : Nat} {A B : World} (h : KeepB n M A B) {g o : Nat} {v : Value} (hg : g < n) (hne : g ≠ M) (hc : A.cell? ⟨g, o, none⟩ = some v) : B.cell? ⟨g, o, none⟩ = some v := by
  rw [← hc]
  exact World.cell?_of_block (h.2.2 g hg hne)
theorem KeepB.of_below {n M : Nat} {A B : World} (hb : Below n A B) : KeepB n M A B := ⟨⟨hb.os, hb.tape, hb.output⟩, hb.size, fun k hk _ => hb.block k hk⟩
theorem KeepB.put {n M B : Nat} (hB : n ≤ B) (W : World) (l : Nat) (o' : Obj) (hl : B ≤ l) : KeepB n M W (W.putObj l o') := ⟨⟨rfl, rfl, rfl⟩, by simp, fun k hk _ => World.putObj_heap_other (by omega)⟩
theorem KeepB.below {n M B : Nat} {A W : World} (h : KeepB n M A W) (hn : B ≤ n) (hM : B ≤ M) : Below B A W := ⟨h.1.1, h.1.2.1, h.1.2.2, h.2.1, fun k hk => h.2.2 k (by omega) (by omega)⟩
theorem KeepB.grown {n M : Nat} {A W W' : World} {row : Option Nat} (h : KeepB n M A W) (hs : n ≤ W.heap.size) (hg : W.grownBy W' row) (hr : ∀ r, row = some r → n ≤ r) : KeepB n M A W' :=
  h.trans ⟨⟨hg.os, hg.tape, hg.output⟩, hg.size, fun k hk _ => hg.block k (by omega) (fun e => by have := hr k e.symm; omega)⟩
theorem keepsOthers_of_below {A B : World} (hb : Below A.heap.size A B) : KeepsOthers A B := ⟨hb.size, fun k _o hk _ => (hb.block k (Array.getElem?_eq_some_iff.1 hk).1).trans hk⟩
/-- A place of a mask. -/
abbrev PlaceOf (m : Nat) := { p : Nat // m.testBit (p + 1) = true }
def placesTo (m : Nat) : Nat → List (PlaceOf m)
  | 0 => []
  | k + 1 => placesTo m k ++ (if h : m.testBit (k + 1) = true then [⟨k, h⟩] else [])
theorem placesTo_len (m k : Nat) : (placesTo m k).length ≤ k := by
  induction k with
  | zero => exact Nat.le_refl _
  | succ k ih =>
    show (placesTo m k ++ _).length ≤ _
    rw [List.length_append]
    split <;> simp <;> omega
theorem placesTo_yes {m k : Nat} (h : m.testBit (k + 1) = true) : placesTo m (k + 1) = placesTo m k ++ [⟨k, h⟩] := by
  show placesTo m k ++ _ = _
  rw [dif_pos h]
theorem placesTo_no {m k : Nat} (h : m.testBit (k + 1) = false) : placesTo m (k + 1) = placesTo m k := by
  show placesTo m k ++ _ = _
  rw [dif_neg (by rw [h]; decide), List.append_nil]
theorem bit_and {m k : Nat} (hm : m ≤ 31) (hk : k ≤ 16) : bits .and .i64 (m : Int) (pw k : Int) = ((m &&& 2 ^ k : Nat) : Int) := by
  have hp : 2 ^ k ≤ 2 ^ 16 := Nat.pow_le_pow_right (by omega) hk
  have h := and_fact m (pw k : Int) hm
  rw [h]
  have : nm (pw k : Int) = 2 ^ k := by
    unfold pw
    exact nm_nat (by omega)
  rw [this]
theorem bit_zero {m k : Nat} : (((m &&& 2 ^ k : Nat) : Int) != 0) = m.testBit k := by
  have h := pow_and k m
  rw [Nat.and_comm] at h
  cases hb : m.testBit k with
  | true =>
    rw [bne_iff_ne]
    intro e
    exact h.2 hb (by omega)
  | false =>
    rw [bne_eq_false_iff_eq]
    by_cases e : m &&& 2 ^ k = 0
    · rw [e]; rfl
    · rw [h.1 e] at hb; cases hb
set_option maxRecDepth 100000 in
set_option maxHeartbeats 4000000 in
theorem each1_in (n : Nat) (hn : 1 ≤ n) (l Bm n0 M m B0 : Nat) (hm : m ≤ 31) (hm0 : m.testBit 0 = false) (hBn : Bm < n0) (hne : Bm ≠ M) (J Jx : List (PlaceOf m) → World → Prop) (hJ : AbidesFrom B0 J)
    (hY : ∀ pre (x : PlaceOf m) W, J pre W → pre.length < 16 → YieldAt Fence.wide (n - 1) Tryz.prog l #[.int .i64 (x.1 : Int)] W fun e W' =>
      (e = .returned (.bool true) ∧ J (pre ++ [x]) W' ∧ KeepB n0 M W W') ∨ (e = .returned (.bool false) ∧ Jx (pre ++ [x]) W'))
    (W : World) (hBs : W.cell? ⟨Bm, 0, none⟩ = some (.int .i64 m)) (h0 : J [] W) :
    CallsIn Fence.wide n Tryz.prog 90 #[.func (.yield l) #[] #[], .pointer (some ⟨Bm, 0, none⟩)] W fun e W' => (∃ v, e = .returned v) ∧
      ((∃ ys, ys = placesTo m 16 ∧ J ys W') ∨ (∃ pre, (∃ k, k ≤ 16 ∧ pre = placesTo m k) ∧ Jx pre W')) := by
  have hdrew : ∀ pre (w : World), J pre w → J pre w.drew := fun pre w h => hJ pre w w.drew none h ⟨rfl, rfl, rfl, Nat.le_refl _, fun _ _ _ => rfl⟩ (fun r e => by cases e)
  refine callsIn_of_wp Tryz.func90 rfl trivial ?_ rfl
  simp only [Tryz.ntmps90, List.size_toArray, List.length_cons, List.length_nil, Nat.reduceAdd, Nat.reduceSub, Array.replicate_succ, Array.replicate_zero, List.push_toArray, List.append_toArray, List.nil_append, List.cons_append]
  gi_wp2
  gi_loopw [3] (fun iv wr => ∃ k : Nat, k ≤ 17 ∧ iv = .int .i64 ((k : Int) - 1) ∧ J (placesTo m (k - 1)) wr ∧ KeepB n0 M W wr) (fun iv _ => 17 - ((intOf iv) + 1).toNat)
  case atStart => exact ⟨0, by omega, rfl, h0, KeepB.refl _ _ _⟩
  case round =>
    obtain ⟨k, hk, rfl, hJs, hkp⟩ := hrel
    have hcx := hkp.cell hBn hne hBs
    obtain ⟨q, hq⟩ : ∃ q : Int, (k : Int) - 1 = q := ⟨_, rfl⟩
    rw [hq]
    by_cases hlt : k < 17
    · have i1 : q < 16 := by omega
      have i2 : IntKind.i64.wrap (q + 1) = q + 1 := IntWalk.i64_in _ (by omega)
      have hba := bit_and (m := m) (k := k) hm (by omega)
      have hbz := bit_zero (m := m) (k := k)
      have HBT := fun (w : World) => (bit_any k w (by omega))
      rw [hq] at HBT
      have HIV : Hid (q + 1 = ((k + 1 : Nat) : Int) - 1) := hid (by omega)
      have HME : Hid (17 - (intOf (.int .i64 (q + 1)) + 1).toNat < 17 - (intOf (.int .i64 q) + 1).toNat) := hid (by simp [intOf]; omega)
      cases hb : m.testBit k with
      | false =>
        rw [hb] at hbz
        have HJ2 : Hid (∀ N, J (placesTo m k) (wr.drewN N)) := hid (fun N => by
          have h1 : J (placesTo m (k - 1)) (wr.drewN N) := hJ _ wr (wr.drewN N) none hJs ⟨rfl, rfl, rfl, Nat.le_refl _, fun _ _ _ => rfl⟩ (fun r e => by cases e)
          cases k with
          | zero => exact h1
          | succ p => rw [placesTo_no hb]; exact h1)
        have HKP : Hid (∀ N, KeepB n0 M W (wr.drewN N)) := hid (fun _ => hkp)
        clear hq hb
        gi_wp2
        refine wpIn_wide.2 ?_
        go_quiet ((go_at_call 91; exact Calls.quiet_of_same (HBT _)))
        gi_wp2
        exact ⟨⟨k + 1, by omega, by rw [HIV.out], HJ2.out _, HKP.out _⟩, HME.out⟩
      | true =>
        obtain ⟨p, rfl⟩ : ∃ p, k = p + 1 := by
          cases k with
          | zero => rw [hm0] at hb; cases hb
          | succ p => exact ⟨p, rfl⟩
        rw [hb] at hbz
        obtain ⟨fn, tmps, assign, body, hy, hR⟩ := hY _ ⟨p, hb⟩ wr.drew (hdrew _ _ hJs) (by have := placesTo_len m (p + 1 - 1); simp at *; omega)
        have hpq : ((p : Nat) : Int) = q := by omega
        dsimp only at hy
        rw [hpq] at hy
        have HPY := hid (placesTo_yes hb)
        have HKP : Hid (KeepB n0 M W wr.drew) := hid hkp
        have hR2 : RoundIn Fence.wide (n - 1) Tryz.prog l fn tmps assign body wr.drew fun e W' => ∃ b, e = .returned (.bool b) ∧ ((b = true ∧ J (placesTo m (p + 1)) W' ∧ KeepB n0 M wr.drew W') ∨ (b = false ∧ Jx (placesTo m (p + 1)) W')) := hR.mono fun e W' h => by
          rw [HPY.out]
          rcases h with ⟨h1, h2⟩ | ⟨h1, h2⟩
          · exact ⟨true, h1, .inl ⟨rfl, h2⟩⟩
          · exact ⟨false, h1, .inr ⟨rfl, h2⟩⟩
        clear hR HPY hq hpq hb
        gi_wp2
        gi_region_with (first | (refine ⟨trivial, ?_⟩; gi_at_call 91; refine (callsIn_wide.2 (HBT _)).mono ?_; rintro e w2 ⟨rfl, rfl⟩) | (refine hR2.mono ?_; rintro e W3 ⟨b, rfl, hor⟩))
        all_goals rcases hor with ⟨rfl, hJ3, hk3⟩ | ⟨rfl, hJx3⟩
        all_goals first
         | (gi_wp2
            exact ⟨⟨p + 1 + 1, by omega, by rw [HIV.out], hJ3, HKP.out.trans hk3⟩, HME.out⟩)
         | (gi_wp2
            refine bodyPost_ret (results_none rfl _ _ _) rfl ?_
            exact ⟨⟨_, rfl⟩, .inr ⟨_, ⟨p + 1, by omega, rfl⟩, hJx3⟩⟩)
    · have i1 : ¬ q < 16 := by omega
      have HJ16 : Hid (J (placesTo m 16) wr) := hid (by
        have : k = 17 := by omega
        subst this
        exact hJs)
      clear hq hlt
      gi_wp2
      go_end0
      exact ⟨⟨_, rfl⟩, .inl HJ16.out⟩
/-- What term.Each gives: a function value that yields the places of a mask. -/
theorem each_stops (n : Nat) (hn : 1 ≤ n) (Bm n0 M m : Nat) (hm : m ≤ 31) (hm0 : m.testBit 0 = false) (hBn : Bm < n0) (hne : Bm ≠ M) (w : World) (hBl : Bm < w.heap.size) (hc : w.cell? ⟨Bm, 0, none⟩ = some (.int .i64 m)) :
    SeqStopsK Fence.wide n Tryz.prog 90 #[.pointer (some ⟨Bm, 0, none⟩)] (fun x : PlaceOf m => #[Value.int .i64 (x.1 : Int)]) (KeepB n0 M) (fun ys => ys = placesTo m 16) (fun pre => ∃ k, k ≤ 16 ∧ pre = placesTo m k) 16 w := fun l J Jx W hW hJ _ hY h0 => by
  have hc' := (hW.cell (p := ⟨Bm, 0, none⟩) hBl).trans hc
  exact (each1_in n hn l Bm n0 M m W.heap.size hm hm0 hBn hne J Jx hJ hY W hc' h0)
theorem each_any (m : Int) (w : World) :
    Calls Tryz.prog 53 #[.int .i64 m] w fun e w' => e = .returned (.func (.func 90) #[] #[.pointer (some ⟨w.heap.size, 0, none⟩)]) ∧ w' = w.alloc (.cells #[.int .i64 m] 3) := by
  go_enter Tryz.func53, Tryz.ntmps53
  go_wp2
  go_ret
  exact ⟨rfl, rfl⟩
end Go.Proofs.YtilgijmokjekgaaGreatDoor
