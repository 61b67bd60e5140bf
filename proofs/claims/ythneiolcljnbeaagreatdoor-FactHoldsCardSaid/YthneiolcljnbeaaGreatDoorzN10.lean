import Derived.Test.YthneiolcljnbeaaGreatDoorzN9
import Derived.Outline
import Derived.RangeFuncNested
import Derived.RangeFuncBound
import Derived.RangeFuncCalls
import Derived.RangeFuncLeaves
import Derived.Shelf.Abstract
import Derived.Shelf.RegionOpen
import Derived.OwnWalkIn
import Derived.TacticsInMore
import Derived.LoopNIn
import Derived.LoopIn
import Derived.Stop.RegionWithIn
import Derived.Test.YthneiolcljnbeaaGreatDoorzLater
import Derived.Test.YthneiolcljnbeaaGreatDoorzV4
import Derived.Laws.RangeAny
import Derived.LoopTactic
namespace Go.Proofs.YthneiolcljnbeaaGreatDoor
open Go Go.RowKit
section
theorem makeN_bad {ns : List Nat} {l : List Term} (h : inR ns l = false) : makeN ns l = none := by unfold makeN; rw [h]; rfl
theorem and_fact (mu : Nat) (m : Int) (h : mu ≤ 31) : bits .and .i64 (mu : Int) m = ((mu &&& nm m : Nat) : Int) := by
 have h1 : nm (mu : Int) = mu := nm_nat (by omega)
 have h2 : mu &&& nm m ≤ mu := Nat.and_le_left
 rw [band _ _ (by rw [h1]; omega), h1]
end
section
attribute [local go_sem] Oper.semAt_some
section
variable {P : Program} {ops : Array Oper} {md : Region.Mode} {C : World → Prop} {r : Nat} {n : Nat}
def noDefer (ops : Array Oper) : Bool := ops.toList.all fun o => match o.op with | .defer _ => false | _ => true
theorem noDefer_at (h : noDefer ops = true) {i : Nat} {o : Oper} (ho : ops[i]? = some o) : ∀ c, o.op ≠ .defer c := by
  intro c hc
  unfold noDefer at h
  rw [List.all_eq_true] at h
  have h1 := h o (List.mem_of_getElem? (by rw [Array.getElem?_toList]; exact ho))
  rw [hc] at h1
  cases h1
theorem round_op {o : Oper} {a : Act} {K : Act → Prop} {K' : Act → World → Prop} {Q' : Exit → Act → World → Prop} {w : World} (hnd : ∀ c, o.op ≠ .defer c) (hw : C w) (h : ∀ a w', C w' → K a → K' a w') (hh : o.quiet P a C K) : o.wpIn (Fence.wide.inRound r) n P a w K' Q' := by
  obtain ⟨v, h1, h2⟩ := hh
  refine ⟨fun f _ => trivial, ?_⟩
  have h3 := h1 w hw
  unfold Oper.quietAt at h3
  rw [Oper.semAt_eq _ _ _ hnd]
  revert h3
  cases (execOp a.eval o).run P w with
  | ok x w' =>
    cases x with
    | value u => rintro ⟨rfl, rfl⟩; exact h _ _ hw h2
    | skip => rintro ⟨rfl, rfl⟩; exact h _ _ hw h2
    | enter f args =>
      rintro ⟨rfl, hc⟩
      refine ⟨fun hd => (by cases hd), CallsIn.inRound r (callsIn_wide.2 (hc.mono fun e w'' he => ?_))⟩
      obtain ⟨rfl, hw''⟩ := he
      exact h _ _ hw'' h2
    | _ => intro h3; exact h3.elim
  | halt x w' => intro h3; exact h3.elim
theorem round_at (hnd : noDefer ops = true) {i : Nat} {a : Act} {K : Act → Prop} {K' : Act → World → Prop} {Q' : Exit → Act → World → Prop} {w : World} (hC : C w) (h : ∀ a w', C w' → K a → K' a w') (hh : qOp P ops C i K a) : wpOpIn (Fence.wide.inRound r) n P ops Q' i K' a w := by
  unfold qOp at hh
  unfold wpOpIn
  cases ho : ops[i]? with
  | none => rw [ho] at hh; exact h _ _ hC hh
  | some o =>
    rw [ho] at hh
    dsimp only at hh ⊢
    by_cases hw : Region.wanted o (yielded ops a.tmps) = true
    · rw [if_pos hw] at hh ⊢
      exact round_op (noDefer_at hnd ho) hC h hh
    · rw [if_neg hw] at hh ⊢
      exact ⟨fun f _ => trivial, h _ _ hC hh⟩
theorem round_any (hnd : noDefer ops = true) {Q : Act → Prop} {Q' : Exit → Act → World → Prop} (hQ : ∀ a w, C w → Q a → Q' .normal a w) : ∀ (fuel : Nat) (listed : Array Bool) (a : Act) (w : World), C w →
    wpAnyQ P md ops C Q fuel listed a → wpAnyIn (Fence.wide.inRound r) n P md ops Q' fuel listed a w
  | 0, _, _, _, hw, h => ⟨h.1, hQ _ _ hw h.2⟩
  | fuel + 1, _, _, _, hw, h => ⟨fun h0 => hQ _ _ hw (h.1 h0), fun _ hi => round_at hnd hw (fun a' w' hw' => round_any hnd hQ fuel _ a' w' hw') (h.2 _ hi)⟩
end
theorem wpIn_region_later {P : Program} {id r n : Nat} {Q : Exit → Act → World → Prop} {a : Act} {w : World} {l : List Oper} (hm : P.follows .mixedOrders = true) (hB : Region.lexB .any l.toArray = true) (hnd : noDefer l.toArray = true)
    (h : wpQuiet P l.toArray (fun w' => ∃ e : Later w, w' = e.w) (fun a' => ∀ w', (∃ e : Later w, w' = e.w) → Q .normal a' w') l a) : (Code.region id l.toArray true).wpIn (Fence.wide.inRound r) n P Q a w := by
  simp only [Region.lexB, Bool.and_eq_true] at hB
  refine wpIn_region_any hm (round_any (Q := fun a' => ∀ w', (∃ e : Later w, w' = e.w) → Q .normal a' w') hnd (fun _ w' hw' h => h w' hw') _ _ _ _ (⟨⟨_, (b0 w).drew⟩, rfl⟩ : (fun w' => ∃ e : Later w, w' = e.w) _) ?_)
  have := wpAnyQ_lex (P := P) (C := fun w' => ∃ e : Later w, w' = e.w) (md := .any) hB.1 l 0 (Array.replicate l.toArray.size false) a (by simp) (by simpa using hB.2) h
  simpa using this
def KeepB (n M : Nat) (W W' : World) : Prop := (W'.os = W.os ∧ W'.tape = W.tape ∧ W'.output = W.output) ∧ W.heap.size ≤ W'.heap.size ∧ ∀ k, k < n → k ≠ M → W'.heap[k]? = W.heap[k]?
theorem KeepB.refl (n M : Nat) (W : World) : KeepB n M W W := ⟨⟨rfl, rfl, rfl⟩, Nat.le_refl _, fun _ _ _ => rfl⟩
theorem KeepB.trans {n M : Nat} {A B C : World} (h : KeepB n M A B) (h' : KeepB n M B C) : KeepB n M A C := ⟨⟨h'.1.1.trans h.1.1, h'.1.2.1.trans h.1.2.1, h'.1.2.2.trans h.1.2.2⟩, Nat.le_trans h.2.1 h'.2.1, fun k hk hne => (h'.2.2 k hk hne).trans (h.2.2 k hk hne)⟩
theorem KeepB.cell {n M : Nat} {A B : World} (h : KeepB n M A B) {g o : Nat} {v : Value} (hg : g < n) (hne : g ≠ M) (hc : A.cell? ⟨g, o, none⟩ = some v) : B.cell? ⟨g, o, none⟩ = some v := by
  rw [← hc]
  exact World.cell?_of_block (h.2.2 g hg hne)
theorem KeepB.of_below {n M : Nat} {A B : World} (hb : Below n A B) : KeepB n M A B := ⟨⟨hb.os, hb.tape, hb.output⟩, hb.size, fun k hk _ => hb.block k hk⟩
theorem KeepB.put {n M B : Nat} (hB : n ≤ B) (W : World) (l : Nat) (o' : Obj) (hl : B ≤ l) : KeepB n M W (W.putObj l o') := ⟨⟨rfl, rfl, rfl⟩, by simp, fun k hk _ => World.putObj_heap_other (by omega)⟩
theorem KeepB.below {n M B : Nat} {A W : World} (h : KeepB n M A W) (hn : B ≤ n) (hM : B ≤ M) : Below B A W := ⟨h.1.1, h.1.2.1, h.1.2.2, h.2.1, fun k hk => h.2.2 k (by omega) (by omega)⟩
theorem KeepB.grown {n M : Nat} {A W W' : World} {row : Option Nat} (h : KeepB n M A W) (hs : n ≤ W.heap.size) (hg : W.grownBy W' row) (hr : ∀ r, row = some r → n ≤ r) : KeepB n M A W' :=
  h.trans ⟨⟨hg.os, hg.tape, hg.output⟩, hg.size, fun k hk _ => hg.block k (by omega) (fun e => by have := hr k e.symm; omega)⟩
theorem keepsOthers_of_below {A B : World} (hb : Below A.heap.size A B) : KeepsOthers A B := ⟨hb.size, fun k _o hk _ => (hb.block k (Array.getElem?_eq_some_iff.1 hk).1).trans hk⟩
abbrev PlaceOf (m : Nat) := { p : Nat // m.testBit (p + 1) = true }
def placesTo (m : Nat) : Nat → List (PlaceOf m)
  | 0 => []
  | k + 1 => placesTo m k ++ (if h : m.testBit (k + 1) = true then [⟨k, h⟩] else [])
theorem placesTo_len (m k : Nat) : (placesTo m k).length ≤ k := by
  induction k with
  | zero => exact Nat.le_refl _
  | succ k ih =>
    show (placesTo m k ++ _).length ≤ _
    rw [List.length_append]
    split <;> simp <;> omega
theorem placesTo_yes {m k : Nat} (h : m.testBit (k + 1) = true) : placesTo m (k + 1) = placesTo m k ++ [⟨k, h⟩] := by
  show placesTo m k ++ _ = _
  rw [dif_pos h]
theorem placesTo_no {m k : Nat} (h : m.testBit (k + 1) = false) : placesTo m (k + 1) = placesTo m k := by
  show placesTo m k ++ _ = _
  rw [dif_neg (by rw [h]; decide), List.append_nil]
theorem bit_and {m k : Nat} (hm : m ≤ 31) (hk : k ≤ 16) : bits .and .i64 (m : Int) (pw k : Int) = ((m &&& 2 ^ k : Nat) : Int) := by
  have hp : 2 ^ k ≤ 2 ^ 16 := Nat.pow_le_pow_right (by omega) hk
  have h := and_fact m (pw k : Int) hm
  rw [h]
  have : nm (pw k : Int) = 2 ^ k := by
    unfold pw
    exact nm_nat (by omega)
  rw [this]
theorem bit_zero {m k : Nat} : (((m &&& 2 ^ k : Nat) : Int) != 0) = m.testBit k := by
  have h := pow_and k m
  rw [Nat.and_comm] at h
  cases hb : m.testBit k with
  | true =>
    rw [bne_iff_ne]
    intro e
    exact h.2 hb (by omega)
  | false =>
    rw [bne_eq_false_iff_eq]
    by_cases e : m &&& 2 ^ k = 0
    · rw [e]; rfl
    · rw [h.1 e] at hb; cases hb
set_option maxRecDepth 100000 in
set_option maxHeartbeats 4000000 in
theorem each1_in (n : Nat) (hn : 1 ≤ n) (l Bm n0 M m B0 : Nat) (hm : m ≤ 31) (hm0 : m.testBit 0 = false) (hBn : Bm < n0) (hne : Bm ≠ M) (J Jx : List (PlaceOf m) → World → Prop) (hJ : AbidesFrom B0 J)
    (hY : ∀ pre (x : PlaceOf m) W, J pre W → pre.length < 16 → YieldAt Fence.wide (n - 1) Tryz.prog l #[.int .i64 (x.1 : Int)] W fun e W' =>
      (e = .returned (.bool true) ∧ J (pre ++ [x]) W' ∧ KeepB n0 M W W') ∨ (e = .returned (.bool false) ∧ Jx (pre ++ [x]) W'))
    (W : World) (hBs : W.cell? ⟨Bm, 0, none⟩ = some (.int .i64 m)) (h0 : J [] W) :
    CallsIn Fence.wide n Tryz.prog 53 #[.func (.yield l) #[] #[], .pointer (some ⟨Bm, 0, none⟩)] W fun e W' => (∃ v, e = .returned v) ∧
      ((∃ ys, ys = placesTo m 16 ∧ J ys W') ∨ (∃ pre, (∃ k, k ≤ 16 ∧ pre = placesTo m k) ∧ Jx pre W')) := by
  have hdrew : ∀ pre (w : World), J pre w → J pre w.drew := fun pre w h => hJ pre w w.drew none h ⟨rfl, rfl, rfl, Nat.le_refl _, fun _ _ _ => rfl⟩ (fun r e => by cases e)
  refine callsIn_of_wp Tryz.func53 rfl trivial ?_ rfl
  simp only [Tryz.ntmps53, List.size_toArray, List.length_cons, List.length_nil, Nat.reduceAdd, Nat.reduceSub, Array.replicate_succ, Array.replicate_zero, List.push_toArray, List.append_toArray, List.nil_append, List.cons_append]
  gi_wp2
  gi_loopw [3] (fun iv wr => ∃ k : Nat, k ≤ 17 ∧ iv = .int .i64 ((k : Int) - 1) ∧ J (placesTo m (k - 1)) wr ∧ KeepB n0 M W wr) (fun iv _ => 17 - ((intOf iv) + 1).toNat)
  case atStart => exact ⟨0, by omega, rfl, h0, KeepB.refl _ _ _⟩
  case round =>
    obtain ⟨k, hk, rfl, hJs, hkp⟩ := hrel
    have hcx := hkp.cell hBn hne hBs
    obtain ⟨q, hq⟩ : ∃ q : Int, (k : Int) - 1 = q := ⟨_, rfl⟩
    rw [hq]
    by_cases hlt : k < 17
    · have i1 : q < 16 := by omega
      have i2 : IntKind.i64.wrap (q + 1) = q + 1 := IntWalk.i64_in _ (by omega)
      have hba := bit_and (m := m) (k := k) hm (by omega)
      have hbz := bit_zero (m := m) (k := k)
      have HBT := fun (w : World) => (bit_any k w (by omega))
      rw [hq] at HBT
      have HIV : Hid (q + 1 = ((k + 1 : Nat) : Int) - 1) := hid (by omega)
      have HME : Hid (17 - (intOf (.int .i64 (q + 1)) + 1).toNat < 17 - (intOf (.int .i64 q) + 1).toNat) := hid (by simp [intOf]; omega)
      cases hb : m.testBit k with
      | false =>
        rw [hb] at hbz
        have HJ2 : Hid (∀ N, J (placesTo m k) (wr.drewN N)) := hid (fun N => by
          have h1 : J (placesTo m (k - 1)) (wr.drewN N) := hJ _ wr (wr.drewN N) none hJs ⟨rfl, rfl, rfl, Nat.le_refl _, fun _ _ _ => rfl⟩ (fun r e => by cases e)
          cases k with
          | zero => exact h1
          | succ p => rw [placesTo_no hb]; exact h1)
        have HKP : Hid (∀ N, KeepB n0 M W (wr.drewN N)) := hid (fun _ => hkp)
        clear hq hb
        gi_wp2
        refine wpIn_wide.2 ?_
        go_quiet ((go_at_call 54; exact Calls.quiet_of_same (HBT _)))
        gi_wp2
        exact ⟨⟨k + 1, by omega, by rw [HIV.out], HJ2.out _, HKP.out _⟩, HME.out⟩
      | true =>
        obtain ⟨p, rfl⟩ : ∃ p, k = p + 1 := by
          cases k with
          | zero => rw [hm0] at hb; cases hb
          | succ p => exact ⟨p, rfl⟩
        rw [hb] at hbz
        obtain ⟨fn, tmps, assign, body, hy, hR⟩ := hY _ ⟨p, hb⟩ wr.drew (hdrew _ _ hJs) (by have := placesTo_len m (p + 1 - 1); simp at *; omega)
        have hpq : ((p : Nat) : Int) = q := by omega
        dsimp only at hy
        rw [hpq] at hy
        have HPY := hid (placesTo_yes hb)
        have HKP : Hid (KeepB n0 M W wr.drew) := hid hkp
        have hR2 : RoundIn Fence.wide (n - 1) Tryz.prog l fn tmps assign body wr.drew fun e W' => ∃ b, e = .returned (.bool b) ∧ ((b = true ∧ J (placesTo m (p + 1)) W' ∧ KeepB n0 M wr.drew W') ∨ (b = false ∧ Jx (placesTo m (p + 1)) W')) := hR.mono fun e W' h => by
          rw [HPY.out]
          rcases h with ⟨h1, h2⟩ | ⟨h1, h2⟩
          · exact ⟨true, h1, .inl ⟨rfl, h2⟩⟩
          · exact ⟨false, h1, .inr ⟨rfl, h2⟩⟩
        clear hR HPY hq hpq hb
        gi_wp2
        gi_region_with (first | (refine ⟨trivial, ?_⟩; gi_at_call 54; refine (callsIn_wide.2 (HBT _)).mono ?_; rintro e w2 ⟨rfl, rfl⟩) | (refine hR2.mono ?_; rintro e W3 ⟨b, rfl, hor⟩))
        all_goals rcases hor with ⟨rfl, hJ3, hk3⟩ | ⟨rfl, hJx3⟩
        all_goals first
         | (gi_wp2
            exact ⟨⟨p + 1 + 1, by omega, by rw [HIV.out], hJ3, HKP.out.trans hk3⟩, HME.out⟩)
         | (gi_wp2
            refine bodyPost_ret (results_none rfl _ _ _) rfl ?_
            exact ⟨⟨_, rfl⟩, .inr ⟨_, ⟨p + 1, by omega, rfl⟩, hJx3⟩⟩)
    · have i1 : ¬ q < 16 := by omega
      have HJ16 : Hid (J (placesTo m 16) wr) := hid (by
        have : k = 17 := by omega
        subst this
        exact hJs)
      clear hq hlt
      gi_wp2
      go_end0
      exact ⟨⟨_, rfl⟩, .inl HJ16.out⟩
theorem each_stops (n : Nat) (hn : 1 ≤ n) (Bm n0 M m : Nat) (hm : m ≤ 31) (hm0 : m.testBit 0 = false) (hBn : Bm < n0) (hne : Bm ≠ M) (w : World) (hBl : Bm < w.heap.size) (hc : w.cell? ⟨Bm, 0, none⟩ = some (.int .i64 m)) :
    SeqStopsK Fence.wide n Tryz.prog 53 #[.pointer (some ⟨Bm, 0, none⟩)] (fun x : PlaceOf m => #[Value.int .i64 (x.1 : Int)]) (KeepB n0 M) (fun ys => ys = placesTo m 16) (fun pre => ∃ k, k ≤ 16 ∧ pre = placesTo m k) 16 w := fun l J Jx W hW hJ _ hY h0 => by
  have hc' := (hW.cell (p := ⟨Bm, 0, none⟩) hBl).trans hc
  exact (each1_in n hn l Bm n0 M m W.heap.size hm hm0 hBn hne J Jx hJ hY W hc' h0)
theorem each_any (m : Int) (w : World) :
    Calls Tryz.prog 26 #[.int .i64 m] w fun e w' => e = .returned (.func (.func 53) #[] #[.pointer (some ⟨w.heap.size, 0, none⟩)]) ∧ w' = w.alloc (.cells #[.int .i64 m] 3) := by
  go_enter Tryz.func26, Tryz.ntmps26
  go_wp2
  go_ret
  exact ⟨rfl, rfl⟩
end
section
theorem below_iter (w : World) (s : ByteArray) (p : Nat) : Below w.heap.size w (w.iter s p) := balloc (b0 w) _
theorem digC_iff (c : UInt8) : digC c = true ↔ 48 ≤ c.toNat ∧ c.toNat ≤ 57 := by
 simp only [digC, Bool.and_eq_true, decide_eq_true_eq]
theorem all_next {p : UInt8 → Bool} {s : List UInt8} {k : Nat} (h : k < s.length) (ha : (s.take k).all p = true) (hc : p s[k] = true) : (s.take (k + 1)).all p = true := by
 rw [List.take_succ_eq_append_getElem h, List.all_append, ha]
 simp [hc]
theorem number_long {s : List UInt8} (h : 4 < s.length) : numberF s = none := by
 unfold numberF
 rw [if_neg]
 rintro ⟨h1, h2, h3, h4, h5⟩
 obtain ⟨c, t, rfl⟩ : ∃ c t, s = c :: t := by cases s with | nil => simp at h | cons c t => exact ⟨c, t, rfl⟩
 have hc : c ≠ 48 := by
  intro e
  exact h3 (by omega) (by rw [e]; rfl)
 have hd : digC c = true := by simp only [List.all_cons, Bool.and_eq_true] at h4; exact h4.1
 rw [digC_iff] at hd
 have hcn : c.toNat ≠ 48 := fun e => hc (UInt8.toNat_inj.1 (by rw [e]; rfl))
 have hv : ∀ (t : List UInt8) (n : Nat), n * 10 ^ t.length ≤ t.foldl (fun n c => 10 * n + (c.toNat - 48)) n := by
  intro t
  induction t with
  | nil => intro n; simp
  | cons x t ih =>
   intro n
   have := ih (10 * n + (x.toNat - 48))
   rw [List.foldl_cons, List.length_cons, Nat.pow_succ]
   refine Nat.le_trans ?_ this
   rw [Nat.mul_comm (10 ^ t.length) 10, ← Nat.mul_assoc]
   exact Nat.mul_le_mul_right _ (by omega)
 have h6 := hv t (c.toNat - 48)
 have h7 : valF (c :: t) = t.foldl (fun n c => 10 * n + (c.toNat - 48)) (c.toNat - 48) := by
  show t.foldl _ (10 * 0 + (c.toNat - 48)) = _
  rw [Nat.mul_zero, Nat.zero_add]
 have h8 : 10 ^ 4 ≤ 10 ^ t.length := Nat.pow_le_pow_right (by omega) (by simp at h; omega)
 have h9 : 1 * 10 ^ 4 ≤ (c.toNat - 48) * 10 ^ t.length := Nat.mul_le_mul (by omega) h8
 omega
set_option maxRecDepth 100000 in
set_option maxHeartbeats 2000000 in
theorem inumber_any (s : ByteArray) (w : World) :
  Calls Tryz.prog 151 #[.string s] w fun e w' => e = .returned (numRes s.data.toList) ∧ Below w.heap.size w w' := by
 have hsz : s.data.toList.length = s.size := by simp
 by_cases h1 : s.size < 1
 ·have hn : numberF s.data.toList = none := by rw [numberF, if_neg]; rintro ⟨h, _⟩; omega
  have HN := hid hn
  have e0 := empty_toList (s := s) (by omega)
  clear hn hsz
  go_enter Tryz.func151, Tryz.ntmps151
  go_wp2
  go_ret2
  exact ⟨by unfold numRes; rw [HN.out]; rfl, b0 w⟩
 ·have e0 := nonempty_toList (s := s) (by omega)
  by_cases h2 : 4 < s.size
  ·have hn : numberF s.data.toList = none := number_long (by omega)
   have HN := hid hn
   have e1 : (4 : Int) < s.size := by omega
   clear hn hsz
   go_enter Tryz.func151, Tryz.ntmps151
   go_wp2
   go_ret2
   exact ⟨by unfold numRes; rw [HN.out]; rfl, b0 w⟩
  ·have h0 : 0 < s.size := by omega
   have e1 : ¬ (4 : Int) < s.size := by omega
   have HSZ := hid hsz
   have hhd : s.data.toList.head? = some s[0] := by
    rw [List.head?_eq_getElem?, List.getElem?_eq_getElem (by omega)]; rfl
   have HHD := hid hhd
   clear hsz hhd
   by_cases hz : s[0].toNat = 48 ∧ 1 < s.size
   ·obtain ⟨hz0, hz1⟩ := hz
    have HN : Hid (numberF s.data.toList = none) := hid (by
     rw [numberF, if_neg]
     rintro ⟨_, _, h, _⟩
     refine h (by rw [HSZ.out]; exact hz1) ?_
     rw [HHD.out]
     exact congrArg some (UInt8.toNat_inj.1 hz0))
    have hz0' : (s[0].toNat : Int) = 48 := by omega
    have hz1' : decide (1 < s.size) = true := decide_eq_true hz1
    go_enter Tryz.func151, Tryz.ntmps151
    go_wp2
    go_ret2
    exact ⟨by unfold numRes; rw [HN.out]; rfl, b0 w⟩
   ·have HLD : Hid (1 < s.data.toList.length → s.data.toList.head? ≠ some 48) := hid (fun hl he => by
     rw [HHD.out] at he
     rw [HSZ.out] at hl
     exact hz ⟨by rw [Option.some.inj he]; rfl, hl⟩)
    have hcase : (s[0].toNat = 48 ∧ s.size = 1) ∨ ((s[0].toNat : Int) == 48) = false := by
     by_cases e : s[0].toNat = 48
     ·exact .inl ⟨e, by omega⟩
     ·exact .inr (by rw [beq_eq_false_iff_ne]; omega)
    clear hz
    rcases hcase with ⟨h3, h4⟩ | h4
    all_goals
     first | (have h3' : (s[0].toNat : Int) = 48 := by omega) | skip
     first | (have h4' : decide (1 < s.size) = false := decide_eq_false (by omega)) | skip
     first | (have h4'' : ¬ (1 : Int) < s.size := by omega) | skip
     first | clear h3 | skip
     go_enter Tryz.func151, Tryz.ntmps151
     go_wp2
     go_loopw [4, 6] (fun nv _ wr => ∃ pos : Nat, pos ≤ s.size ∧ nv = .int .i64 (valF (s.data.toList.take pos) : Nat) ∧ wr = w.iter s pos ∧ Hid ((s.data.toList.take pos).all digC = true)) (fun _ _ wr => s.size - wr.iterPos w.heap.size)
     case atStart => exact ⟨0, Nat.zero_le _, rfl, rfl, hid rfl⟩
     case round =>
      obtain ⟨pos, hpos, rfl, rfl, hall⟩ := hrel
      have hvl : valF (s.data.toList.take pos) < 10000 := by
       have h1 := val_lt s.data.toList pos (by rw [HSZ.out]; exact hpos) hall.out
       have h2 : (10 : Nat) ^ pos ≤ 10 ^ 4 := Nat.pow_le_pow_right (by omega) (by omega)
       omega
      by_cases hp : pos < s.size
      ·have hnx : ∀ ty, (Instr.next (.pointer (some ⟨w.heap.size, 0, none⟩)) true ty).run Tryz.prog (w.iter s pos) = _ := fun ty => run_next_any w s pos ty hp
       have hlt : pos < s.data.toList.length := by rw [HSZ.out]; exact hp
       have HVT := hid (val_take hlt)
       generalize hv : valF (s.data.toList.take pos) = v at hvl HVT ⊢
       clear hv
       by_cases hw : digC s[pos] = true
       ·have hw' := (digC_iff _).1 hw
        have hd := decode_ascii s pos hp (by omega)
        rw [hd] at hnx
        have HALL := hid (all_next (p := digC) hlt hall.out hw)
        have HVT2 : Hid ((valF (s.data.toList.take (pos + 1)) : Int) = 10 * v + ((s[pos].toNat : Int) - 48)) := hid (by rw [HVT.out, byte_list s pos hp]; omega)
        have e3 : (48 : Int) ≤ s[pos].toNat := by omega
        have e2 : (s[pos].toNat : Int) ≤ 57 := by omega
        have e2' : decide ((s[pos].toNat : Int) ≤ 57) = true := decide_eq_true e2
        have e5 : IntKind.i32.wrap ((s[pos].toNat : Int) - 48) = (s[pos].toNat : Int) - 48 := IntWalk.i32_in _ (by omega)
        clear hd hw
        go_wp2
        exact ⟨⟨pos + 1, by omega, by rw [HVT2.out], rfl, HALL⟩, by simp; omega⟩
       ·have hw2 : digC s[pos] = false := by simpa using hw
        have HBAD : Hid (numberF s.data.toList = none) := hid (number_no ⟨s[pos], by rw [← byte_list s pos hp]; exact List.getElem_mem _, hw2⟩)
        obtain ⟨r, n, hr, hrx⟩ : ∃ (r : Nat) (n : Nat), Utf8.decode s pos = (r, n) ∧ ¬ (48 ≤ r ∧ r ≤ 57) := by
         refine ⟨(Utf8.decode s pos).1, (Utf8.decode s pos).2, rfl, ?_⟩
         by_cases ha : s[pos].toNat < 128
         ·rw [decode_ascii s pos hp ha]
          exact fun h => hw ((digC_iff _).2 h)
         ·have := (decode_high s pos hp (by omega)).1
          omega
        rw [hr] at hnx
        clear hr hw hw2
        by_cases c3 : (48 : Int) ≤ r
        ·have c4 : ¬ (r : Int) ≤ 57 := by omega
         have c5 : decide ((r : Int) ≤ 57) = false := decide_eq_false c4
         clear hrx
         go_wp2
         go_ret2
         exact ⟨by unfold numRes; rw [HBAD.out]; rfl, below_iter w s _⟩
        ·clear hrx
         go_wp2
         go_ret2
         exact ⟨by unfold numRes; rw [HBAD.out]; rfl, below_iter w s _⟩
      ·have hnx : ∀ ty, (Instr.next (.pointer (some ⟨w.heap.size, 0, none⟩)) true ty).run Tryz.prog (w.iter s pos) = _ := fun ty => run_next_end w s pos ty hp
       have HV : Hid (valF (s.data.toList.take pos) = valF s.data.toList) := hid (by rw [List.take_of_length_le (by rw [HSZ.out]; omega)])
       have HA : Hid (s.data.toList.all digC = true) := hid (by
        have := hall.out
        rwa [List.take_of_length_le (by rw [HSZ.out]; omega)] at this)
       generalize hv : valF (s.data.toList.take pos) = v at hvl HV ⊢
       clear hv
       have HN : Hid (numberF s.data.toList = some v) := hid (by
        rw [numberF, if_pos, HV.out]
        exact ⟨by rw [HSZ.out]; omega, by rw [HSZ.out]; omega, HLD.out, HA.out, by rw [← HV.out]; omega⟩)
       have hb1 : (v : Int) ≤ 9999 := by omega
       have hb2 : decide ((v : Int) ≤ 9999) = true := decide_eq_true hb1
       go_wp2
       go_ret2
       exact ⟨by unfold numRes; rw [HN.out]; rfl, below_iter w s pos⟩
theorem pfits_any (n : Int) (w : World) :
  Calls Tryz.prog 121 #[.int .i64 n] w fun e w' => e = .returned (.bool (fitsB n)) ∧ w' = w := by
 by_cases h1 : 0 ≤ n
 ·by_cases h2 : n ≤ 9999
  ·have e3 : decide (n ≤ 9999) = true := decide_eq_true h2
   have H : Hid (fitsB n = true) := hid (by simp [fitsB]; omega)
   go_enter Tryz.func121, Tryz.ntmps121
   go_wp2
   go_ret
   exact ⟨ret_bool H.out.symm, rfl⟩
  ·have e3 : decide (n ≤ 9999) = false := decide_eq_false h2
   have H : Hid (fitsB n = false) := hid (by simp [fitsB]; omega)
   go_enter Tryz.func121, Tryz.ntmps121
   go_wp2
   go_ret
   exact ⟨ret_bool H.out.symm, rfl⟩
 ·have H : Hid (fitsB n = false) := hid (by simp [fitsB]; omega)
  go_enter Tryz.func121, Tryz.ntmps121
  go_wp2
  go_ret
  exact ⟨ret_bool H.out.symm, rfl⟩
end
section
set_option maxRecDepth 100000 in
set_option maxHeartbeats 1000000 in
theorem isplit_any (s : ByteArray) (c : UInt8) (w : World) (hs : s.size ≤ 100000) :
    Calls Tryz.prog 150 #[.string s, .int .u8 (c.toNat : Int)] w (SplitPost c s w) := by
  obtain ⟨ii, hii⟩ := info_parts str_info
  have HII := hid hii
  have HSZ := hid (show s.data.toList.length = s.size by simp)
  clear hii
  go_enter Tryz.func150, Tryz.ntmps150
  go_wp2
  go_loopw [5, 6, 7, 10] (fun ov av _ iv wr => ∃ (k a : Nat) (L : List ByteArray), k ≤ s.size ∧ a ≤ k ∧ L.length ≤ k ∧ iv = .int .i64 k ∧ av = .int .i64 a ∧ Hid (wr.ownsRow w.heap.size 9 1 ov L.length (L.map Value.string)) ∧ Hid (splitC c s.data.toList = L.map (fun x => x.data.toList) ++ splitC c (s.data.toList.drop a)) ∧ Hid (c ∉ (s.data.toList.drop a).take (k - a)) ∧ Hid (Below w.heap.size w wr)) (fun _ _ _ iv _ => s.size - (intOf iv).toNat)
  case atStart => exact ⟨0, 0, [], Nat.zero_le _, Nat.le_refl _, Nat.le_refl _, rfl, rfl, hid ⟨rfl, .inl ⟨rfl, rfl⟩⟩, hid (by simp), hid (by simp), hid (Below.refl _ _)⟩
  case round =>
    obtain ⟨k, a, L, hk, hak, hL, rfl, rfl, hown, hsp, hno, hb⟩ := hrel
    obtain ⟨A, cap, rfl⟩ := own_form hown.out
    have hbz := hb.out.size
    have i1 : (0 : Int) ≤ ↑k := by omega
    have a1 : (0 : Int) ≤ ↑a := by omega
    have a2 : (↑a : Int) ≤ ↑k := by omega
    have a3 : (↑a : Int) ≤ ↑s.size := by omega
    have i3 : (↑k : Int) ≤ ↑s.size := by omega
    by_cases hlt : k < s.size
    · have i2 : (↑k : Int) < ↑s.size := by omega
      have hlt' : k < s.data.toList.length := by rw [HSZ.out]; exact hlt
      have HAT := hid (show s.data.toList[k] = s[k] from rfl)
      have HTN := hid (take_next hak hlt')
      have HDA := hid (drop_at hak hlt')
      by_cases hc : s[k] = c
      · have hq : ((s[k].toNat : Int) == (c.toNat : Int)) = true := by rw [byte_eq]; exact decide_eq_true hc
        have HC := hid hc
        clear hc
        go_wp2_with (first
          | (at_builtin
             refine wpList_append_src _ rfl (.tmp 18) (.tmp 23) _ rfl w.heap.size 9 ii _ 1 16 Tryz.underlying96 HII.out.1 HII.out.2.1 HII.out.2.2.1 HII.out.2.2.2 rfl (by omega) (.slice A L.length cap) L.length (L.map Value.string) rfl (by exact hown.out.alloc _) (some ⟨wr.heap.size, 0, none⟩) 1 1 [.string (s.extract a k)] rfl (by exact src_new _ _ rfl 1 _ rfl rfl) (by simp [Value.oneCell']) (by unfold maxLen; omega) (by omega) (by simp; omega) ?_
             intro v4 w4 hown4 hg4 _
             have HB4 := hid (show Below w.heap.size w w4 from Below.grown (hb.out.alloc hbz _) hg4 (by simp; omega) (fun k hk => (hown.out.lt k hk).1))
             have HO4 := hid hown4
             clear hown4 hg4))
        refine ⟨⟨k + 1, k + 1, L ++ [s.extract a k], by omega, Nat.le_refl _, by simp; omega, by go_num, by go_num, hid ?_, hid ?_, hid (by simp), HB4⟩, by simp [intOf]; omega⟩
        · rw [List.length_append, List.map_append]
          exact HO4.out
        · rw [hsp.out, HDA.out, HAT.out, HC.out, split_of hno.out, List.map_append, List.append_assoc]
          congr 1
          simp only [List.map_cons, List.map_nil, List.cons_append, List.nil_append]
          rw [piece_list]
      · have hq : ((s[k].toNat : Int) == (c.toNat : Int)) = false := by rw [byte_eq]; exact decide_eq_false hc
        have HC := hid hc
        clear hc
        go_wp2
        refine ⟨⟨k + 1, a, L, by omega, by omega, by omega, by go_num, rfl, hown, hsp, hid ?_, hb⟩, by simp [intOf]; omega⟩
        rw [HTN.out]
        intro hm
        rcases List.mem_append.1 hm with hm | hm
        · exact hno.out hm
        · exact HC.out (by rw [← HAT.out]; exact (List.mem_singleton.1 hm).symm)
    · have hk' : k = s.size := by omega
      have HDN := hid (split_done (c := c) (s := s.data.toList) (a := a) (k := k) (by rw [HSZ.out]; omega) hno.out)
      have i2 : ¬ (↑k : Int) < ↑s.size := by omega
      clear hk'
      go_wp2_with (first
        | (at_builtin
           refine wpList_append_src _ rfl (.tmp 28) (.tmp 32) _ rfl w.heap.size 9 ii _ 1 16 Tryz.underlying96 HII.out.1 HII.out.2.1 HII.out.2.2.1 HII.out.2.2.2 rfl (by omega) (.slice A L.length cap) L.length (L.map Value.string) rfl (by exact hown.out.alloc _) (some ⟨wr.heap.size, 0, none⟩) 1 1 [.string (s.extract a s.size)] rfl (by exact src_new _ _ rfl 1 _ rfl rfl) (by simp [Value.oneCell']) (by unfold maxLen; omega) (by omega) (by simp; omega) ?_
           intro v4 w4 hown4 hg4 _
           obtain ⟨A4, c4, rfl⟩ := own_form hown4
           have HB4 := hid (show Below w.heap.size w w4 from Below.grown (hb.out.alloc hbz _) hg4 (by simp; omega) (fun k hk => (hown.out.lt k hk).1))
           have HO4 := hid hown4
           clear hown4 hg4))
      go_ret
      refine ⟨L ++ [s.extract a s.size], A4, c4, by rw [List.length_append]; rfl, ?_, ?_, HB4.out⟩
      · rw [List.length_append, List.map_append]
        exact HO4.out
      · rw [hsp.out, HDN.out, List.map_append]
        congr 1
        simp only [List.map_cons, List.map_nil]
        rw [piece_list, List.take_of_length_le (by rw [List.length_drop, HSZ.out]; exact Nat.le_refl _)]
theorem iwords_any (s : ByteArray) (c : UInt8) (w : World) (hs : s.size ≤ 1000) :
    Calls Tryz.prog 150 #[.string s, .int .u8 (c.toNat : Int)] w (WordsPost c s w) := by
  refine (isplit_any s c w (by omega)).mono ?_
  rintro e w' ⟨WB, A, cap, rfl, hown, hsp, hb⟩
  obtain ⟨h1, h2⟩ := split_sum c s.data.toList
  have hx : ∀ x ∈ WB, x.size ≤ s.size := by
    intro x hx
    have h3 : x.data.toList ∈ splitC c s.data.toList := by rw [← hsp]; exact List.mem_map.2 ⟨x, hx, rfl⟩
    have := h2 _ h3
    simpa using this
  have hlen : (WB.map (fun x => x.data.toList)).length = (splitC c s.data.toList).length := by rw [hsp]
  rw [List.length_map] at hlen
  have hs2 : s.data.toList.length = s.size := by simp
  refine ⟨WB, A, cap, rfl, ?_, hsp, hx, by omega, ?_, hb⟩
  · refine rd_of_ownF (f := fStr) (by rw [fStr_all]; exact hown) (fun x hx' => ?_) (fun g hg => (hown.lt g hg).2)
    have := hx x hx'
    show x.size ≤ maxLen
    unfold maxLen
    omega
  · have := split_ne c s.data.toList
    rcases Nat.eq_zero_or_pos (splitC c s.data.toList).length with h | h
    · exact absurd (List.eq_nil_of_length_eq_zero h) this
    · omega
end
end Go.Proofs.YthneiolcljnbeaaGreatDoor
