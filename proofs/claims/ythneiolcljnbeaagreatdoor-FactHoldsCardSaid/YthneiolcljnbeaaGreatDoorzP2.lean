import Derived.Test.YthneiolcljnbeaaGreatDoorzNs
import Derived.Outline
import Derived.Test.YthneiolcljnbeaaGreatDoorzLater
import Derived.Test.YthneiolcljnbeaaGreatDoorzFlat
namespace Go.Proofs.YthneiolcljnbeaaGreatDoor
open Go Go.RowKit
section
structure ChoiceOk (ns : List Nat) (c : List Int) : Prop where
 len : c.length = ns.length
 val : ∀ u, (h : u < ns.length) → -1 ≤ c.getD u 0 ∧ c.getD u 0 < ns[u]
def valN (c : List Int) (u : Nat) : Nat := 2 ^ (c.getD u 0 + 1).toNat
theorem val_bit (c : List Int) (u m : Nat) : valN c u &&& m ≠ 0 ↔ m.testBit (c.getD u 0 + 1).toNat = true := pow_and _ _
def holdN (ns : List Nat) (M : Nat → Nat) (c : List Int) : Bool := (List.range ns.length).all fun u => valN c u &&& M u != 0
def holdL (c : List Int) (l : List Term) : Bool := l.all fun t => valN c t.unit.toNat &&& nm t.mask != 0
section
variable {ns : List Nat}
theorem holdN_iff {M : Nat → Nat} {c : List Int} : holdN ns M c = true ↔ ∀ u, u < ns.length → (M u).testBit (c.getD u 0 + 1).toNat = true := by
 unfold holdN
 simp only [List.all_eq_true, List.mem_range, bne_iff_ne, val_bit]
theorem holdL_iff {c : List Int} {l : List Term} : holdL c l = true ↔ ∀ t ∈ l, (nm t.mask).testBit (c.getD t.unit.toNat 0 + 1).toNat = true := by
 unfold holdL
 simp only [List.all_eq_true, bne_iff_ne, val_bit]
theorem val_full {c : List Int} (hc : ChoiceOk ns c) {u : Nat} (hu : u < ns.length) : (fullN ns u).testBit (c.getD u 0 + 1).toNat = true := by
 have := hc.val u hu
 rw [full_bit hu]
 exact decide_eq_true (by omega)
theorem holdL_make {c : List Int} (hc : ChoiceOk ns c) {l : List Term} (hl : inR ns l = true) : holdL c l = holdN ns (meetN ns l) c := by
 apply Bool.eq_iff_iff.2
 rw [holdL_iff, holdN_iff]
 unfold inR at hl
 rw [List.all_eq_true] at hl
 constructor
 ·intro h u hu
  rw [meet_bit, val_full hc hu, Bool.true_and, List.all_eq_true]
  intro t ht
  by_cases e : t.unit = (u : Int)
  ·have := h t ht
   rw [e] at this
   simp only [Int.toNat_natCast] at this
   rw [this, Bool.or_true]
  ·simp [e]
 ·intro h t ht
  have ht' := hl t ht
  simp at ht'
  have hu : t.unit.toNat < ns.length := by omega
  have := h t.unit.toNat hu
  rw [meet_bit, val_full hc hu, Bool.true_and, List.all_eq_true] at this
  have := this t ht
  have e : t.unit = (t.unit.toNat : Int) := by omega
  rw [← e, decide_eq_false (by simp), Bool.false_or] at this
  exact this
theorem holdN_congr {M M' : Nat → Nat} (h : ∀ u, u < ns.length → M u = M' u) (c : List Int) : holdN ns M c = holdN ns M' c := by
 apply Bool.eq_iff_iff.2
 rw [holdN_iff, holdN_iff]
 constructor
 ·intro h1 u hu; rw [← h u hu]; exact h1 u hu
 ·intro h1 u hu; rw [h u hu]; exact h1 u hu
theorem holdL_canon (ho : NsOk ns) {c : List Int} (hc : ChoiceOk ns c) {M : Nat → Nat} (hM : IncOk ns M) : holdL c (canon ns M) = holdN ns M c := by
 rw [holdL_make hc (inR_canon M)]
 exact holdN_congr (fun u hu => meet_canon ho hM hu) c
theorem holdN_ok {M : Nat → Nat} {c : List Int} (h : holdN ns M c = true) : okN ns M = true := by
 rw [okN_iff]
 rw [holdN_iff] at h
 intro u hu h0
 have := h u hu
 rw [h0, Nat.zero_testBit] at this
 cases this
def joinN (Ma Mb : Nat → Nat) (unit : Nat) (u : Nat) : Nat := if u = unit then Ma u ||| Mb u else Ma u &&& Mb u
def joinL (ns : List Nat) (Ma Mb : Nat → Nat) (unit : Nat) : List Term := (canon ns Ma ++ canon ns Mb).filter (fun t => t.unit != (unit : Int)) ++ [⟨(unit : Int), ((Ma unit ||| Mb unit : Nat) : Int)⟩]
def withinN (ns : List Nat) (Ma Mb : Nat → Nat) : Bool := (List.range ns.length).all fun u => decide (Mb u &&& Ma u = Mb u)
def withinL (ns : List Nat) (l : List Term) (Mb : Nat → Nat) : Bool := l.all fun t => decide (maskN ns Mb t.unit &&& nm t.mask = maskN ns Mb t.unit)
def choiceF : List Nat → Nat → List Int
 | [], _ => []
 | k :: r, n => (((n % (k + 1) : Nat) : Int) - 1) :: choiceF r (n / (k + 1))
def prodN : List Nat → Nat
 | [] => 1
 | k :: r => (k + 1) * prodN r
theorem choice_ok : ∀ (ns : List Nat) (n : Nat), ChoiceOk ns (choiceF ns n)
 | [], _ => ⟨rfl, fun u h => by simp at h⟩
 | k :: r, n => by
  have ih := choice_ok r (n / (k + 1))
  refine ⟨by simp [choiceF, ih.len], fun u h => ?_⟩
  cases u with
  | zero =>
   have := Nat.mod_lt n (show 0 < k + 1 by omega)
   simp only [choiceF, List.getD_cons_zero, List.getElem_cons_zero]
   omega
  | succ u =>
   have := ih.val u (by simpa using h)
   simpa only [choiceF, List.getD_cons_succ, List.getElem_cons_succ] using this
def sizeGo : Nat → List Nat → Nat
 | n, [] => n
 | n, k :: r => if n < 1000000 then sizeGo (n * (k + 1)) r else n
def sizeN (ns : List Nat) : Nat := sizeGo 1 ns
def dropN (ns : List Nat) (M : Nat → Nat) (at_ : Nat) (u : Nat) : Nat := if u = at_ then fullN ns u else M u
end
end
section
structure StepN where
 u : Nat
 m : Nat
 lv : Nat
 c : Int
 deriving DecidableEq, Inhabited
def leftN (ns : List Nat) (l : List StepN) (u : Nat) : Nat := l.foldl (fun a s => if s.u = u then s.m else a) (fullN ns u)
def levelN (l : List StepN) : Nat := l.foldl (fun _ s => s.lv) 0
def inN (a b : Nat) : Prop := a &&& b = a
instance (a b : Nat) : Decidable (inN a b) := inferInstanceAs (Decidable (_ = _))
theorem in_bit {a b : Nat} : inN a b ↔ ∀ k, a.testBit k = true → b.testBit k = true := by
 constructor
 ·intro h k hk
  unfold inN at h
  rw [← h, Nat.testBit_and] at hk
  simp at hk
  exact hk.2
 ·intro h
  apply Nat.eq_of_testBit_eq
  intro k
  rw [Nat.testBit_and]
  have := h k
  cases h1 : a.testBit k
  ·rfl
  ·rw [this h1]; rfl
theorem in_refl (a : Nat) : inN a a := Nat.and_self a
theorem in_trans {a b c : Nat} (h : inN a b) (h' : inN b c) : inN a c := in_bit.2 fun k hk => in_bit.1 h' k (in_bit.1 h k hk)
def lessN (a b : Nat) : Nat := a - (a &&& b)
theorem less_bit {a b : Nat} (ha : a ≤ 31) (k : Nat) : (lessN a b).testBit k = (a.testBit k && !b.testBit k) := by
 have h1 : lessN a b = a ^^^ (a &&& b) := by
  have e : a &&& b = a &&& (b % 32) := by
   apply Nat.eq_of_testBit_eq
   intro j
   rw [Nat.testBit_and, Nat.testBit_and]
   by_cases hj : j < 5
   ·rw [show (32 : Nat) = 2 ^ 5 by rfl, Nat.testBit_mod_two_pow]; simp [hj]
   ·have : a.testBit j = false := Nat.testBit_lt_two_pow (Nat.lt_of_le_of_lt ha (Nat.lt_of_lt_of_le (by decide : 31 < 2 ^ 5) (Nat.pow_le_pow_right (by decide) (by omega))))
    rw [this]; rfl
  unfold lessN
  rw [e]
  have hb : b % 32 < 32 := Nat.mod_lt _ (by decide)
  generalize b % 32 = c at hb
  have hall : ∀ x : Fin 32, ∀ y : Fin 32, x.val - (x.val &&& y.val) = x.val ^^^ (x.val &&& y.val) := by decide
  exact hall ⟨a, by omega⟩ ⟨c, hb⟩
 rw [h1, Nat.testBit_xor, Nat.testBit_and]
 cases a.testBit k <;> cases b.testBit k <;> rfl
def Sure (ns : List Nat) (l : List StepN) (M : Nat → Nat) : Prop := ∀ u, u < ns.length → inN (leftN ns l u) (M u)
def sureB (ns : List Nat) (l : List StepN) (M : Nat → Nat) : Bool := (List.range ns.length).all fun u => decide (inN (leftN ns l u) (M u))
section
variable {ns : List Nat} {l : List StepN} {s : StepN} {M : Nat → Nat}
theorem left_nil (u : Nat) : leftN ns [] u = fullN ns u := rfl
theorem left_snoc (l : List StepN) (s : StepN) (u : Nat) : leftN ns (l ++ [s]) u = if s.u = u then s.m else leftN ns l u := by
 unfold leftN
 rw [List.foldl_append]
 rfl
theorem level_snoc (l : List StepN) (s : StepN) : levelN (l ++ [s]) = s.lv := by
 unfold levelN
 rw [List.foldl_append]
 rfl
def OpenAt (ns : List Nat) (l : List StepN) (M : Nat → Nat) (u : Nat) : Prop :=
 u < ns.length ∧ (∀ v, v < ns.length → v ≠ u → inN (leftN ns l v) (M v)) ∧ ¬ inN (leftN ns l u) (M u) ∧ leftN ns l u &&& M u ≠ 0
inductive TrOk (ns : List Nat) (db : Nat → Nat → Nat) (D : Nat) : List StepN → Prop
 | nil : TrOk ns db D []
 | derive (l : List StepN) (s : StepN) (c : Nat) (h : TrOk ns db D l) (hc : s.c = c) (hd : c < D) (ho : OpenAt ns l (db c) s.u) (hm : s.m = lessN (leftN ns l s.u) (db c s.u)) (hl : s.lv = levelN l) : TrOk ns db D (l ++ [s])
 | decide (l : List StepN) (s : StepN) (h : TrOk ns db D l) (hc : s.c = -1) (hu : s.u < ns.length) (hm : inN s.m (leftN ns l s.u)) (h0 : s.m ≠ 0) (hl : s.lv = levelN l + 1) (hno : ∀ i, i < D → ¬ Sure ns l (db i) ∧ ∀ u, ¬ OpenAt ns l (db i) u) : TrOk ns db D (l ++ [s])
end
section
variable {ns : List Nat} {db : Nat → Nat → Nat} {D : Nat} {l : List StepN} {s : StepN} {M : Nat → Nat}
theorem less_in {a b : Nat} (ha : a ≤ 31) : inN (lessN a b) a := in_bit.2 fun k hk => by
 rw [less_bit ha] at hk
 simp at hk
 exact hk.1
theorem less_ne {a b : Nat} (ha : a ≤ 31) (h : ¬ inN a b) : lessN a b ≠ 0 := by
 intro h0
 apply h
 apply in_bit.2
 intro k hk
 have := less_bit (b := b) ha k
 rw [h0, hk] at this
 cases hb : b.testBit k
 ·rw [hb] at this; simp at this
 ·rfl
theorem in_le {a b : Nat} (h : inN a b) : a ≤ b := by
 unfold inN at h
 rw [← h]
 exact Nat.and_le_right
theorem TrOk.left (ho : NsOk ns) (h : TrOk ns db D l) : ∀ u, u < ns.length → leftN ns l u ≠ 0 ∧ inN (leftN ns l u) (fullN ns u) := by
 induction h with
 | nil => exact fun u hu => ⟨by have := fullN_pos hu; rw [left_nil]; omega, in_refl _⟩
 | derive l s c h hc hd hop hm hl ih =>
  intro u hu
  rw [left_snoc]
  by_cases e : s.u = u
  ·subst e
   rw [if_pos rfl, hm]
   obtain ⟨h1, h2⟩ := ih s.u hu
   have h31 : leftN ns l s.u ≤ 31 := Nat.le_trans (in_le h2) (fullN_le ho _)
   exact ⟨less_ne h31 hop.2.2.1, in_trans (less_in h31) h2⟩
  ·rw [if_neg e]
   exact ih u hu
 | decide l s h hc hu' hm h0 hl hno ih =>
  intro u hu
  rw [left_snoc]
  by_cases e : s.u = u
  ·subst e
   rw [if_pos rfl]
   exact ⟨h0, in_trans hm (ih s.u hu).2⟩
  ·rw [if_neg e]
   exact ih u hu
theorem TrOk.init (h : TrOk ns db D (l ++ [s])) : TrOk ns db D l ∧ s.u < ns.length ∧ ((∃ c : Nat, s.c = c ∧ c < D ∧ OpenAt ns l (db c) s.u ∧ s.m = lessN (leftN ns l s.u) (db c s.u) ∧ s.lv = levelN l) ∨ (s.c = -1 ∧ inN s.m (leftN ns l s.u) ∧ s.m ≠ 0 ∧ s.lv = levelN l + 1 ∧ ∀ i, i < D → ¬ Sure ns l (db i) ∧ ∀ u, ¬ OpenAt ns l (db i) u)) := by
 generalize hx : l ++ [s] = x at h
 cases h with
 | nil => simp at hx
 | derive l' s' c h hc hd hop hm hl =>
  obtain ⟨rfl, h2⟩ := List.append_inj' hx rfl
  injection h2 with h2
  subst h2
  exact ⟨h, hop.1, .inl ⟨c, hc, hd, hop, hm, hl⟩⟩
 | decide l' s' h hc hu hm h0 hl hno =>
  obtain ⟨rfl, h2⟩ := List.append_inj' hx rfl
  injection h2 with h2
  subst h2
  exact ⟨h, hu, .inr ⟨hc, hm, h0, hl, hno⟩⟩
theorem take_snoc {α : Type} {l : List α} {n : Nat} (h : n < l.length) : l.take (n + 1) = l.take n ++ [l[n]] := by
 rw [List.take_add_one, List.getElem?_eq_getElem h]; rfl
theorem TrOk.take (h : TrOk ns db D l) (n : Nat) : TrOk ns db D (l.take n) := by
 by_cases hn : l.length ≤ n
 ·rw [List.take_of_length_le hn]; exact h
 ·induction hd : l.length - n generalizing n with
  | zero => omega
  | succ d ih =>
   have h1 : TrOk ns db D (l.take (n + 1)) := by
    by_cases hn1 : l.length ≤ n + 1
    ·rw [List.take_of_length_le hn1]; exact h
    ·exact ih (n + 1) hn1 (by omega)
   rw [take_snoc (by omega)] at h1
   exact h1.init.1
theorem TrOk.at (h : TrOk ns db D l) {n : Nat} (hn : n < l.length) : TrOk ns db D (l.take n ++ [l[n]]) := by
 rw [← take_snoc hn]; exact h.take _
theorem TrOk.lv (_h : TrOk ns db D l) {n : Nat} (hn : n < l.length) : l[n].lv = levelN (l.take (n + 1)) := by rw [take_snoc hn, level_snoc]
def First (ns : List Nat) (l : List StepN) (M : Nat → Nat) (n : Nat) : Prop := n ≤ l.length ∧ Sure ns (l.take n) M ∧ ∀ k, k < n → ¬ Sure ns (l.take k) M
end
end
section
set_option maxHeartbeats 400000 in
theorem rbit_any (v : Nat) (w : World) (hv : v ≤ 16) :
  Calls Tryz.prog 63 #[.int .i64 v] w fun e w' => e = .returned (.int .i64 (pw v)) ∧ w' = w := by
 go_enter Tryz.func63, Tryz.ntmps63
 go_wp2
 go_loopw [3, 4] (fun mv iv wr => ∃ i : Nat, i ≤ v ∧ mv = .int .i64 (pw i) ∧ iv = .int .i64 i ∧ wr = w) (fun _ iv _ => v - (intOf iv).toNat)
 case atStart => exact ⟨0, Nat.zero_le _, by simp [pw], rfl, rfl⟩
 case round =>
  obtain ⟨i, hi, rfl, rfl, rfl⟩ := hrel
  obtain ⟨p1, p2⟩ := pw_bd (i := i) (by omega)
  have hs := pw_succ i
  by_cases hlt : i < v
  ·have z1 : decide ((i : Int) < v) = true := decide_eq_true (by omega)
   go_wp2
   refine ⟨⟨i + 1, by omega, by rw [hs], by go_num, ?_⟩, by simp [intOf]; omega⟩
   first | trivial | rfl
  ·have e : i = v := by omega
   subst e
   have z1 : decide ((i : Int) < i) = false := decide_eq_false (by omega)
   go_wp2
   go_ret
   exact ⟨rfl, rfl⟩
set_option maxHeartbeats 400000 in
theorem rfull_any (v : Value) (ns : List Nat) (u : Int) (w : World) (F : Nat → Prop) (h : UniRd w F v ns) (ho : NsOk ns) (hu : I64 u) (hF : ∀ k, F k → k < w.heap.size) :
  Calls Tryz.prog 29 #[v, .int .i64 u] w fun e w' => e = .returned (.int .i64 (fullF ns u)) ∧ Below w.heap.size w w' := by
 obtain ⟨g, cap, rfl, hg, hc⟩ := h
 have hgl := hF g hg
 have hne : g ≠ w.heap.size := by omega
 go_enter Tryz.func29, Tryz.ntmps29
 by_cases h0 : u < 0
 ·go_wp2
  all_goals go_ret
  exact ⟨ret_int (by unfold fullF; rw [if_pos (.inl h0)]), balloc (b0 w) _⟩
 ·by_cases h1 : (ns.length : Int) ≤ u
  ·go_wp2
   all_goals go_ret
   exact ⟨ret_int (by unfold fullF; rw [if_pos (.inr h1)]), balloc (b0 w) _⟩
  ·obtain ⟨k, rfl⟩ : ∃ k : Nat, u = ↑k := ⟨u.toNat, by omega⟩
   have hk : k < ns.length := by omega
   have hn := ho.le k hk
   have he : fullF ns ↑k = pw (ns[k] + 1) - 1 := by
    unfold fullF
    rw [if_neg (by omega), Int.toNat_natCast, List.getElem?_eq_getElem hk]
    rfl
   obtain ⟨Ak, ck, hck⟩ := hc k hk
   generalize ns[k] = n at *
   have k1 : (0 : Int) ≤ ↑k := by omega
   have k2 : (↑k : Int) < ↑ns.length := by omega
   have p := pw_bd (i := n + 1) (by omega)
   have m1 : min (n : Int) 16 = n := by omega
   clear hc
   go_wp2_with (go_at_call 63; refine (rbit_any (n + 1) _ (by omega)).mono ?_; rintro e w1 ⟨rfl, rfl⟩)
   go_ret
   exact ⟨ret_int (by rw [he]), balloc (b0 w) _⟩
end
section
def hasF (ns : List Nat) (u : Int) : Bool := decide (0 ≤ u) && decide (u < ns.length)
set_option maxHeartbeats 400000 in
theorem has_any (v : Value) (ns : List Nat) (u : Int) (w : World) (F : Nat → Prop) (h : UniRd w F v ns) :
  Calls Tryz.prog 79 #[v, .int .i64 u] w fun e w' => e = .returned (.bool (hasF ns u)) ∧ Below w.heap.size w w' := by
 obtain ⟨g, cap, rfl, hg, hc⟩ := h
 clear hc
 go_enter Tryz.func79, Tryz.ntmps79
 by_cases h0 : 0 ≤ u
 ·by_cases h1 : u < ns.length
  ·go_wp2
   all_goals go_ret
   exact ⟨ret_bool (by simp [hasF, h0, h1]), balloc (b0 w) _⟩
  ·go_wp2
   all_goals go_ret
   exact ⟨ret_bool (by simp [hasF, h0, h1]), balloc (b0 w) _⟩
 ·go_wp2
  all_goals go_ret
  exact ⟨ret_bool (by simp [hasF]; omega), balloc (b0 w) _⟩
set_option maxHeartbeats 400000 in
theorem bit_any (i : Nat) (w : World) (hi : i ≤ 16) :
  Calls Tryz.prog 54 #[.int .i64 (i - 1)] w fun e w' => e = .returned (.int .i64 (pw i)) ∧ w' = w := by
 go_enter Tryz.func54, Tryz.ntmps54
 have e : (i : Int) - 1 + 1 = i := by omega
 have p := pw_bd (i := i) (by omega)
 go_wp2
 go_ret
 exact ⟨ret_int (by
  have h2 : (2 : Int) ^ i = pw i := by unfold pw; push_cast; rfl
  rw [h2]
  exact IntWalk.wrap64_in (pw i) (by omega)), rfl⟩
set_option maxHeartbeats 400000 in
theorem full_any (v : Value) (ns : List Nat) (u : Int) (w : World) (F : Nat → Prop) (h : UniRd w F v ns) (ho : NsOk ns) (hF : ∀ k, F k → k < w.heap.size) :
  Calls Tryz.prog 47 #[v, .int .i64 u] w fun e w' => e = .returned (.int .i64 (fullF ns u)) ∧ Below w.heap.size w w' := by
 have HU := hid h
 obtain ⟨g, cap, rfl, hg, hc⟩ := h
 have hgl := hF g hg
 have hal : ∀ o, UniRd (w.alloc o) F (.agg #[.slice (some ⟨g, 0, none⟩) ns.length cap]) ns := fun o => HU.out.keep fun j hj => Below.heap_alloc w o j (hF j hj)
 have hbx : ∀ xs t, (w.alloc (.cells xs t)).cell? ⟨w.heap.size, 0, none⟩ = xs[0]? := fun xs t => World.cell?_alloc_new w xs t 0
 go_enter Tryz.func47, Tryz.ntmps47
 by_cases h0 : 0 ≤ u ∧ u < ns.length
 ·obtain ⟨k, rfl⟩ : ∃ k : Nat, u = ↑k := ⟨u.toNat, by omega⟩
  have hk : k < ns.length := by omega
  have hn := ho.le k hk
  have he : fullF ns ↑k = pw (ns[k] + 1) - 1 := by
   unfold fullF
   rw [if_neg (by omega), Int.toNat_natCast, List.getElem?_eq_getElem hk]
   rfl
  obtain ⟨Ak, ck, hck⟩ := hc k hk
  have hhas : hasF ns ↑k = true := by simp [hasF, hk]
  have hck' : ∀ o, (w.alloc o).cell? ⟨g, k * 3 + 2, none⟩ = some (.slice Ak ns[k] ck) := fun o => cell_below (balloc (b0 w) o) hgl hck
  generalize ns[k] = n at *
  have k1 : (0 : Int) ≤ ↑k := by omega
  have k2 : (↑k : Int) < ↑ns.length := by omega
  have p := pw_bd (i := n + 1) (by omega)
  have hb := fun wx => bit_any (n + 1) wx (by omega)
  simp only [show ((n + 1 : Nat) : Int) - 1 = n by omega] at hb
  clear hc h0
  go_wp2_with (first
   | (go_at_call 79; refine (has_any _ ns _ _ F (hal _)).mono ?_; rintro e w1 ⟨rfl, hb1⟩; rw [hhas]; have hc1 := cell_below hb1 (by simp; omega) (hck' _); have hc2 := cell_below hb1 (by simp) (hbx _ _); have HB1 := hid hb1; clear hb1)
   | (go_at_call 54; refine (hb _).mono ?_; rintro e w2 ⟨rfl, rfl⟩))
  go_ret
  exact ⟨ret_int (by rw [he]), (balloc (b0 w) _).trans (HB1.out.mono (by simp))⟩
 ·have hhas : hasF ns u = false := by simp [hasF]; omega
  have he : fullF ns u = 0 := by unfold fullF; rw [if_pos (by omega)]
  clear hc
  go_wp2_with (go_at_call 79; refine (has_any _ ns _ _ F (hal _)).mono ?_; rintro e w1 ⟨rfl, hb1⟩; rw [hhas])
  go_ret
  exact ⟨ret_int he.symm, (balloc (b0 w) _).trans (hb1.mono (by simp))⟩
end
end Go.Proofs.YthneiolcljnbeaaGreatDoor
