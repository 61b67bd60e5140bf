import Derived.Test.YtbfbppjccbppiaaGreatDoorzA
import Derived.Outline
import Derived.BigQuiet
import Derived.Deep.DeepMust
namespace Go.Proofs.YtbfbppjccbppiaaGreatDoor
open Go Go.RowKit
section
set_option maxHeartbeats 400000 in
theorem zf2 (v : Nat) (w : World) (hv : v ≤ 16) :
  Calls Tryz.prog 50 #[.int .i64 v] w fun e w' => e = .returned (.int .i64 (pw v)) ∧ w' = w := by
 go_enter Tryz.func50, Tryz.ntmps50
 go_wp2
 go_loopw [3, 4] (fun mv iv wr => ∃ i : Nat, i ≤ v ∧ mv = .int .i64 (pw i) ∧ iv = .int .i64 i ∧ wr = w) (fun _ iv _ => v - (intOf iv).toNat)
 case atStart => exact ⟨0, Nat.zero_le _, by simp [pw], rfl, rfl⟩
 case round =>
  obtain ⟨i, hi, rfl, rfl, rfl⟩ := hrel
  obtain ⟨p1, p2⟩ := pw_bd (i := i) (by omega)
  have hs := pw_succ i
  by_cases hlt : i < v
  ·have z1 : decide ((i : Int) < v) = true := decide_eq_true (by omega)
   go_wp2
   refine ⟨⟨i + 1, by omega, by rw [hs], by go_num, ?_⟩, by simp [intOf]; omega⟩
   first | trivial | rfl
  ·have e : i = v := by omega
   subst e
   have z1 : decide ((i : Int) < i) = false := decide_eq_false (by omega)
   go_wp2
   go_ret
   exact ⟨rfl, rfl⟩
set_option maxHeartbeats 400000 in
theorem qj8 (v : Value) (ns : List Nat) (u : Int) (w : World) (F : Nat → Prop) (h : qi7 w F v ns) (ho : NsOk ns) (hu : I64 u) (hF : ∀ k, F k → k < w.heap.size) :
  Calls Tryz.prog 22 #[v, .int .i64 u] w fun e w' => e = .returned (.int .i64 (qj5 ns u)) ∧ Below w.heap.size w w' := by
 obtain ⟨g, cap, rfl, hg, hc⟩ := h
 have hgl := hF g hg
 have hne : g ≠ w.heap.size := by omega
 go_enter Tryz.func22, Tryz.ntmps22
 by_cases h0 : u < 0
 ·go_wp2
  all_goals go_ret
  exact ⟨qb7 (by unfold qj5; rw [if_pos (.inl h0)]), qa0 (b0 w) _⟩
 ·by_cases h1 : (ns.length : Int) ≤ u
  ·go_wp2
   all_goals go_ret
   exact ⟨qb7 (by unfold qj5; rw [if_pos (.inr h1)]), qa0 (b0 w) _⟩
  ·obtain ⟨k, rfl⟩ : ∃ k : Nat, u = ↑k := ⟨u.toNat, by omega⟩
   have hk : k < ns.length := by omega
   have hn := ho.le k hk
   have he : qj5 ns ↑k = pw (ns[k] + 1) - 1 := by
    unfold qj5
    rw [if_neg (by omega), Int.toNat_natCast, List.getElem?_eq_getElem hk]
    rfl
   obtain ⟨Ak, ck, hck⟩ := hc k hk
   generalize ns[k] = n at *
   have k1 : (0 : Int) ≤ ↑k := by omega
   have k2 : (↑k : Int) < ↑ns.length := by omega
   have p := pw_bd (i := n + 1) (by omega)
   have m1 : min (n : Int) 16 = n := by omega
   clear hc
   go_wp2_with (go_at_call 50; refine (zf2 (n + 1) _ (by omega)).mono ?_; rintro e w1 ⟨rfl, rfl⟩)
   go_ret
   exact ⟨qb7 (by rw [he]), qa0 (b0 w) _⟩
end
section
def hasF (ns : List Nat) (u : Int) : Bool := decide (0 ≤ u) && decide (u < ns.length)
set_option maxHeartbeats 400000 in
theorem has_any (v : Value) (ns : List Nat) (u : Int) (w : World) (F : Nat → Prop) (h : qi7 w F v ns) :
  Calls Tryz.prog 66 #[v, .int .i64 u] w fun e w' => e = .returned (.bool (hasF ns u)) ∧ Below w.heap.size w w' := by
 obtain ⟨g, cap, rfl, hg, hc⟩ := h
 clear hc
 go_enter Tryz.func66, Tryz.ntmps66
 by_cases h0 : 0 ≤ u
 ·by_cases h1 : u < ns.length
  ·go_wp2
   all_goals go_ret
   exact ⟨qa4 (by simp [hasF, h0, h1]), qa0 (b0 w) _⟩
  ·go_wp2
   all_goals go_ret
   exact ⟨qa4 (by simp [hasF, h0, h1]), qa0 (b0 w) _⟩
 ·go_wp2
  all_goals go_ret
  exact ⟨qa4 (by simp [hasF]; omega), qa0 (b0 w) _⟩
set_option maxHeartbeats 400000 in
theorem bit_any (i : Nat) (w : World) (hi : i ≤ 16) :
  Calls Tryz.prog 67 #[.int .i64 (i - 1)] w fun e w' => e = .returned (.int .i64 (pw i)) ∧ w' = w := by
 go_enter Tryz.func67, Tryz.ntmps67
 have e : (i : Int) - 1 + 1 = i := by omega
 have p := pw_bd (i := i) (by omega)
 go_wp2
 go_ret
 exact ⟨qb7 (by
  have h2 : (2 : Int) ^ i = pw i := by unfold pw; push_cast; rfl
  rw [h2]
  exact IntWalk.wrap64_in (pw i) (by omega)), rfl⟩
set_option maxHeartbeats 400000 in
theorem qz2 (v : Value) (ns : List Nat) (u : Int) (w : World) (F : Nat → Prop) (h : qi7 w F v ns) (ho : NsOk ns) (hF : ∀ k, F k → k < w.heap.size) :
  Calls Tryz.prog 34 #[v, .int .i64 u] w fun e w' => e = .returned (.int .i64 (qj5 ns u)) ∧ Below w.heap.size w w' := by
 have HU := hid h
 obtain ⟨g, cap, rfl, hg, hc⟩ := h
 have hgl := hF g hg
 have hal : ∀ o, qi7 (w.alloc o) F (.agg #[.slice (some ⟨g, 0, none⟩) ns.length cap]) ns := fun o => HU.out.keep fun j hj => Below.heap_alloc w o j (hF j hj)
 have hbx : ∀ xs t, (w.alloc (.cells xs t)).cell? ⟨w.heap.size, 0, none⟩ = xs[0]? := fun xs t => World.cell?_alloc_new w xs t 0
 go_enter Tryz.func34, Tryz.ntmps34
 by_cases h0 : 0 ≤ u ∧ u < ns.length
 ·obtain ⟨k, rfl⟩ : ∃ k : Nat, u = ↑k := ⟨u.toNat, by omega⟩
  have hk : k < ns.length := by omega
  have hn := ho.le k hk
  have he : qj5 ns ↑k = pw (ns[k] + 1) - 1 := by
   unfold qj5
   rw [if_neg (by omega), Int.toNat_natCast, List.getElem?_eq_getElem hk]
   rfl
  obtain ⟨Ak, ck, hck⟩ := hc k hk
  have hhas : hasF ns ↑k = true := by simp [hasF, hk]
  have hck' : ∀ o, (w.alloc o).cell? ⟨g, k * 3 + 2, none⟩ = some (.slice Ak ns[k] ck) := fun o => cell_below (qa0 (b0 w) o) hgl hck
  generalize ns[k] = n at *
  have k1 : (0 : Int) ≤ ↑k := by omega
  have k2 : (↑k : Int) < ↑ns.length := by omega
  have p := pw_bd (i := n + 1) (by omega)
  have hb := fun wx => bit_any (n + 1) wx (by omega)
  simp only [show ((n + 1 : Nat) : Int) - 1 = n by omega] at hb
  clear hc h0
  go_wp2_with (first
   | (go_at_call 66; refine (has_any _ ns _ _ F (hal _)).mono ?_; rintro e w1 ⟨rfl, hb1⟩; rw [hhas]; have hc1 := cell_below hb1 (by simp; omega) (hck' _); have hc2 := cell_below hb1 (by simp) (hbx _ _); have HB1 := hid hb1; clear hb1)
   | (go_at_call 67; refine (hb _).mono ?_; rintro e w2 ⟨rfl, rfl⟩))
  go_ret
  exact ⟨qb7 (by rw [he]), (qa0 (b0 w) _).trans (HB1.out.mono (by simp))⟩
 ·have hhas : hasF ns u = false := by simp [hasF]; omega
  have he : qj5 ns u = 0 := by unfold qj5; rw [if_pos (by omega)]
  clear hc
  go_wp2_with (go_at_call 66; refine (has_any _ ns _ _ F (hal _)).mono ?_; rintro e w1 ⟨rfl, hb1⟩; rw [hhas])
  go_ret
  exact ⟨qb7 he.symm, (qa0 (b0 w) _).trans (hb1.mono (by simp))⟩
end
section
def nm (m : Int) : Nat := (BitVec.ofInt 64 m).toNat
theorem ql1 {k : Nat} (h : k < 18446744073709551616) : nm (k : Int) = k := by
 unfold nm
 rw [BitVec.ofInt_natCast, BitVec.toNat_ofNat]
 exact Nat.mod_eq_of_lt (by omega)
theorem band (x y : Int) (h : nm x &&& nm y < 9223372036854775808) : bits .and .i64 x y = ((nm x &&& nm y : Nat) : Int) := by
 show IntKind.i64.wrap ((BitVec.ofInt 64 x &&& BitVec.ofInt 64 y).toNat : Int) = _
 rw [BitVec.toNat_and, IntKind.wrap_i64]
 unfold nm at *
 omega
theorem bor (x y : Int) (h : nm x ||| nm y < 9223372036854775808) : bits .or .i64 x y = ((nm x ||| nm y : Nat) : Int) := by
 show IntKind.i64.wrap ((BitVec.ofInt 64 x ||| BitVec.ofInt 64 y).toNat : Int) = _
 rw [BitVec.toNat_or, IntKind.wrap_i64]
 unfold nm at *
 omega
theorem bv_andn (a b : BitVec 64) : a &&& ~~~b = 0#64 ↔ a &&& b = a := by
 constructor
 ·intro h
  apply BitVec.eq_of_getLsbD_eq
  intro i hi
  have := congrArg (fun z => z.getLsbD i) h
  simp [hi] at this ⊢
  exact this
 ·intro h
  apply BitVec.eq_of_getLsbD_eq
  intro i hi
  have := congrArg (fun z => z.getLsbD i) h
  simp [hi] at this ⊢
  exact this
theorem bandn (x y : Int) : (bits .andNot .i64 x y == 0) = decide (nm x &&& nm y = nm x) := by
 have hb := (BitVec.ofInt 64 x &&& ~~~BitVec.ofInt 64 y).isLt
 have h1 : (bits .andNot .i64 x y == 0) = decide ((BitVec.ofInt 64 x &&& ~~~BitVec.ofInt 64 y).toNat = 0) := by
  show (IntKind.i64.wrap ((BitVec.ofInt 64 x &&& ~~~BitVec.ofInt 64 y).toNat : Int) == 0) = _
  rw [IntKind.wrap_i64]
  by_cases h0 : (BitVec.ofInt 64 x &&& ~~~BitVec.ofInt 64 y).toNat = 0
  ·simp [h0]
  ·rw [decide_eq_false h0]
   simp only [beq_eq_false_iff_ne, ne_eq]
   omega
 rw [h1]
 apply decide_eq_decide.2
 rw [show (0 : Nat) = (0#64).toNat from rfl, BitVec.toNat_inj, bv_andn, ← BitVec.toNat_inj, BitVec.toNat_and]
 rfl
theorem pow_and (k m : Nat) : 2 ^ k &&& m ≠ 0 ↔ m.testBit k = true := by
 constructor
 ·intro h
  cases hb : m.testBit k with
  | true => rfl
  | false =>
   exfalso
   apply h
   apply Nat.eq_of_testBit_eq
   intro i
   rw [Nat.testBit_and, Nat.testBit_two_pow, Nat.zero_testBit]
   by_cases e : k = i
   ·subst e; simp [hb]
   ·simp [e]
 ·intro h h0
  have : (2 ^ k &&& m).testBit k = true := by rw [Nat.testBit_and, Nat.testBit_two_pow]; simp [h]
  rw [h0, Nat.zero_testBit] at this
  cases this
theorem and_le31 {a b : Nat} (h : b ≤ 31) : a &&& b ≤ 31 := Nat.le_trans Nat.and_le_right h
theorem zi8 {a b : Nat} (h : a ≤ 31) (h' : b ≤ 31) : a ||| b ≤ 31 := by
 have : a ||| b < 2 ^ 5 := Nat.or_lt_two_pow (by omega) (by omega)
 omega
def qb8 (ns : List Nat) (u : Nat) : Nat := match ns[u]? with
 | some n => 2 ^ (n + 1) - 1
 | none => 0
section
variable {ns : List Nat}
theorem qr1 {u : Nat} (h : u < ns.length) : qb8 ns u = 2 ^ (ns[u] + 1) - 1 := by unfold qb8; rw [List.getElem?_eq_getElem h]
theorem zh2 {u : Nat} (h : ¬ u < ns.length) : qb8 ns u = 0 := by unfold qb8; rw [List.getElem?_eq_none (by omega)]
theorem qi2 (ho : NsOk ns) (u : Nat) : qb8 ns u ≤ 31 := by
 by_cases h : u < ns.length
 ·rw [qr1 h]
  have h1 := ho.le u h
  have : 2 ^ (ns[u] + 1) ≤ 2 ^ 5 := Nat.pow_le_pow_right (by decide) (by omega)
  omega
 ·rw [zh2 h]; omega
theorem qz1 {u : Nat} (h : u < ns.length) : 1 ≤ qb8 ns u := by
 rw [qr1 h]
 have : 2 ^ 1 ≤ 2 ^ (ns[u] + 1) := Nat.pow_le_pow_right (by decide) (by omega)
 omega
theorem ze8 (u : Int) (h : 0 ≤ u) : qj5 ns u = (qb8 ns u.toNat : Int) := by
 unfold qj5
 by_cases hu : u.toNat < ns.length
 ·rw [if_neg (by omega), qr1 hu, List.getElem?_eq_getElem hu]
  unfold pw
  have : 0 < 2 ^ (ns[u.toNat] + 1) := Nat.pow_pos (by decide)
  simp only [Option.getD_some]
  omega
 ·rw [if_pos (by omega), zh2 hu]; rfl
theorem fullF_neg (u : Int) (h : u < 0) : qj5 ns u = 0 := by unfold qj5; rw [if_pos (.inl h)]
theorem qj6 (u : Nat) : qj5 ns (u : Int) = (qb8 ns u : Int) := by rw [ze8 _ (by omega)]; simp
theorem full_bit {u : Nat} (h : u < ns.length) (k : Nat) : (qb8 ns u).testBit k = decide (k ≤ ns[u]) := by
 rw [qr1 h, Nat.testBit_two_pow_sub_one]
 apply decide_eq_decide.2
 omega
structure IncOk (ns : List Nat) (M : Nat → Nat) : Prop where
 pos : ∀ u, u < ns.length → M u ≠ 0
 sub : ∀ u, u < ns.length → M u &&& qb8 ns u = M u
def tm (ns : List Nat) (M : Nat → Nat) (u : Nat) : Option Term := if M u = qb8 ns u then none else some ⟨(u : Int), (M u : Int)⟩
def qh1 (ns : List Nat) (M : Nat → Nat) (n : Nat) : List Term := (List.range n).filterMap (tm ns M)
def canon (ns : List Nat) (M : Nat → Nat) : List Term := qh1 ns M ns.length
theorem ql9 (M : Nat → Nat) (n : Nat) : qh1 ns M (n + 1) = qh1 ns M n ++ (tm ns M n).toList := by
 unfold qh1
 rw [List.range_succ, List.filterMap_append]
 cases h : tm ns M n <;> simp [h]
theorem zg3 (M : Nat → Nat) (n : Nat) : (qh1 ns M n).length ≤ n := by
 have := List.length_filterMap_le (tm ns M) (List.range n)
 rwa [List.length_range] at this
theorem zg4 (M : Nat → Nat) : (canon ns M).length ≤ ns.length := zg3 M _
theorem qp7 {M : Nat → Nat} {t : Term} : t ∈ canon ns M ↔ ∃ u, u < ns.length ∧ M u ≠ qb8 ns u ∧ t = ⟨(u : Int), (M u : Int)⟩ := by
 unfold canon qh1
 simp only [List.mem_filterMap, List.mem_range]
 constructor
 ·rintro ⟨u, hu, h⟩
  unfold tm at h
  split at h
  ·cases h
  ·rename_i h1
   exact ⟨u, hu, h1, (Option.some.inj h).symm⟩
 ·rintro ⟨u, hu, h1, rfl⟩
  exact ⟨u, hu, by unfold tm; rw [if_neg h1]⟩
theorem qw3 {α β : Type} {f g : α → Option β} : ∀ {l : List α}, (∀ x ∈ l, f x = g x) → l.filterMap f = l.filterMap g
 | [], _ => rfl
 | x :: l, h => by
  rw [List.filterMap_cons, List.filterMap_cons, h x (by simp), qw3 fun y hy => h y (by simp [hy])]
theorem canon_congr {M M' : Nat → Nat} (h : ∀ u, u < ns.length → M u = M' u) : canon ns M = canon ns M' := by
 unfold canon qh1
 refine qw3 fun u hu => ?_
 unfold tm
 rw [h u (List.mem_range.1 hu)]
theorem IncOk.le {M : Nat → Nat} (ho : NsOk ns) (h : IncOk ns M) : ∀ u, u < ns.length → M u ≤ 31 := fun u hu => by
 rw [← h.sub u hu]
 exact and_le31 (qi2 ho u)
def okN (ns : List Nat) (M : Nat → Nat) : Bool := (List.range ns.length).all fun u => M u != 0
def zi1 (ns : List Nat) (M : Nat → Nat) : Option (List Term) := if okN ns M then some (canon ns M) else none
theorem zr8 {M : Nat → Nat} : okN ns M = true ↔ ∀ u, u < ns.length → M u ≠ 0 := by
 unfold okN
 simp [List.all_eq_true]
def qi5 (ns : List Nat) (l : List Term) (u : Nat) : Nat := l.foldl (fun a t => if t.unit = (u : Int) then a &&& nm t.mask else a) (qb8 ns u)
def inR (ns : List Nat) (l : List Term) : Bool := l.all fun t => decide (0 ≤ t.unit) && decide (t.unit < ns.length)
def qt5 (ns : List Nat) (l : List Term) : Option (List Term) := if inR ns l then zi1 ns (qi5 ns l) else none
theorem meetN_snoc (l : List Term) (t : Term) (u : Nat) : qi5 ns (l ++ [t]) u = if t.unit = (u : Int) then qi5 ns l u &&& nm t.mask else qi5 ns l u := by
 unfold qi5
 rw [List.foldl_append]
 rfl
theorem fold_le (l : List Term) (u : Nat) : ∀ a : Nat, l.foldl (fun a t => if t.unit = (u : Int) then a &&& nm t.mask else a) a ≤ a := by
 induction l with
 | nil => intro a; exact Nat.le_refl _
 | cons t l ih =>
  intro a
  rw [List.foldl_cons]
  refine Nat.le_trans (ih _) ?_
  split
  ·exact Nat.and_le_left
  ·exact Nat.le_refl _
theorem meetN_le (l : List Term) (u : Nat) : qi5 ns l u ≤ qb8 ns u := fold_le l u _
theorem fold_bit (l : List Term) (u k : Nat) : ∀ a : Nat, (l.foldl (fun a t => if t.unit = (u : Int) then a &&& nm t.mask else a) a).testBit k = (a.testBit k && l.all fun t => decide (t.unit ≠ (u : Int)) || (nm t.mask).testBit k) := by
 induction l with
 | nil => intro a; simp
 | cons t l ih =>
  intro a
  rw [List.foldl_cons, ih, List.all_cons]
  by_cases h : t.unit = (u : Int)
  ·rw [if_pos h, Nat.testBit_and]
   simp [h, Bool.and_assoc]
  ·rw [if_neg h]
   simp [h]
theorem meet_bit (l : List Term) (u k : Nat) : (qi5 ns l u).testBit k = ((qb8 ns u).testBit k && l.all fun t => decide (t.unit ≠ (u : Int)) || (nm t.mask).testBit k) := fold_bit l u k _
theorem sub_full {a : Nat} {u : Nat} (h : ∀ k, a.testBit k = true → (qb8 ns u).testBit k = true) : a &&& qb8 ns u = a := by
 apply Nat.eq_of_testBit_eq
 intro k
 rw [Nat.testBit_and]
 cases hb : a.testBit k with
 | false => rfl
 | true => rw [h k hb]; rfl
theorem IncOk.bit {M : Nat → Nat} (h : IncOk ns M) {u : Nat} (hu : u < ns.length) {k : Nat} (hb : (M u).testBit k = true) : (qb8 ns u).testBit k = true := by
 rw [← h.sub u hu, Nat.testBit_and] at hb
 simp at hb
 exact hb.2
theorem meet_ok {l : List Term} (h : okN ns (qi5 ns l) = true) : IncOk ns (qi5 ns l) :=
 ⟨zr8.1 h, fun u _ => sub_full fun k hk => by rw [meet_bit] at hk; simp at hk; exact hk.1⟩
theorem full_ok : IncOk ns (qb8 ns) := ⟨fun u hu => by have := qz1 hu; omega, fun u _ => Nat.and_self _⟩
theorem canon_full : canon ns (qb8 ns) = [] := by
 refine List.eq_nil_iff_forall_not_mem.2 fun t ht => ?_
 obtain ⟨u, _, h, _⟩ := qp7.1 ht
 exact h rfl
theorem qz5 {l r : List Term} (h : qt5 ns l = some r) : IncOk ns (qi5 ns l) ∧ r = canon ns (qi5 ns l) := by
 unfold qt5 at h
 split at h
 ·unfold zi1 at h
  split at h
  ·rename_i h1
   exact ⟨meet_ok h1, (Option.some.inj h).symm⟩
  ·cases h
 ·cases h
def qk3 (ns : List Nat) (l : List Term) (u : Int) : Int := match l.find? fun t => t.unit == u with
 | some t => t.mask
 | none => qj5 ns u
def maskN (ns : List Nat) (M : Nat → Nat) (u : Int) : Nat := if u < 0 ∨ (ns.length : Int) ≤ u then 0 else M u.toNat
theorem qp9 (M : Nat → Nat) {u : Nat} (h : u < ns.length) : maskN ns M (u : Int) = M u := by unfold maskN; rw [if_neg (by omega)]; simp
theorem qq0 (M : Nat → Nat) (u : Int) : qk3 ns (canon ns M) u = (maskN ns M u : Int) := by
 unfold qk3
 split
 ·rename_i t h
  have h1 := List.find?_some h
  obtain ⟨v, hv, _, rfl⟩ := qp7.1 (List.mem_of_find?_eq_some h)
  simp at h1
  subst h1
  rw [qp9 M hv]
 ·rename_i h
  rw [List.find?_eq_none] at h
  unfold maskN
  split
  ·rename_i h1
   unfold qj5
   rw [if_pos h1]; rfl
  ·rename_i h1
   have hu : u.toNat < ns.length := by omega
   rw [ze8 u (by omega)]
   by_cases hf : M u.toNat = qb8 ns u.toNat
   ·rw [hf]
   ·have := h _ (qp7.2 ⟨_, hu, hf, rfl⟩)
    simp at this
    omega
end
end
section
structure ChoiceOk (ns : List Nat) (c : List Int) : Prop where
 len : c.length = ns.length
 val : ∀ u, (h : u < ns.length) → -1 ≤ c.getD u 0 ∧ c.getD u 0 < ns[u]
def valN (c : List Int) (u : Nat) : Nat := 2 ^ (c.getD u 0 + 1).toNat
def holdN (ns : List Nat) (M : Nat → Nat) (c : List Int) : Bool := (List.range ns.length).all fun u => valN c u &&& M u != 0
def holdL (c : List Int) (l : List Term) : Bool := l.all fun t => valN c t.unit.toNat &&& nm t.mask != 0
section
variable {ns : List Nat}
def qo2 (Ma Mb : Nat → Nat) (unit : Nat) (u : Nat) : Nat := if u = unit then Ma u ||| Mb u else Ma u &&& Mb u
def joinL (ns : List Nat) (Ma Mb : Nat → Nat) (unit : Nat) : List Term := (canon ns Ma ++ canon ns Mb).filter (fun t => t.unit != (unit : Int)) ++ [⟨(unit : Int), ((Ma unit ||| Mb unit : Nat) : Int)⟩]
theorem join_ok {Ma Mb : Nat → Nat} (ha : IncOk ns Ma) (hb : IncOk ns Mb) {unit : Nat} (h : okN ns (qo2 Ma Mb unit) = true) : IncOk ns (qo2 Ma Mb unit) := by
 refine ⟨zr8.1 h, fun u hu => sub_full fun k hk => ?_⟩
 unfold qo2 at hk
 split at hk
 ·rw [Nat.testBit_or, Bool.or_eq_true] at hk
  rcases hk with hk | hk
  ·exact ha.bit hu hk
  ·exact hb.bit hu hk
 ·rw [Nat.testBit_and, Bool.and_eq_true] at hk
  exact ha.bit hu hk.1
def withinN (ns : List Nat) (Ma Mb : Nat → Nat) : Bool := (List.range ns.length).all fun u => decide (Mb u &&& Ma u = Mb u)
def withinL (ns : List Nat) (l : List Term) (Mb : Nat → Nat) : Bool := l.all fun t => decide (maskN ns Mb t.unit &&& nm t.mask = maskN ns Mb t.unit)
def choiceF : List Nat → Nat → List Int
 | [], _ => []
 | k :: r, n => (((n % (k + 1) : Nat) : Int) - 1) :: choiceF r (n / (k + 1))
def prodN : List Nat → Nat
 | [] => 1
 | k :: r => (k + 1) * prodN r
def sizeGo : Nat → List Nat → Nat
 | n, [] => n
 | n, k :: r => if n < 1000000 then sizeGo (n * (k + 1)) r else n
def sizeN (ns : List Nat) : Nat := sizeGo 1 ns
def dropN (ns : List Nat) (M : Nat → Nat) (at_ : Nat) (u : Nat) : Nat := if u = at_ then qb8 ns u else M u
end
end
section
theorem qa6 (w : World) (xs : Array Value) (t : TypeId) (i : Nat) : (w.alloc (.cells xs t)).cell? ⟨w.heap.size, i, none⟩ = xs[i]? := World.cell?_alloc_new w xs t i
theorem qc0 {w w0 : World} {v : Value} {ns : List Nat} (h : qi7 w (Lt w.heap.size) v ns) (hb : Below w.heap.size w w0) : qi7 w0 (Lt w0.heap.size) v ns :=
 (h.below hb).more fun _ hk => Nat.lt_of_lt_of_le hk hb.size
theorem qn9 {w0 : World} {v : Value} {ns : List Nat} (h : qi7 w0 (Lt w0.heap.size) v ns) (e : Later w0) : qi7 e.w (Lt e.w.heap.size) v ns := qc0 h e.below
def holdT (c : List Int) (t : Term) : Bool := valN c t.unit.toNat &&& nm t.mask != 0
theorem zl1 {w w0 : World} {x : Value} {y z : Value} {t t' : TypeId} (h : w0 = (w.alloc (.cells #[x] t)).alloc (.cells #[y, z] t')) :
  Below w.heap.size w w0 ∧ w0.heap.size = w.heap.size + 2 ∧ w0.cell? ⟨w.heap.size, 0, none⟩ = some x ∧ w0.cell? ⟨w.heap.size + 1, 0, none⟩ = some y ∧ w0.cell? ⟨w.heap.size + 1, 1, none⟩ = some z := by
 subst h
 refine ⟨qa0 (qa0 (b0 w) _) _, by simp, ?_, ?_, ?_⟩
 ·exact cell_below (qa0 (b0 (w.alloc (.cells #[x] t))) _) (by simp) ((qa6 w _ _ 0).trans rfl)
 ·have := qa6 (w.alloc (.cells #[x] t)) #[y, z] t' 0
  rw [World.size_alloc] at this
  exact this
 ·have := qa6 (w.alloc (.cells #[x] t)) #[y, z] t' 1
  rw [World.size_alloc] at this
  exact this
end
section
structure PreOk (ns : List Nat) (c : List Int) : Prop where
 len : c.length ≤ ns.length
 val : ∀ u, u < c.length → -1 ≤ c.getD u 0 ∧ c.getD u 0 < ns.getD u 0
theorem pre_at {w : World} {F : Nat → Prop} {cv : Value} {c : List Int} {ns : List Nat} (h : SliceRd tInt w F cv c) (hc : PreOk ns c) {u : Nat} (hu : u < c.length) :
  ∃ A cap g o i, cv = .slice A c.length cap ∧ A = some ⟨g, o, none⟩ ∧ F g ∧ w.cell? ⟨g, o + u, none⟩ = some (.int .i64 ((i : Nat) - 1)) ∧ i ≤ ns.getD u 0 ∧ valN c u = 2 ^ i := by
 obtain ⟨A, cap, rfl, hcap, hmax, hat⟩ := h.ints
 obtain ⟨g, o, hA, hF, hcell, -⟩ := hat u hu
 have hv := hc.val u hu
 rw [List.getD_eq_getElem?_getD, List.getElem?_eq_getElem hu] at hv
 simp only [Option.getD_some] at hv
 refine ⟨A, cap, g, o, (c[u] + 1).toNat, rfl, hA, hF, ?_, by omega, ?_⟩
 ·rw [hcell]
  congr 2
  omega
 ·unfold valN
  rw [List.getD_eq_getElem?_getD, List.getElem?_eq_getElem hu]
  rfl
theorem valN_pre {ns : List Nat} (ho : NsOk ns) {c : List Int} (hc : PreOk ns c) {u : Nat} (hu : u < c.length) : valN c u ≤ 16 := by
 have hun : u < ns.length := Nat.lt_of_lt_of_le hu hc.len
 have h1 := hc.val u hu
 have h2 := ho.le u hun
 rw [List.getD_eq_getElem?_getD (l := ns), List.getElem?_eq_getElem hun] at h1
 simp only [Option.getD_some] at h1
 unfold valN
 have : 2 ^ (c.getD u 0 + 1).toNat ≤ 2 ^ 4 := Nat.pow_le_pow_right (by decide) (by omega)
 exact this
set_option maxRecDepth 100000 in
set_option maxHeartbeats 1000000 in
theorem rvalue_pre (v cv : Value) (ns : List Nat) (c : List Int) (u : Nat) (w : World) (h : qi7 w (Lt w.heap.size) v ns) (ho : NsOk ns) (hcv : SliceRd tInt w (Lt w.heap.size) cv c) (hc : PreOk ns c) (hu : u < c.length) :
  Calls Tryz.prog 149 #[v, cv, .int .i64 u] w fun e w' => e = .returned (.int .i64 (valN c u : Nat)) ∧ Below w.heap.size w w' := by
 obtain ⟨A, cap, g1, o1, i, rfl, rfl, hg1, hci, hin, hval⟩ := pre_at hcv hc hu
 have hun : u < ns.length := Nat.lt_of_lt_of_le hu hc.len
 obtain ⟨g, cap0, rfl, hg, hat⟩ := h
 obtain ⟨Ak, ck, hck⟩ := hat u hun
 have hn := ho.le u hun
 rw [List.getD_eq_getElem?_getD, List.getElem?_eq_getElem hun] at hin
 simp only [Option.getD_some] at hin
 generalize ns[u] = n at *
 have k1 : (0 : Int) ≤ ↑u := by omega
 have k2 : (↑u : Int) < ↑ns.length := by omega
 have k3 : (↑u : Int) < ↑c.length := by omega
 obtain ⟨x, hx⟩ : ∃ x : Int, x = (i : Int) - 1 := ⟨_, rfl⟩
 have HX := hid hx
 rw [← hx] at hci
 have p := pw_bd (i := i) (by omega)
 have HV := hid hval
 have z2 : decide (x < -1) = false := decide_eq_false (by omega)
 have z3 : decide ((n : Int) ≤ x) = false := decide_eq_false (by omega)
 have m1 : min (n : Int) 16 = n := by omega
 have y1 : IntKind.i64.wrap (x + 1) = x + 1 := IntWalk.i64_in _ (by omega)
 have y2 : x + 1 = i := by omega
 clear hat hcv hc hval hx
 go_enter Tryz.func149, Tryz.ntmps149
 go_wp2
 obtain ⟨w0, hw0⟩ : ∃ w0 : World, w0 = w.alloc (.cells #[.slice (some ⟨g, 0, none⟩) ns.length cap0] 26) := ⟨_, rfl⟩
 have hb0 : Below w.heap.size w w0 := hw0 ▸ qa0 (b0 w) _
 have hl0 : w.heap.size < w0.heap.size := by rw [hw0]; simp
 have hx0 : w0.cell? ⟨w.heap.size, 0, none⟩ = some (.slice (some ⟨g, 0, none⟩) ns.length cap0) := by rw [hw0, qa6]; rfl
 have l1 := qa2 hl0 hx0
 have l2 := qa2 (Nat.lt_of_lt_of_le hg hb0.size) (cell_below hb0 hg hck)
 have l3 := qa2 (Nat.lt_of_lt_of_le hg1 hb0.size) (cell_below hb0 hg1 hci)
 have HB0 := hid hb0
 have HI := hid hin
 rw [← hw0]
 clear hw0 hx0 hck hci hb0 hin
 (refine qa3 (by kernel_rfl) (by kernel_rfl) ?_; (repeat (go_big_quiet_step ((fail)))); refine wpQuiet_nil ?_; rintro _ ⟨e1, rfl⟩)
 have hci1 := l3 e1
 obtain ⟨wx, hwx⟩ : ∃ wx : World, wx = e1.w := ⟨_, rfl⟩
 have HBX := hid (show Below w0.heap.size w0 wx from hwx ▸ e1.below)
 rw [← hwx] at hci1 ⊢
 clear hwx l1 l2 l3
 have Y2 := hid y2
 clear m1 y1 y2 p z2 z3
 go_wp2_with fail
 rw [IntWalk.wrap64_in (x + 1) (by have := HI.out; have := Y2.out; omega), Y2.out]
 refine (zf2 i _ (by have := HI.out; omega)).mono ?_
 rintro e w2 ⟨rfl, rfl⟩
 go_wp2_with fail
 go_ret
 exact ⟨qb7 (by rw [HV.out]; rfl), qa1 HB0.out HBX.out⟩
set_option maxRecDepth 100000 in
set_option maxHeartbeats 1000000 in
theorem rholds_pre (v cv : Value) (ns : List Nat) (c : List Int) (t : Term) (w : World) (h : qi7 w (Lt w.heap.size) v ns) (ho : NsOk ns) (hcv : SliceRd tInt w (Lt w.heap.size) cv c) (hc : PreOk ns c) (hu : 0 ≤ t.unit ∧ t.unit < c.length) :
  Calls Tryz.prog 122 #[v, .agg #[.int .i64 t.unit, .int .i64 t.mask], cv] w fun e w' => e = .returned (.bool (holdT c t)) ∧ Below w.heap.size w w' := by
 obtain ⟨m, hm⟩ : ∃ m, t.mask = m := ⟨_, rfl⟩
 obtain ⟨u, hun⟩ : ∃ u : Nat, t.unit = u := ⟨t.unit.toNat, by omega⟩
 have hun2 : u < c.length := by omega
 have HT : Hid (holdT c t = !(bits .and .i64 (valN c u : Nat) m == 0)) := hid (by
  have h1 := valN_pre ho hc hun2
  have h2 : nm ((valN c u : Nat) : Int) = valN c u := ql1 (by omega)
  have h3 : valN c u &&& nm m ≤ 16 := Nat.le_trans Nat.and_le_left h1
  rw [band _ _ (by rw [h2]; omega), h2]
  unfold holdT
  rw [hm, hun, Int.toNat_natCast]
  by_cases h0 : valN c u &&& nm m = 0
  ·rw [h0]; rfl
  ·have h4 : ¬ (((valN c u &&& nm m : Nat) : Int) = 0) := by omega
   simp only [bne, beq_eq_false_iff_ne.2 h0, beq_eq_false_iff_ne.2 h4])
 rw [hm, hun]
 have HH := hid h
 have HO := hid ho
 have HC := hid hcv
 have HCO := hid hc
 obtain ⟨g, cap0, rfl, -, -⟩ := h
 obtain ⟨A, cap, rfl, -, -, -⟩ := hcv.ints
 clear hcv hc ho hm hun hu
 go_enter Tryz.func122, Tryz.ntmps122
 go_wp2
 obtain ⟨w0, hw0⟩ : ∃ w0 : World, w0 = (w.alloc (.cells #[.slice (some ⟨g, 0, none⟩) ns.length cap0] 26)).alloc (.cells #[.int .i64 u, .int .i64 m] 66) := ⟨_, rfl⟩
 obtain ⟨hb0, hs0, q0, q1, q2⟩ := zl1 hw0
 have l0 := qa2 (by omega) q0
 have l1 := qa2 (by omega) q1
 have l2 := qa2 (by omega) q2
 have HU0 := hid (qc0 HH.out hb0)
 have HC0 := hid (HC.out.lift hb0 hb0.size)
 have HB0 := hid hb0
 rw [← hw0]
 clear hw0 hs0 q0 q1 q2 hb0
 (refine qa3 (by kernel_rfl) (by kernel_rfl) ?_; (repeat (go_big_quiet_step ((go_at_call 149; exact Calls.later (rvalue_pre _ _ ns c u _ (qn9 HU0.out _) HO.out (HC0.out.lift (Later.below _) (Later.below _).size) HCO.out hun2) rfl)))); refine wpQuiet_nil ?_; rintro _ ⟨⟨w1, hb1⟩, rfl⟩)
 go_wp2
 go_ret
 exact ⟨qa4 (by rw [HT.out]; rfl), qa1 HB0.out hb1⟩
end
end Go.Proofs.YtbfbppjccbppiaaGreatDoor
