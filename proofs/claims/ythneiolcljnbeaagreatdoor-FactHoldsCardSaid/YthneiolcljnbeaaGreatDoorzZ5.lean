import Derived.Test.YthneiolcljnbeaaGreatDoorzY10
import Derived.Outline
import Derived.Test.YthneiolcljnbeaaGreatDoorzM1
import Derived.BigRegion
namespace Go.Proofs.YthneiolcljnbeaaGreatDoor
open Go Go.RowKit
section
def IdxP (n : Nat) (p : Nat → Bool) (r : Int) : Prop := (r = -1 ∧ ∀ k, k < n → p k = false) ∨ ∃ k, k < n ∧ r = (k : Int) ∧ p k = true
theorem idx_any {n : Nat} {p : Nat → Bool} {r : Int} (h : IdxP n p r) : decide (0 ≤ r) = (List.range n).any p := by
 rcases h with ⟨rfl, hn⟩ | ⟨k, hk, rfl, hp⟩
 ·rw [List.any_eq_false.2 (fun t ht => by rw [hn t (List.mem_range.1 ht)]; decide)]
  decide
 ·rw [List.any_eq_true.2 ⟨k, List.mem_range.2 hk, hp⟩]
  exact decide_eq_true (by omega)
set_option maxHeartbeats 1000000 in
theorem indexW_any (A : Option Addr) (n cap : Nat) (xu av bv : Nat → Value) (p : Nat → Bool) (f : Nat) (lb : Array Value) (eg : ∀ args w, (callFunc f args).run Tryz.prog w = .ok (.enter f args) w) (w : World) (hmax : n ≤ 1000000)
  (hc : ∀ k, k < n → ∃ g o, A = some ⟨g, o, none⟩ ∧ g < w.heap.size ∧ w.cell? ⟨g, o + k * 3, none⟩ = some (xu k) ∧ w.cell? ⟨g, o + k * 3 + 1, none⟩ = some (av k) ∧ w.cell? ⟨g, o + k * 3 + 2, none⟩ = some (bv k))
  (hp : ∀ W k, k < n → Below w.heap.size w W → Calls Tryz.prog f (#[.agg #[xu k, av k, bv k]] ++ lb) W fun e w' => e = .returned (.bool (p k)) ∧ Below w.heap.size w w') :
  Calls Tryz.prog 84 #[.slice A n cap, .func (.func f) #[] lb] w fun e w' => ∃ r : Int, e = .returned (.int .i64 r) ∧ IdxP n p r ∧ Below w.heap.size w w' := by
 have HC := hid hc
 have HP := hid hp
 clear hc hp
 go_enter Tryz.func84, Tryz.ntmps84
 go_wp2
 go_loopw [5, 8] (fun _ kv wr => ∃ k : Nat, k ≤ n ∧ kv = .int .i64 k ∧ Hid (Below w.heap.size w wr) ∧ Hid (∀ j, j < k → p j = false)) (fun _ kv _ => n - (intOf kv).toNat)
 case atStart => exact ⟨0, Nat.zero_le _, rfl, hid (b0 w), hid (fun j hj => absurd hj (by omega))⟩
 case round =>
  obtain ⟨k, hk, rfl, hb, hn⟩ := hrel
  by_cases hlt : k < n
  ·obtain ⟨g, o, hA, hF, h0, h1, h2⟩ := HC.out k hlt
   subst hA
   have hcall := HP.out wr k hlt hb.out
   obtain ⟨y0, hy0⟩ : ∃ y, xu k = y := ⟨_, rfl⟩
   obtain ⟨y1, hy1⟩ : ∃ y, av k = y := ⟨_, rfl⟩
   obtain ⟨y2, hy2⟩ : ∃ y, bv k = y := ⟨_, rfl⟩
   rw [hy0] at h0
   rw [hy1] at h1
   rw [hy2] at h2
   have c0 := cell_below hb.out hF h0
   have c1 := cell_below hb.out hF h1
   have c2 := cell_below hb.out hF h2
   rw [hy0, hy1, hy2] at hcall
   have i1 : (0 : Int) ≤ ↑k := by omega
   have i2 : (↑k : Int) < ↑n := by omega
   clear hy0 h0 hy1 h1 hy2 h2
   cases hq : p k with
   | true =>
    have HQ := hid hq
    rw [hq] at hcall
    clear hq
    go_wp2_with (go_at_fn f; refine hcall.mono ?_; rintro e w' ⟨rfl, hb'⟩)
    go_ret
    exact ⟨_, rfl, .inr ⟨k, hlt, rfl, HQ.out⟩, hb'⟩
   | false =>
    have HQ := hid hq
    rw [hq] at hcall
    clear hq
    go_wp2_with (go_at_fn f; refine hcall.mono ?_; rintro e w' ⟨rfl, hb'⟩)
    exact ⟨⟨k + 1, by omega, by go_num, hid hb', hid (fun j hj => if e : j = k then by subst e; exact HQ.out else hn.out j (by omega))⟩, by simp [intOf]; omega⟩
  ·go_wp2
   go_ret
   exact ⟨_, rfl, .inl ⟨rfl, fun j hj => hn.out j (by omega)⟩, hb.out⟩
theorem containsW_any (A : Option Addr) (n cap : Nat) (xu av bv : Nat → Value) (p : Nat → Bool) (f : Nat) (lb : Array Value) (eg : ∀ args w, (callFunc f args).run Tryz.prog w = .ok (.enter f args) w) (w : World) (hmax : n ≤ 1000000)
  (hc : ∀ k, k < n → ∃ g o, A = some ⟨g, o, none⟩ ∧ g < w.heap.size ∧ w.cell? ⟨g, o + k * 3, none⟩ = some (xu k) ∧ w.cell? ⟨g, o + k * 3 + 1, none⟩ = some (av k) ∧ w.cell? ⟨g, o + k * 3 + 2, none⟩ = some (bv k))
  (hp : ∀ W k, k < n → Below w.heap.size w W → Calls Tryz.prog f (#[.agg #[xu k, av k, bv k]] ++ lb) W fun e w' => e = .returned (.bool (p k)) ∧ Below w.heap.size w w') :
  Calls Tryz.prog 55 #[.slice A n cap, .func (.func f) #[] lb] w fun e w' => e = .returned (.bool ((List.range n).any p)) ∧ Below w.heap.size w w' := by
 have hcall := indexW_any A n cap xu av bv p f lb eg w hmax hc hp
 clear hc hp eg
 go_enter Tryz.func55, Tryz.ntmps55
 go_wp2_with (go_at_call 84; refine hcall.mono ?_; rintro e w' ⟨r, rfl, hr, hb'⟩)
 go_ret
 exact ⟨ret_bool (idx_any hr), hb'⟩
set_option maxHeartbeats 1000000 in
theorem indexL_any (A : Option Addr) (n cap : Nat) (lv : Nat → Value) (p : Nat → Bool) (f : Nat) (lb : Array Value) (eg : ∀ args w, (callFunc f args).run Tryz.prog w = .ok (.enter f args) w) (w : World) (hmax : n ≤ 1000000)
  (hc : ∀ k, k < n → ∃ g o, A = some ⟨g, o, none⟩ ∧ g < w.heap.size ∧ w.cell? ⟨g, o + k, none⟩ = some (lv k))
  (hp : ∀ W k, k < n → Below w.heap.size w W → Calls Tryz.prog f (#[lv k] ++ lb) W fun e w' => e = .returned (.bool (p k)) ∧ Below w.heap.size w w') :
  Calls Tryz.prog 86 #[.slice A n cap, .func (.func f) #[] lb] w fun e w' => ∃ r : Int, e = .returned (.int .i64 r) ∧ IdxP n p r ∧ Below w.heap.size w w' := by
 have HC := hid hc
 have HP := hid hp
 clear hc hp
 go_enter Tryz.func86, Tryz.ntmps86
 go_wp2
 go_loopw [5, 8] (fun _ kv wr => ∃ k : Nat, k ≤ n ∧ kv = .int .i64 k ∧ Hid (Below w.heap.size w wr) ∧ Hid (∀ j, j < k → p j = false)) (fun _ kv _ => n - (intOf kv).toNat)
 case atStart => exact ⟨0, Nat.zero_le _, rfl, hid (b0 w), hid (fun j hj => absurd hj (by omega))⟩
 case round =>
  obtain ⟨k, hk, rfl, hb, hn⟩ := hrel
  by_cases hlt : k < n
  ·obtain ⟨g, o, hA, hF, h0⟩ := HC.out k hlt
   subst hA
   have hcall := HP.out wr k hlt hb.out
   obtain ⟨y0, hy0⟩ : ∃ y, lv k = y := ⟨_, rfl⟩
   rw [hy0] at h0
   have c0 := cell_below hb.out hF h0
   rw [hy0] at hcall
   have i1 : (0 : Int) ≤ ↑k := by omega
   have i2 : (↑k : Int) < ↑n := by omega
   clear hy0 h0
   cases hq : p k with
   | true =>
    have HQ := hid hq
    rw [hq] at hcall
    clear hq
    go_wp2_with (go_at_fn f; refine hcall.mono ?_; rintro e w' ⟨rfl, hb'⟩)
    go_ret
    exact ⟨_, rfl, .inr ⟨k, hlt, rfl, HQ.out⟩, hb'⟩
   | false =>
    have HQ := hid hq
    rw [hq] at hcall
    clear hq
    go_wp2_with (go_at_fn f; refine hcall.mono ?_; rintro e w' ⟨rfl, hb'⟩)
    exact ⟨⟨k + 1, by omega, by go_num, hid hb', hid (fun j hj => if e : j = k then by subst e; exact HQ.out else hn.out j (by omega))⟩, by simp [intOf]; omega⟩
  ·go_wp2
   go_ret
   exact ⟨_, rfl, .inl ⟨rfl, fun j hj => hn.out j (by omega)⟩, hb.out⟩
theorem containsL_any (A : Option Addr) (n cap : Nat) (lv : Nat → Value) (p : Nat → Bool) (f : Nat) (lb : Array Value) (eg : ∀ args w, (callFunc f args).run Tryz.prog w = .ok (.enter f args) w) (w : World) (hmax : n ≤ 1000000)
  (hc : ∀ k, k < n → ∃ g o, A = some ⟨g, o, none⟩ ∧ g < w.heap.size ∧ w.cell? ⟨g, o + k, none⟩ = some (lv k))
  (hp : ∀ W k, k < n → Below w.heap.size w W → Calls Tryz.prog f (#[lv k] ++ lb) W fun e w' => e = .returned (.bool (p k)) ∧ Below w.heap.size w w') :
  Calls Tryz.prog 58 #[.slice A n cap, .func (.func f) #[] lb] w fun e w' => e = .returned (.bool ((List.range n).any p)) ∧ Below w.heap.size w w' := by
 have hcall := indexL_any A n cap lv p f lb eg w hmax hc hp
 clear hc hp eg
 go_enter Tryz.func58, Tryz.ntmps58
 go_wp2_with (go_at_call 86; refine hcall.mono ?_; rintro e w' ⟨r, rfl, hr, hb'⟩)
 go_ret
 exact ⟨ret_bool (idx_any hr), hb'⟩
end
section
structure Trio (g cap0 n : Nat) (tv : Value) (kk : Int) (u p bw br bp : Nat) (w : World) : Prop where
 l1 : bw < w.heap.size
 l2 : br < w.heap.size
 l3 : bp < w.heap.size
 c : w.cell? ⟨bw, 0, none⟩ = some (.slice (some ⟨g, 0, none⟩) n cap0)
 r0 : w.cell? ⟨br, 0, none⟩ = some (.int .i64 kk)
 r1 : w.cell? ⟨br, 1, none⟩ = some (.int .i64 u)
 r2 : w.cell? ⟨br, 2, none⟩ = some (.int .i64 0)
 r3 : w.cell? ⟨br, 3, none⟩ = some (.int .i64 0)
 r4 : w.cell? ⟨br, 4, none⟩ = some tv
 p0 : w.cell? ⟨bp, 0, none⟩ = some (.int .i64 p)
theorem Trio.later {g cap0 n : Nat} {tv : Value} {kk : Int} {u p bw br bp : Nat} {w w' : World} (h : Trio g cap0 n tv kk u p bw br bp w) (hb : Below w.heap.size w w') : Trio g cap0 n tv kk u p bw br bp w' :=
 have hs := hb.size
 ⟨Nat.lt_of_lt_of_le h.l1 hs, Nat.lt_of_lt_of_le h.l2 hs, Nat.lt_of_lt_of_le h.l3 hs, cell_below hb h.l1 h.c, cell_below hb h.l2 h.r0, cell_below hb h.l2 h.r1, cell_below hb h.l2 h.r2, cell_below hb h.l2 h.r3, cell_below hb h.l2 h.r4, cell_below hb h.l3 h.p0⟩
def trioV (bw br bp : Nat) : Array Value := #[.pointer (some ⟨bw, 0, none⟩), .pointer (some ⟨br, 0, none⟩), .pointer (some ⟨bp, 0, none⟩)]
set_option maxHeartbeats 2000000 in
theorem sureC_any (a b : Value) (us : List UnitW) (M : Nat → Nat) (kk : Int) (u p g cap0 bw br bp : Nat) (At : Option Addr) (n3 ct : Nat) (x : WantD) (w : World) (ht : Trio g cap0 us.length (.slice At n3 ct) kk u p bw br bp w)
  (h : RowWant us (.agg #[.slice (some ⟨g, 0, none⟩) us.length cap0]) (.slice At n3 ct) a b M u p x w) :
  Calls Tryz.prog 56 (#[.agg #[.int .i64 x.u, a, b]] ++ trioV bw br bp) w fun e w' => e = .returned (.bool (sureN us M u p x)) ∧ Below w.heap.size w w' := by
 have HC := hid (fun (W : World) (hb : Below w.heap.size w W) => sure_any _ _ a b us M kk u p x W (h.later hb))
 obtain ⟨Aa, ca, hav, -⟩ := h.rel.shape
 obtain ⟨Ab, cb, hbv, -⟩ := h.pre.shape
 generalize x.s.rel.length = n1 at hav
 generalize x.s.pre.length = n2 at hbv
 subst hav hbv
 obtain ⟨l1, l2, l3, c, r0, r1, r2, r3, r4, p0⟩ := ht
 have m1 : bw ≠ w.heap.size := by omega
 have m2 : br ≠ w.heap.size := by omega
 have m3 : bp ≠ w.heap.size := by omega
 obtain ⟨xu, hxx⟩ : ∃ xu, x.u = xu := ⟨_, rfl⟩
 rw [hxx] at HC ⊢
 clear h hxx
 show Calls Tryz.prog 56 #[.agg #[.int .i64 xu, .slice Aa n1 ca, .slice Ab n2 cb], .pointer (some ⟨bw, 0, none⟩), .pointer (some ⟨br, 0, none⟩), .pointer (some ⟨bp, 0, none⟩)] w _
 go_enter Tryz.func56, Tryz.ntmps56
 go_wp2_with fail
 refine (HC.out _ (balloc (b0 w) _)).mono ?_
 rintro e w1 ⟨rfl, hb1⟩
 have hb2 := bstep (balloc (b0 w) _) hb1
 have HB := hid hb2
 clear hb1 hb2
 go_wp2
 go_ret
 exact ⟨rfl, HB.out⟩
set_option maxHeartbeats 2000000 in
theorem keptC_any (a b : Value) (us : List UnitW) (M : Nat → Nat) (kk : Int) (u p g cap0 bw br bp : Nat) (At : Option Addr) (n3 ct : Nat) (x : WantD) (w : World) (ht : Trio g cap0 us.length (.slice At n3 ct) kk u p bw br bp w)
  (h : RowWant us (.agg #[.slice (some ⟨g, 0, none⟩) us.length cap0]) (.slice At n3 ct) a b M u p x w) :
  Calls Tryz.prog 60 (#[.agg #[.int .i64 x.u, a, b]] ++ trioV bw br bp) w fun e w' => e = .returned (.bool (!lostN us M u p x)) ∧ Below w.heap.size w w' := by
 have HC := hid (fun (W : World) (hb : Below w.heap.size w W) => lost_any _ _ a b us M kk u p x W (h.later hb))
 obtain ⟨Aa, ca, hav, -⟩ := h.rel.shape
 obtain ⟨Ab, cb, hbv, -⟩ := h.pre.shape
 generalize x.s.rel.length = n1 at hav
 generalize x.s.pre.length = n2 at hbv
 subst hav hbv
 obtain ⟨l1, l2, l3, c, r0, r1, r2, r3, r4, p0⟩ := ht
 have m1 : bw ≠ w.heap.size := by omega
 have m2 : br ≠ w.heap.size := by omega
 have m3 : bp ≠ w.heap.size := by omega
 obtain ⟨xu, hxx⟩ : ∃ xu, x.u = xu := ⟨_, rfl⟩
 rw [hxx] at HC ⊢
 clear h hxx
 show Calls Tryz.prog 60 #[.agg #[.int .i64 xu, .slice Aa n1 ca, .slice Ab n2 cb], .pointer (some ⟨bw, 0, none⟩), .pointer (some ⟨br, 0, none⟩), .pointer (some ⟨bp, 0, none⟩)] w _
 go_enter Tryz.func60, Tryz.ntmps60
 go_wp2_with fail
 refine (HC.out _ (balloc (b0 w) _)).mono ?_
 rintro e w1 ⟨rfl, hb1⟩
 have hb2 := bstep (balloc (b0 w) _) hb1
 have HB := hid hb2
 clear hb1 hb2
 go_wp2
 go_ret
 exact ⟨rfl, HB.out⟩
structure RowCand (us : List UnitW) (v tv : Value) (M : Nat → Nat) (p : Nat) (w : World) : Prop where
 wd : WorldRd w (Lt w.heap.size) v us
 ok : UnitsOk us
 inc : IncOk (nsOf us) M
 terms : SliceRd tTerm w (Lt w.heap.size) tv (canon (nsOf us) M)
 first : FirstIs w
 p : p ≤ 3
theorem RowCand.later {us : List UnitW} {v tv : Value} {M : Nat → Nat} {p : Nat} {w w' : World} (h : RowCand us v tv M p w) (hb : Below w.heap.size w w') : RowCand us v tv M p w' :=
 ⟨h.wd.lift hb hb.size, h.ok, h.inc, h.terms.lift hb hb.size, h.first.below hb, h.p⟩
def WantsIn (n : Nat) (l : List WantD) : Prop := l.length ≤ 1000 ∧ ∀ x ∈ l, 0 ≤ x.u ∧ x.u < (n : Int)
theorem range_any {α : Type} (l : List α) (f : α → Bool) (d : Bool) : (List.range l.length).any (fun k => (l[k]?.map f).getD d) = l.any f := by
 rw [Bool.eq_iff_iff, List.any_eq_true, List.any_eq_true]
 constructor
 ·rintro ⟨k, hk, h⟩
  have hk2 := List.mem_range.1 hk
  rw [List.getElem?_eq_getElem hk2] at h
  exact ⟨_, List.getElem_mem hk2, h⟩
 ·rintro ⟨x, hx, h⟩
  obtain ⟨k, hk, rfl⟩ := List.getElem_of_mem hx
  exact ⟨k, List.mem_range.2 hk, by rw [List.getElem?_eq_getElem hk]; exact h⟩
theorem anyWant_any (f : Nat) (pr : WantD → Bool) (eg : ∀ args w, (callFunc f args).run Tryz.prog w = .ok (.enter f args) w) (us : List UnitW) (M : Nat → Nat) (kk : Int) (u p g cap0 bw br bp : Nat) (At : Option Addr) (n3 ct : Nat) (lv : Value) (l : List WantD) (w : World)
  (hpr : ∀ (a b : Value) (x : WantD) (W : World), Trio g cap0 us.length (.slice At n3 ct) kk u p bw br bp W → RowWant us (.agg #[.slice (some ⟨g, 0, none⟩) us.length cap0]) (.slice At n3 ct) a b M u p x W →
   Calls Tryz.prog f (#[.agg #[.int .i64 x.u, a, b]] ++ trioV bw br bp) W fun e w' => e = .returned (.bool (pr x)) ∧ Below W.heap.size W w')
  (ht : Trio g cap0 us.length (.slice At n3 ct) kk u p bw br bp w) (h : RowCand us (.agg #[.slice (some ⟨g, 0, none⟩) us.length cap0]) (.slice At n3 ct) M p w) (hl : SliceRd tWant w (Lt w.heap.size) lv l) (hi : WantsIn us.length l) :
  Calls Tryz.prog 55 #[lv, .func (.func f) #[] (trioV bw br bp)] w fun e w' => e = .returned (.bool (l.any pr)) ∧ Below w.heap.size w w' := by
 obtain ⟨A, cap, rfl, hcap, hmax, hc⟩ := hl.wants
 have hx : ∀ k, ∃ a b : Value, ∀ hk : k < l.length, ∃ g o, A = some ⟨g, o, none⟩ ∧ g < w.heap.size ∧ w.cell? ⟨g, o + k * 3, none⟩ = some (.int .i64 l[k].u) ∧ w.cell? ⟨g, o + k * 3 + 1, none⟩ = some a ∧ w.cell? ⟨g, o + k * 3 + 2, none⟩ = some b ∧ SliceRd fSpan.ty w (Lt w.heap.size) a l[k].s.rel ∧ SliceRd fSpan.ty w (Lt w.heap.size) b l[k].s.pre := fun k => by
  by_cases hk : k < l.length
  ·obtain ⟨g, o, a, b, h1, h2⟩ := hc k hk
   exact ⟨a, b, fun _ => ⟨g, o, h1, h2⟩⟩
  ·exact ⟨default, default, fun h => absurd h hk⟩
 obtain ⟨av, hav⟩ := Classical.axiomOfChoice hx
 obtain ⟨bv, hbv⟩ := Classical.axiomOfChoice hav
 have e := containsW_any A l.length cap (fun k => (l[k]?.map fun x => Value.int .i64 x.u).getD default) av bv (fun k => (l[k]?.map pr).getD false) f (trioV bw br bp) eg w (by have := hi.1; omega) (fun k hk => by
  obtain ⟨g, o, h1, h2, h3, h4, h5, -⟩ := hbv k hk
  refine ⟨g, o, h1, h2, ?_, h4, h5⟩
  rw [List.getElem?_eq_getElem hk]
  exact h3) (fun W k hk hb => by
  obtain ⟨g, o, h1, h2, h3, h4, h5, h6, h7⟩ := hbv k hk
  rw [List.getElem?_eq_getElem hk]
  have hm := hi.2 _ (List.getElem_mem hk)
  have h8 := h.later hb
  refine (hpr (av k) (bv k) l[k] W (ht.later hb) ⟨h8.wd, h8.ok, h8.inc, h8.terms, h6.lift hb hb.size, h7.lift hb hb.size, hm.1, hm.2, h8.first, h8.p⟩).mono ?_
  rintro e w' ⟨rfl, hb2⟩
  exact ⟨rfl, bstep hb hb2⟩)
 rw [range_any l pr false] at e
 exact e
set_option maxHeartbeats 2000000 in
theorem needC_any (us : List UnitW) (M : Nat → Nat) (kk : Int) (u p g cap0 bw br bp : Nat) (At : Option Addr) (n3 ct : Nat) (lv : Value) (l : List WantD) (w : World)
  (ht : Trio g cap0 us.length (.slice At n3 ct) kk u p bw br bp w) (h : RowCand us (.agg #[.slice (some ⟨g, 0, none⟩) us.length cap0]) (.slice At n3 ct) M p w) (hl : SliceRd tWant w (Lt w.heap.size) lv l) (hi : WantsIn us.length l) :
  Calls Tryz.prog 59 (#[lv] ++ trioV bw br bp) w fun e w' => e = .returned (.bool (l.all (lostN us M u p))) ∧ Below w.heap.size w w' := by
 have HC := hid (anyWant_any 60 (fun x => !lostN us M u p x) (enters_of (P := Tryz.prog) Tryz.func60 (by kernel_rfl) rfl) us M kk u p g cap0 bw br bp At n3 ct lv l w (fun a b x W h1 h2 => keptC_any a b us M kk u p g cap0 bw br bp At n3 ct x W h1 h2) ht h hl hi)
 obtain ⟨A, cap, rfl, -⟩ := hl.wants
 clear hl ht h
 show Calls Tryz.prog 59 #[.slice A l.length cap, .pointer (some ⟨bw, 0, none⟩), .pointer (some ⟨br, 0, none⟩), .pointer (some ⟨bp, 0, none⟩)] w _
 have HE : Hid ((!l.any fun x => !lostN us M u p x) = l.all (lostN us M u p)) := hid (by rw [List.any_eq_not_all_not]; simp)
 obtain ⟨bb, hbb⟩ : ∃ bb, (l.any fun x => !lostN us M u p x) = bb := ⟨_, rfl⟩
 rw [hbb] at HC HE
 clear hbb
 unfold trioV at HC
 go_enter Tryz.func59, Tryz.ntmps59
 go_wp2_with (go_at_call 55; refine HC.out.mono ?_; rintro e w' ⟨rfl, hb'⟩)
 go_ret
 exact ⟨ret_bool HE.out, hb'⟩
end
end Go.Proofs.YthneiolcljnbeaaGreatDoor
