import Derived.Test.YtilgijmokjekgaaGreatDoorzZ4
import Derived.Test.YtilgijmokjekgaaGreatDoorzA6
import Derived.BigRegion
import Derived.Outline
section
/- Contracts: fact.broken and its closures. -/
namespace Go.Proofs.YtilgijmokjekgaaGreatDoor
open Go Go.RowKit

/-- The three boxes that fact.broken's closures hold. -/
structure Trio (g cap0 n : Nat) (tv : Value) (kk : Int) (u p bw br bp : Nat) (w : World) : Prop where
  l1 : bw < w.heap.size
  l2 : br < w.heap.size
  l3 : bp < w.heap.size
  c : w.cell? ⟨bw, 0, none⟩ = some (.slice (some ⟨g, 0, none⟩) n cap0)
  r0 : w.cell? ⟨br, 0, none⟩ = some (.int .i64 kk)
  r1 : w.cell? ⟨br, 1, none⟩ = some (.int .i64 u)
  r2 : w.cell? ⟨br, 2, none⟩ = some (.int .i64 0)
  r3 : w.cell? ⟨br, 3, none⟩ = some (.int .i64 0)
  r4 : w.cell? ⟨br, 4, none⟩ = some tv
  p0 : w.cell? ⟨bp, 0, none⟩ = some (.int .i64 p)
theorem Trio.later {g cap0 n : Nat} {tv : Value} {kk : Int} {u p bw br bp : Nat} {w w' : World} (h : Trio g cap0 n tv kk u p bw br bp w) (hb : Below w.heap.size w w') : Trio g cap0 n tv kk u p bw br bp w' :=
  have hs := hb.size
  ⟨Nat.lt_of_lt_of_le h.l1 hs, Nat.lt_of_lt_of_le h.l2 hs, Nat.lt_of_lt_of_le h.l3 hs, cell_below hb h.l1 h.c, cell_below hb h.l2 h.r0, cell_below hb h.l2 h.r1, cell_below hb h.l2 h.r2, cell_below hb h.l2 h.r3, cell_below hb h.l2 h.r4, cell_below hb h.l3 h.p0⟩
/-- A closure's captured boxes. -/
def trioV (bw br bp : Nat) : Array Value := #[.pointer (some ⟨bw, 0, none⟩), .pointer (some ⟨br, 0, none⟩), .pointer (some ⟨bp, 0, none⟩)]
set_option maxHeartbeats 2000000 in
theorem sureC_any (a b : Value) (us : List UnitW) (M : Nat → Nat) (kk : Int) (u p g cap0 bw br bp : Nat) (At : Option Addr) (n3 ct : Nat) (x : WantD) (w : World) (ht : Trio g cap0 us.length (.slice At n3 ct) kk u p bw br bp w)
    (h : RowWant us (.agg #[.slice (some ⟨g, 0, none⟩) us.length cap0]) (.slice At n3 ct) a b M u p x w) :
    Calls Tryz.prog 93 (#[.agg #[.int .i64 x.u, a, b]] ++ trioV bw br bp) w fun e w' => e = .returned (.bool (sureN us M u p x)) ∧ Below w.heap.size w w' := by
  have HC := hid (fun (W : World) (hb : Below w.heap.size w W) => sure_any _ _ a b us M kk u p x W (h.later hb))
  obtain ⟨Aa, ca, hav, -⟩ := h.rel.shape
  obtain ⟨Ab, cb, hbv, -⟩ := h.pre.shape
  generalize x.s.rel.length = n1 at hav
  generalize x.s.pre.length = n2 at hbv
  subst hav hbv
  obtain ⟨l1, l2, l3, c, r0, r1, r2, r3, r4, p0⟩ := ht
  have m1 : bw ≠ w.heap.size := by omega
  have m2 : br ≠ w.heap.size := by omega
  have m3 : bp ≠ w.heap.size := by omega
  obtain ⟨xu, hxx⟩ : ∃ xu, x.u = xu := ⟨_, rfl⟩
  rw [hxx] at HC ⊢
  clear h hxx
  show Calls Tryz.prog 93 #[.agg #[.int .i64 xu, .slice Aa n1 ca, .slice Ab n2 cb], .pointer (some ⟨bw, 0, none⟩), .pointer (some ⟨br, 0, none⟩), .pointer (some ⟨bp, 0, none⟩)] w _
  go_enter Tryz.func93, Tryz.ntmps93
  go_wp2_with fail
  refine (HC.out _ (balloc (b0 w) _)).mono ?_
  rintro e w1 ⟨rfl, hb1⟩
  have hb2 := bstep (balloc (b0 w) _) hb1
  have HB := hid hb2
  clear hb1 hb2
  go_wp2
  go_ret
  exact ⟨rfl, HB.out⟩
set_option maxHeartbeats 2000000 in
theorem keptC_any (a b : Value) (us : List UnitW) (M : Nat → Nat) (kk : Int) (u p g cap0 bw br bp : Nat) (At : Option Addr) (n3 ct : Nat) (x : WantD) (w : World) (ht : Trio g cap0 us.length (.slice At n3 ct) kk u p bw br bp w)
    (h : RowWant us (.agg #[.slice (some ⟨g, 0, none⟩) us.length cap0]) (.slice At n3 ct) a b M u p x w) :
    Calls Tryz.prog 97 (#[.agg #[.int .i64 x.u, a, b]] ++ trioV bw br bp) w fun e w' => e = .returned (.bool (!lostN us M u p x)) ∧ Below w.heap.size w w' := by
  have HC := hid (fun (W : World) (hb : Below w.heap.size w W) => lost_any _ _ a b us M kk u p x W (h.later hb))
  obtain ⟨Aa, ca, hav, -⟩ := h.rel.shape
  obtain ⟨Ab, cb, hbv, -⟩ := h.pre.shape
  generalize x.s.rel.length = n1 at hav
  generalize x.s.pre.length = n2 at hbv
  subst hav hbv
  obtain ⟨l1, l2, l3, c, r0, r1, r2, r3, r4, p0⟩ := ht
  have m1 : bw ≠ w.heap.size := by omega
  have m2 : br ≠ w.heap.size := by omega
  have m3 : bp ≠ w.heap.size := by omega
  obtain ⟨xu, hxx⟩ : ∃ xu, x.u = xu := ⟨_, rfl⟩
  rw [hxx] at HC ⊢
  clear h hxx
  show Calls Tryz.prog 97 #[.agg #[.int .i64 xu, .slice Aa n1 ca, .slice Ab n2 cb], .pointer (some ⟨bw, 0, none⟩), .pointer (some ⟨br, 0, none⟩), .pointer (some ⟨bp, 0, none⟩)] w _
  go_enter Tryz.func97, Tryz.ntmps97
  go_wp2_with fail
  refine (HC.out _ (balloc (b0 w) _)).mono ?_
  rintro e w1 ⟨rfl, hb1⟩
  have hb2 := bstep (balloc (b0 w) _) hb1
  have HB := hid hb2
  clear hb1 hb2
  go_wp2
  go_ret
  exact ⟨rfl, HB.out⟩
/-- What a row of a candidate is to be. -/
structure RowCand (us : List UnitW) (v tv : Value) (M : Nat → Nat) (p : Nat) (w : World) : Prop where
  wd : WorldRd w (Lt w.heap.size) v us
  ok : UnitsOk us
  inc : IncOk (nsOf us) M
  terms : SliceRd tTerm w (Lt w.heap.size) tv (canon (nsOf us) M)
  first : FirstIs w
  p : p ≤ 3
theorem RowCand.later {us : List UnitW} {v tv : Value} {M : Nat → Nat} {p : Nat} {w w' : World} (h : RowCand us v tv M p w) (hb : Below w.heap.size w w') : RowCand us v tv M p w' :=
  ⟨h.wd.lift hb hb.size, h.ok, h.inc, h.terms.lift hb hb.size, h.first.below hb, h.p⟩
/-- A row of wants, each of them of a unit. -/
def WantsIn (n : Nat) (l : List WantD) : Prop := l.length ≤ 1000 ∧ ∀ x ∈ l, 0 ≤ x.u ∧ x.u < (n : Int)
theorem range_any {α : Type} (l : List α) (f : α → Bool) (d : Bool) : (List.range l.length).any (fun k => (l[k]?.map f).getD d) = l.any f := by
  rw [Bool.eq_iff_iff, List.any_eq_true, List.any_eq_true]
  constructor
  · rintro ⟨k, hk, h⟩
    have hk2 := List.mem_range.1 hk
    rw [List.getElem?_eq_getElem hk2] at h
    exact ⟨_, List.getElem_mem hk2, h⟩
  · rintro ⟨x, hx, h⟩
    obtain ⟨k, hk, rfl⟩ := List.getElem_of_mem hx
    exact ⟨k, List.mem_range.2 hk, by rw [List.getElem?_eq_getElem hk]; exact h⟩
/-- ContainsFunc over a row of wants with a closure that holds the three boxes. -/
theorem anyWant_any (f : Nat) (pr : WantD → Bool) (eg : ∀ args w, (callFunc f args).run Tryz.prog w = .ok (.enter f args) w) (us : List UnitW) (M : Nat → Nat) (kk : Int) (u p g cap0 bw br bp : Nat) (At : Option Addr) (n3 ct : Nat) (lv : Value) (l : List WantD) (w : World)
    (hpr : ∀ (a b : Value) (x : WantD) (W : World), Trio g cap0 us.length (.slice At n3 ct) kk u p bw br bp W → RowWant us (.agg #[.slice (some ⟨g, 0, none⟩) us.length cap0]) (.slice At n3 ct) a b M u p x W →
      Calls Tryz.prog f (#[.agg #[.int .i64 x.u, a, b]] ++ trioV bw br bp) W fun e w' => e = .returned (.bool (pr x)) ∧ Below W.heap.size W w')
    (ht : Trio g cap0 us.length (.slice At n3 ct) kk u p bw br bp w) (h : RowCand us (.agg #[.slice (some ⟨g, 0, none⟩) us.length cap0]) (.slice At n3 ct) M p w) (hl : SliceRd tWant w (Lt w.heap.size) lv l) (hi : WantsIn us.length l) :
    Calls Tryz.prog 92 #[lv, .func (.func f) #[] (trioV bw br bp)] w fun e w' => e = .returned (.bool (l.any pr)) ∧ Below w.heap.size w w' := by
  obtain ⟨A, cap, rfl, hcap, hmax, hc⟩ := hl.wants
  have hx : ∀ k, ∃ a b : Value, ∀ hk : k < l.length, ∃ g o, A = some ⟨g, o, none⟩ ∧ g < w.heap.size ∧ w.cell? ⟨g, o + k * 3, none⟩ = some (.int .i64 l[k].u) ∧ w.cell? ⟨g, o + k * 3 + 1, none⟩ = some a ∧ w.cell? ⟨g, o + k * 3 + 2, none⟩ = some b ∧ SliceRd fSpan.ty w (Lt w.heap.size) a l[k].s.rel ∧ SliceRd fSpan.ty w (Lt w.heap.size) b l[k].s.pre := fun k => by
    by_cases hk : k < l.length
    · obtain ⟨g, o, a, b, h1, h2⟩ := hc k hk
      exact ⟨a, b, fun _ => ⟨g, o, h1, h2⟩⟩
    · exact ⟨default, default, fun h => absurd h hk⟩
  obtain ⟨av, hav⟩ := Classical.axiomOfChoice hx
  obtain ⟨bv, hbv⟩ := Classical.axiomOfChoice hav
  have e := containsW_any A l.length cap (fun k => (l[k]?.map fun x => Value.int .i64 x.u).getD default) av bv (fun k => (l[k]?.map pr).getD false) f (trioV bw br bp) eg w (by have := hi.1; omega) (fun k hk => by
    obtain ⟨g, o, h1, h2, h3, h4, h5, -⟩ := hbv k hk
    refine ⟨g, o, h1, h2, ?_, h4, h5⟩
    rw [List.getElem?_eq_getElem hk]
    exact h3) (fun W k hk hb => by
    obtain ⟨g, o, h1, h2, h3, h4, h5, h6, h7⟩ := hbv k hk
    rw [List.getElem?_eq_getElem hk]
    have hm := hi.2 _ (List.getElem_mem hk)
    have h8 := h.later hb
    refine (hpr (av k) (bv k) l[k] W (ht.later hb) ⟨h8.wd, h8.ok, h8.inc, h8.terms, h6.lift hb hb.size, h7.lift hb hb.size, hm.1, hm.2, h8.first, h8.p⟩).mono ?_
    rintro e w' ⟨rfl, hb2⟩
    exact ⟨rfl, bstep hb hb2⟩)
  rw [range_any l pr false] at e
  exact e
set_option maxHeartbeats 2000000 in
theorem needC_any (us : List UnitW) (M : Nat → Nat) (kk : Int) (u p g cap0 bw br bp : Nat) (At : Option Addr) (n3 ct : Nat) (lv : Value) (l : List WantD) (w : World)
    (ht : Trio g cap0 us.length (.slice At n3 ct) kk u p bw br bp w) (h : RowCand us (.agg #[.slice (some ⟨g, 0, none⟩) us.length cap0]) (.slice At n3 ct) M p w) (hl : SliceRd tWant w (Lt w.heap.size) lv l) (hi : WantsIn us.length l) :
    Calls Tryz.prog 96 (#[lv] ++ trioV bw br bp) w fun e w' => e = .returned (.bool (l.all (lostN us M u p))) ∧ Below w.heap.size w w' := by
  have HC := hid (anyWant_any 97 (fun x => !lostN us M u p x) (enters_of (P := Tryz.prog) Tryz.func97 (by kernel_rfl) rfl) us M kk u p g cap0 bw br bp At n3 ct lv l w (fun a b x W h1 h2 => keptC_any a b us M kk u p g cap0 bw br bp At n3 ct x W h1 h2) ht h hl hi)
  obtain ⟨A, cap, rfl, -⟩ := hl.wants
  clear hl ht h
  show Calls Tryz.prog 96 #[.slice A l.length cap, .pointer (some ⟨bw, 0, none⟩), .pointer (some ⟨br, 0, none⟩), .pointer (some ⟨bp, 0, none⟩)] w _
  have HE : Hid ((!l.any fun x => !lostN us M u p x) = l.all (lostN us M u p)) := hid (by rw [List.any_eq_not_all_not]; simp)
  obtain ⟨bb, hbb⟩ : ∃ bb, (l.any fun x => !lostN us M u p x) = bb := ⟨_, rfl⟩
  rw [hbb] at HC HE
  clear hbb
  unfold trioV at HC
  go_enter Tryz.func96, Tryz.ntmps96
  go_wp2_with (go_at_call 92; refine HC.out.mono ?_; rintro e w' ⟨rfl, hb'⟩)
  go_ret
  exact ⟨ret_bool HE.out, hb'⟩
end Go.Proofs.YtilgijmokjekgaaGreatDoor
end
section
/- Contract: fact.broken. -/
namespace Go.Proofs.YtilgijmokjekgaaGreatDoor
open Go Go.RowKit

theorem ok_wants {us : List UnitW} (ho : UnitsOk us) {u p : Nat} (hu : u < us.length) (hp : p < us[u].cands.length) : (us[u].cands[p].needs.length ≤ 8 ∧ ∀ l ∈ us[u].cands[p].needs, WantsIn us.length l) ∧ WantsIn us.length us[u].cands[p].bars := by
  have h := ho.cands _ (List.getElem_mem hu) _ (List.getElem_mem hp)
  exact ⟨⟨h.1, fun l hl => ⟨Nat.le_trans (h.2.1 l hl).1 (by decide), fun x hx => ⟨((h.2.1 l hl).2 x hx).1, ((h.2.1 l hl).2 x hx).2.1⟩⟩⟩, Nat.le_trans h.2.2.1 (by decide), fun x hx => ⟨(h.2.2.2 x hx).1, (h.2.2.2 x hx).2.1⟩⟩
set_option maxRecDepth 100000 in
set_option maxHeartbeats 4000000 in
theorem broken3_any (us : List UnitW) (M : Nat → Nat) (u p g cap0 : Nat) (At : Option Addr) (n3 ct : Nat) (w : World) (h : RowCand us (.agg #[.slice (some ⟨g, 0, none⟩) us.length cap0]) (.slice At n3 ct) M p w) (hu : u < us.length) (hp : p < us[u].cands.length) :
    Calls Tryz.prog 54 #[.agg #[.slice (some ⟨g, 0, none⟩) us.length cap0], .agg #[.int .i64 3, .int .i64 u, .int .i64 0, .int .i64 0, .slice At n3 ct], .int .i64 p] w fun e w' => e = .returned (.bool (brokenN us true M u p us[u].cands[p])) ∧ Below w.heap.size w w' := by
  have HH := hid h
  have HWI := hid (ok_wants h.ok hu hp)
  have h11 : us.length ≤ 11 := by have := h.ok.ns.hi; simpa [nsOf] using this
  have h4 : us[u].cands.length ≤ 4 := by
    have := h.ok.ns.le u (by simpa [nsOf] using hu)
    simpa [nsOf] using this
  obtain ⟨g', cap0', hv, hg, hun⟩ := h.wd.opened
  injection hv with hv
  have hv2 := congrArg Array.toList hv
  simp only [List.cons.injEq, and_true] at hv2
  injection hv2 with e1 e2 e3
  injection e1 with e1
  injection e1 with e1
  subst e1 e3
  obtain ⟨Ac, cc, hcu, hcd⟩ := hun u hu
  obtain ⟨gc, oc, nv, bv, hAc, hFc, hat, hvB, hnd, hbr⟩ := hcd p hp
  subst hAc
  obtain ⟨cd, hcdd⟩ : ∃ cd, us[u].cands[p] = cd := ⟨_, rfl⟩
  rw [hcdd] at hat hnd hbr HWI ⊢
  obtain ⟨c0, c1, c2, c3, c4, c5, c6, c7⟩ := hat
  have HND := hid hnd
  have HBR := hid hbr
  obtain ⟨An, cn, rfl, hcn, hcnm, hnl⟩ := hnd.lists
  obtain ⟨Ab, cb, rfl, hcb, hcbm, hbl⟩ := hbr.wants
  have HNL := hid hnl
  obtain ⟨n, hn⟩ : ∃ n, us[u].cands.length = n := ⟨_, rfl⟩
  rw [hn] at hcu h4
  have hp' : p < n := by rw [← hn]; exact hp
  have hgl : g < w.heap.size := hg
  have hgcl : gc < w.heap.size := hFc
  have i0 : (0 : Int) ≤ ↑u := by omega
  have i1 : (↑u : Int) < ↑us.length := by omega
  have i2 : (0 : Int) ≤ ↑p := by omega
  have i3 : (↑p : Int) < ↑n := by omega
  have HBN : Hid (brokenN us true M u p cd = cd.bars.any (sureN us M u p)) := hid rfl
  clear h hun hcd hvB hnd hbr hnl hbl hcdd hn hp hv e2
  obtain ⟨nn, hnn⟩ : ∃ nn, cd.needs.length = nn := ⟨_, rfl⟩
  obtain ⟨nb, hnb⟩ : ∃ nb, cd.bars.length = nb := ⟨_, rfl⟩
  have HNN := hid hnn
  have HNB := hid hnb
  rw [hnn] at c6 HND
  rw [hnb] at c7 HBR
  clear hnn hnb hcn hcb
  go_enter Tryz.func54, Tryz.ntmps54
  go_wp2_with fail
  obtain ⟨w0, hw0⟩ : ∃ w0 : World, w0 = ((w.alloc (.cells #[.slice (some ⟨g, 0, none⟩) us.length cap0] 25)).alloc (.cells #[.int .i64 3, .int .i64 u, .int .i64 0, .int .i64 0, .slice At n3 ct] 36)).alloc (.cells #[.int .i64 p] 3) := ⟨_, rfl⟩
  have hb0 : Below w.heap.size w w0 := hw0 ▸ balloc (balloc (balloc (b0 w) _) _) _
  have hs0 : w0.heap.size = w.heap.size + 3 := by rw [hw0]; simp
  have q0 : w0.cell? ⟨w.heap.size, 0, none⟩ = some (.slice (some ⟨g, 0, none⟩) us.length cap0) := by rw [hw0]; exact cell_below (balloc (b0 _) _) (by simp only [World.size_alloc]; omega) (alloc2_old rfl)
  have r0 : w0.cell? ⟨w.heap.size + 1, 0, none⟩ = some (.int .i64 3) := by rw [hw0]; exact cell_below (balloc (b0 _) _) (by simp only [World.size_alloc]; omega) (alloc2_new rfl)
  have r1 : w0.cell? ⟨w.heap.size + 1, 1, none⟩ = some (.int .i64 u) := by rw [hw0]; exact cell_below (balloc (b0 _) _) (by simp only [World.size_alloc]; omega) (alloc2_new rfl)
  have r2 : w0.cell? ⟨w.heap.size + 1, 2, none⟩ = some (.int .i64 0) := by rw [hw0]; exact cell_below (balloc (b0 _) _) (by simp only [World.size_alloc]; omega) (alloc2_new rfl)
  have r3 : w0.cell? ⟨w.heap.size + 1, 3, none⟩ = some (.int .i64 0) := by rw [hw0]; exact cell_below (balloc (b0 _) _) (by simp only [World.size_alloc]; omega) (alloc2_new rfl)
  have r4 : w0.cell? ⟨w.heap.size + 1, 4, none⟩ = some (.slice At n3 ct) := by rw [hw0]; exact cell_below (balloc (b0 _) _) (by simp only [World.size_alloc]; omega) (alloc2_new rfl)
  have p0 : w0.cell? ⟨w.heap.size + 1 + 1, 0, none⟩ = some (.int .i64 p) := by rw [hw0]; exact alloc3_new rfl
  have HB0 := hid hb0
  have HT0 : Hid (Trio g cap0 us.length (.slice At n3 ct) 3 u p w.heap.size (w.heap.size + 1) (w.heap.size + 1 + 1) w0) := hid ⟨by omega, by omega, by omega, q0, r0, r1, r2, r3, r4, p0⟩
  have z0 := cell_below hb0 hgl hcu
  have y0 := cell_below hb0 hgcl c0
  have y1 := cell_below hb0 hgcl c1
  have y2 := cell_below hb0 hgcl c2
  have y3 := cell_below hb0 hgcl c3
  have y4 := cell_below hb0 hgcl c4
  have y5 := cell_below hb0 hgcl c5
  have y6 := cell_below hb0 hgcl c6
  have y7 := cell_below hb0 hgcl c7
  have n0 : w.heap.size < w0.heap.size := by omega
  have n1 : w.heap.size + 1 < w0.heap.size := by omega
  have n2 : w.heap.size + 1 + 1 < w0.heap.size := by omega
  have n4 : g < w0.heap.size := by omega
  have n5 : gc < w0.heap.size := by omega
  have HS0 := hid hs0
  rw [← hw0]
  clear hw0 hb0 c0 c1 c2 c3 c4 c5 c6 c7 hcu hs0
  go_region
  obtain ⟨w1, hw1⟩ : ∃ w1 : World, w1 = (w0.alloc (.cells #[.int .i64 cd.v.major, .int .i64 cd.v.minor, .int .i64 cd.v.patch, .string cd.v.pre, .string cd.v.build, .int .i64 cd.sh, .slice An nn cn, .slice Ab nb cb] 69)).drew := ⟨_, rfl⟩
  have hb1 : Below w0.heap.size w0 w1 := hw1 ▸ bdrew (balloc (b0 w0) _)
  have k6 : w1.cell? ⟨w0.heap.size, 6, none⟩ = some (.slice An nn cn) := by rw [hw1]; exact (alloc_cell w0 _ _ 6).trans rfl
  have k7 : w1.cell? ⟨w0.heap.size, 7, none⟩ = some (.slice Ab nb cb) := by rw [hw1]; exact (alloc_cell w0 _ _ 7).trans rfl
  have k0 := cell_below hb1 n1 r0
  have HT1 := hid (HT0.out.later hb1)
  have HBW := hid (bstep HB0.out hb1)
  have HC1 := hid (HH.out.later HBW.out)
  rw [← hw1]
  clear hw1 hb1 z0 y0 y1 y2 y3 y4 y5 y6 y7 q0 r0 r1 r2 r3 r4 p0 n4 n5
  have HBR1 := hid (HBR.out.lift HBW.out HBW.out.size)
  have HCALL := hid (anyWant_any 93 (sureN us M u p) (enters_of (P := Tryz.prog) Tryz.func93 (by kernel_rfl) rfl) us M 3 u p g cap0 w.heap.size (w.heap.size + 1) (w.heap.size + 1 + 1) At n3 ct _ cd.bars w1 (fun a b x W h1 h2 => sureC_any a b us M 3 u p g cap0 w.heap.size (w.heap.size + 1) (w.heap.size + 1 + 1) At n3 ct x W h1 h2) HT1.out HC1.out HBR1.out HWI.out.2)
  unfold trioV at HCALL
  obtain ⟨bb, hbb⟩ : ∃ bb, cd.bars.any (sureN us M u p) = bb := ⟨_, rfl⟩
  rw [hbb] at HCALL HBN
  clear hbb
  go_wp2_with (go_at_call 92; refine HCALL.out.mono ?_; rintro e w2 ⟨rfl, hb2⟩)
  go_ret
  exact ⟨ret_bool HBN.out.symm, bstep HBW.out hb2⟩
set_option maxRecDepth 100000 in
set_option maxHeartbeats 4000000 in
theorem broken2_any (us : List UnitW) (M : Nat → Nat) (u p g cap0 : Nat) (At : Option Addr) (n3 ct : Nat) (w : World) (h : RowCand us (.agg #[.slice (some ⟨g, 0, none⟩) us.length cap0]) (.slice At n3 ct) M p w) (hu : u < us.length) (hp : p < us[u].cands.length) :
    Calls Tryz.prog 54 #[.agg #[.slice (some ⟨g, 0, none⟩) us.length cap0], .agg #[.int .i64 2, .int .i64 u, .int .i64 0, .int .i64 0, .slice At n3 ct], .int .i64 p] w fun e w' => e = .returned (.bool (brokenN us false M u p us[u].cands[p])) ∧ Below w.heap.size w w' := by
  have HH := hid h
  have HWI := hid (ok_wants h.ok hu hp)
  have h11 : us.length ≤ 11 := by have := h.ok.ns.hi; simpa [nsOf] using this
  have h4 : us[u].cands.length ≤ 4 := by
    have := h.ok.ns.le u (by simpa [nsOf] using hu)
    simpa [nsOf] using this
  obtain ⟨g', cap0', hv, hg, hun⟩ := h.wd.opened
  injection hv with hv
  have hv2 := congrArg Array.toList hv
  simp only [List.cons.injEq, and_true] at hv2
  injection hv2 with e1 e2 e3
  injection e1 with e1
  injection e1 with e1
  subst e1 e3
  obtain ⟨Ac, cc, hcu, hcd⟩ := hun u hu
  obtain ⟨gc, oc, nv, bv, hAc, hFc, hat, hvB, hnd, hbr⟩ := hcd p hp
  subst hAc
  obtain ⟨cd, hcdd⟩ : ∃ cd, us[u].cands[p] = cd := ⟨_, rfl⟩
  rw [hcdd] at hat hnd hbr HWI ⊢
  obtain ⟨c0, c1, c2, c3, c4, c5, c6, c7⟩ := hat
  have HND := hid hnd
  have HBR := hid hbr
  obtain ⟨An, cn, rfl, hcn, hcnm, hnl⟩ := hnd.lists
  obtain ⟨Ab, cb, rfl, hcb, hcbm, hbl⟩ := hbr.wants
  have HNL := hid hnl
  obtain ⟨n, hn⟩ : ∃ n, us[u].cands.length = n := ⟨_, rfl⟩
  rw [hn] at hcu h4
  have hp' : p < n := by rw [← hn]; exact hp
  have hgl : g < w.heap.size := hg
  have hgcl : gc < w.heap.size := hFc
  have i0 : (0 : Int) ≤ ↑u := by omega
  have i1 : (↑u : Int) < ↑us.length := by omega
  have i2 : (0 : Int) ≤ ↑p := by omega
  have i3 : (↑p : Int) < ↑n := by omega
  have HBN : Hid (brokenN us false M u p cd = cd.needs.any fun r => r.all (lostN us M u p)) := hid rfl
  clear h hun hcd hvB hnd hbr hnl hbl hcdd hn hp hv e2
  obtain ⟨nn, hnn⟩ : ∃ nn, cd.needs.length = nn := ⟨_, rfl⟩
  obtain ⟨nb, hnb⟩ : ∃ nb, cd.bars.length = nb := ⟨_, rfl⟩
  have HNN := hid hnn
  have HNB := hid hnb
  rw [hnn] at c6 HND
  rw [hnb] at c7 HBR
  clear hnn hnb hcn hcb
  go_enter Tryz.func54, Tryz.ntmps54
  go_wp2_with fail
  obtain ⟨w0, hw0⟩ : ∃ w0 : World, w0 = ((w.alloc (.cells #[.slice (some ⟨g, 0, none⟩) us.length cap0] 25)).alloc (.cells #[.int .i64 2, .int .i64 u, .int .i64 0, .int .i64 0, .slice At n3 ct] 36)).alloc (.cells #[.int .i64 p] 3) := ⟨_, rfl⟩
  have hb0 : Below w.heap.size w w0 := hw0 ▸ balloc (balloc (balloc (b0 w) _) _) _
  have hs0 : w0.heap.size = w.heap.size + 3 := by rw [hw0]; simp
  have q0 : w0.cell? ⟨w.heap.size, 0, none⟩ = some (.slice (some ⟨g, 0, none⟩) us.length cap0) := by rw [hw0]; exact cell_below (balloc (b0 _) _) (by simp only [World.size_alloc]; omega) (alloc2_old rfl)
  have r0 : w0.cell? ⟨w.heap.size + 1, 0, none⟩ = some (.int .i64 2) := by rw [hw0]; exact cell_below (balloc (b0 _) _) (by simp only [World.size_alloc]; omega) (alloc2_new rfl)
  have r1 : w0.cell? ⟨w.heap.size + 1, 1, none⟩ = some (.int .i64 u) := by rw [hw0]; exact cell_below (balloc (b0 _) _) (by simp only [World.size_alloc]; omega) (alloc2_new rfl)
  have r2 : w0.cell? ⟨w.heap.size + 1, 2, none⟩ = some (.int .i64 0) := by rw [hw0]; exact cell_below (balloc (b0 _) _) (by simp only [World.size_alloc]; omega) (alloc2_new rfl)
  have r3 : w0.cell? ⟨w.heap.size + 1, 3, none⟩ = some (.int .i64 0) := by rw [hw0]; exact cell_below (balloc (b0 _) _) (by simp only [World.size_alloc]; omega) (alloc2_new rfl)
  have r4 : w0.cell? ⟨w.heap.size + 1, 4, none⟩ = some (.slice At n3 ct) := by rw [hw0]; exact cell_below (balloc (b0 _) _) (by simp only [World.size_alloc]; omega) (alloc2_new rfl)
  have p0 : w0.cell? ⟨w.heap.size + 1 + 1, 0, none⟩ = some (.int .i64 p) := by rw [hw0]; exact alloc3_new rfl
  have HB0 := hid hb0
  have HT0 : Hid (Trio g cap0 us.length (.slice At n3 ct) 2 u p w.heap.size (w.heap.size + 1) (w.heap.size + 1 + 1) w0) := hid ⟨by omega, by omega, by omega, q0, r0, r1, r2, r3, r4, p0⟩
  have z0 := cell_below hb0 hgl hcu
  have y0 := cell_below hb0 hgcl c0
  have y1 := cell_below hb0 hgcl c1
  have y2 := cell_below hb0 hgcl c2
  have y3 := cell_below hb0 hgcl c3
  have y4 := cell_below hb0 hgcl c4
  have y5 := cell_below hb0 hgcl c5
  have y6 := cell_below hb0 hgcl c6
  have y7 := cell_below hb0 hgcl c7
  have n0 : w.heap.size < w0.heap.size := by omega
  have n1 : w.heap.size + 1 < w0.heap.size := by omega
  have n2 : w.heap.size + 1 + 1 < w0.heap.size := by omega
  have n4 : g < w0.heap.size := by omega
  have n5 : gc < w0.heap.size := by omega
  have HS0 := hid hs0
  rw [← hw0]
  clear hw0 hb0 c0 c1 c2 c3 c4 c5 c6 c7 hcu hs0
  go_region
  obtain ⟨w1, hw1⟩ : ∃ w1 : World, w1 = (w0.alloc (.cells #[.int .i64 cd.v.major, .int .i64 cd.v.minor, .int .i64 cd.v.patch, .string cd.v.pre, .string cd.v.build, .int .i64 cd.sh, .slice An nn cn, .slice Ab nb cb] 69)).drew := ⟨_, rfl⟩
  have hb1 : Below w0.heap.size w0 w1 := hw1 ▸ bdrew (balloc (b0 w0) _)
  have k6 : w1.cell? ⟨w0.heap.size, 6, none⟩ = some (.slice An nn cn) := by rw [hw1]; exact (alloc_cell w0 _ _ 6).trans rfl
  have k7 : w1.cell? ⟨w0.heap.size, 7, none⟩ = some (.slice Ab nb cb) := by rw [hw1]; exact (alloc_cell w0 _ _ 7).trans rfl
  have k0 := cell_below hb1 n1 r0
  have HT1 := hid (HT0.out.later hb1)
  have HBW := hid (bstep HB0.out hb1)
  have HC1 := hid (HH.out.later HBW.out)
  rw [← hw1]
  clear hw1 hb1 z0 y0 y1 y2 y3 y4 y5 y6 y7 q0 r0 r1 r2 r3 r4 p0 n4 n5
  have HND1 := hid (HND.out.lift HBW.out HBW.out.size)
  obtain ⟨An', cn', hAn, -, -, hnl1⟩ := HND1.out.lists
  injection hAn with e1 e2 e3
  subst e1 e3
  have hx : ∀ k, ∃ lv : Value, ∀ hk : k < cd.needs.length, ∃ g o, An = some ⟨g, o, none⟩ ∧ g < w1.heap.size ∧ w1.cell? ⟨g, o + k, none⟩ = some lv ∧ SliceRd tWant w1 (Lt w1.heap.size) lv cd.needs[k] := fun k => by
    by_cases hk : k < cd.needs.length
    · obtain ⟨g, o, lv, h1, h2, h3, h4⟩ := hnl1 k hk
      exact ⟨lv, fun _ => ⟨g, o, h1, h2, h3, h4⟩⟩
    · exact ⟨default, fun h => absurd h hk⟩
  obtain ⟨lv, hlv⟩ := Classical.axiomOfChoice hx
  have hcall := containsL_any An nn cn lv (fun k => (cd.needs[k]?.map fun r => r.all (lostN us M u p)).getD false) 96 (trioV w.heap.size (w.heap.size + 1) (w.heap.size + 1 + 1)) (enters_of (P := Tryz.prog) Tryz.func96 (by kernel_rfl) rfl) w1 (by have := HWI.out.1.1; have := HNN.out; omega) (fun k hk => by
    obtain ⟨g, o, h1, h2, h3, -⟩ := hlv k (by rw [HNN.out]; exact hk)
    exact ⟨g, o, h1, h2, h3⟩) (fun W k hk hb => by
    have hk2 : k < cd.needs.length := by rw [HNN.out]; exact hk
    obtain ⟨-, -, -, -, -, h4⟩ := hlv k hk2
    rw [List.getElem?_eq_getElem hk2]
    refine (needC_any us M 2 u p g cap0 w.heap.size (w.heap.size + 1) (w.heap.size + 1 + 1) At n3 ct (lv k) cd.needs[k] W (HT1.out.later hb) (HC1.out.later hb) (h4.lift hb hb.size) (HWI.out.1.2 _ (List.getElem_mem hk2))).mono ?_
    rintro e w' ⟨rfl, hb2⟩
    exact ⟨rfl, bstep hb hb2⟩)
  rw [← HNN.out, range_any cd.needs (fun r => r.all (lostN us M u p)) false, HNN.out] at hcall
  have HCALL := hid hcall
  unfold trioV at HCALL
  obtain ⟨bb, hbb⟩ : ∃ bb, (cd.needs.any fun r => r.all (lostN us M u p)) = bb := ⟨_, rfl⟩
  rw [hbb] at HCALL HBN
  clear hbb hcall hlv hx hnl1 e2
  go_wp2_with (go_at_call 95; refine HCALL.out.mono ?_; rintro e w2 ⟨rfl, hb2⟩)
  go_ret
  exact ⟨ret_bool HBN.out.symm, bstep HBW.out hb2⟩
end Go.Proofs.YtilgijmokjekgaaGreatDoor
end
