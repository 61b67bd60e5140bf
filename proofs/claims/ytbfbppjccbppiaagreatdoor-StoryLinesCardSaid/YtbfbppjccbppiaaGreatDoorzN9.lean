import Derived.Test.YtbfbppjccbppiaaGreatDoorzGW
import Derived.Test.YtbfbppjccbppiaaGreatDoorzV17
import Derived.Deep.RegionHeld3
import Derived.Deep.RegionLaw
import Derived.Deep.DeepCutAuto
import Derived.Outline
import Derived.Test.YtbfbppjccbppiaaGreatDoorzV15
namespace Go.Proofs.YtbfbppjccbppiaaGreatDoor
open Go Go.RowKit
section
theorem ze9 : (Tryz.prog.info? 3).map (fun i => (i.zero, i.size, i.bytes)) = some (some (.int .i64 0), 1, 8) := by kernel_rfl
theorem qk7 : (Tryz.prog.info? 66).map (fun i => (i.zero, i.size, i.bytes)) = some (some (.agg #[.int .i64 0, .int .i64 0]), 2, 16) := by kernel_rfl
theorem qg9 {n : Nat} (h : n ≤ 31) : I64 (n : Int) := ⟨by omega, by omega⟩
def qh3 (M : Nat → Nat) (n : Nat) : List Int := (List.range n).map fun u => ((M u : Nat) : Int)
theorem masksL_succ (M : Nat → Nat) (n : Nat) : qh3 M (n + 1) = qh3 M n ++ [((M n : Nat) : Int)] := by unfold qh3; rw [List.range_succ, List.map_append]; rfl
theorem qf5 (M : Nat → Nat) (n : Nat) : (qh3 M n).length = n := by simp [qh3]
theorem qv0 (M : Nat → Nat) {n k : Nat} (h : k < (qh3 M n).length) : (qh3 M n)[k] = ((M k : Nat) : Int) := by simp [qh3]
theorem qo6 {M M' : Nat → Nat} {n : Nat} (h : ∀ u, u < n → M u = M' u) : qh3 M n = qh3 M' n := by
 unfold qh3
 exact List.map_congr_left fun u hu => by rw [h u (List.mem_range.1 hu)]
def FullsPost (ns : List Nat) (w : World) (e : Ending) (w' : World) : Prop := ∃ v, e = .returned v ∧ OwnF fInt 3 w.heap.size w' v (qh3 (qb8 ns) ns.length) ∧ Below w.heap.size w w'
set_option maxRecDepth 100000 in
set_option maxHeartbeats 1000000 in
theorem fulls_any (v : Value) (ns : List Nat) (w : World) (h : qi7 w (Lt w.heap.size) v ns) (ho : NsOk ns) :
  Calls Tryz.prog 84 #[v] w (FullsPost ns w) := by
 have HH := hid h
 have HO := hid ho
 obtain ⟨g, cap0, rfl, hg, -⟩ := h
 have h11 := ho.hi
 obtain ⟨ii, hii⟩ := info_parts ze9
 have HII := hid hii
 clear ho hii
 go_enter Tryz.func84, Tryz.ntmps84
 go_wp2_with fail
 obtain ⟨w0, hw0⟩ : ∃ w0 : World, w0 = w.alloc (.cells #[.slice (some ⟨g, 0, none⟩) ns.length cap0] 26) := ⟨_, rfl⟩
 have hb0 : Below w.heap.size w w0 := hw0 ▸ qa0 (b0 w) _
 have hl0 : w.heap.size < w0.heap.size := by rw [hw0]; simp
 have q0 : w0.cell? ⟨w.heap.size, 0, none⟩ = some (.slice (some ⟨g, 0, none⟩) ns.length cap0) := by rw [hw0, qa6]; rfl
 have HB0 := hid hb0
 have HQ := hid q0
 have HU0 := hid (qc0 HH.out hb0)
 rw [← hw0]
 clear hw0 hb0 q0
 go_loopw [3, 4] (fun ov iv wr => ∃ k : Nat, k ≤ ns.length ∧ iv = .int .i64 k ∧ Hid (OwnF fInt 3 w0.heap.size wr ov (qh3 (qb8 ns) k)) ∧ Hid (Below w0.heap.size w0 wr)) (fun _ iv _ => ns.length - (intOf iv).toNat)
 case atStart => exact ⟨0, Nat.zero_le _, rfl, hid (OwnF.nil _ _ _ _), hid (b0 w0)⟩
 case round =>
  obtain ⟨k, hk, rfl, hown, hb⟩ := hrel
  have d0 := cell_below hb.out hl0 HQ.out
  obtain ⟨Ao, co, rfl⟩ := hown.out.form
  by_cases hlt : k < ns.length
  ·have i2 : (↑k : Int) < ↑ns.length := by omega
   have hlen := qf5 (qb8 ns) k
   have HLEN := hid hlen
   generalize hL : qh3 (qb8 ns) k = L at hown hlen
   have HL := hid hL
   clear hL hlen
   have hk64 : I64 (k : Int) := ⟨by omega, by omega⟩
   have hfk := qj6 (ns := ns) k
   go_wp2_with (first
    | (go_at_call 22; refine (qj8 _ ns k _ _ (qc0 HU0.out hb.out) HO.out hk64 (fun _ h => h)).mono ?_; rintro e w1 ⟨rfl, hb1⟩; rw [hfk]; have HO1 := hid (hown.out.below hb1 (Nat.le_refl _)); have HB1 := hid (qa1 hb.out hb1); clear hb1)
    | (at_builtin; go_must (refine qa5 _ rfl (.tmp 12) (.tmp 16) _ rfl w0.heap.size 3 ii _ 1 8 Tryz.underlying22 HII.out.1 HII.out.2.1 HII.out.2.2.1 HII.out.2.2.2 rfl (by omega) (.slice Ao L.length co) L.length (fInt.all L) (by rfl) (by exact HO1.out.1.alloc _) (some ⟨w1.heap.size, 0, none⟩) 1 1 (fInt.cells ((qb8 ns k : Nat) : Int)) (by rfl) (by exact qm2 (f := fInt) rfl) (by simp [fInt, Value.oneCell']) (by have := HLEN.out; rw [HL.out] at this; unfold maxLen; omega) (by have := HLEN.out; rw [HL.out] at this; omega) (by have := HB1.out.size; simp; omega) ?_); intro v2 w2 hown2 hg2 hat2; have HB2 := hid (ql6 (v2 := v2) (HB1.out.alloc HB1.out.size _) (HO1.out.alloc _) (by have := HB1.out.size; simp; omega) hg2 rfl); have HO2 := hid (HO1.out.snoc (e := 3) (B := w0.heap.size) (v' := v2) (qg9 (qi2 HO.out k)) hown2); clear hown2 hg2 hat2))
   exact ⟨⟨k + 1, by omega, by go_num, hid (by rw [masksL_succ, HL.out]; exact HO2.out), HB2⟩, by simp [intOf]; omega⟩
  ·have hk : k = ns.length := by omega
   have HOF := hid (hown.out)
   rw [hk] at HOF
   generalize hL : qh3 (qb8 ns) k = L at hown
   have hLe : qh3 (qb8 ns) ns.length = L := by rw [← hk, hL]
   clear hL
   go_wp2
   go_ret
   exact ⟨_, rfl, by rw [hLe]; exact hown.out.mono HB0.out.size, qa1 HB0.out hb.out⟩
def TermsPost (r : Option (List Term)) (w : World) (e : Ending) (w' : World) : Prop := ∃ sv, e = .returned (.tuple #[sv, .bool r.isSome]) ∧ SliceRd qg1 w' (Lt w'.heap.size) sv (r.getD []) ∧ Below w.heap.size w w'
def qm7 (r : Option (List Term)) (w : World) (e : Ending) (w' : World) : Prop := ∃ sv, e = .returned (.tuple #[sv, .bool r.isSome]) ∧ SliceRd qg1 w' (fun b => w.heap.size ≤ b ∧ b < w'.heap.size) sv (r.getD []) ∧ Below w.heap.size w w'
theorem qm7.post {r : Option (List Term)} {w w' : World} {e : Ending} (h : qm7 r w e w') : TermsPost r w e w' := by
 obtain ⟨sv, h1, h2, h3⟩ := h
 exact ⟨sv, h1, h2.more fun _ hb => hb.2, h3⟩
theorem qm7.before {r : Option (List Term)} {w0 w w' : World} {e : Ending} (hb : Below w0.heap.size w0 w) (h : qm7 r w e w') : qm7 r w0 e w' := by
 obtain ⟨sv, h1, h2, h3⟩ := h
 exact ⟨sv, h1, h2.more fun _ h => ⟨Nat.le_trans hb.size h.1, h.2⟩, qa1 hb h3⟩
theorem qz9 {e : TypeId} {B C : Nat} {w : World} {v : Value} {l : List Term} (h : OwnF qd9 e B w v l) (hC : C ≤ B) : SliceRd qg1 w (fun b => C ≤ b ∧ b < w.heap.size) v l := qf8 (f := qd9) h.1 h.2 fun g hg => ⟨Nat.le_trans hC (h.lt g hg).1, (h.lt g hg).2⟩
theorem own_terms {e : TypeId} {B : Nat} {w : World} {v : Value} {l : List Term} (h : OwnF qd9 e B w v l) : SliceRd qg1 w (Lt w.heap.size) v l := h.rd
set_option maxRecDepth 100000 in
set_option maxHeartbeats 1000000 in
theorem made_new (v mv : Value) (ns : List Nat) (M : Nat → Nat) (w : World) (h : qi7 w (Lt w.heap.size) v ns) (ho : NsOk ns) (hm : SliceRd tInt w (Lt w.heap.size) mv (qh3 M ns.length)) (hM : ∀ u, u < ns.length → M u ≤ 31) :
  Calls Tryz.prog 85 #[v, mv] w (qm7 (zi1 ns M) w) := by
 have HH := hid h
 have HO := hid ho
 have HM := hid hM
 obtain ⟨g, cap0, rfl, hg, -⟩ := h
 have h11 := ho.hi
 obtain ⟨it, hit⟩ := info_parts qk7
 have HIT := hid hit
 obtain ⟨A, cap, rfl, hcap, hmax, hc⟩ := hm.ints
 rw [qf5] at hcap ⊢
 unfold maxLen at hmax
 have HC := hid hc
 clear ho hit hM hc hm
 go_enter Tryz.func85, Tryz.ntmps85
 go_wp2_with fail
 obtain ⟨w0, hw0⟩ : ∃ w0 : World, w0 = w.alloc (.cells #[.slice (some ⟨g, 0, none⟩) ns.length cap0] 26) := ⟨_, rfl⟩
 have hb0 : Below w.heap.size w w0 := hw0 ▸ qa0 (b0 w) _
 have hl0 : w.heap.size < w0.heap.size := by rw [hw0]; simp
 have q0 : w0.cell? ⟨w.heap.size, 0, none⟩ = some (.slice (some ⟨g, 0, none⟩) ns.length cap0) := by rw [hw0, qa6]; rfl
 have HB0 := hid hb0
 have HQ := hid q0
 have HU0 := hid (qc0 HH.out hb0)
 rw [← hw0]
 clear hw0 hb0 q0
 go_loopw [6, 7] (fun ov iv wr => ∃ k : Nat, k ≤ ns.length ∧ iv = .int .i64 k ∧ Hid (OwnF qd9 66 w0.heap.size wr ov (qh1 ns M k)) ∧ Hid (Below w0.heap.size w0 wr) ∧ Hid (∀ u, u < k → M u ≠ 0)) (fun _ iv _ => ns.length - (intOf iv).toNat)
 case atStart => exact ⟨0, Nat.zero_le _, rfl, hid (OwnF.nil _ _ _ _), hid (b0 w0), hid (fun u hu => absurd hu (by omega))⟩
 case round =>
  obtain ⟨k, hk, rfl, hown, hb, hnz⟩ := hrel
  obtain ⟨Ao, co, rfl⟩ := hown.out.form
  by_cases hlt : k < ns.length
  ·obtain ⟨gm, om, hA, hF, gc, -⟩ := HC.out k (by rw [qf5]; exact hlt)
   subst hA
   rw [qv0] at gc
   have hm31 := HM.out k hlt
   have c0 := cell_below hb.out (Nat.lt_of_lt_of_le hF HB0.out.size) (cell_below HB0.out hF gc)
   have i1 : (0 : Int) ≤ ↑k := by omega
   have i2 : (↑k : Int) < ↑ns.length := by omega
   clear gc
   by_cases hz : M k = 0
   ·have HN : Hid (zi1 ns M = none) := hid (by
     unfold zi1
     cases hok : okN ns M with
     | false => rfl
     | true => exact absurd hz (zr8.1 hok k hlt))
    rw [hz] at c0
    clear hz
    go_wp2
    go_ret2
    exact ⟨_, by rw [HN.out]; rfl, by rw [HN.out]; exact SliceRd.nil _ _ _, qa1 HB0.out hb.out⟩
   ·have z1 : (((M k : Nat) : Int) == 0) = false := by simp; omega
    have HZ := hid hz
    have d0 := cell_below hb.out hl0 HQ.out
    have l0 := qa2 (Nat.lt_of_lt_of_le hl0 hb.out.size) d0
    have l1 := qa2 (Nat.lt_of_lt_of_le hF (Nat.le_trans HB0.out.size hb.out.size)) c0
    have hur := qc0 HU0.out hb.out
    have hk64 : I64 (k : Int) := ⟨by omega, by omega⟩
    have hfk := qj6 (ns := ns) k
    have HCALL := hid (fun e : Later wr => hfk ▸ qj8 _ ns k e.w _ (qn9 hur e) HO.out hk64 (fun _ h => h))
    have hlen := zg3 (ns := ns) M k
    have hi64 : Hid (I64 (k : Int) ∧ I64 ((M k : Nat) : Int)) := hid ⟨hk64, qg9 hm31⟩
    clear hur hk64 hfk
    by_cases hf : M k = qb8 ns k
    ·have HS := hid (show qh1 ns M (k + 1) = qh1 ns M k by rw [ql9]; unfold tm; rw [if_pos hf]; simp)
     rw [hf] at l1 z1 c0
     generalize qb8 ns k = ff at *
     have z2 : ((ff : Int) != ff) = false := by simp
     clear hf hz
     go_wp2_with fail
     (refine qa3 (by kernel_rfl) (by kernel_rfl) ?_; (repeat (go_big_quiet_step (((go_at_call 22; exact Calls.later (HCALL.out _) rfl))))); refine wpQuiet_nil ?_; rintro _ ⟨⟨w1, hb1⟩, rfl⟩)
     go_wp2
     exact ⟨⟨k + 1, by omega, by go_num, hid (by rw [HS.out]; exact hown.out.below hb1 (Nat.le_refl _)), hid (qa1 hb.out hb1), hid (fun u hu => if e : u = k then by subst e; exact HZ.out else hnz.out u (by omega))⟩, by simp [intOf]; omega⟩
    ·have HS := hid (show qh1 ns M (k + 1) = qh1 ns M k ++ [⟨(k : Int), ((M k : Nat) : Int)⟩] by rw [ql9]; unfold tm; rw [if_neg hf]; simp)
     have z2 : (((M k : Nat) : Int) != ((qb8 ns k : Nat) : Int)) = true := by simp; omega
     generalize qb8 ns k = ff at *
     generalize hmk : M k = mk at *
     generalize qh1 ns M k = L at *
     clear hf hz
     go_wp2_with fail
     (refine qa3 (by kernel_rfl) (by kernel_rfl) ?_; (repeat (go_big_quiet_step (((go_at_call 22; exact Calls.later (HCALL.out _) rfl))))); refine wpQuiet_nil ?_; rintro _ ⟨e1, rfl⟩)
     obtain ⟨w1, hw1⟩ : ∃ w1 : World, w1 = e1.w := ⟨_, rfl⟩
     have hb1 : Below wr.heap.size wr w1 := hw1 ▸ e1.below
     rw [← hw1]
     clear hw1
     have c1 := cell_below hb1 (Nat.lt_of_lt_of_le hF (Nat.le_trans HB0.out.size hb.out.size)) c0
     have HO1 := hid (hown.out.below hb1 (Nat.le_refl _))
     have HB1 := hid (qa1 hb.out hb1)
     clear l0 l1 c0
     go_wp2_with (at_builtin; go_must (refine qa5 _ rfl (.tmp 27) (.tmp 34) _ rfl w0.heap.size 66 it _ 2 16 Tryz.underlying47 HIT.out.1 HIT.out.2.1 HIT.out.2.2.1 HIT.out.2.2.2 rfl (by omega) (.slice Ao L.length co) L.length (qd9.all L) (by rfl) (by exact HO1.out.1.alloc _) (some ⟨w1.heap.size, 0, none⟩) 1 1 (qd9.cells ⟨(k : Int), (mk : Int)⟩) (by rfl) (by exact qm2 (f := qd9) rfl) (by simp [qd9, Value.oneCell']) (by unfold maxLen; omega) (by omega) (by have := HB1.out.size; simp; omega) ?_; intro v2 w2 hown2 hg2 hat2; have HB2 := hid (ql6 (v2 := v2) (HB1.out.alloc HB1.out.size _) (HO1.out.alloc _) (by have := HB1.out.size; simp; omega) hg2 rfl); have HO2 := hid (HO1.out.snoc (e := 66) (B := w0.heap.size) (v' := v2) (show qd9.ok ⟨(k : Int), (mk : Int)⟩ from hi64.out) hown2); clear hown2 hg2 hat2))
     exact ⟨⟨k + 1, by omega, by go_num, hid (by rw [HS.out]; exact HO2.out), HB2, hid (fun u hu => if e : u = k then by subst e; rw [hmk]; exact HZ.out else hnz.out u (by omega))⟩, by simp [intOf]; omega⟩
  ·have hk : k = ns.length := by omega
   subst hk
   have HN : Hid (zi1 ns M = some (canon ns M)) := hid (by unfold zi1; rw [if_pos (zr8.2 hnz.out)])
   generalize hL : qh1 ns M ns.length = L at hown
   have HL := hid hL
   clear hL
   go_wp2
   go_ret2
   exact ⟨_, by rw [HN.out]; rfl, by rw [HN.out]; unfold canon; rw [HL.out]; exact qz9 hown.out HB0.out.size, qa1 HB0.out hb.out⟩
end
section
def butL (l : List Term) (u : Int) : List Term := l.filter fun t => !(t.unit == u)
theorem butL_succ {l : List Term} {u : Int} {k : Nat} (hk : k < l.length) : butL (l.take (k + 1)) u = butL (l.take k) u ++ (if l[k].unit = u then [] else [l[k]]) := by
 have e : l.take (k + 1) = l.take k ++ [l[k]] := by rw [List.take_add_one, List.getElem?_eq_getElem hk]; rfl
 unfold butL
 rw [e, List.filter_append]
 by_cases h : l[k].unit = u
 ·simp [h]
 ·simp [h]
set_option maxHeartbeats 1000000 in
theorem zs1 (lv : Value) (l : List Term) (u : Int) (w : World) (hl : SliceRd qg1 w (Lt w.heap.size) lv l) (hll : l.length ≤ 1000) :
  Calls Tryz.prog 120 #[lv, .int .i64 u] w fun e w' => ∃ v, e = .returned v ∧ OwnF qd9 66 w.heap.size w' v (butL l u) ∧ Below w.heap.size w w' := by
 obtain ⟨it, hit⟩ := info_parts qk7
 have HIT := hid hit
 obtain ⟨A, cap, rfl, hcap, hmax, hc⟩ := hl.terms
 have HC := hid hc
 clear hc hl hit
 go_enter Tryz.func120, Tryz.ntmps120
 go_wp2_with fail
 go_loopw [5, 6] (fun ov iv wr => ∃ k : Nat, k ≤ l.length ∧ iv = .int .i64 k ∧ Hid (OwnF qd9 66 w.heap.size wr ov (butL (l.take k) u)) ∧ Hid (Below w.heap.size w wr)) (fun _ iv _ => l.length - (intOf iv).toNat)
 case atStart => exact ⟨0, Nat.zero_le _, rfl, hid (OwnF.nil _ _ _ _), hid (b0 _)⟩
 case round =>
  obtain ⟨k, hk, rfl, ho, hb⟩ := hrel
  obtain ⟨Ao, co, hov⟩ := ho.out.form
  have hlen : (butL (l.take k) u).length ≤ 1000 := Nat.le_trans (List.length_filter_le _ _) (by rw [List.length_take]; omega)
  by_cases hlt : k < l.length
  ·obtain ⟨gg, o, hA, hF, g0, g1, i64a, i64b⟩ := HC.out k hlt
   subst hA
   have c0 := cell_below hb.out hF g0
   have c1 := cell_below hb.out hF g1
   have i1 : (0 : Int) ≤ ↑k := by omega
   have i2 : (↑k : Int) < ↑l.length := by omega
   have HSU := hid (butL_succ (u := u) hlt)
   have HOK := hid (show qd9.ok l[k] from ⟨i64a, i64b⟩)
   clear g0 g1 i64a i64b
   obtain ⟨t, ht⟩ : ∃ t, l[k] = t := ⟨_, rfl⟩
   rw [ht] at c0 c1 HSU HOK
   obtain ⟨a, m⟩ := t
   dsimp only at c0 c1
   generalize hL : butL (l.take k) u = L at HSU ho hov hlen
   subst hov
   clear ht
   by_cases he : a = u
   ·have HE := hid (show butL (l.take (k + 1)) u = L by rw [HSU.out, if_pos he, List.append_nil])
    have hz : (a == u) = true := by simpa using he
    clear he HSU
    go_wp2
    exact ⟨⟨k + 1, by omega, by go_num, hid (by rw [HE.out]; exact ho.out), hb⟩, by simp [intOf]; omega⟩
   ·have HE := hid (show butL (l.take (k + 1)) u = L ++ [⟨a, m⟩] by rw [HSU.out, if_neg he])
    have hz : (a == u) = false := by simpa using he
    have hsr := hb.out.size
    clear he HSU
    go_wp2_with (at_builtin; go_must (refine qa5 _ rfl (.tmp 20) (.tmp 25) _ rfl w.heap.size 66 it _ 2 16 Tryz.underlying47 HIT.out.1 HIT.out.2.1 HIT.out.2.2.1 HIT.out.2.2.2 rfl (by omega) (.slice Ao L.length co) L.length (qd9.all L) (by rfl) (by exact ho.out.1.alloc _) (some ⟨wr.heap.size, 0, none⟩) 1 1 (qd9.cells ⟨a, m⟩) (by rfl) (by exact qm2 (f := qd9) rfl) (by simp [qd9, Value.oneCell']) (by unfold maxLen; omega) (by omega) (by simp; omega) ?_; intro v2 w2 hown2 hg2 hat2; have HB2 := hid (ql6 (v2 := v2) (hb.out.alloc hsr _) (ho.out.alloc _) (by simp; omega) hg2 rfl); have HO2 := hid (ho.out.snoc HOK.out hown2); clear hown2 hg2 hat2))
    exact ⟨⟨k + 1, by omega, by go_num, hid (by rw [HE.out]; exact HO2.out), HB2⟩, by simp [intOf]; omega⟩
  ·have e : l.take k = l := List.take_of_length_le (by omega)
   rw [e] at ho
   go_wp2
   go_ret
   exact ⟨_, rfl, ho.out, hb.out⟩
end
section
def qi6 (l : List Term) (u : Nat) : List Term := l.filter fun t => t.unit == (u : Int)
def qm9 (l : List Term) (n : Nat) : List Term := (List.range n).flatMap fun u => qi6 l u
theorem qq2 (l : List Term) (n : Nat) : qm9 l (n + 1) = qm9 l n ++ qi6 l n := by
 unfold qm9
 rw [List.range_succ, List.flatMap_append]
 simp
theorem sortL_len (l : List Term) (n : Nat) : (qm9 l n).length ≤ n * l.length := by
 induction n with
 | zero => simp [qm9]
 | succ n ih =>
  rw [qq2, List.length_append, Nat.add_mul, Nat.one_mul]
  have := List.length_filter_le (fun t : Term => t.unit == (n : Int)) l
  unfold qi6
  omega
theorem unitL_succ {l : List Term} {u k : Nat} (hk : k < l.length) : qi6 (l.take (k + 1)) u = qi6 (l.take k) u ++ (if l[k].unit = (u : Int) then [l[k]] else []) := by
 have e : l.take (k + 1) = l.take k ++ [l[k]] := by rw [List.take_add_one, List.getElem?_eq_getElem hk]; rfl
 unfold qi6
 rw [e, List.filter_append]
 by_cases h : l[k].unit = (u : Int)
 ·simp [h]
 ·simp [h]
set_option maxHeartbeats 1000000 in
theorem rsorted_any (lv : Value) (l : List Term) (w : World) (hl : SliceRd qg1 w (Lt w.heap.size) lv l) (hll : l.length ≤ 1000) :
  Calls Tryz.prog 121 #[lv] w fun e w' => ∃ v, e = .returned v ∧ OwnF qd9 66 w.heap.size w' v (qm9 l 48) ∧ Below w.heap.size w w' := by
 obtain ⟨it, hit⟩ := info_parts qk7
 have HIT := hid hit
 obtain ⟨A, cap, rfl, hcap, hmax, hc⟩ := hl.terms
 have HC := hid hc
 clear hc hl hit
 go_enter Tryz.func121, Tryz.ntmps121
 go_wp2_with fail
 go_loopw [3, 4] (fun ov iv wr => ∃ n : Nat, n ≤ 48 ∧ iv = .int .i64 n ∧ Hid (OwnF qd9 66 w.heap.size wr ov (qm9 l n)) ∧ Hid (Below w.heap.size w wr)) (fun _ iv _ => 48 - (intOf iv).toNat)
 case atStart => exact ⟨0, by omega, rfl, hid (OwnF.nil _ _ _ _), hid (b0 _)⟩
 case round =>
  obtain ⟨n, hn, rfl, ho0, hb0⟩ := hrel
  have hsl := sortL_len l n
  have hsl2 : n * l.length ≤ 48 * 1000 := Nat.mul_le_mul hn hll
  obtain ⟨A0, c0, hov0⟩ := ho0.out.form
  by_cases hn48 : n < 48
  ·have n1 : (0 : Int) ≤ ↑n := by omega
   have n2 : (↑n : Int) < 48 := by omega
   have z48 : decide ((n : Int) < 48) = true := decide_eq_true (by omega)
   go_wp2_with fail
   go_loopw [3, 5] (fun ov iv wr => ∃ k : Nat, k ≤ l.length ∧ iv = .int .i64 k ∧ Hid (OwnF qd9 66 w.heap.size wr ov (qm9 l n ++ qi6 (l.take k) n)) ∧ Hid (Below w.heap.size w wr)) (fun _ iv _ => l.length - (intOf iv).toNat)
   case atStart => exact ⟨0, Nat.zero_le _, rfl, hid (by simpa [qi6] using ho0.out), hb0⟩
   case round =>
    obtain ⟨k, hk, rfl, ho, hb⟩ := hrel
    obtain ⟨Ao, co, hov⟩ := ho.out.form
    have hlen : (qm9 l n ++ qi6 (l.take k) n).length ≤ 60000 := by
     rw [List.length_append]
     have h1 := List.length_filter_le (fun t : Term => t.unit == (n : Int)) (l.take k)
     rw [List.length_take] at h1
     unfold qi6
     omega
    by_cases hlt : k < l.length
    ·obtain ⟨gg, o, hA, hF, g0, g1, i64a, i64b⟩ := HC.out k hlt
     subst hA
     have c0 := cell_below hb.out hF g0
     have c1 := cell_below hb.out hF g1
     have i1 : (0 : Int) ≤ ↑k := by omega
     have i2 : (↑k : Int) < ↑l.length := by omega
     have HSU := hid (unitL_succ (u := n) hlt)
     have HOK := hid (show qd9.ok l[k] from ⟨i64a, i64b⟩)
     clear g0 g1 i64a i64b
     obtain ⟨t, ht⟩ : ∃ t, l[k] = t := ⟨_, rfl⟩
     rw [ht] at c0 c1 HSU HOK
     obtain ⟨a, m⟩ := t
     dsimp only at c0 c1
     have HSU2 : Hid (qm9 l n ++ qi6 (l.take (k + 1)) n = (qm9 l n ++ qi6 (l.take k) n) ++ (if a = (n : Int) then [⟨a, m⟩] else [])) := hid (by rw [HSU.out, List.append_assoc])
     generalize hL : qm9 l n ++ qi6 (l.take k) n = L at HSU2 ho hov hlen
     subst hov
     clear ht HSU
     by_cases he : a = (n : Int)
     ·have HE := hid (show qm9 l n ++ qi6 (l.take (k + 1)) n = L ++ [⟨a, m⟩] by rw [HSU2.out, if_pos he])
      have hz : (a == (n : Int)) = true := by simpa using he
      have hsr := hb.out.size
      clear he HSU2
      go_wp2_with (at_builtin; go_must (refine qa5 _ rfl (.tmp 23) (.tmp 28) _ rfl w.heap.size 66 it _ 2 16 Tryz.underlying47 HIT.out.1 HIT.out.2.1 HIT.out.2.2.1 HIT.out.2.2.2 rfl (by omega) (.slice Ao L.length co) L.length (qd9.all L) (by rfl) (by exact ho.out.1.alloc _) (some ⟨wr.heap.size, 0, none⟩) 1 1 (qd9.cells ⟨a, m⟩) (by rfl) (by exact qm2 (f := qd9) rfl) (by simp [qd9, Value.oneCell']) (by unfold maxLen; omega) (by omega) (by simp; omega) ?_; intro v2 w2 hown2 hg2 hat2; have HB2 := hid (ql6 (v2 := v2) (hb.out.alloc hsr _) (ho.out.alloc _) (by simp; omega) hg2 rfl); have HO2 := hid (ho.out.snoc HOK.out hown2); clear hown2 hg2 hat2))
      exact ⟨⟨k + 1, by omega, by go_num, hid (by rw [HE.out]; exact HO2.out), HB2⟩, by simp [intOf]; omega⟩
     ·have HE := hid (show qm9 l n ++ qi6 (l.take (k + 1)) n = L by rw [HSU2.out, if_neg he, List.append_nil])
      have hz : (a == (n : Int)) = false := by simpa using he
      clear he HSU2
      go_wp2
      exact ⟨⟨k + 1, by omega, by go_num, hid (by rw [HE.out]; exact ho.out), hb⟩, by simp [intOf]; omega⟩
    ·have e : l.take k = l := List.take_of_length_le (by omega)
     have HS : Hid (qm9 l n ++ qi6 (l.take k) n = qm9 l (n + 1)) := hid (by rw [e, qq2])
     rw [HS.out] at ho
     go_wp2
     exact ⟨⟨n + 1, by omega, by go_num, ho, hb⟩, by simp [intOf]; omega⟩
  ·obtain rfl : n = 48 := by omega
   have z48 : decide (((48 : Nat) : Int) < 48) = false := by decide
   go_wp2
   go_ret
   exact ⟨_, rfl, ho0.out, hb0.out⟩
end
section
def qo4 (c : Cut) (v : Ver) : Bool := qk0 c && (mayV v && if c.en = 0 then decide (cmpV c.v v < 0) || (decide (cmpV c.v v = 0) && !c.after) else decide (c.en < 0))
def qk4 (s : Span) (v : Ver) : Bool := qj2 s && (mayV v && (qo4 s.lo v && !qo4 s.hi v))
def zc0 (l : List Span) (v : Ver) : Bool := qj1 l && l.any fun s => qk4 s v
def hasB (s : SetD) (v : Ver) : Bool := qj9 s.rel s.pre && (mayV v && if v.pre.size = 0 then zc0 s.rel v else zc0 s.pre v)
def zc4 (cs : List CandW) (s : SetD) : Nat → Nat
 | 0 => 0
 | k + 1 => zc4 cs s k + if (cs[k]?.map fun c => hasB s c.v).getD false = true then 2 ^ (k + 1) else 0
theorem metTo_succ {cs : List CandW} {s : SetD} {k : Nat} (hk : k < cs.length) : zc4 cs s (k + 1) = zc4 cs s k + if hasB s cs[k].v = true then 2 ^ (k + 1) else 0 := by
 show zc4 cs s k + _ = _
 rw [List.getElem?_eq_getElem hk]
 rfl
theorem metTo_lt (cs : List CandW) (s : SetD) (k : Nat) : zc4 cs s k < 2 ^ (k + 1) := by
 induction k with
 | zero => show 0 < 2 ^ (0 + 1); decide
 | succ k ih =>
  have : 2 ^ (k + 2) = 2 ^ (k + 1) + 2 ^ (k + 1) := by rw [Nat.pow_succ]; omega
  show zc4 cs s k + _ < 2 ^ (k + 2)
  split <;> omega
def metN (us : List UnitW) (x : WantD) : Nat := match us[x.u.toNat]? with
 | some u => zc4 u.cands x.s u.cands.length
 | none => 0
theorem metN_le (us : List UnitW) (x : WantD) : metN us x ≤ qb8 (nsOf us) x.u.toNat := by
 unfold metN qb8 nsOf
 rw [List.getElem?_map]
 cases us[x.u.toNat]? with
 | none => exact Nat.le_refl _
 | some u =>
  have := metTo_lt u.cands x.s u.cands.length
  show zc4 u.cands x.s u.cands.length ≤ 2 ^ (u.cands.length + 1) - 1
  omega
def zq5 (us : List UnitW) (bar : Bool) (x : WantD) : Term := ⟨x.u, ((if bar then metN us x else qb8 (nsOf us) x.u.toNat - metN us x : Nat) : Int)⟩
def qg2 (us : List UnitW) (u p : Nat) (l : List WantD) (bar : Bool) : List Term := ⟨(u : Int), ((2 ^ (p + 1) : Nat) : Int)⟩ :: l.map (zq5 us bar)
structure RowN where
 kind : Int
 u : Nat
 M : Nat → Nat
def qt4 (ns : List Nat) (x r : RowN) : Bool := decide (x.kind = r.kind) && (decide (x.u = r.u) && decide (butL (canon ns x.M) r.u = butL (canon ns r.M) r.u))
def bothN (x r : RowN) : RowN := ⟨x.kind, x.u, fun v => if v = r.u then x.M v ||| r.M v else x.M v⟩
def putN (ns : List Nat) : List RowN → RowN → List RowN
 | [], r => [r]
 | x :: l, r => if qt4 ns x r then bothN x r :: l else x :: putN ns l r
def addN (us : List UnitW) (u p : Nat) (kind : Int) (bar : Bool) (rows : List RowN) (l : List WantD) : List RowN :=
 if (qt5 (nsOf us) (qg2 us u p l bar)).isSome then putN (nsOf us) rows ⟨kind, u, qi5 (nsOf us) (qg2 us u p l bar)⟩ else rows
def qn4 (us : List UnitW) (u p : Nat) (rows : List RowN) (l : List (List WantD)) : List RowN := l.foldl (fun rows r => addN us u p 2 false rows r) rows
def zb6 (us : List UnitW) (u p : Nat) (rows : List RowN) (l : List WantD) : List RowN := l.foldl (fun rows x => addN us u p 3 true rows [x]) rows
def candN (us : List UnitW) (u p : Nat) (rows : List RowN) (c : CandW) : List RowN := zb6 us u p (qn4 us u p rows c.needs) c.bars
def qt0 (us : List UnitW) (u : Nat) (rows : List RowN) (cs : List CandW) : Nat → List RowN
 | 0 => rows
 | k + 1 => match cs[k]? with
  | some c => candN us u k (qt0 us u rows cs k) c
  | none => qt0 us u rows cs k
def zj7 (ns : List Nat) : RowN := ⟨1, 0, fun v => if v = 0 then 1 else qb8 ns v⟩
def qo0 (us : List UnitW) : Nat → List RowN
 | 0 => [zj7 (nsOf us)]
 | k + 1 => match us[k]? with
  | some u => qt0 us k (qo0 us k) u.cands u.cands.length
  | none => qo0 us k
def allN (us : List UnitW) : List RowN := qo0 us us.length
def banL (ns : List Nat) (u : Nat) (a : Nat) : List Term := [⟨(u : Int), ((qb8 ns u - (qb8 ns u &&& a) : Nat) : Int)⟩]
def banTo (ns : List Nat) (al : List Nat) : Nat → List (Nat → Nat)
 | 0 => []
 | k + 1 => match al[k]? with
  | some a => banTo ns al k ++ (if (qt5 ns (banL ns k a)).isSome then [qi5 ns (banL ns k a)] else [])
  | none => banTo ns al k
def dbM (us : List UnitW) (al : List Nat) : List (Nat → Nat) := (allN us).map (·.M) ++ banTo (nsOf us) al (min al.length us.length)
section
variable {ns : List Nat}
theorem zd9 (l m : List Term) (u : Nat) : qi6 (l ++ m) u = qi6 l u ++ qi6 m u := by unfold qi6; rw [List.filter_append]
theorem zs7 (M : Nat → Nat) (v n : Nat) : qi6 (qh1 ns M n) v = if v < n then (tm ns M v).toList else [] := by
 induction n with
 | zero => simp [qh1, qi6]
 | succ n ih =>
  rw [ql9, zd9, ih]
  have ht : qi6 (tm ns M n).toList v = if v = n then (tm ns M v).toList else [] := by
   unfold tm
   by_cases h : M n = qb8 ns n
   ·rw [if_pos h]
    by_cases e : v = n
    ·subst e; rw [if_pos h, if_pos rfl]; rfl
    ·rw [if_neg e]; rfl
   ·rw [if_neg h]
    by_cases e : v = n
    ·subst e; rw [if_neg h, if_pos rfl]; simp [qi6]
    ·have e2 : ¬ (n : Int) = (v : Int) := by omega
     rw [if_neg e]; simp [qi6, e2]
  rw [ht]
  by_cases h1 : v < n
  ·rw [if_pos h1, if_neg (by omega), if_pos (by omega)]; simp
  ·by_cases h2 : v = n
   ·subst h2
    rw [if_neg h1, if_pos rfl, if_pos (by omega)]; rfl
   ·rw [if_neg h1, if_neg h2, if_neg (by omega)]; rfl
theorem sortL_congr {l m : List Term} {n : Nat} (h : ∀ u, u < n → qi6 l u = qi6 m u) : qm9 l n = qm9 m n := by
 induction n with
 | zero => rfl
 | succ n ih => rw [qq2, qq2, ih fun u hu => h u (by omega), h n (by omega)]
theorem sort_canon (M : Nat → Nat) {n : Nat} (hn : ns.length ≤ n) : qm9 (canon ns M) n = canon ns M := by
 have h1 : ∀ k, qm9 (canon ns M) k = qh1 ns M (min k ns.length) := by
  intro k
  induction k with
  | zero => simp [qm9, qh1]
  | succ k ih =>
   rw [qq2, ih]
   have := zs7 (ns := ns) M k ns.length
   unfold canon
   rw [this]
   by_cases h : k < ns.length
   ·rw [if_pos h, Nat.min_eq_left (Nat.le_of_lt h), Nat.min_eq_left (by omega : k + 1 ≤ ns.length), ql9]
   ·rw [if_neg h, Nat.min_eq_right (by omega), Nat.min_eq_right (by omega), List.append_nil]
 rw [h1, Nat.min_eq_right hn]
 rfl
theorem unitL_but (l : List Term) (u v : Nat) : qi6 (butL l (u : Int)) v = if v = u then [] else qi6 l v := by
 unfold qi6 butL
 rw [List.filter_filter]
 by_cases e : v = u
 ·subst e
  rw [if_pos rfl]
  apply List.filter_eq_nil_iff.2
  intro t _
  by_cases h : t.unit = (v : Int) <;> simp [h]
 ·rw [if_neg e]
  apply List.filter_congr
  intro t _
  by_cases h : t.unit = (v : Int)
  ·have : ¬ t.unit = (u : Int) := by omega
   simp [h]
   omega
  ·simp [h]
theorem sort_both (M : Nat → Nat) {u m n : Nat} (hn : ns.length ≤ n) (hu : u < ns.length) (hm : m ≠ qb8 ns u) : qm9 (⟨(u : Int), (m : Int)⟩ :: butL (canon ns M) (u : Int)) n = canon ns (fun v => if v = u then m else M v) := by
 rw [← sort_canon (fun v => if v = u then m else M v) hn]
 apply sortL_congr
 intro v hv
 have e1 : qi6 (⟨(u : Int), (m : Int)⟩ :: butL (canon ns M) (u : Int)) v = qi6 [⟨(u : Int), (m : Int)⟩] v ++ qi6 (butL (canon ns M) (u : Int)) v := zd9 [_] _ v
 have e2 := zs7 (ns := ns) (fun v => if v = u then m else M v) v ns.length
 have e3 := zs7 (ns := ns) M v ns.length
 rw [e1, unitL_but]
 unfold canon
 rw [e2, e3]
 by_cases e : v = u
 ·subst e
  rw [if_pos rfl, if_pos hu]
  unfold tm
  simp [qi6, hm]
 ·have e4 : ¬ (u : Int) = (v : Int) := by omega
  rw [if_neg e]
  have e5 : qi6 [⟨(u : Int), (m : Int)⟩] v = [] := by simp [qi6, e4]
  rw [e5, List.nil_append]
  by_cases hv2 : v < ns.length
  ·rw [if_pos hv2, if_pos hv2]
   unfold tm
   simp [e]
  ·rw [if_neg hv2, if_neg hv2]
structure RowN.Ok (ns : List Nat) (r : RowN) : Prop where
 inc : IncOk ns r.M
 u : r.u < ns.length
 bit : r.kind ≠ 1 → (r.M r.u).testBit 0 = false
 kind : 1 ≤ r.kind ∧ r.kind ≤ 3
theorem full_bit0 {u : Nat} (hu : u < ns.length) : (qb8 ns u).testBit 0 = true := by rw [full_bit hu]; simp
theorem both_inc {x r : RowN} (hx : x.Ok ns) (hr : r.Ok ns) : IncOk ns (bothN x r).M := by
 refine ⟨fun v hv => ?_, fun v hv => ?_⟩
 ·show (if v = r.u then x.M v ||| r.M v else x.M v) ≠ 0
  split
  ·intro h0
   have := (Nat.left_le_or : x.M v ≤ x.M v ||| r.M v)
   rw [h0] at this
   have := hx.inc.pos v hv
   omega
  ·exact hx.inc.pos v hv
 ·show (if v = r.u then x.M v ||| r.M v else x.M v) &&& _ = (if v = r.u then x.M v ||| r.M v else x.M v)
  split
  ·rw [Nat.and_or_distrib_right, hx.inc.sub v hv, hr.inc.sub v hv]
  ·exact hx.inc.sub v hv
theorem both_ok {x r : RowN} (hx : x.Ok ns) (hr : r.Ok ns) (hl : qt4 ns x r = true) (hk : r.kind ≠ 1) : (bothN x r).Ok ns := by
 unfold qt4 at hl
 simp only [Bool.and_eq_true, decide_eq_true_eq] at hl
 obtain ⟨h1, h2, _⟩ := hl
 refine ⟨both_inc hx hr, hx.u, fun _ => ?_, hx.kind⟩
 show (if x.u = r.u then x.M x.u ||| r.M x.u else x.M x.u).testBit 0 = false
 rw [if_pos h2, Nat.testBit_or, hx.bit (by rw [h1]; exact hk)]
 rw [h2, hr.bit hk]
 rfl
theorem put_ok {rows : List RowN} {r : RowN} (h : ∀ x ∈ rows, x.Ok ns) (hr : r.Ok ns) (hk : r.kind ≠ 1) : ∀ x ∈ putN ns rows r, x.Ok ns := by
 induction rows with
 | nil => intro x hx; rcases List.mem_singleton.1 hx with rfl; exact hr
 | cons y l ih =>
  intro x hx
  unfold putN at hx
  split at hx
  ·rename_i hl
   rcases List.mem_cons.1 hx with rfl | hx
   ·exact both_ok (h y List.mem_cons_self) hr hl hk
   ·exact h x (List.mem_cons_of_mem _ hx)
  ·rcases List.mem_cons.1 hx with rfl | hx
   ·exact h _ List.mem_cons_self
   ·exact ih (fun x hx => h x (List.mem_cons_of_mem _ hx)) x hx
theorem put_len (rows : List RowN) (r : RowN) : (putN ns rows r).length ≤ rows.length + 1 := by
 induction rows with
 | nil => simp [putN]
 | cons y l ih =>
  unfold putN
  split
  ·simp
  ·simp; exact ih
theorem put_pre {rows : List RowN} {r : RowN} {k : Nat} (hk : ∀ i, (h : i < rows.length) → i < k → qt4 ns rows[i] r = false) (hle : k ≤ rows.length) : putN ns rows r = rows.take k ++ putN ns (rows.drop k) r := by
 induction rows generalizing k with
 | nil => simp
 | cons y l ih =>
  cases k with
  | zero => rfl
  | succ k =>
   have h0 := hk 0 (by simp) (by omega)
   have e : putN ns (y :: l) r = y :: putN ns l r := by
    show (if qt4 ns y r then _ else _) = _
    rw [show qt4 ns y r = false from h0]; rfl
   rw [e, ih (k := k) (fun i hi hik => hk (i + 1) (by simpa using hi) (by omega)) (by simpa using hle)]
   rfl
theorem put_hit {rows : List RowN} {r : RowN} {k : Nat} (hlt : k < rows.length) (hk : ∀ i, (h : i < rows.length) → i < k → qt4 ns rows[i] r = false) (hl : qt4 ns rows[k] r = true) : putN ns rows r = rows.set k (bothN rows[k] r) := by
 rw [put_pre hk (Nat.le_of_lt hlt), List.drop_eq_getElem_cons hlt]
 show _ ++ (if qt4 ns rows[k] r then _ else _) = _
 rw [hl, if_pos rfl, List.set_eq_take_append_cons_drop, if_pos hlt]
theorem put_miss {rows : List RowN} {r : RowN} (hk : ∀ i, (h : i < rows.length) → qt4 ns rows[i] r = false) : putN ns rows r = rows ++ [r] := by
 rw [put_pre (k := rows.length) (fun i h _ => hk i h) (Nat.le_refl _), List.take_of_length_le (Nat.le_refl _), List.drop_of_length_le (Nat.le_refl _)]
 rfl
theorem meet_head (t : Term) (l : List Term) (u : Nat) (ht : t.unit = (u : Int)) (k : Nat) (h : (qi5 ns (t :: l) u).testBit k = true) : (nm t.mask).testBit k = true := by
 rw [meet_bit] at h
 simp only [List.all_cons, Bool.and_eq_true, Bool.or_eq_true, decide_eq_true_eq] at h
 rcases h.2.1 with h1 | h1
 ·exact absurd ht h1
 ·exact h1
end
section
variable {us : List UnitW} {u p : Nat} {l : List WantD} {bar : Bool} {kind : Int} {rows : List RowN}
theorem zg5 (hu : u < us.length) (hk : kind = 2 ∨ kind = 3) (hp : p < 60) (hs : (qt5 (nsOf us) (qg2 us u p l bar)).isSome) : RowN.Ok (nsOf us) ⟨kind, u, qi5 (nsOf us) (qg2 us u p l bar)⟩ := by
 obtain ⟨r, hr⟩ := Option.isSome_iff_exists.1 hs
 refine ⟨(qz5 hr).1, by simpa [nsOf] using hu, fun _ => ?_, ⟨by show 1 ≤ kind; omega, by show kind ≤ 3; omega⟩⟩
 cases hb : (qi5 (nsOf us) (qg2 us u p l bar) u).testBit 0 with
 | false => rfl
 | true =>
  have h1 := meet_head _ _ u rfl 0 hb
  have h2 : 2 ^ (p + 1) < 18446744073709551616 := by
   have : 2 ^ (p + 1) < 2 ^ 64 := Nat.pow_lt_pow_right (by decide) (by omega)
   exact this
  rw [ql1 h2, Nat.testBit_two_pow] at h1
  simp at h1
theorem add_ok (hu : u < us.length) (hk : kind = 2 ∨ kind = 3) (hp : p < 60) (h : ∀ x ∈ rows, x.Ok (nsOf us)) : ∀ x ∈ addN us u p kind bar rows l, x.Ok (nsOf us) := by
 unfold addN
 split
 ·rename_i hs
  exact put_ok h (zg5 hu hk hp hs) (by show kind ≠ 1; omega)
 ·exact h
theorem add_len : (addN us u p kind bar rows l).length ≤ rows.length + 1 := by
 unfold addN
 split
 ·exact put_len _ _
 ·omega
end
section
variable {us : List UnitW} {u p : Nat} {rows : List RowN}
theorem zn8 (l : List (List WantD)) {k : Nat} (hk : k < l.length) : qn4 us u p rows (l.take (k + 1)) = addN us u p 2 false (qn4 us u p rows (l.take k)) l[k] := by
 unfold qn4
 rw [qn8 hk, List.foldl_append]
 rfl
theorem bars_snoc (l : List WantD) {k : Nat} (hk : k < l.length) : zb6 us u p rows (l.take (k + 1)) = addN us u p 3 true (zb6 us u p rows (l.take k)) [l[k]] := by
 unfold zb6
 rw [qn8 hk, List.foldl_append]
 rfl
theorem zf1 (hu : u < us.length) (hp : p < 60) (l : List (List WantD)) : ∀ {rows : List RowN}, (∀ x ∈ rows, x.Ok (nsOf us)) → (∀ x ∈ qn4 us u p rows l, x.Ok (nsOf us)) ∧ (qn4 us u p rows l).length ≤ rows.length + l.length := by
 induction l with
 | nil => intro rows h; exact ⟨h, by simp [qn4]⟩
 | cons y l ih =>
  intro rows h
  obtain ⟨h1, h2⟩ := ih (add_ok (l := y) (bar := false) hu (.inl rfl) hp h)
  refine ⟨h1, ?_⟩
  have := add_len (us := us) (u := u) (p := p) (kind := 2) (bar := false) (rows := rows) (l := y)
  show (qn4 us u p (addN us u p 2 false rows y) l).length ≤ _
  simp only [List.length_cons]
  omega
theorem bars_ok (hu : u < us.length) (hp : p < 60) (l : List WantD) : ∀ {rows : List RowN}, (∀ x ∈ rows, x.Ok (nsOf us)) → (∀ x ∈ zb6 us u p rows l, x.Ok (nsOf us)) ∧ (zb6 us u p rows l).length ≤ rows.length + l.length := by
 induction l with
 | nil => intro rows h; exact ⟨h, by simp [zb6]⟩
 | cons y l ih =>
  intro rows h
  obtain ⟨h1, h2⟩ := ih (add_ok (l := [y]) (bar := true) hu (.inr rfl) hp h)
  refine ⟨h1, ?_⟩
  have := add_len (us := us) (u := u) (p := p) (kind := 3) (bar := true) (rows := rows) (l := [y])
  show (zb6 us u p (addN us u p 3 true rows [y]) l).length ≤ _
  simp only [List.length_cons]
  omega
theorem cand_ok (hu : u < us.length) (hp : p < 60) {c : CandW} {m : Nat} (hc : c.ok m) (h : ∀ x ∈ rows, x.Ok (nsOf us)) : (∀ x ∈ candN us u p rows c, x.Ok (nsOf us)) ∧ (candN us u p rows c).length ≤ rows.length + 12 := by
 obtain ⟨h1, h2⟩ := zf1 hu hp c.needs h
 obtain ⟨h3, h4⟩ := bars_ok hu hp c.bars h1
 refine ⟨h3, ?_⟩
 have := hc.1
 have := hc.2.2.1
 show (zb6 us u p (qn4 us u p rows c.needs) c.bars).length ≤ _
 omega
theorem zm8 {cs : List CandW} {k : Nat} (hk : k < cs.length) : qt0 us u rows cs (k + 1) = candN us u k (qt0 us u rows cs k) cs[k] := by
 show (match cs[k]? with | some c => _ | none => _) = _
 rw [List.getElem?_eq_getElem hk]
theorem cands_ok (hu : u < us.length) {cs : List CandW} {m : Nat} (hc : ∀ c ∈ cs, c.ok m) (h : ∀ x ∈ rows, x.Ok (nsOf us)) (k : Nat) (hk : k ≤ cs.length) (h4 : cs.length ≤ 4) : (∀ x ∈ qt0 us u rows cs k, x.Ok (nsOf us)) ∧ (qt0 us u rows cs k).length ≤ rows.length + 12 * k := by
 induction k with
 | zero => exact ⟨h, by show rows.length ≤ _; omega⟩
 | succ k ih =>
  obtain ⟨h1, h2⟩ := ih (by omega)
  have hlt : k < cs.length := by omega
  rw [zm8 hlt]
  obtain ⟨h3, h5⟩ := cand_ok hu (p := k) (by omega) (hc cs[k] (List.getElem_mem hlt)) h1
  exact ⟨h3, by omega⟩
theorem zp6 {k : Nat} (hk : k < us.length) : qo0 us (k + 1) = qt0 us k (qo0 us k) us[k].cands us[k].cands.length := by
 show (match us[k]? with | some u => _ | none => _) = _
 rw [List.getElem?_eq_getElem hk]
theorem root_ok {ns : List Nat} (ho : NsOk ns) (h0 : ns.head? = some 1) : (zj7 ns).Ok ns ∧ canon ns (zj7 ns).M = [⟨0, 1⟩] := by
 obtain ⟨r, rfl⟩ : ∃ r, ns = 1 :: r := by
  cases ns with
  | nil => cases h0
  | cons x r => exact ⟨r, by rw [Option.some.inj h0]⟩
 refine ⟨⟨⟨fun v hv => ?_, fun v hv => ?_⟩, by simp [zj7], fun h => absurd rfl h, ⟨by show (1 : Int) ≤ 1; omega, by show (1 : Int) ≤ 3; omega⟩⟩, ?_⟩
 ·show (if v = 0 then 1 else qb8 _ v) ≠ 0
  split
  ·omega
  ·have := qz1 hv; omega
 ·show (if v = 0 then 1 else qb8 _ v) &&& _ = (if v = 0 then 1 else qb8 _ v)
  split
  ·rename_i e; subst e; rw [show qb8 (1 :: r) 0 = 3 from rfl]; decide
  ·exact Nat.and_self _
 ·have e : canon (1 :: r) (zj7 (1 :: r)).M = qh1 (1 :: r) (zj7 (1 :: r)).M (r.length + 1) := rfl
  rw [e]
  have : ∀ n, qh1 (1 :: r) (zj7 (1 :: r)).M (n + 1) = [⟨0, 1⟩] := by
   intro n
   induction n with
   | zero => rfl
   | succ n ih =>
    rw [ql9, ih]
    have : tm (1 :: r) (zj7 (1 :: r)).M (n + 1) = none := by
     unfold tm zj7
     rw [if_pos (if_neg (by omega))]
    rw [this]
    rfl
  exact this _
theorem units_ok (ho : UnitsOk us) (h0 : (nsOf us).head? = some 1) (k : Nat) (hk : k ≤ us.length) : (∀ x ∈ qo0 us k, x.Ok (nsOf us)) ∧ (qo0 us k).length ≤ 1 + 48 * k := by
 induction k with
 | zero => exact ⟨fun x hx => by rcases List.mem_singleton.1 hx with rfl; exact (root_ok ho.ns h0).1, by show 1 ≤ _; omega⟩
 | succ k ih =>
  obtain ⟨h1, h2⟩ := ih (by omega)
  have hlt : k < us.length := by omega
  rw [zp6 hlt]
  have h4 : us[k].cands.length ≤ 4 := by
   have := ho.ns.le k (by simpa [nsOf] using hlt)
   simpa [nsOf] using this
  obtain ⟨h3, h5⟩ := cands_ok hlt (ho.cands _ (List.getElem_mem hlt)) h1 us[k].cands.length (Nat.le_refl _) h4
  exact ⟨h3, by omega⟩
end
end
end Go.Proofs.YtbfbppjccbppiaaGreatDoor
