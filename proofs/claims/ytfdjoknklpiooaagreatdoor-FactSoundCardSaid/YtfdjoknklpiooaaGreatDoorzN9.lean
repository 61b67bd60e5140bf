import Derived.Test.YtfdjoknklpiooaaGreatDoorzN4
import Derived.Test.YtfdjoknklpiooaaGreatDoorzV18
import Derived.Deep.RegionHeld3
import Derived.Deep.RegionLaw
import Derived.Deep.DeepCutAuto
import Derived.Outline
section
/- Contracts: ref21.fulls, made, Make. -/
namespace Go.Proofs.YtfdjoknklpiooaaGreatDoor
open Go Go.RowKit

theorem int_info : (Tryz.prog.info? 3).map (fun i => (i.zero, i.size, i.bytes)) = some (some (.int .i64 0), 1, 8) := by kernel_rfl
theorem term_info : (Tryz.prog.info? 73).map (fun i => (i.zero, i.size, i.bytes)) = some (some (.agg #[.int .i64 0, .int .i64 0]), 2, 16) := by kernel_rfl
theorem i64_small {n : Nat} (h : n ≤ 31) : I64 (n : Int) := ⟨by omega, by omega⟩
/-- Masks as integers. -/
def masksL (M : Nat → Nat) (n : Nat) : List Int := (List.range n).map fun u => ((M u : Nat) : Int)
theorem masksL_succ (M : Nat → Nat) (n : Nat) : masksL M (n + 1) = masksL M n ++ [((M n : Nat) : Int)] := by unfold masksL; rw [List.range_succ, List.map_append]; rfl
theorem masksL_len (M : Nat → Nat) (n : Nat) : (masksL M n).length = n := by simp [masksL]
theorem masksL_get (M : Nat → Nat) {n k : Nat} (h : k < (masksL M n).length) : (masksL M n)[k] = ((M k : Nat) : Int) := by simp [masksL]
theorem masksL_congr {M M' : Nat → Nat} {n : Nat} (h : ∀ u, u < n → M u = M' u) : masksL M n = masksL M' n := by
 unfold masksL
 exact List.map_congr_left fun u hu => by rw [h u (List.mem_range.1 hu)]
def FullsPost (ns : List Nat) (w : World) (e : Ending) (w' : World) : Prop := ∃ v, e = .returned v ∧ OwnF fInt 3 w.heap.size w' v (masksL (fullN ns) ns.length) ∧ Below w.heap.size w w'
set_option maxRecDepth 100000 in
set_option maxHeartbeats 1000000 in
theorem fulls_any (v : Value) (ns : List Nat) (w : World) (h : UniRd w (Lt w.heap.size) v ns) (ho : NsOk ns) :
  Calls Tryz.prog 85 #[v] w (FullsPost ns w) := by
 have HH := hid h
 have HO := hid ho
 obtain ⟨g, cap0, rfl, hg, -⟩ := h
 have h11 := ho.hi
 obtain ⟨ii, hii⟩ := info_parts int_info
 have HII := hid hii
 clear ho hii
 go_enter Tryz.func85, Tryz.ntmps85
 go_wp2_with fail
 obtain ⟨w0, hw0⟩ : ∃ w0 : World, w0 = w.alloc (.cells #[.slice (some ⟨g, 0, none⟩) ns.length cap0] 29) := ⟨_, rfl⟩
 have hb0 : Below w.heap.size w w0 := hw0 ▸ balloc (b0 w) _
 have hl0 : w.heap.size < w0.heap.size := by rw [hw0]; simp
 have q0 : w0.cell? ⟨w.heap.size, 0, none⟩ = some (.slice (some ⟨g, 0, none⟩) ns.length cap0) := by rw [hw0, alloc_cell]; rfl
 have HB0 := hid hb0
 have HQ := hid q0
 have HU0 := hid (uni_later HH.out hb0)
 rw [← hw0]
 clear hw0 hb0 q0
 go_loopw [3, 4] (fun ov iv wr => ∃ k : Nat, k ≤ ns.length ∧ iv = .int .i64 k ∧ Hid (OwnF fInt 3 w0.heap.size wr ov (masksL (fullN ns) k)) ∧ Hid (Below w0.heap.size w0 wr)) (fun _ iv _ => ns.length - (intOf iv).toNat)
 case atStart => exact ⟨0, Nat.zero_le _, rfl, hid (OwnF.nil _ _ _ _), hid (b0 w0)⟩
 case round =>
  obtain ⟨k, hk, rfl, hown, hb⟩ := hrel
  have d0 := cell_below hb.out hl0 HQ.out
  obtain ⟨Ao, co, rfl⟩ := hown.out.form
  by_cases hlt : k < ns.length
  ·have i2 : (↑k : Int) < ↑ns.length := by omega
   have hlen := masksL_len (fullN ns) k
   have HLEN := hid hlen
   generalize hL : masksL (fullN ns) k = L at hown hlen
   have HL := hid hL
   clear hL hlen
   have hk64 : I64 (k : Int) := ⟨by omega, by omega⟩
   have hfk := fullF_nat (ns := ns) k
   go_wp2_with (first
    | (go_at_call 26; refine (rfull_any _ ns k _ _ (uni_later HU0.out hb.out) HO.out hk64 (fun _ h => h)).mono ?_; rintro e w1 ⟨rfl, hb1⟩; rw [hfk]; have HO1 := hid (hown.out.below hb1 (Nat.le_refl _)); have HB1 := hid (bstep hb.out hb1); clear hb1)
    | (at_builtin; go_must (refine wpList_append_src _ rfl (.tmp 12) (.tmp 16) _ rfl w0.heap.size 3 ii _ 1 8 Tryz.underlying22 HII.out.1 HII.out.2.1 HII.out.2.2.1 HII.out.2.2.2 rfl (by omega) (.slice Ao L.length co) L.length (fInt.all L) (by rfl) (by exact HO1.out.1.alloc _) (some ⟨w1.heap.size, 0, none⟩) 1 1 (fInt.cells ((fullN ns k : Nat) : Int)) (by rfl) (by exact src_one (f := fInt) rfl) (by simp [fInt, Value.oneCell']) (by have := HLEN.out; rw [HL.out] at this; unfold maxLen; omega) (by have := HLEN.out; rw [HL.out] at this; omega) (by have := HB1.out.size; simp; omega) ?_); intro v2 w2 hown2 hg2 hat2; have HB2 := hid (own_app (v2 := v2) (HB1.out.alloc HB1.out.size _) (HO1.out.alloc _) (by have := HB1.out.size; simp; omega) hg2 rfl); have HO2 := hid (HO1.out.snoc (e := 3) (B := w0.heap.size) (v' := v2) (i64_small (fullN_le HO.out k)) hown2); clear hown2 hg2 hat2))
   exact ⟨⟨k + 1, by omega, by go_num, hid (by rw [masksL_succ, HL.out]; exact HO2.out), HB2⟩, by simp [intOf]; omega⟩
  ·have hk : k = ns.length := by omega
   have HOF := hid (hown.out)
   rw [hk] at HOF
   generalize hL : masksL (fullN ns) k = L at hown
   have hLe : masksL (fullN ns) ns.length = L := by rw [← hk, hL]
   clear hL
   go_wp2
   go_ret
   exact ⟨_, rfl, by rw [hLe]; exact hown.out.mono HB0.out.size, bstep HB0.out hb.out⟩

/-- What terms and whether come back. -/
def TermsPost (r : Option (List Term)) (w : World) (e : Ending) (w' : World) : Prop := ∃ sv, e = .returned (.tuple #[sv, .bool r.isSome]) ∧ SliceRd tTerm w' (Lt w'.heap.size) sv (r.getD []) ∧ Below w.heap.size w w'
/-- Likewise, in blocks that were made. -/
def TermsNew (r : Option (List Term)) (w : World) (e : Ending) (w' : World) : Prop := ∃ sv, e = .returned (.tuple #[sv, .bool r.isSome]) ∧ SliceRd tTerm w' (fun b => w.heap.size ≤ b ∧ b < w'.heap.size) sv (r.getD []) ∧ Below w.heap.size w w'
theorem TermsNew.post {r : Option (List Term)} {w w' : World} {e : Ending} (h : TermsNew r w e w') : TermsPost r w e w' := by
 obtain ⟨sv, h1, h2, h3⟩ := h
 exact ⟨sv, h1, h2.more fun _ hb => hb.2, h3⟩
theorem TermsNew.before {r : Option (List Term)} {w0 w w' : World} {e : Ending} (hb : Below w0.heap.size w0 w) (h : TermsNew r w e w') : TermsNew r w0 e w' := by
 obtain ⟨sv, h1, h2, h3⟩ := h
 exact ⟨sv, h1, h2.more fun _ h => ⟨Nat.le_trans hb.size h.1, h.2⟩, bstep hb h3⟩
theorem own_new_terms {e : TypeId} {B C : Nat} {w : World} {v : Value} {l : List Term} (h : OwnF fTerm e B w v l) (hC : C ≤ B) : SliceRd tTerm w (fun b => C ≤ b ∧ b < w.heap.size) v l := rd_of_ownF (f := fTerm) h.1 h.2 fun g hg => ⟨Nat.le_trans hC (h.lt g hg).1, (h.lt g hg).2⟩
set_option maxRecDepth 100000 in
set_option maxHeartbeats 1000000 in
theorem made_new (v mv : Value) (ns : List Nat) (M : Nat → Nat) (w : World) (h : UniRd w (Lt w.heap.size) v ns) (ho : NsOk ns) (hm : SliceRd tInt w (Lt w.heap.size) mv (masksL M ns.length)) (hM : ∀ u, u < ns.length → M u ≤ 31) :
  Calls Tryz.prog 86 #[v, mv] w (TermsNew (madeN ns M) w) := by
 have HH := hid h
 have HO := hid ho
 have HM := hid hM
 obtain ⟨g, cap0, rfl, hg, -⟩ := h
 have h11 := ho.hi
 obtain ⟨it, hit⟩ := info_parts term_info
 have HIT := hid hit
 obtain ⟨A, cap, rfl, hcap, hmax, hc⟩ := hm.ints
 rw [masksL_len] at hcap ⊢
 unfold maxLen at hmax
 have HC := hid hc
 clear ho hit hM hc hm
 go_enter Tryz.func86, Tryz.ntmps86
 go_wp2_with fail
 obtain ⟨w0, hw0⟩ : ∃ w0 : World, w0 = w.alloc (.cells #[.slice (some ⟨g, 0, none⟩) ns.length cap0] 29) := ⟨_, rfl⟩
 have hb0 : Below w.heap.size w w0 := hw0 ▸ balloc (b0 w) _
 have hl0 : w.heap.size < w0.heap.size := by rw [hw0]; simp
 have q0 : w0.cell? ⟨w.heap.size, 0, none⟩ = some (.slice (some ⟨g, 0, none⟩) ns.length cap0) := by rw [hw0, alloc_cell]; rfl
 have HB0 := hid hb0
 have HQ := hid q0
 have HU0 := hid (uni_later HH.out hb0)
 rw [← hw0]
 clear hw0 hb0 q0
 go_loopw [6, 7] (fun ov iv wr => ∃ k : Nat, k ≤ ns.length ∧ iv = .int .i64 k ∧ Hid (OwnF fTerm 73 w0.heap.size wr ov (canonTo ns M k)) ∧ Hid (Below w0.heap.size w0 wr) ∧ Hid (∀ u, u < k → M u ≠ 0)) (fun _ iv _ => ns.length - (intOf iv).toNat)
 case atStart => exact ⟨0, Nat.zero_le _, rfl, hid (OwnF.nil _ _ _ _), hid (b0 w0), hid (fun u hu => absurd hu (by omega))⟩
 case round =>
  obtain ⟨k, hk, rfl, hown, hb, hnz⟩ := hrel
  obtain ⟨Ao, co, rfl⟩ := hown.out.form
  by_cases hlt : k < ns.length
  ·obtain ⟨gm, om, hA, hF, gc, -⟩ := HC.out k (by rw [masksL_len]; exact hlt)
   subst hA
   rw [masksL_get] at gc
   have hm31 := HM.out k hlt
   have c0 := cell_below hb.out (Nat.lt_of_lt_of_le hF HB0.out.size) (cell_below HB0.out hF gc)
   have i1 : (0 : Int) ≤ ↑k := by omega
   have i2 : (↑k : Int) < ↑ns.length := by omega
   clear gc
   by_cases hz : M k = 0
   ·have HN : Hid (madeN ns M = none) := hid (by
     unfold madeN
     cases hok : okN ns M with
     | false => rfl
     | true => exact absurd hz (okN_iff.1 hok k hlt))
    rw [hz] at c0
    clear hz
    go_wp2
    go_ret2
    exact ⟨_, by rw [HN.out]; rfl, by rw [HN.out]; exact SliceRd.nil _ _ _, bstep HB0.out hb.out⟩
   ·have z1 : (((M k : Nat) : Int) == 0) = false := by simp; omega
    have HZ := hid hz
    have d0 := cell_below hb.out hl0 HQ.out
    have l0 := later_cell (Nat.lt_of_lt_of_le hl0 hb.out.size) d0
    have l1 := later_cell (Nat.lt_of_lt_of_le hF (Nat.le_trans HB0.out.size hb.out.size)) c0
    have hur := uni_later HU0.out hb.out
    have hk64 : I64 (k : Int) := ⟨by omega, by omega⟩
    have hfk := fullF_nat (ns := ns) k
    have HCALL := hid (fun e : Later wr => hfk ▸ rfull_any _ ns k e.w _ (uni_lat hur e) HO.out hk64 (fun _ h => h))
    have hlen := canonTo_len (ns := ns) M k
    have hi64 : Hid (I64 (k : Int) ∧ I64 ((M k : Nat) : Int)) := hid ⟨hk64, i64_small hm31⟩
    clear hur hk64 hfk
    by_cases hf : M k = fullN ns k
    ·have HS := hid (show canonTo ns M (k + 1) = canonTo ns M k by rw [canonTo_succ]; unfold tm; rw [if_pos hf]; simp)
     rw [hf] at l1 z1 c0
     generalize fullN ns k = ff at *
     have z2 : ((ff : Int) != ff) = false := by simp
     clear hf hz
     go_wp2_with fail
     (refine wp_region_later (by kernel_rfl) (by kernel_rfl) ?_; (repeat (go_big_quiet_step (((go_at_call 26; exact Calls.later (HCALL.out _) rfl))))); refine wpQuiet_nil ?_; rintro _ ⟨⟨w1, hb1⟩, rfl⟩)
     go_wp2
     exact ⟨⟨k + 1, by omega, by go_num, hid (by rw [HS.out]; exact hown.out.below hb1 (Nat.le_refl _)), hid (bstep hb.out hb1), hid (fun u hu => if e : u = k then by subst e; exact HZ.out else hnz.out u (by omega))⟩, by simp [intOf]; omega⟩
    ·have HS := hid (show canonTo ns M (k + 1) = canonTo ns M k ++ [⟨(k : Int), ((M k : Nat) : Int)⟩] by rw [canonTo_succ]; unfold tm; rw [if_neg hf]; simp)
     have z2 : (((M k : Nat) : Int) != ((fullN ns k : Nat) : Int)) = true := by simp; omega
     generalize fullN ns k = ff at *
     generalize hmk : M k = mk at *
     generalize canonTo ns M k = L at *
     clear hf hz
     go_wp2_with fail
     (refine wp_region_later (by kernel_rfl) (by kernel_rfl) ?_; (repeat (go_big_quiet_step (((go_at_call 26; exact Calls.later (HCALL.out _) rfl))))); refine wpQuiet_nil ?_; rintro _ ⟨e1, rfl⟩)
     obtain ⟨w1, hw1⟩ : ∃ w1 : World, w1 = e1.w := ⟨_, rfl⟩
     have hb1 : Below wr.heap.size wr w1 := hw1 ▸ e1.below
     rw [← hw1]
     clear hw1
     have c1 := cell_below hb1 (Nat.lt_of_lt_of_le hF (Nat.le_trans HB0.out.size hb.out.size)) c0
     have HO1 := hid (hown.out.below hb1 (Nat.le_refl _))
     have HB1 := hid (bstep hb.out hb1)
     clear l0 l1 c0
     go_wp2_with (at_builtin; go_must (refine wpList_append_src _ rfl (.tmp 27) (.tmp 34) _ rfl w0.heap.size 73 it _ 2 16 Tryz.underlying23 HIT.out.1 HIT.out.2.1 HIT.out.2.2.1 HIT.out.2.2.2 rfl (by omega) (.slice Ao L.length co) L.length (fTerm.all L) (by rfl) (by exact HO1.out.1.alloc _) (some ⟨w1.heap.size, 0, none⟩) 1 1 (fTerm.cells ⟨(k : Int), (mk : Int)⟩) (by rfl) (by exact src_one (f := fTerm) rfl) (by simp [fTerm, Value.oneCell']) (by unfold maxLen; omega) (by omega) (by have := HB1.out.size; simp; omega) ?_; intro v2 w2 hown2 hg2 hat2; have HB2 := hid (own_app (v2 := v2) (HB1.out.alloc HB1.out.size _) (HO1.out.alloc _) (by have := HB1.out.size; simp; omega) hg2 rfl); have HO2 := hid (HO1.out.snoc (e := 73) (B := w0.heap.size) (v' := v2) (show fTerm.ok ⟨(k : Int), (mk : Int)⟩ from hi64.out) hown2); clear hown2 hg2 hat2))
     exact ⟨⟨k + 1, by omega, by go_num, hid (by rw [HS.out]; exact HO2.out), HB2, hid (fun u hu => if e : u = k then by subst e; rw [hmk]; exact HZ.out else hnz.out u (by omega))⟩, by simp [intOf]; omega⟩
  ·have hk : k = ns.length := by omega
   subst hk
   have HN : Hid (madeN ns M = some (canon ns M)) := hid (by unfold madeN; rw [if_pos (okN_iff.2 hnz.out)])
   generalize hL : canonTo ns M ns.length = L at hown
   have HL := hid hL
   clear hL
   go_wp2
   go_ret2
   exact ⟨_, by rw [HN.out]; rfl, by rw [HN.out]; unfold canon; rw [HL.out]; exact own_new_terms hown.out HB0.out.size, bstep HB0.out hb.out⟩
end Go.Proofs.YtfdjoknklpiooaaGreatDoor
end
section
/- Contracts: ref23.but. -/
namespace Go.Proofs.YtfdjoknklpiooaaGreatDoor
open Go Go.RowKit

/-- Terms of other units. -/
def butL (l : List Term) (u : Int) : List Term := l.filter fun t => !(t.unit == u)
theorem butL_succ {l : List Term} {u : Int} {k : Nat} (hk : k < l.length) : butL (l.take (k + 1)) u = butL (l.take k) u ++ (if l[k].unit = u then [] else [l[k]]) := by
 have e : l.take (k + 1) = l.take k ++ [l[k]] := by rw [List.take_add_one, List.getElem?_eq_getElem hk]; rfl
 unfold butL
 rw [e, List.filter_append]
 by_cases h : l[k].unit = u
 ·simp [h]
 ·simp [h]
set_option maxHeartbeats 1000000 in
theorem rbut_any (lv : Value) (l : List Term) (u : Int) (w : World) (hl : SliceRd tTerm w (Lt w.heap.size) lv l) (hll : l.length ≤ 1000) :
  Calls Tryz.prog 51 #[lv, .int .i64 u] w fun e w' => ∃ v, e = .returned v ∧ OwnF fTerm 73 w.heap.size w' v (butL l u) ∧ Below w.heap.size w w' := by
 obtain ⟨it, hit⟩ := info_parts term_info
 have HIT := hid hit
 obtain ⟨A, cap, rfl, hcap, hmax, hc⟩ := hl.terms
 have HC := hid hc
 clear hc hl hit
 go_enter Tryz.func51, Tryz.ntmps51
 go_wp2_with fail
 go_loopw [5, 6] (fun ov iv wr => ∃ k : Nat, k ≤ l.length ∧ iv = .int .i64 k ∧ Hid (OwnF fTerm 73 w.heap.size wr ov (butL (l.take k) u)) ∧ Hid (Below w.heap.size w wr)) (fun _ iv _ => l.length - (intOf iv).toNat)
 case atStart => exact ⟨0, Nat.zero_le _, rfl, hid (OwnF.nil _ _ _ _), hid (b0 _)⟩
 case round =>
  obtain ⟨k, hk, rfl, ho, hb⟩ := hrel
  obtain ⟨Ao, co, hov⟩ := ho.out.form
  have hlen : (butL (l.take k) u).length ≤ 1000 := Nat.le_trans (List.length_filter_le _ _) (by rw [List.length_take]; omega)
  by_cases hlt : k < l.length
  ·obtain ⟨gg, o, hA, hF, g0, g1, i64a, i64b⟩ := HC.out k hlt
   subst hA
   have c0 := cell_below hb.out hF g0
   have c1 := cell_below hb.out hF g1
   have i1 : (0 : Int) ≤ ↑k := by omega
   have i2 : (↑k : Int) < ↑l.length := by omega
   have HSU := hid (butL_succ (u := u) hlt)
   have HOK := hid (show fTerm.ok l[k] from ⟨i64a, i64b⟩)
   clear g0 g1 i64a i64b
   obtain ⟨t, ht⟩ : ∃ t, l[k] = t := ⟨_, rfl⟩
   rw [ht] at c0 c1 HSU HOK
   obtain ⟨a, m⟩ := t
   dsimp only at c0 c1
   generalize hL : butL (l.take k) u = L at HSU ho hov hlen
   subst hov
   clear ht
   by_cases he : a = u
   ·have HE := hid (show butL (l.take (k + 1)) u = L by rw [HSU.out, if_pos he, List.append_nil])
    have hz : (a == u) = true := by simpa using he
    clear he HSU
    go_wp2
    exact ⟨⟨k + 1, by omega, by go_num, hid (by rw [HE.out]; exact ho.out), hb⟩, by simp [intOf]; omega⟩
   ·have HE := hid (show butL (l.take (k + 1)) u = L ++ [⟨a, m⟩] by rw [HSU.out, if_neg he])
    have hz : (a == u) = false := by simpa using he
    have hsr := hb.out.size
    clear he HSU
    go_wp2_with (at_builtin; go_must (refine wpList_append_src _ rfl (.tmp 20) (.tmp 25) _ rfl w.heap.size 73 it _ 2 16 Tryz.underlying23 HIT.out.1 HIT.out.2.1 HIT.out.2.2.1 HIT.out.2.2.2 rfl (by omega) (.slice Ao L.length co) L.length (fTerm.all L) (by rfl) (by exact ho.out.1.alloc _) (some ⟨wr.heap.size, 0, none⟩) 1 1 (fTerm.cells ⟨a, m⟩) (by rfl) (by exact src_one (f := fTerm) rfl) (by simp [fTerm, Value.oneCell']) (by unfold maxLen; omega) (by omega) (by simp; omega) ?_; intro v2 w2 hown2 hg2 hat2; have HB2 := hid (own_app (v2 := v2) (hb.out.alloc hsr _) (ho.out.alloc _) (by simp; omega) hg2 rfl); have HO2 := hid (ho.out.snoc HOK.out hown2); clear hown2 hg2 hat2))
    exact ⟨⟨k + 1, by omega, by go_num, hid (by rw [HE.out]; exact HO2.out), HB2⟩, by simp [intOf]; omega⟩
  ·have e : l.take k = l := List.take_of_length_le (by omega)
   rw [e] at ho
   go_wp2
   go_ret
   exact ⟨_, rfl, ho.out, hb.out⟩
end Go.Proofs.YtfdjoknklpiooaaGreatDoor
end
section
/- Contracts: ref23.sorted. -/
namespace Go.Proofs.YtfdjoknklpiooaaGreatDoor
open Go Go.RowKit

/-- The terms of one unit; those of the first units, by unit. -/
def unitL (l : List Term) (u : Nat) : List Term := l.filter fun t => t.unit == (u : Int)
def sortL (l : List Term) (n : Nat) : List Term := (List.range n).flatMap fun u => unitL l u
theorem sortL_succ (l : List Term) (n : Nat) : sortL l (n + 1) = sortL l n ++ unitL l n := by
 unfold sortL
 rw [List.range_succ, List.flatMap_append]
 simp
theorem sortL_len (l : List Term) (n : Nat) : (sortL l n).length ≤ n * l.length := by
 induction n with
 | zero => simp [sortL]
 | succ n ih =>
  rw [sortL_succ, List.length_append, Nat.add_mul, Nat.one_mul]
  have := List.length_filter_le (fun t : Term => t.unit == (n : Int)) l
  unfold unitL
  omega
theorem unitL_succ {l : List Term} {u k : Nat} (hk : k < l.length) : unitL (l.take (k + 1)) u = unitL (l.take k) u ++ (if l[k].unit = (u : Int) then [l[k]] else []) := by
 have e : l.take (k + 1) = l.take k ++ [l[k]] := by rw [List.take_add_one, List.getElem?_eq_getElem hk]; rfl
 unfold unitL
 rw [e, List.filter_append]
 by_cases h : l[k].unit = (u : Int)
 ·simp [h]
 ·simp [h]
set_option maxHeartbeats 1000000 in
theorem rsorted_any (lv : Value) (l : List Term) (w : World) (hl : SliceRd tTerm w (Lt w.heap.size) lv l) (hll : l.length ≤ 1000) :
  Calls Tryz.prog 53 #[lv] w fun e w' => ∃ v, e = .returned v ∧ OwnF fTerm 73 w.heap.size w' v (sortL l 48) ∧ Below w.heap.size w w' := by
 obtain ⟨it, hit⟩ := info_parts term_info
 have HIT := hid hit
 obtain ⟨A, cap, rfl, hcap, hmax, hc⟩ := hl.terms
 have HC := hid hc
 clear hc hl hit
 go_enter Tryz.func53, Tryz.ntmps53
 go_wp2_with fail
 go_loopw [3, 4] (fun ov iv wr => ∃ n : Nat, n ≤ 48 ∧ iv = .int .i64 n ∧ Hid (OwnF fTerm 73 w.heap.size wr ov (sortL l n)) ∧ Hid (Below w.heap.size w wr)) (fun _ iv _ => 48 - (intOf iv).toNat)
 case atStart => exact ⟨0, by omega, rfl, hid (OwnF.nil _ _ _ _), hid (b0 _)⟩
 case round =>
  obtain ⟨n, hn, rfl, ho0, hb0⟩ := hrel
  have hsl := sortL_len l n
  have hsl2 : n * l.length ≤ 48 * 1000 := Nat.mul_le_mul hn hll
  obtain ⟨A0, c0, hov0⟩ := ho0.out.form
  by_cases hn48 : n < 48
  ·have n1 : (0 : Int) ≤ ↑n := by omega
   have n2 : (↑n : Int) < 48 := by omega
   have z48 : decide ((n : Int) < 48) = true := decide_eq_true (by omega)
   go_wp2_with fail
   go_loopw [3, 5] (fun ov iv wr => ∃ k : Nat, k ≤ l.length ∧ iv = .int .i64 k ∧ Hid (OwnF fTerm 73 w.heap.size wr ov (sortL l n ++ unitL (l.take k) n)) ∧ Hid (Below w.heap.size w wr)) (fun _ iv _ => l.length - (intOf iv).toNat)
   case atStart => exact ⟨0, Nat.zero_le _, rfl, hid (by simpa [unitL] using ho0.out), hb0⟩
   case round =>
    obtain ⟨k, hk, rfl, ho, hb⟩ := hrel
    obtain ⟨Ao, co, hov⟩ := ho.out.form
    have hlen : (sortL l n ++ unitL (l.take k) n).length ≤ 60000 := by
     rw [List.length_append]
     have h1 := List.length_filter_le (fun t : Term => t.unit == (n : Int)) (l.take k)
     rw [List.length_take] at h1
     unfold unitL
     omega
    by_cases hlt : k < l.length
    ·obtain ⟨gg, o, hA, hF, g0, g1, i64a, i64b⟩ := HC.out k hlt
     subst hA
     have c0 := cell_below hb.out hF g0
     have c1 := cell_below hb.out hF g1
     have i1 : (0 : Int) ≤ ↑k := by omega
     have i2 : (↑k : Int) < ↑l.length := by omega
     have HSU := hid (unitL_succ (u := n) hlt)
     have HOK := hid (show fTerm.ok l[k] from ⟨i64a, i64b⟩)
     clear g0 g1 i64a i64b
     obtain ⟨t, ht⟩ : ∃ t, l[k] = t := ⟨_, rfl⟩
     rw [ht] at c0 c1 HSU HOK
     obtain ⟨a, m⟩ := t
     dsimp only at c0 c1
     have HSU2 : Hid (sortL l n ++ unitL (l.take (k + 1)) n = (sortL l n ++ unitL (l.take k) n) ++ (if a = (n : Int) then [⟨a, m⟩] else [])) := hid (by rw [HSU.out, List.append_assoc])
     generalize hL : sortL l n ++ unitL (l.take k) n = L at HSU2 ho hov hlen
     subst hov
     clear ht HSU
     by_cases he : a = (n : Int)
     ·have HE := hid (show sortL l n ++ unitL (l.take (k + 1)) n = L ++ [⟨a, m⟩] by rw [HSU2.out, if_pos he])
      have hz : (a == (n : Int)) = true := by simpa using he
      have hsr := hb.out.size
      clear he HSU2
      go_wp2_with (at_builtin; go_must (refine wpList_append_src _ rfl (.tmp 23) (.tmp 28) _ rfl w.heap.size 73 it _ 2 16 Tryz.underlying23 HIT.out.1 HIT.out.2.1 HIT.out.2.2.1 HIT.out.2.2.2 rfl (by omega) (.slice Ao L.length co) L.length (fTerm.all L) (by rfl) (by exact ho.out.1.alloc _) (some ⟨wr.heap.size, 0, none⟩) 1 1 (fTerm.cells ⟨a, m⟩) (by rfl) (by exact src_one (f := fTerm) rfl) (by simp [fTerm, Value.oneCell']) (by unfold maxLen; omega) (by omega) (by simp; omega) ?_; intro v2 w2 hown2 hg2 hat2; have HB2 := hid (own_app (v2 := v2) (hb.out.alloc hsr _) (ho.out.alloc _) (by simp; omega) hg2 rfl); have HO2 := hid (ho.out.snoc HOK.out hown2); clear hown2 hg2 hat2))
      exact ⟨⟨k + 1, by omega, by go_num, hid (by rw [HE.out]; exact HO2.out), HB2⟩, by simp [intOf]; omega⟩
     ·have HE := hid (show sortL l n ++ unitL (l.take (k + 1)) n = L by rw [HSU2.out, if_neg he, List.append_nil])
      have hz : (a == (n : Int)) = false := by simpa using he
      clear he HSU2
      go_wp2
      exact ⟨⟨k + 1, by omega, by go_num, hid (by rw [HE.out]; exact ho.out), hb⟩, by simp [intOf]; omega⟩
    ·have e : l.take k = l := List.take_of_length_le (by omega)
     have HS : Hid (sortL l n ++ unitL (l.take k) n = sortL l (n + 1)) := hid (by rw [e, sortL_succ])
     rw [HS.out] at ho
     go_wp2
     exact ⟨⟨n + 1, by omega, by go_num, ho, hb⟩, by simp [intOf]; omega⟩
  ·obtain rfl : n = 48 := by omega
   have z48 : decide (((48 : Nat) : Int) < 48) = false := by decide
   go_wp2
   go_ret
   exact ⟨_, rfl, ho0.out, hb0.out⟩
end Go.Proofs.YtfdjoknklpiooaaGreatDoor
end
