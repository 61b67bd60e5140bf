import Derived.Test.YtbfbppjccbppiaaGreatDoorzI0
import Derived.BigQuiet
import Derived.Outline
namespace Go.Proofs.YtbfbppjccbppiaaGreatDoor
open Go Go.RowKit
attribute [local go_sem] Oper.semAt_some
theorem valsN_ne {m : Nat} (h : m ≤ 31) (h0 : m ≠ 0) : qw2 m 17 ≠ [] := by
 have key : ∀ i : Fin 32, i.1 ≠ 0 → qw2 i.1 17 ≠ [] := by decide +kernel
 exact key ⟨m, by omega⟩ h0
theorem fullN_at {ns : List Nat} {u : Nat} (hu : u < ns.length) : qb8 ns u = 2 ^ (ns[u] + 1) - 1 := by
 unfold qb8
 rw [List.getElem?_eq_getElem hu]
theorem qo9 {w : World} {B s n : Nat} {e : TypeId} {v : Value} {xs : List Value} (h : w.ownsRow B e s v n xs) : ∀ (j : Nat) (o : Obj), v.ownBlock = some j → w.heap[j]? = some o → o.isCells = true := by
 intro j o hj ho
 rcases h.2 with ⟨rfl, _⟩ | ⟨g, cap, cur, rfl, _, hg, _⟩
 ·cases hj
 ·have : g = j := Option.some.inj hj
  subst this
  rw [hg] at ho
  cases ho
  rfl
set_option maxRecDepth 100000 in
set_option maxHeartbeats 4000000 in
theorem zj4 (v : Value) (us : List UnitW) (u M : Nat) (w : World) (h : qd0 w (Lt w.heap.size) v us) (ho : StW us) (hu : u < us.length) (hM : M ≤ 31) (hG : Glob w) :
  Calls Tryz.prog 23 #[v, .int .i64 u, .int .i64 M] w fun e w' => e = .returned (.string (qj3 (qh2 us u) (M &&& qb8 (nsOf us) u))) ∧ Below w.heap.size w w' := by
 have HFU := hid (fun (W : World) (hb : Below w.heap.size w W) => qz2 v (nsOf us) u W (Lt W.heap.size) ((h.lift hb hb.size).uni) ho.ns (fun _ h => h))
 rw [qj6] at HFU
 have hf31 := qi2 ho.ns u
 have hand := zq2 hM hf31
 obtain ⟨f, hf⟩ : ∃ f, qb8 (nsOf us) u = f := ⟨_, rfl⟩
 rw [hf] at HFU hf31 hand ⊢
 obtain ⟨m, hm⟩ : ∃ m, M &&& f = m := ⟨_, rfl⟩
 have hm31 : m ≤ 31 := by rw [← hm]; exact Nat.le_trans Nat.and_le_left hM
 have HBT : Hid (∀ k, m.testBit k = true → k < us[u].cands.length + 1) := hid (fun k hk => by
  rw [← hm, Nat.testBit_and, Bool.and_eq_true, ← hf] at hk
  have h2 := hk.2
  rw [fullN_at (by simpa [nsOf] using hu), Nat.testBit_two_pow_sub_one] at h2
  have := of_decide_eq_true h2
  simpa [nsOf] using this)
 rw [hm] at hand ⊢
 obtain ⟨g, cap0, rfl, hg, hun⟩ := h.opened
 obtain ⟨Ac, cc, hcu, hcd⟩ := hun u hu
 have HCD := hid hcd
 have HVT := hid (qk9 hu)
 have hn4 : us[u].cands.length ≤ 4 := by
  have := ho.ns.le u (by simpa [nsOf] using hu)
  simpa [nsOf] using this
 have HV9 := hid (show ∀ t ∈ qh2 us u, t.size ≤ 9 from fun t ht => by
  rw [qk9 hu] at ht
  obtain ⟨c, hc, rfl⟩ := List.mem_map.1 ht
  obtain ⟨k, hk, rfl⟩ := List.getElem_of_mem hc
  exact (ho.vok hu hk).t)
 have HVO := hid (fun k (hk : k < us[u].cands.length) => ho.vok hu hk)
 generalize qh2 us u = vt at *
 generalize us[u].cands = cs at *
 obtain ⟨n, hn⟩ : ∃ n, cs.length = n := ⟨_, rfl⟩
 have HN := hid hn
 rw [hn] at hcu HBT hn4
 have HM31 := hid hm31
 have HG := hid hG
 have h11 : us.length ≤ 11 := by have := ho.ns.hi; simpa [nsOf] using this
 have u1 : (0 : Int) ≤ ↑u := by omega
 have u2 : (↑u : Int) < ↑us.length := by omega
 obtain ⟨w0, hw0⟩ : ∃ w0 : World, w0 = (w.alloc (.cells #[.slice (some ⟨g, 0, none⟩) us.length cap0] 26)).alloc (.cells #[.int .i64 u] 3) := ⟨_, rfl⟩
 have hb0 : Below w.heap.size w w0 := hw0 ▸ qa0 (qa0 (b0 w) _) _
 have hz0 : w.heap.size + 1 < w0.heap.size := by rw [hw0]; simp
 have c0 : w0.cell? ⟨w.heap.size, 0, none⟩ = some (.slice (some ⟨g, 0, none⟩) us.length cap0) := by rw [hw0]; exact qf0 rfl
 have c1 : w0.cell? ⟨w.heap.size + 1, 0, none⟩ = some (.int .i64 u) := by rw [hw0]; exact qa7 rfl
 have c2 := cell_below hb0 hg hcu
 have hg0 : g < w0.heap.size := Nat.lt_of_lt_of_le hg hb0.size
 have HF0 := hid (HFU.out w0 hb0)
 have HB0 := hid hb0
 have HW0 := hid hw0
 clear h ho hun hcu hcd hm hn hw0 hb0 HFU hf hG
 refine (callsIn_wide (n := 5)).1 ?_
 refine callsIn_of_wp_marks Tryz.func23 rfl trivial ?_ rfl
 simp only [Tryz.ntmps23, List.size_toArray, List.length_cons, List.length_nil, Nat.reduceAdd, Nat.reduceSub, Array.replicate_succ, Array.replicate_zero, List.push_toArray, List.append_toArray, List.nil_append, List.cons_append]
 by_cases hm0 : m = 0
 ·have hmz : ((m : Int) == 0) = true := by rw [beq_iff_eq]; omega
  have HV : Hid (qj3 vt m = ⟨#[110, 111, 116, 104, 105, 110, 103]⟩) := hid (by unfold qj3; rw [if_pos hm0])
  clear hm0
  gi_wp2_with (refine ⟨trivial, ?_⟩; gi_at_call 34; rw [← HW0.out]; refine (callsIn_wide.2 HF0.out).mono ?_; rintro e w1 ⟨rfl, hb1⟩; have HB1 := hid hb1; clear hb1)
  refine ⟨_, results_tmp rfl _ _ _, ?_, qa1 HB0.out HB1.out⟩
  rw [HV.out]
  rfl
 ·have hmz : ((m : Int) == 0) = false := by rw [beq_eq_false_iff_ne]; omega
  gi_wp2_with (first
   | (refine ⟨trivial, ?_⟩; gi_at_call 34; rw [← HW0.out]; refine (callsIn_wide.2 HF0.out).mono ?_; rintro e w1 ⟨rfl, hb1⟩; have HB1 := hid hb1; have hz1 := Nat.lt_of_lt_of_le hz0 hb1.size; clear hb1)
   | (refine ⟨trivial, ?_⟩; gi_at_call 51; refine (callsIn_wide.2 (each_any _ _)).mono ?_; rintro e w2 ⟨rfl, rfl⟩))
  obtain ⟨w3, hw3⟩ : ∃ w3 : World, w3 = ((w1.alloc (.cells #[.slice none 0 0] 45)).alloc (.cells #[.int .i64 (-2)] 3)).alloc (.cells #[.int .i64 m] 3) := ⟨_, rfl⟩
  have hb3 : Below w1.heap.size w1 w3 := hw3 ▸ qa0 (qa0 (qa0 (b0 _) _) _) _
  have hz3 : w3.heap.size = w1.heap.size + 3 := by rw [hw3]; simp
  have HBW3 := hid (qa1 (qa1 HB0.out HB1.out) hb3)
  have t0 := cell_below hb3 (by omega) (cell_below HB1.out (by omega) c0)
  have t1 := cell_below hb3 (by omega) (cell_below HB1.out (by omega) c1)
  have t2 := cell_below hb3 (Nat.lt_of_lt_of_le hg0 HB1.out.size) (cell_below HB1.out hg0 c2)
  have hg1 : g < w1.heap.size := Nat.lt_of_lt_of_le hg0 HB1.out.size
  have t3 : Boxed w3 w1.heap.size 45 (.slice none 0 0) := by rw [hw3]; exact ((Boxed.new _ _ _).alloc _).alloc _
  have t4 : Boxed w3 (w1.heap.size + 1) 3 (.int .i64 (-2)) := by
   rw [hw3]
   have := Boxed.new (w1.alloc (.cells #[.slice none 0 0] 45)) 3 (.int .i64 (-2))
   rw [World.size_alloc] at this
   exact this.alloc _
  have t5 : w3.cell? ⟨w1.heap.size + 1 + 1, 0, none⟩ = some (.int .i64 m) := by
   rw [hw3]
   have := Boxed.new ((w1.alloc (.cells #[.slice none 0 0] 45)).alloc (.cells #[.int .i64 (-2)] 3)) 3 (.int .i64 m)
   simp only [World.size_alloc] at this
   exact this.cell
  rw [← hw3]
  have HW3 := hid hw3
  obtain ⟨is_, his⟩ := info_parts zf4
  have HIS := hid his
  clear his
  obtain ⟨X, hX⟩ : ∃ X : Nat → Prop, X = fun k => k = w1.heap.size ∨ k = w1.heap.size + 1 := ⟨_, rfl⟩
  have hXn : ∀ k, k < w1.heap.size → ¬ X k := fun k hk => by rw [hX]; omega
  have hX2 : ¬ X (w1.heap.size + 1 + 1) := by rw [hX]; omega
  have hXL : X w1.heap.size := by rw [hX]; exact .inl rfl
  have hXA : X (w1.heap.size + 1) := by rw [hX]; exact .inr rfl
  have hXge : ∀ k, X k → w1.heap.size ≤ k := fun k hk => by rw [hX] at hk; omega
  clear hw3 hX
  have HK : ∀ W, qf9 w3.heap.size X w3 W → Below w.heap.size w W := fun W hk => (qa1 HB0.out HB1.out).trans ((hb3.mono (by have := HB1.out.size; have := HB0.out.size; omega)).trans (hk.below (by have := HB1.out.size; have := HB0.out.size; omega) (fun k hx => by have := hXge k hx; have := HB1.out.size; have := HB0.out.size; omega)))
  refine wpIn_rangeFunc_ownF rfl (by omega) (gf := 90) (lb := #[.pointer (some ⟨w1.heap.size + 1 + 1, 0, none⟩)]) rfl trivial (enters_of Tryz.func90 (by kernel_rfl) rfl)
   (eachv_stops _ (by omega) (w1.heap.size + 1 + 1) w3.heap.size m X HM31.out (by omega) hX2 w3 (by omega) t5)
   qf9.trans (fun W l o o' hl _ _ _ => qf9.put (Nat.le_refl _) W l o' hl) (Below.refl _ _) (fun _ => rfl)
   (fun (pre : List (zp9 m)) W => ∃ A c, Boxed W w1.heap.size 45 (.slice A (qg7 vt (ql7 pre)).length c) ∧ OwnF fStr 9 w3.heap.size W (.slice A (qg7 vt (ql7 pre)).length c) (qg7 vt (ql7 pre)) ∧ Boxed W (w1.heap.size + 1) 3 (.int .i64 (qv9 (ql7 pre))) ∧ qf9 w3.heap.size X w3 W)
   (fun _ _ _ => False) ?own (fun _ _ _ _ _ hs _ _ => hs) ⟨none, 0, t3, OwnF.nil _ _ _ _, t4, qf9.refl _ _ _⟩ ?a1 ?assign ?body ?done ?stop
  case own =>
   rintro pre A B row ⟨A', c', h1, h2, h3, h4⟩ hgr hr
   have hne : ∀ g, (Value.slice A' (qg7 vt (ql7 pre)).length c').ownBlock = some g → row ≠ some g := fun g hg e => by
    obtain ⟨_, o, ho, hc⟩ := hr g e
    rw [qo9 h2.1 g o hg ho] at hc
    cases hc
   have hb : ∀ {g t v}, Boxed A g t v → row ≠ some g := fun hbx e => by
    obtain ⟨_, o, ho, hc⟩ := hr _ e
    rw [show A.heap[_]? = _ from hbx] at ho
    cases ho
    cases hc
   exact ⟨A', c', h1.kept hgr (Ne.symm (hb h1)), ⟨qb3 h2.1 fun g hg => hgr.block g (h2.1.lt g hg).2 (Ne.symm (hne g hg)), h2.2⟩, h3.kept hgr (Ne.symm (hb h3)), h4.grown h4.2.1 hgr (fun r e => (hr r e).1)⟩
  case assign =>
   intro l y W K hK
   gi_wp2
   exact hK
  case body =>
   rintro l pre ⟨p, hp⟩ W ⟨A, c, hL, ho, hLa, hk⟩ hpl
   have hpn := HBT.out p hp
   obtain ⟨q, hq⟩ : ∃ q : Int, (p : Int) - 1 = q := ⟨_, rfl⟩
   dsimp only
   rw [hq]
   have HQ := hid hq
   have HBW := hid (HK W hk)
   have hzW : w3.heap.size ≤ W.heap.size := hk.2.1
   have hlen : (qg7 vt (ql7 pre)).length ≤ 17 := by have h1 := za7 vt (ql7 pre); rw [valsL_len] at h1; omega
   have HSN : Hid (ql7 (pre ++ [⟨p, hp⟩]) = ql7 pre ++ [p]) := hid (zp7 _ _)
   have HP0 := hid (strs_push vt (l := ql7 pre) (v := p))
   have HP1 := hid (strs_cont vt (l := ql7 pre) (v := p))
   have HLB := hid (lastV_bd (l := ql7 pre) (by
    intro x hx
    obtain ⟨y, hy, rfl⟩ := List.mem_map.1 hx
    have := HBT.out y.1 y.2
    omega))
   have HLN := hid (zc3 (ql7 pre) p)
   have hLc := hL.cell
   have hLf := hL.frozen
   have hAc := hLa.cell
   have hAf := hLa.frozen
   have m0 := hk.cell (show w.heap.size < w3.heap.size by omega) (hXn _ (by omega)) t0
   have m1 := hk.cell (show w.heap.size + 1 < w3.heap.size by omega) (hXn _ (by omega)) t1
   have m2 := hk.cell (show g < w3.heap.size by omega) (hXn _ hg1) t2
   obtain ⟨L, hLL⟩ : ∃ L, qg7 vt (ql7 pre) = L := ⟨_, rfl⟩
   obtain ⟨la, hla⟩ : ∃ la, qv9 (ql7 pre) = la := ⟨_, rfl⟩
   rw [hLL] at hL ho HP0 hlen hLc
   rw [hla] at hLa HP0 HP1 HLB hAc
   have HLL := hid hLL
   have HO := hid ho
   have HL := hid hL
   have HLA := hid hLa
   have HKX := hid hk
   have hla1 := HLB.out.1
   have hla2 := HLB.out.2
   have hw1 : IntKind.i64.wrap (la + 1) = la + 1 := IntWalk.i64_in _ (by omega)
   have hq1 : -1 ≤ q := by omega
   have hq2 : q ≤ 3 := by omega
   clear hLL hla ho hL hLa hk t0 t1 t2 t3 t4 t5 hq HLB
   rcases Nat.eq_zero_or_pos p with hp0 | hp0
   ·have HS := hid (HP0.out (.inl hp0))
    have q0 : decide (q < 0) = true := decide_eq_true (by have := HQ.out; omega)
    have q1 : q < 0 := by have := HQ.out; omega
    have HN0 : Hid (qk6 vt (p, p) = ⟨#[110, 111, 110, 101]⟩) := hid (by rw [hp0]; rfl)
    clear hp0 HP0 HP1
    gi_wp2_with (gi_at_builtin; go_must (refine wpListIn_append_own _ rfl (.tmp 40) (.tmp 41) 45 rfl w3.heap.size 9 is_ _ 1 16 Tryz.underlying45 HIS.out.1 HIS.out.2.1 HIS.out.2.2.1 HIS.out.2.2.2 rfl (by omega) (.slice A L.length c) L.length (fStr.all L) (by rfl) (by exact HO.out.1.alloc _) ⟨W.heap.size, 0, none⟩ 1 1 [.string ⟨#[110, 111, 110, 101]⟩] (by rfl) (by rfl) (by exact one_cell W _ _) (by intro u hu; rw [List.mem_singleton.1 hu]; rfl) (by unfold maxLen; omega) (by omega) (by simp; omega) ?_; intro v6 w6 hown6 hg6 hat6; obtain ⟨g6, c6, rfl⟩ := ownsRow_succ hown6; have HL6 := hid (Boxed.kept (HL.out.alloc _) hg6 (Boxed.not_row HL.out (by decide) HO.out.1)); have HLA6 := hid (Boxed.kept (HLA.out.alloc _) hg6 (Boxed.not_row HLA.out (by decide) HO.out.1)); have HOW6 := hid hown6; have HG6 := hid hg6; have x1 := HL6.out.cell; have x2 := HL6.out.frozen; have x3 := HLA6.out.cell; have x4 := HLA6.out.frozen; clear hown6 hg6 hat6))
    have hko : KeepsOthers W (w6.setCell ⟨w1.heap.size, 0, none⟩ (.slice (some ⟨g6, 0, none⟩) (L.length + 1) c6)) := (KeepsOthers.alloc _ _).trans ((KeepsOthers.of_grownBy HG6.out (qo9 (HO.out.1.alloc _))).trans (KeepsOthers.setCell _ _ _))
    have hkx : qf9 w3.heap.size X W (w6.setCell ⟨w1.heap.size, 0, none⟩ (.slice (some ⟨g6, 0, none⟩) (L.length + 1) c6)) := ((qf9.alloc hzW _).grown (by simp; omega) HG6.out (fun r e => (HO.out.1.lt r e).1)).trans (qf9.set hXL)
    have hfin := zs9 (L := L ++ [qk6 vt (p, p)]) (A := some ⟨g6, 0, none⟩) (c := c6) HKX.out hXA (by omega) hko hkx (by rw [List.length_append]; exact HL6.out.set _) (qs8 HLA6.out (show w1.heap.size + 1 ≠ w1.heap.size by omega)) ⟨qb3 (by rw [fStr.all_snoc, HN0.out, List.length_append]; exact HOW6.out) fun g hg => heap_setCell_other _ _ _ _ (show g ≠ w1.heap.size by have := (HOW6.out.lt g hg).1; omega), fun s hs => (List.mem_append.1 hs).elim (HO.out.2 s) (fun h => by rw [List.mem_singleton.1 h, HN0.out]; show (4 : Nat) ≤ maxLen; unfold maxLen; omega)⟩ q
    refine ⟨hfin.1, hfin.2.1, ?_⟩
    dsimp only
    rw [HSN.out, HS.out, HLN.out, HQ.out]
    exact hfin.2.2
   ·obtain ⟨k, rfl⟩ : ∃ k, p = k + 1 := ⟨p - 1, by omega⟩
    obtain rfl : q = (k : Int) := by have := HQ.out; omega
    have hkn : k < n := by omega
    obtain ⟨gc, o, nv, bv, hA, hFc, hat, hB, -, -⟩ := HCD.out k (by rw [HN.out]; exact hkn)
    subst hA
    have hgc : gc < W.heap.size := Nat.lt_of_lt_of_le hFc HBW.out.size
    obtain ⟨d0, d1, d2, d3, d4, -, -, -⟩ := hat.below HBW.out hFc
    have hvok := HVO.out k (by rw [HN.out]; exact hkn)
    have hpb : vt[k]? = some (qg5 (cs[k]'(by rw [HN.out]; exact hkn)).v) := by rw [HVT.out, List.getElem?_map, List.getElem?_eq_getElem (by rw [HN.out]; exact hkn)]; rfl
    generalize cs[k]'(by rw [HN.out]; exact hkn) = cd at *
    obtain ⟨⟨va, vb, vc, vp, vq⟩, sh, nd, br⟩ := cd
    dsimp only at d0 d1 d2 d3 d4 hvok hpb
    have HPR := hid (fun W' => zo1 ⟨va, vb, vc, vp, vq⟩ hvok W')
    have hts := hvok.t
    obtain ⟨s, hs⟩ : ∃ s, qg5 ⟨va, vb, vc, vp, vq⟩ = s := ⟨_, rfl⟩
    rw [hs] at HPR hpb hts
    have HPB := hid hpb
    have i0 : (0 : Int) ≤ ↑k := by omega
    have i1 : (↑k : Int) < ↑n := by omega
    have i2 : decide (n ≤ k) = false := decide_eq_false (by omega)
    have i3 : decide ((k : Int) < 0) = false := decide_eq_false (by omega)
    have i4 : ¬ ((k : Int) < 0) := by omega
    have hLBW : w1.heap.size < W.heap.size := by omega
    have hwW : w.heap.size < W.heap.size := by omega
    have hwW1 : w.heap.size + 1 < W.heap.size := by omega
    have hgW : g < W.heap.size := by omega
    clear hat hB hvok hpb hs
    by_cases hc : (((k + 1 : Nat) : Int) - 1 = la + 1 ∧ 0 < ((k + 1 : Nat) : Int) - 1 ∧ 0 ≤ la)
    ·obtain ⟨S0, a, b, ha1, hab, hbv, hS0, hS1⟩ := HP1.out hc
     have HS := hid hS1
     have HS0 := hid (HLL.out.symm.trans hS0)
     have hlS : L.length = S0.length + 1 := by rw [HS0.out, List.length_append]; rfl
     obtain ⟨g5, c5, hA5, hB5, hz5, hf5, hc5, hcell5⟩ := str_at HO.out (by omega)
     injection hA5 with e1 _ e3
     subst e1 e3
     obtain ⟨s0, hs0⟩ : ∃ s0, S0.length = s0 := ⟨_, rfl⟩
     have x5 : W.cell? ⟨g5, s0, none⟩ = some (.string (qk6 vt (a, b))) := by
      rw [hcell5 s0 (by omega)]
      congr 2
      have e : L[s0]? = some (qk6 vt (a, b)) := by rw [HS0.out, ← hs0, List.getElem?_append_right (Nat.le_refl _), Nat.sub_self]; rfl
      rw [List.getElem?_eq_getElem (by omega)] at e
      exact Option.some.inj e
     have x6 := hf5 s0
     have hak : a - 1 < n := by omega
     have hva : vt[a - 1]? = some (qg5 (cs[a - 1]'(by rw [HN.out]; exact hak)).v) := by rw [HVT.out, List.getElem?_map, List.getElem?_eq_getElem (by rw [HN.out]; exact hak)]; rfl
     have hvo := HVO.out (a - 1) (by rw [HN.out]; exact hak)
     generalize (cs[a - 1]'(by rw [HN.out]; exact hak)).v = va1 at hva hvo
     have hcut := partB_cut (vt := vt) ha1 hab (by rw [hva]; exact hvo.s)
     have hps := qv1 (vt := vt) HV9.out (a, b)
     have HRUN := hid (show qk6 vt (a, k + 1) = (vt[a - 1]?).getD ⟨#[]⟩ ++ ⟨#[32, 116, 111, 32]⟩ ++ (vt[k]?).getD ⟨#[]⟩ from zj2 (vt := vt) (b := k + 1) ha1 (by omega))
     rw [HPB.out, hva] at HRUN
     rw [hva] at hcut
     have hx9 := hvo.t
     dsimp only [Option.getD_some] at HRUN hcut
     generalize qg5 va1 = x at *
     generalize qk6 vt (a, b) = y at *
     have HCUT := hid (fun W' (hG' : Glob W') => show Calls Tryz.prog 40 #[.string y, .string ⟨#[32, 116, 111, 32]⟩] W' fun e w' => ∃ z bb, e = .returned (.tuple #[.string x, .string z, .bool bb]) ∧ ∃ n, w' = W'.drewN n from by
      obtain ⟨mx, hmx⟩ := hG'.2.1
      refine (Tryz.strings_Cut y ⟨#[32, 116, 111, 32]⟩ mx W' (by omega) hmx).mono ?_
      rintro e w' ⟨rfl, hn⟩
      refine ⟨⟨(Lib.cut y.data.toList [32, 116, 111, 32]).2.1.toArray⟩, (Lib.cut y.data.toList [32, 116, 111, 32]).2.2, ?_, hn⟩
      show Ending.returned (.tuple #[.string ⟨(Lib.cut y.data.toList [32, 116, 111, 32]).1.toArray⟩, _, _]) = _
      rw [hcut, Lib.mk_data])
     have HGW := hid (HG.out.later HBW.out)
     have j1 : (↑L.length : Int) - 1 = ↑s0 := by omega
     have j2 : IntKind.i64.wrap (↑L.length - 1) = (↑s0 : Int) := by rw [IntWalk.i64_in _ (by omega)]; omega
     have j6 : IntKind.i64.wrap (↑s0 : Int) = (↑s0 : Int) := IntWalk.i64_in _ (by omega)
     have j3 : (0 : Int) ≤ ↑s0 := by omega
     have j4 : (↑s0 : Int) < ↑L.length := by omega
     have j5 : s0 < L.length := by omega
     have z1 : ((k : Int) == la + 1) = true := by rw [beq_iff_eq]; omega
     have z2 : decide (0 < (k : Int)) = true := decide_eq_true (by omega)
     have z3 : decide (0 < k) = true := decide_eq_true (by omega)
     have z4 : 0 < k := by omega
     have z5 : decide (0 ≤ la) = true := decide_eq_true hc.2.2
     have z6 : 0 ≤ la := hc.2.2
     have s1 : ¬ 9223372036854775807 < x.size + 4 := by omega
     have s2 : ¬ 9223372036854775807 < x.size + 4 + s.size := by omega
     have HSL := hid hlS
     have HSZ := hid hs0
     clear hc hS0 hS1 hlS hs0 hcut hva hvo hcell5 hf5 HP0 HP1 hbv hab ha1 hak
     gi_wp2_with (first | (refine ⟨trivial, ?_⟩; gi_at_call 40; refine (CallsIn.inRound l (callsIn_wide.2 (HCUT.out _ HGW.out))).mono ?_; rintro e wd ⟨z, bb, rfl, nd2, rfl⟩) | (gi_at_call 40; refine (CallsIn.inRound l (callsIn_wide.2 (HCUT.out _ HGW.out))).mono ?_; rintro e wd ⟨z, bb, rfl, nd2, rfl⟩))
     refine qs3 (S := (fun w' => w'.cell? ⟨w1.heap.size, 0, none⟩ = some (.slice (some ⟨g5, 0, none⟩) L.length c) ∧ w'.cell? ⟨w.heap.size, 0, none⟩ = some (.slice (some ⟨g, 0, none⟩) us.length cap0) ∧ w'.cell? ⟨w.heap.size + 1, 0, none⟩ = some (.int .i64 u) ∧ w'.cell? ⟨g, u * 3 + 2, none⟩ = some (.slice (some ⟨gc, o, none⟩) n cc) ∧ w'.cell? ⟨gc, o + k * 8, none⟩ = some (.int .i64 va) ∧ w'.cell? ⟨gc, o + k * 8 + 1, none⟩ = some (.int .i64 vb) ∧ w'.cell? ⟨gc, o + k * 8 + 2, none⟩ = some (.int .i64 vc) ∧ w'.cell? ⟨gc, o + k * 8 + 3, none⟩ = some (.string vp) ∧ w'.cell? ⟨gc, o + k * 8 + 4, none⟩ = some (.string vq))) 19 (by kernel_rfl) (by kernel_rfl) ⟨hLc, m0, m1, m2, d0, d1, d2, d3, d4⟩ (fun hHeld => ?_)
     refine Till.take 0 (v := ?_) rfl (by decide +kernel) (by decide +kernel) (by decide +kernel) (fun _ _ _ h => absurd h.1 (by simp)) (by decide +kernel) (by decide +kernel) (by decide +kernel) (Or.inl ⟨by rfl, ?_⟩) (by assumption) ?_
     rotate_left 1
     ·intro w' hSw; (try dsimp only at hSw); go_simp; try with_reducible rfl
     try simp only [Act.put, List.setIfInBounds_toArray]
     refine Till.take 1 (v := ?_) rfl (by decide +kernel) (by decide +kernel) (by decide +kernel) (fun _ _ _ h => absurd h.1 (by simp)) (by decide +kernel) (by decide +kernel) (by decide +kernel) (Or.inl ⟨by rfl, ?_⟩) (by assumption) ?_
     rotate_left 1
     ·intro w' hSw; (try dsimp only at hSw); go_simp; try with_reducible rfl
     try simp only [Act.put]
     refine Till.takeW 2 (v := ?_) rfl (by decide +kernel) (by decide +kernel) (by decide +kernel) (fun _ _ _ h => absurd h.1 (by simp)) (by decide +kernel) (by assumption) (Or.inl ⟨by rfl, ?_⟩) ?_
     rotate_left 1
     ·intro w' hSw; (try dsimp only at hSw); go_simp; try with_reducible rfl
     try simp only [Act.put]
     refine Till.takeW 3 (v := ?_) rfl (by decide +kernel) (by decide +kernel) (by decide +kernel) (fun _ _ _ h => absurd h.1 (by simp)) (by decide +kernel) (by assumption) (Or.inl ⟨by rfl, ?_⟩) ?_
     rotate_left 1
     ·intro w' hSw; (try dsimp only at hSw); go_simp; try with_reducible rfl
     try simp only [Act.put]
     refine Till.takeW 4 (v := ?_) rfl (by decide +kernel) (by decide +kernel) (by decide +kernel) (fun _ _ _ h => absurd h.1 (by simp)) (by decide +kernel) (by assumption) (Or.inl ⟨by rfl, ?_⟩) ?_
     rotate_left 1
     ·intro w' hSw; (try dsimp only at hSw); go_simp; try with_reducible rfl
     try simp only [Act.put]
     refine Till.takeW 5 (v := ?_) rfl (by decide +kernel) (by decide +kernel) (by decide +kernel) (fun _ _ _ h => absurd h.1 (by simp)) (by decide +kernel) (by assumption) (Or.inl ⟨by rfl, ?_⟩) ?_
     rotate_left 1
     ·intro w' hSw; (try dsimp only at hSw); go_simp; try with_reducible rfl
     try simp only [Act.put]
     refine Till.takeW 6 (v := ?_) rfl (by decide +kernel) (by decide +kernel) (by decide +kernel) (fun _ _ _ h => absurd h.1 (by simp)) (by decide +kernel) (by assumption) (Or.inl ⟨by rfl, ?_⟩) ?_
     rotate_left 1
     ·intro w' hSw; (try dsimp only at hSw); go_simp; try with_reducible rfl
     try simp only [Act.put]
     refine Till.take 7 (v := ?_) rfl (by decide +kernel) (by decide +kernel) (by decide +kernel) (fun _ _ _ h => absurd h.1 (by simp)) (by decide +kernel) (by decide +kernel) (by decide +kernel) (Or.inl ⟨by rfl, ?_⟩) (by assumption) ?_
     rotate_left 1
     ·intro w' hSw; (try dsimp only at hSw); go_simp; try with_reducible rfl
     try simp only [Act.put]
     refine Till.take 8 (v := ?_) rfl (by decide +kernel) (by decide +kernel) (by decide +kernel) (fun _ _ _ h => absurd h.1 (by simp)) (by decide +kernel) (by decide +kernel) (by decide +kernel) (Or.inl ⟨by rfl, ?_⟩) (by assumption) ?_
     rotate_left 1
     ·intro w' hSw; (try dsimp only at hSw); go_simp; try with_reducible rfl
     try simp only [Act.put]
     refine Till.takeW 9 (v := ?_) rfl (by decide +kernel) (by decide +kernel) (by decide +kernel) (fun _ _ _ h => absurd h.1 (by simp)) (by decide +kernel) (by assumption) (Or.inl ⟨by rfl, ?_⟩) ?_
     rotate_left 1
     ·intro w' hSw; (try dsimp only at hSw); go_simp; try with_reducible rfl
     try simp only [Act.put]
     refine Till.takeW 10 (v := ?_) rfl (by decide +kernel) (by decide +kernel) (by decide +kernel) (fun _ _ _ h => absurd h.1 (by simp)) (by decide +kernel) (by assumption) (Or.inl ⟨by rfl, ?_⟩) ?_
     rotate_left 1
     ·intro w' hSw; (try dsimp only at hSw); go_simp; try with_reducible rfl
     try simp only [Act.put]
     refine Till.take 11 (v := ?_) rfl (by decide +kernel) (by decide +kernel) (by decide +kernel) (fun _ _ _ h => absurd h.1 (by simp)) (by decide +kernel) (by decide +kernel) (by decide +kernel) (Or.inl ⟨by rfl, ?_⟩) (by assumption) ?_
     rotate_left 1
     ·intro w' hSw; (try dsimp only at hSw); go_simp; try with_reducible rfl
     try simp only [Act.put]
     refine Till.takeW 12 (v := ?_) rfl (by decide +kernel) (by decide +kernel) (by decide +kernel) (fun _ _ _ h => absurd h.1 (by simp)) (by decide +kernel) (by assumption) (Or.inl ⟨by rfl, ?_⟩) ?_
     rotate_left 1
     ·intro w' hSw; (try dsimp only at hSw); go_simp; try with_reducible rfl
     try simp only [Act.put]
     refine Till.takeW 13 (v := ?_) rfl (by decide +kernel) (by decide +kernel) (by decide +kernel) (fun _ _ _ h => absurd h.1 (by simp)) (by decide +kernel) (by assumption) (Or.inl ⟨by rfl, ?_⟩) ?_
     rotate_left 1
     ·intro w' hSw; (try dsimp only at hSw); go_simp; try with_reducible rfl
     try simp only [Act.put]
     refine Till.takeW 14 (v := ?_) rfl (by decide +kernel) (by decide +kernel) (by decide +kernel) (fun _ _ _ h => absurd h.1 (by simp)) (by decide +kernel) (by assumption) (Or.inl ⟨by rfl, ?_⟩) ?_
     rotate_left 1
     ·intro w' hSw; (try dsimp only at hSw); go_simp; try with_reducible rfl
     try simp only [Act.put]
     refine Till.take 15 (v := ?_) rfl (by decide +kernel) (by decide +kernel) (by decide +kernel) (fun _ _ _ h => absurd h.1 (by simp)) (by decide +kernel) (by decide +kernel) (by decide +kernel) (Or.inl ⟨by rfl, ?_⟩) (by assumption) ?_
     rotate_left 1
     ·intro w' hSw; (try dsimp only at hSw); go_simp; try with_reducible rfl
     try simp only [Act.put]
     refine Till.over [16] (by decide +kernel) (by decide +kernel) ?_
     refine Steps.cons 16 rfl (fun K hK => ?_) Steps.nil
     go_simp; go_at_call 52; refine (HPR.out _).mono ?_; rintro e wp ⟨rfl, hbp⟩
     have hbp' : Below W.heap.size W wp := ((below_drewN (Below.refl _ _) _).drew).trans hbp
     have e0 := cell_below hbp' hLBW hLc; have e1 := cell_below hbp' hwW m0; have e2 := cell_below hbp' hwW1 m1; have e3 := cell_below hbp' hgW m2; have e4 := cell_below hbp' hgc d0; have e5 := cell_below hbp' hgc d1; have e6 := cell_below hbp' hgc d2; have e7 := cell_below hbp' hgc d3; have e8 := cell_below hbp' hgc d4
     have y5 := cell_below hbp' hz5 x5; have y6 : wp.frozen? ⟨g5, s0, none⟩ = false := (World.frozen?_of_block (a := ⟨g5, s0, none⟩) (hbp'.block g5 hz5)).trans x6
     have HBP := hid hbp'; have hzp := hbp'.size; clear hbp hbp'
     refine hK.out _ _ (fun _ => ⟨e0, e1, e2, e3, e4, e5, e6, e7, e8⟩) ?_
     clear hK K
     try simp only [Act.put, List.setIfInBounds_toArray, List.set_cons_zero, List.set_cons_succ]
     have hS9 : (fun w' => w'.cell? ⟨w1.heap.size, 0, none⟩ = some (.slice (some ⟨g5, 0, none⟩) L.length c) ∧ w'.cell? ⟨w.heap.size, 0, none⟩ = some (.slice (some ⟨g, 0, none⟩) us.length cap0) ∧ w'.cell? ⟨w.heap.size + 1, 0, none⟩ = some (.int .i64 u) ∧ w'.cell? ⟨g, u * 3 + 2, none⟩ = some (.slice (some ⟨gc, o, none⟩) n cc) ∧ w'.cell? ⟨gc, o + k * 8, none⟩ = some (.int .i64 va) ∧ w'.cell? ⟨gc, o + k * 8 + 1, none⟩ = some (.int .i64 vb) ∧ w'.cell? ⟨gc, o + k * 8 + 2, none⟩ = some (.int .i64 vc) ∧ w'.cell? ⟨gc, o + k * 8 + 3, none⟩ = some (.string vp) ∧ w'.cell? ⟨gc, o + k * 8 + 4, none⟩ = some (.string vq)) wp := ⟨e0, e1, e2, e3, e4, e5, e6, e7, e8⟩
     refine Till.takeW 17 (v := ?_) rfl (by decide +kernel) (by decide +kernel) (by decide +kernel) (fun _ _ _ h => absurd h.1 (by simp)) (by decide +kernel) (by assumption) (Or.inl ⟨by rfl, ?_⟩) ?_
     rotate_left 1
     ·intro w' hSw; (try dsimp only at hSw); go_simp; try with_reducible rfl
     try simp only [Act.put, List.setIfInBounds_toArray]
     refine Till.takeW 18 (v := ?_) rfl (by decide +kernel) (by decide +kernel) (by decide +kernel) (fun _ _ _ h => absurd h.1 (by simp)) (by decide +kernel) (by assumption) (Or.inl ⟨by rfl, ?_⟩) ?_
     rotate_left 1
     ·intro w' hSw; (try dsimp only at hSw); go_simp; try with_reducible rfl
     try simp only [Act.put]
     refine Till.over [19] (by decide +kernel) (by decide +kernel) ?_
     refine Steps.cons 19 rfl (fun K hK => ?_) Steps.nil
     clear e0 e1 e2 e3 e4 e5 e6 e7 e8
     go_simp
     refine hK.out _ _ (fun h2 => absurd h2 (by decide +kernel)) ?_
     clear hK K
     try simp only [Act.put, List.setIfInBounds_toArray, List.set_cons_zero, List.set_cons_succ]
     refine Till.done (by decide +kernel) ?_ _
     refine ⟨rfl, ?_⟩
     have x3 : wp.cell? ⟨w1.heap.size + 1, 0, none⟩ = some (.int .i64 la) := cell_below HBP.out (by omega) hAc
     have x4 : wp.frozen? ⟨w1.heap.size + 1, 0, none⟩ = false := (World.frozen?_of_block (a := ⟨w1.heap.size + 1, 0, none⟩) (HBP.out.block _ (show w1.heap.size + 1 < W.heap.size by omega))).trans hAf
     have hne5 : g5 ≠ w1.heap.size + 1 := by omega
     have hne6 : w1.heap.size + 1 ≠ g5 := by omega
     clear hS9
     gi_wp2
     have hset : L.set s0 (x ++ ⟨#[32, 116, 111, 32]⟩ ++ s) = S0 ++ [qk6 vt (a, k + 1)] := by
      rw [HS0.out, HRUN.out, List.set_append_right _ _ (by rw [HSZ.out]; exact Nat.le_refl _), HSZ.out, Nat.sub_self]
      rfl
     have hop := ownsRow_below HO.out.1 HBP.out (fun g hg => (HO.out.1.lt g hg).2)
     have hput := own_put hop (g := g5) rfl (i := s0) (show s0 < L.length * 1 by omega) (.string (x ++ ⟨#[32, 116, 111, 32]⟩ ++ s))
     rw [ze7, ← List.map_set, ← ze7] at hput
     have hko : KeepsOthers W (wp.setCell ⟨g5, s0, none⟩ (.string (x ++ ⟨#[32, 116, 111, 32]⟩ ++ s))) := (qm6 HBP.out).trans (KeepsOthers.setCell _ _ _)
     have hkx : qf9 w3.heap.size X W (wp.setCell ⟨g5, s0, none⟩ (.string (x ++ ⟨#[32, 116, 111, 32]⟩ ++ s))) := (qf9.of_below (HBP.out.mono hzW)).trans (qf9.setHigh hB5)
     have hfin := zs9 (L := L.set s0 (x ++ ⟨#[32, 116, 111, 32]⟩ ++ s)) (A := some ⟨g5, 0, none⟩) (c := c) HKX.out hXA (by omega) hko hkx (by rw [List.length_set]; exact qs8 ((HBP.out.block _ hLBW).trans HL.out) (show w1.heap.size ≠ g5 by omega)) (qs8 ((HBP.out.block _ (show w1.heap.size + 1 < W.heap.size by omega)).trans HLA.out) hne6) ⟨by rw [List.length_set]; exact hput, fun z hz => by
      rcases List.mem_or_eq_of_mem_set hz with hz | rfl
      ·exact HO.out.2 z hz
      ·show ByteArray.size _ ≤ maxLen
       simp only [ByteArray.size_append]
       show x.size + 4 + s.size ≤ maxLen
       unfold maxLen
       omega⟩ (k : Int)
     refine ⟨hfin.1, hfin.2.1, ?_⟩
     dsimp only
     rw [HSN.out, HS.out, ← hset, HLN.out, show (((k + 1 : Nat) : Int) - 1) = (k : Int) by omega]
     exact hfin.2.2
    ·have HS := hid (HP0.out (.inr hc))
     have HN0 : Hid (qk6 vt (k + 1, k + 1) = s) := hid (by unfold qk6; rw [if_neg (by show ¬ k + 1 = 0; omega), if_pos rfl]; show (vt[k]?).getD ⟨#[]⟩ = s; rw [HPB.out]; rfl)
     have hcs : ((k : Int) == la + 1) = false ∨ (((k : Int) == la + 1) = true ∧ decide (0 < (k : Int)) = false ∧ decide (0 < k) = false ∧ ¬ 0 < k ∧ ¬ 0 < (k : Int)) := by
      cases hb : ((k : Int) == la + 1) with
      | false => exact .inl rfl
      | true => exact .inr ⟨rfl, decide_eq_false (by have := beq_iff_eq.1 hb; omega), decide_eq_false (by have := beq_iff_eq.1 hb; omega), by have := beq_iff_eq.1 hb; omega, by have := beq_iff_eq.1 hb; omega⟩
     clear hc HP0 HP1
     rcases hcs with z1 | ⟨z1, z2, z3, z4, z5⟩
     all_goals (
      gi_wp2_with fail
      refine qs3 (S := (fun w' => w'.cell? ⟨w1.heap.size, 0, none⟩ = some (.slice A L.length c) ∧ w'.cell? ⟨w.heap.size, 0, none⟩ = some (.slice (some ⟨g, 0, none⟩) us.length cap0) ∧ w'.cell? ⟨w.heap.size + 1, 0, none⟩ = some (.int .i64 u) ∧ w'.cell? ⟨g, u * 3 + 2, none⟩ = some (.slice (some ⟨gc, o, none⟩) n cc) ∧ w'.cell? ⟨gc, o + k * 8, none⟩ = some (.int .i64 va) ∧ w'.cell? ⟨gc, o + k * 8 + 1, none⟩ = some (.int .i64 vb) ∧ w'.cell? ⟨gc, o + k * 8 + 2, none⟩ = some (.int .i64 vc) ∧ w'.cell? ⟨gc, o + k * 8 + 3, none⟩ = some (.string vp) ∧ w'.cell? ⟨gc, o + k * 8 + 4, none⟩ = some (.string vq))) 14 (by kernel_rfl) (by kernel_rfl) ⟨hLc, m0, m1, m2, d0, d1, d2, d3, d4⟩ (fun hHeld => ?_)
      refine Till.take 0 (v := ?_) rfl (by decide +kernel) (by decide +kernel) (by decide +kernel) (fun _ _ _ h => absurd h.1 (by simp)) (by decide +kernel) (by decide +kernel) (by decide +kernel) (Or.inl ⟨by rfl, ?_⟩) (by assumption) ?_
      rotate_left 1
      ·intro w' hSw; (try dsimp only at hSw); go_simp; try with_reducible rfl
      try simp only [Act.put, List.setIfInBounds_toArray]
      refine Till.takeW 1 (v := ?_) rfl (by decide +kernel) (by decide +kernel) (by decide +kernel) (fun _ _ _ h => absurd h.1 (by simp)) (by decide +kernel) (by assumption) (Or.inl ⟨by rfl, ?_⟩) ?_
      rotate_left 1
      ·intro w' hSw; (try dsimp only at hSw); go_simp; try with_reducible rfl
      try simp only [Act.put]
      refine Till.take 2 (v := ?_) rfl (by decide +kernel) (by decide +kernel) (by decide +kernel) (fun _ _ _ h => absurd h.1 (by simp)) (by decide +kernel) (by decide +kernel) (by decide +kernel) (Or.inl ⟨by rfl, ?_⟩) (by assumption) ?_
      rotate_left 1
      ·intro w' hSw; (try dsimp only at hSw); go_simp; try with_reducible rfl
      try simp only [Act.put]
      refine Till.take 3 (v := ?_) rfl (by decide +kernel) (by decide +kernel) (by decide +kernel) (fun _ _ _ h => absurd h.1 (by simp)) (by decide +kernel) (by decide +kernel) (by decide +kernel) (Or.inl ⟨by rfl, ?_⟩) (by assumption) ?_
      rotate_left 1
      ·intro w' hSw; (try dsimp only at hSw); go_simp; try with_reducible rfl
      try simp only [Act.put]
      refine Till.takeW 4 (v := ?_) rfl (by decide +kernel) (by decide +kernel) (by decide +kernel) (fun _ _ _ h => absurd h.1 (by simp)) (by decide +kernel) (by assumption) (Or.inl ⟨by rfl, ?_⟩) ?_
      rotate_left 1
      ·intro w' hSw; (try dsimp only at hSw); go_simp; try with_reducible rfl
      try simp only [Act.put]
      refine Till.takeW 5 (v := ?_) rfl (by decide +kernel) (by decide +kernel) (by decide +kernel) (fun _ _ _ h => absurd h.1 (by simp)) (by decide +kernel) (by assumption) (Or.inl ⟨by rfl, ?_⟩) ?_
      rotate_left 1
      ·intro w' hSw; (try dsimp only at hSw); go_simp; try with_reducible rfl
      try simp only [Act.put]
      refine Till.take 6 (v := ?_) rfl (by decide +kernel) (by decide +kernel) (by decide +kernel) (fun _ _ _ h => absurd h.1 (by simp)) (by decide +kernel) (by decide +kernel) (by decide +kernel) (Or.inl ⟨by rfl, ?_⟩) (by assumption) ?_
      rotate_left 1
      ·intro w' hSw; (try dsimp only at hSw); go_simp; try with_reducible rfl
      try simp only [Act.put]
      refine Till.takeW 7 (v := ?_) rfl (by decide +kernel) (by decide +kernel) (by decide +kernel) (fun _ _ _ h => absurd h.1 (by simp)) (by decide +kernel) (by assumption) (Or.inl ⟨by rfl, ?_⟩) ?_
      rotate_left 1
      ·intro w' hSw; (try dsimp only at hSw); go_simp; try with_reducible rfl
      try simp only [Act.put]
      refine Till.takeW 8 (v := ?_) rfl (by decide +kernel) (by decide +kernel) (by decide +kernel) (fun _ _ _ h => absurd h.1 (by simp)) (by decide +kernel) (by assumption) (Or.inl ⟨by rfl, ?_⟩) ?_
      rotate_left 1
      ·intro w' hSw; (try dsimp only at hSw); go_simp; try with_reducible rfl
      try simp only [Act.put]
      refine Till.takeW 9 (v := ?_) rfl (by decide +kernel) (by decide +kernel) (by decide +kernel) (fun _ _ _ h => absurd h.1 (by simp)) (by decide +kernel) (by assumption) (Or.inl ⟨by rfl, ?_⟩) ?_
      rotate_left 1
      ·intro w' hSw; (try dsimp only at hSw); go_simp; try with_reducible rfl
      try simp only [Act.put]
      refine Till.take 10 (v := ?_) rfl (by decide +kernel) (by decide +kernel) (by decide +kernel) (fun _ _ _ h => absurd h.1 (by simp)) (by decide +kernel) (by decide +kernel) (by decide +kernel) (Or.inl ⟨by rfl, ?_⟩) (by assumption) ?_
      rotate_left 1
      ·intro w' hSw; (try dsimp only at hSw); go_simp; try with_reducible rfl
      try simp only [Act.put]
      refine Till.over [11] (by decide +kernel) (by decide +kernel) ?_
      refine Steps.cons 11 rfl (fun K hK => ?_) Steps.nil
      go_simp; go_at_call 52; refine (HPR.out _).mono ?_; rintro e wp ⟨rfl, hbp⟩
      have hbp' : Below W.heap.size W wp := ((Below.refl _ _).drew).trans hbp
      have e0 := cell_below hbp' hLBW hLc; have e1 := cell_below hbp' hwW m0; have e2 := cell_below hbp' hwW1 m1; have e3 := cell_below hbp' hgW m2; have e4 := cell_below hbp' hgc d0; have e5 := cell_below hbp' hgc d1; have e6 := cell_below hbp' hgc d2; have e7 := cell_below hbp' hgc d3; have e8 := cell_below hbp' hgc d4
      have HBP := hid hbp'; have hzp := hbp'.size; clear hbp hbp'
      refine hK.out _ _ (fun _ => by first | exact ⟨by assumption, by assumption, by assumption, by assumption, by assumption, by assumption, by assumption, by assumption, by assumption⟩ | (refine ⟨?_, ?_, ?_, ?_, ?_, ?_, ?_, ?_, ?_⟩ <;> repeat (first | assumption | (with_reducible refine cell_drew ?_) | (with_reducible refine cell_old (by first | omega | (simp; done) | (simp; omega)) ?_)))) ?_
      clear hK K
      try simp only [Act.put, List.setIfInBounds_toArray, List.set_cons_zero, List.set_cons_succ]
      refine Till.over [12] (by decide +kernel) (by decide +kernel) ?_
      refine Steps.cons 12 rfl (fun K hK => ?_) Steps.nil
      go_simp
      refine hK.out _ _ (fun _ => ⟨cell_below (qa0 (b0 wp) _) (by omega) e0, cell_below (qa0 (b0 wp) _) (by omega) e1, cell_below (qa0 (b0 wp) _) (by omega) e2, cell_below (qa0 (b0 wp) _) (by omega) e3, cell_below (qa0 (b0 wp) _) (by omega) e4, cell_below (qa0 (b0 wp) _) (by omega) e5, cell_below (qa0 (b0 wp) _) (by omega) e6, cell_below (qa0 (b0 wp) _) (by omega) e7, cell_below (qa0 (b0 wp) _) (by omega) e8⟩) ?_
      clear hK K
      try simp only [Act.put, List.setIfInBounds_toArray, List.set_cons_zero, List.set_cons_succ]
      refine Till.over [13] (by decide +kernel) (by decide +kernel) ?_
      refine Steps.cons 13 rfl (fun K hK => ?_) Steps.nil
      refine qc9 (.tmp 23) (.tmp 35) 45 rfl ?_
      go_must (refine qa9 _ rfl (.tmp 23) (.tmp 35) 45 rfl w3.heap.size 9 is_ _ 1 16 Tryz.underlying45 HIS.out.1 HIS.out.2.1 HIS.out.2.2.1 HIS.out.2.2.2 rfl (by omega) (.slice A L.length c) L.length (fStr.all L) (by rfl) (by exact (ownsRow_below HO.out.1 HBP.out (fun g hg => (HO.out.1.lt g hg).2)).alloc _) (some ⟨wp.heap.size, 0, none⟩) 1 1 [.string s] (by rfl) (by exact qe1 _ _ rfl 1 _ rfl rfl) (by intro u hu; rw [List.mem_singleton.1 hu]; rfl) (by unfold maxLen; omega) (by omega) (by simp; omega) ?_)
      intro v6 w6 hown6 hg6 hat6; obtain ⟨g6, c6, rfl⟩ := ownsRow_succ hown6
      have hbl6 : Below w3.heap.size wp w6 := qp6 (by omega) (ownsRow_below HO.out.1 HBP.out (fun g hg => (HO.out.1.lt g hg).2)) (Nat.le_refl _) _ hg6
      have hLp : Boxed wp w1.heap.size 45 (.slice A L.length c) := (HBP.out.block _ hLBW).trans HL.out
      have hAp : Boxed wp (w1.heap.size + 1) 3 (.int .i64 la) := (HBP.out.block _ (by omega)).trans HLA.out
      have hop := ownsRow_below HO.out.1 HBP.out (fun g hg => (HO.out.1.lt g hg).2)
      have HL6 := hid (Boxed.kept (hLp.alloc _) hg6 (Boxed.not_row hLp (by decide) hop))
      have HLA6 := hid (Boxed.kept (hAp.alloc _) hg6 (Boxed.not_row hAp (by decide) hop))
      have HOW6 := hid hown6; have HG6 := hid hg6; have HOP := hid hop; have x1 := HL6.out.cell; have x2 := HL6.out.frozen; have x3 := HLA6.out.cell; have x4 := HLA6.out.frozen
      have hfc : gc < w3.heap.size := by have hx : gc < w.heap.size := hFc; omega
      have f0 := cell_below hbl6 (by omega) e0; have f1 := cell_below hbl6 (by omega) e1; have f2 := cell_below hbl6 (by omega) e2; have f3 := cell_below hbl6 (by omega) e3; have f4 := cell_below hbl6 hfc e4; have f5 := cell_below hbl6 hfc e5; have f6 := cell_below hbl6 hfc e6; have f7 := cell_below hbl6 hfc e7; have f8 := cell_below hbl6 hfc e8
      clear hown6 hg6 hat6 hop hLp hAp hbl6
      refine hK.out _ _ (fun _ => ⟨f0, f1, f2, f3, f4, f5, f6, f7, f8⟩) ?_
      clear hK K
      try simp only [Act.put, List.setIfInBounds_toArray]
      refine Till.over [14] (by decide +kernel) (by decide +kernel) ?_
      refine Steps.cons 14 rfl (fun K hK => ?_) Steps.nil
      clear f0 f1 f2 f3 f4 f5 f6 f7 f8 e0 e1 e2 e3 e4 e5 e6 e7 e8
      go_simp
      refine hK.out _ _ (fun h2 => absurd h2 (by decide +kernel)) ?_
      clear hK K
      try simp only [Act.put, List.setIfInBounds_toArray, List.set_cons_zero, List.set_cons_succ]
      refine Till.done (by decide +kernel) ?_ _
      refine ⟨rfl, ?_⟩
      gi_wp2
      have hko : KeepsOthers W (w6.setCell ⟨w1.heap.size, 0, none⟩ (.slice (some ⟨g6, 0, none⟩) (L.length + 1) c6)) := (qm6 HBP.out).trans ((KeepsOthers.alloc _ _).trans ((KeepsOthers.of_grownBy HG6.out (qo9 (HOP.out.alloc _))).trans (KeepsOthers.setCell _ _ _)))
      have hkx : qf9 w3.heap.size X W (w6.setCell ⟨w1.heap.size, 0, none⟩ (.slice (some ⟨g6, 0, none⟩) (L.length + 1) c6)) := (qf9.of_below (HBP.out.mono hzW)).trans (((qf9.alloc (by omega) _).grown (by simp; omega) HG6.out (fun r e => (HO.out.1.lt r e).1)).trans (qf9.set hXL))
      have hfin := zs9 (L := L ++ [qk6 vt (k + 1, k + 1)]) (A := some ⟨g6, 0, none⟩) (c := c6) HKX.out hXA (by omega) hko hkx (by rw [List.length_append]; exact HL6.out.set _) (qs8 HLA6.out (show w1.heap.size + 1 ≠ w1.heap.size by omega)) ⟨qb3 (by rw [fStr.all_snoc, HN0.out, List.length_append]; exact HOW6.out) fun g hg => heap_setCell_other _ _ _ _ (show g ≠ w1.heap.size by have := (HOW6.out.lt g hg).1; omega), fun z hz => (List.mem_append.1 hz).elim (HO.out.2 z) (fun h => by rw [List.mem_singleton.1 h, HN0.out]; show s.size ≤ maxLen; unfold maxLen; omega)⟩ (k : Int)
      refine ⟨hfin.1, hfin.2.1, ?_⟩
      dsimp only
      rw [HSN.out, HS.out, HLN.out, show (((k + 1 : Nat) : Int) - 1) = (k : Int) by omega]
      exact hfin.2.2)
  case done =>
   rintro D xs W hD rfl ⟨A, c, hL, ho, hLa, hk⟩ hKD
   have hLc := hL.cell
   have HBW := hid (HK W hk)
   have HV : Hid (qj3 vt m = qf7 (qg7 vt (ql7 (qm0 m 17))) [44, 32]) := hid (by unfold qj3 qs0 qg7; rw [if_neg hm0, valsL_to])
   have hne := (qu1 (qw2 m 17)).2.2.2 (valsN_ne HM31.out hm0)
   have hlen : (qg7 vt (ql7 (qm0 m 17))).length ≤ 17 := by
    have h1 := za7 vt (ql7 (qm0 m 17))
    have h2 := valsV_len m 17
    rw [valsL_len] at h1
    omega
   have hpos : 0 < (qg7 vt (ql7 (qm0 m 17))).length := by
    rw [valsL_to]
    unfold qg7
    rw [List.length_map]
    exact List.length_pos_iff.2 hne
   have hsz := qn0 (qg7 vt (ql7 (qm0 m 17))) 22 (fun x hx => by
    obtain ⟨p, -, rfl⟩ := List.mem_map.1 hx
    exact qv1 HV9.out p) [44, 32]
   generalize qg7 vt (ql7 (qm0 m 17)) = L at *
   obtain ⟨g5, c5, hA5, hB5, hz5, hf5, hc5, hcell5⟩ := str_at ho hpos
   injection hA5 with e1 _ e3
   subst e1 e3
   have hmul : L.length * 24 ≤ 17 * 24 := Nat.mul_le_mul_right _ hlen
   have HJ := hid (Tryz.strings_Join g5 0 c L ⟨#[44, 32]⟩ W (fun j x hx => by
    obtain ⟨hj, rfl⟩ := List.getElem?_eq_some_iff.1 hx
    rw [Nat.zero_add]
    exact hcell5 j hj) hz5 (by omega) hc5 (by have h3 : (Lib.join (L.map (·.data.toList)) [44, 32]).length ≤ L.length * 24 := hsz; show (Lib.join (L.map (·.data.toList)) [44, 32]).length ≤ _; omega))
   have HKD := hid hKD
   have HDL := hid (Array.getElem?_eq_some_iff.1 hKD).1
   clear hL ho hLa hk hne hsz hcell5 hf5 hKD
   gi_wp2_with (refine ⟨trivial, ?_⟩; gi_at_call 53; refine (callsIn_wide.2 HJ.out).mono ?_; rintro e wj ⟨rfl, hbj⟩; have HBJ := hid hbj; clear hbj)
   refine ⟨by simp, .inl ⟨_, _, rfl, run_takeDeferred ((HBJ.out.block _ HDL.out).trans HKD.out), ?_⟩⟩
   refine ⟨_, results_tmp rfl _ _ _, ?_, (qa1 HBW.out HBJ.out).trans ⟨rfl, rfl, rfl, by simp, fun k hk => World.putObj_heap_other (by have := HB1.out.size; have := HB0.out.size; omega)⟩⟩
   rw [HV.out]
   rfl
  case stop =>
   rintro D c pre W _ _ h _
   exact h.elim
end Go.Proofs.YtbfbppjccbppiaaGreatDoor
