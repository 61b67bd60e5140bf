import Derived.Test.YtbfbppjccbppiaaGreatDoorI4
import Derived.Test.YtbfbppjccbppiaaGreatDoorzA9
import Derived.Outline
import Derived.Test.YtbfbppjccbppiaaGreatDoorzZ
namespace Go.Proofs.YtbfbppjccbppiaaGreatDoor
open Go Go.RowKit
section
def Cont (l : List Nat) (v : Nat) : Prop := (v : Int) - 1 = qv9 l + 1 ∧ 0 < (v : Int) - 1 ∧ 0 ≤ qv9 l
def Edge (l : List Nat) (i : Nat) : Prop := ∀ v, l[i]? = some v → v = 0 ∨ ¬ Cont (l.take i) v
theorem za9 {l : List Nat} {i v : Nat} (h : l[i]? = some v) : l.take (i + 1) = l.take i ++ [v] := by rw [List.take_add_one, h]; rfl
def sepB (i : Nat) (x : ByteArray) : ByteArray := if i = 0 then x else x ++ ⟨#[44, 32]⟩
theorem join_edge {vt : List ByteArray} {l : List Nat} {i : Nat} (hi : i ≤ l.length) (S : List ByteArray) (hS : qg7 vt (l.take i) = S) (x : ByteArray) : qf7 (S ++ [x]) [44, 32] = sepB i (qf7 S [44, 32]) ++ x := by
 unfold sepB
 split
 ·rename_i h
  subst h
  have : S = [] := by rw [← hS]; rfl
  subst this
  rw [List.nil_append, joinB_one, qz4]
  apply ByteArray.ext
  simp [ByteArray.data_append]
 ·rename_i h
  refine zn3 ?_ _ _
  rw [← hS]
  unfold qg7
  intro e
  rw [List.map_eq_nil_iff] at e
  refine (qu1 (l.take i)).2.2.2 ?_ e
  intro e2
  have := congrArg List.length e2
  rw [List.length_take, List.length_nil] at this
  omega
theorem run_start {vt : List ByteArray} {l : List Nat} {i v : Nat} (hv : l[i]? = some v) (he : Edge l i) : qg7 vt (l.take (i + 1)) = qg7 vt (l.take i) ++ [qk6 vt (v, v)] := by
 rw [za9 hv]
 exact strs_push vt (he v hv)
theorem edge_next {l : List Nat} {j x : Nat} (hx : l[j]? = some x) (h : ∀ y, l[j + 1]? = some y → y ≠ x + 1) : Edge l (j + 1) := by
 intro y hy
 right
 rintro ⟨h1, -, -⟩
 rw [za9 hx, zc3] at h1
 exact h y hy (by omega)
theorem edge_zero {l : List Nat} {j : Nat} (hx : l[j]? = some 0) : Edge l (j + 1) := by
 intro y hy
 right
 rintro ⟨-, -, h3⟩
 rw [za9 hx, zc3] at h3
 omega
theorem parts_push {l : List Nat} {v : Nat} (h : v = 0 ∨ ¬ Cont l v) : qi3 (l ++ [v]) = qi3 l ++ [(v, v)] := by
 rw [qn5, zp4]
 intro p hp hc
 obtain ⟨h1, h2⟩ := zc8 hp
 unfold zf8 at h2
 rcases h with h | h
 ·omega
 ·exact h (by unfold Cont; omega)
def Run (vt : List ByteArray) (l : List Nat) (i j v x : Nat) : Prop := l[j]? = some x ∧ v ≤ x ∧ ∃ L0, qi3 (l.take (j + 1)) = L0 ++ [(v, x)] ∧ L0.map (qk6 vt) = qg7 vt (l.take i)
theorem Run.start (vt : List ByteArray) {l : List Nat} {i v : Nat} (hv : l[i]? = some v) (he : Edge l i) : Run vt l i i v v := by
 refine ⟨hv, Nat.le_refl _, qi3 (l.take i), ?_, rfl⟩
 rw [za9 hv]
 exact parts_push (he v hv)
theorem Run.next {vt : List ByteArray} {l : List Nat} {i j v x : Nat} (h : Run vt l i j v x) (hv : 1 ≤ v) (hy : l[j + 1]? = some (x + 1)) : Run vt l i (j + 1) v (x + 1) := by
 obtain ⟨h1, h2, L0, h3, h4⟩ := h
 refine ⟨hy, by omega, L0, ?_, h4⟩
 rw [za9 hy, qn5, h3]
 unfold zm2
 rw [List.getLast?_concat]
 dsimp only
 rw [if_pos ⟨hv, rfl⟩, List.dropLast_concat]
theorem Run.strs {vt : List ByteArray} {l : List Nat} {i j v x : Nat} (h : Run vt l i j v x) : qg7 vt (l.take (j + 1)) = qg7 vt (l.take i) ++ [qk6 vt (v, x)] := by
 obtain ⟨h1, h2, L0, h3, h4⟩ := h
 unfold qg7 at h4 ⊢
 rw [h3, List.map_append, h4]
 rfl
set_option maxRecDepth 100000 in
set_option maxHeartbeats 4000000 in
theorem zj9 (v : Value) (us : List UnitW) (u M : Nat) (w : World) (h : qd0 w (Lt w.heap.size) v us) (ho : StW us) (hu : u < us.length) (hM : M ≤ 31) :
  Calls Tryz.prog 49 #[v, .int .i64 u, .int .i64 M] w fun e w' => e = .returned (.string (qj3 (qh2 us u) (M &&& qb8 (nsOf us) u))) ∧ Below w.heap.size w w' := by
 have h11 : us.length ≤ 11 := by have := ho.ns.hi; simpa [nsOf] using this
 have HFU := hid (fun (W : World) (hb : Below w.heap.size w W) => qj8 v (nsOf us) u W (Lt W.heap.size) ((h.lift hb hb.size).uni) ho.ns ⟨by omega, by omega⟩ (fun _ h => h))
 rw [qj6] at HFU
 have hf31 := qi2 ho.ns u
 have hand := zq2 hM hf31
 obtain ⟨f, hf⟩ : ∃ f, qb8 (nsOf us) u = f := ⟨_, rfl⟩
 rw [hf] at HFU hf31 hand ⊢
 obtain ⟨m, hm⟩ : ∃ m, M &&& f = m := ⟨_, rfl⟩
 have hm31 : m ≤ 31 := by rw [← hm]; exact Nat.le_trans Nat.and_le_left hM
 have HBT : Hid (∀ k, m.testBit k = true → k < us[u].cands.length + 1) := hid (fun k hk => by
  rw [← hm, Nat.testBit_and, Bool.and_eq_true, ← hf] at hk
  have h2 := hk.2
  rw [fullN_at (by simpa [nsOf] using hu), Nat.testBit_two_pow_sub_one] at h2
  have := of_decide_eq_true h2
  simpa [nsOf] using this)
 rw [hm] at hand ⊢
 obtain ⟨g, cap0, rfl, hg, hun⟩ := h.opened
 obtain ⟨Ac, cc, hcu, hcd⟩ := hun u hu
 have HCD := hid hcd
 have HVT := hid (qk9 hu)
 have hn4 : us[u].cands.length ≤ 4 := by
  have := ho.ns.le u (by simpa [nsOf] using hu)
  simpa [nsOf] using this
 have HV9 := hid (show ∀ t ∈ qh2 us u, t.size ≤ 9 from fun t ht => by
  rw [qk9 hu] at ht
  obtain ⟨c, hc, rfl⟩ := List.mem_map.1 ht
  obtain ⟨k, hk, rfl⟩ := List.getElem_of_mem hc
  exact (ho.vok hu hk).t)
 have HVO := hid (fun k (hk : k < us[u].cands.length) => ho.vok hu hk)
 generalize qh2 us u = vt at *
 generalize us[u].cands = cs at *
 obtain ⟨n, hn⟩ : ∃ n, cs.length = n := ⟨_, rfl⟩
 have HN := hid hn
 rw [hn] at hcu HBT hn4
 have HM31 := hid hm31
 have u1 : (0 : Int) ≤ ↑u := by omega
 have u2 : (↑u : Int) < ↑us.length := by omega
 obtain ⟨w0, hw0⟩ : ∃ w0 : World, w0 = w.alloc (.cells #[.slice (some ⟨g, 0, none⟩) us.length cap0] 26) := ⟨_, rfl⟩
 have hb0 : Below w.heap.size w w0 := hw0 ▸ qa0 (b0 w) _
 have hz0 : w.heap.size < w0.heap.size := by rw [hw0]; simp
 have c0 : w0.cell? ⟨w.heap.size, 0, none⟩ = some (.slice (some ⟨g, 0, none⟩) us.length cap0) := by rw [hw0, qa6]; rfl
 have c2 := cell_below hb0 hg hcu
 have hg0 : g < w0.heap.size := Nat.lt_of_lt_of_le hg hb0.size
 have HF0 := hid (HFU.out w0 hb0)
 have HB0 := hid hb0
 have HW0 := hid hw0
 clear h ho hun hcu hcd hm hn hw0 hb0 HFU hf
 by_cases hm0 : m = 0
 ·have hmz : ((m : Int) == 0) = true := by rw [beq_iff_eq]; omega
  have HV : Hid (qj3 vt m = ⟨#[110, 111, 116, 104, 105, 110, 103]⟩) := hid (by unfold qj3; rw [if_pos hm0])
  clear hm0
  go_enter Tryz.func49, Tryz.ntmps49
  go_wp2_with (go_at_call 22; rw [← HW0.out]; refine HF0.out.mono ?_; rintro e w1 ⟨rfl, hb1⟩; have HB1 := hid hb1; clear hb1)
  go_ret
  exact ⟨congrArg (fun x => Ending.returned (Value.string x)) HV.out.symm, qa1 HB0.out HB1.out⟩
 ·have hmz : ((m : Int) == 0) = false := by rw [beq_eq_false_iff_ne]; omega
  have HV : Hid (qj3 vt m = qf7 (qg7 vt (qw2 m 17)) [44, 32]) := hid (by unfold qj3 qs0 qg7; rw [if_neg hm0])
  have hne := valsN_ne hm31 hm0
  have HEL : Hid (ze0 m 17 = (qw2 m 17).map fun v : Nat => (v : Int) - 1) := hid rfl
  have HVB : Hid (∀ x ∈ qw2 m 17, x < n + 1) := hid (fun x hx => HBT.out x (by simpa [qw2] using (List.mem_filter.1 hx).2))
  have hl17 : (qw2 m 17).length ≤ 17 := by
   have := List.length_filter_le (fun v => m.testBit v) (List.range 17)
   simpa [qw2] using this
  have HRE := hid (fun W => reach_any m W hm31)
  rw [HEL.out] at HRE
  generalize qw2 m 17 = l at *
  go_enter Tryz.func49, Tryz.ntmps49
  go_wp2_with (first
   | (go_at_call 22; rw [← HW0.out]; refine HF0.out.mono ?_; rintro e w1 ⟨rfl, hb1⟩; have HB1 := hid hb1; clear hb1)
   | (go_at_call 89; refine (HRE.out _).mono ?_; rintro e w2 ⟨rv, rfl, hrv, hb2⟩))
  have HB12 := hid (qa1 HB1.out hb2)
  have HBW2 := hid (qa1 HB0.out HB12.out)
  have hz2 : w.heap.size < w2.heap.size := Nat.lt_of_lt_of_le hz0 HB12.out.size
  have hg2 : g < w2.heap.size := Nat.lt_of_lt_of_le hg0 HB12.out.size
  have t0 := cell_below HB12.out hz0 c0
  have t2 := cell_below HB12.out hg0 c2
  obtain ⟨Al, cl, rfl, hcl, hclm, hlc⟩ := hrv.rd.ints
  obtain ⟨gl, ol, hAl, hFl, -, -⟩ := hlc 0 (by rw [List.length_map]; exact List.length_pos_iff.2 hne)
  subst hAl
  have HLC : Hid (∀ k x : Nat, l[k]? = some x → w2.cell? ⟨gl, ol + k, none⟩ = some (.int .i64 ((x : Int) - 1))) := hid (fun k x hx => by
   obtain ⟨hk, rfl⟩ := List.getElem?_eq_some_iff.1 hx
   obtain ⟨g', o', hA', -, hc', -⟩ := hlc k (by rw [List.length_map]; exact hk)
   injection hA' with hA'
   injection hA' with e1 e2
   subst e1 e2
   rw [hc', List.getElem_map])
  have hgl : gl < w2.heap.size := hFl
  rw [List.length_map] at hcl ⊢
  obtain ⟨N, hN⟩ : ∃ N, l.length = N := ⟨_, rfl⟩
  have HNL := hid hN
  rw [hN] at hcl hl17 ⊢
  clear hb2 hrv hlc hFl hN hne c0 c2
  go_wp2_with fail
  go_loopw [7, 9] (fun sv iv wr => ∃ i : Nat, i ≤ N ∧ iv = .int .i64 i ∧ sv = .string (qf7 (qg7 vt (l.take i)) [44, 32]) ∧ Hid (Edge l i) ∧ Hid (Below w2.heap.size w2 wr)) (fun _ iv _ => N - (intOf iv).toNat)
  case atStart => exact ⟨0, by omega, rfl, rfl, hid (fun v _ => .inr (by rintro ⟨-, -, h3⟩; exact absurd h3 (by show ¬ (0 : Int) ≤ -2; decide))), hid (b0 _)⟩
  case round =>
   obtain ⟨i, hi, rfl, rfl, hE, hb⟩ := hrel
   have hT : (l.take i).length = i := by rw [List.length_take, HNL.out]; omega
   have HSZ : Hid ((qf7 (qg7 vt (l.take i)) [44, 32]).size ≤ 17 * 24) := hid (by
    have h1 := qn0 (qg7 vt (l.take i)) 22 (fun x hx => by
     obtain ⟨p, -, rfl⟩ := List.mem_map.1 hx
     exact qv1 HV9.out p) [44, 32]
    have h2 := za7 vt (l.take i)
    have h3 : (qg7 vt (l.take i)).length * 24 ≤ 17 * 24 := Nat.mul_le_mul_right _ (by omega)
    exact Nat.le_trans h1 h3)
   by_cases hlt : i < N
   ·obtain ⟨v, hv⟩ : ∃ v, l[i]? = some v := ⟨_, List.getElem?_eq_getElem (by rw [HNL.out]; exact hlt)⟩
    have HSEP := hid (fun x => join_edge (vt := vt) (l := l) (i := i) (by rw [HNL.out]; exact hi) _ rfl x)
    have hRS := run_start (vt := vt) hv hE.out
    have hcl0 := cell_below hb.out hgl (HLC.out i v hv)
    have hvn := HVB.out v (List.mem_of_getElem? hv)
    have q0 := cell_below hb.out hz2 t0
    have q2 := cell_below hb.out hg2 t2
    have i0 : (0 : Int) ≤ ↑i := by omega
    have i1 : (↑i : Int) < ↑N := by omega
    have i2 : decide (i < N) = true := decide_eq_true hlt
    have HSI : Hid (∃ s0, sepB i (qf7 (qg7 vt (l.take i)) [44, 32]) = s0 ∧ s0.size ≤ 17 * 24 + 2 ∧ ((i = 0 ∧ s0 = qf7 (qg7 vt (l.take i)) [44, 32]) ∨ (0 < i ∧ s0 = qf7 (qg7 vt (l.take i)) [44, 32] ++ ⟨#[44, 32]⟩))) := hid (by
     refine ⟨_, rfl, ?_, ?_⟩
     ·unfold sepB
      have := HSZ.out
      split
      ·omega
      ·simp only [ByteArray.size_append]
       show _ + 2 ≤ _
       omega
     ·unfold sepB
      by_cases h0 : i = 0
      ·exact .inl ⟨h0, if_pos h0⟩
      ·exact .inr ⟨by omega, if_neg h0⟩)
    obtain ⟨s0, hs0, hs1, hs2⟩ := HSI.out
    have HS0 := hid hs0
    have HV' := hid hv
    have HRS := hid hRS
    have HE := hid hE.out
    clear hRS hs0 HSI hv hE hT
    have hjs := HSZ.out
    generalize hjj : qf7 (qg7 vt (l.take i)) [44, 32] = js at *
    have HJJ := hid hjj
    have s1 : ¬ 9223372036854775807 < js.size + 2 := by omega
    have s2 : ¬ 9223372036854775807 < s0.size + 4 := by omega
    have s3 : ¬ 9223372036854775807 < js.size + 2 + 4 := by omega
    clear hjj hjs HSZ
    by_cases hv0 : v = 0
    ·have hx0 : decide ((v : Int) - 1 < 0) = true := decide_eq_true (by omega)
     have hx1 : (v : Int) - 1 < 0 := by omega
     have HJ1 : Hid (s0 ++ ⟨#[110, 111, 110, 101]⟩ = qf7 (qg7 vt (l.take (i + 1))) [44, 32]) := hid (by rw [HRS.out, HSEP.out, HS0.out, hv0]; rfl)
     have HE1 := hid (edge_zero (l := l) (j := i) (by rw [HV'.out, hv0]))
     clear hv0 HRS HSEP
     rcases hs2 with ⟨h0, rfl⟩ | ⟨h0, rfl⟩
     ·have z1 : decide (0 < i) = false := decide_eq_false (by omega)
      have z2 : ¬ (0 < i) := by omega
      have z3 : ¬ ((0 : Int) < ↑i) := by omega
      clear h0
      go_wp2_with fail
      exact ⟨⟨i + 1, by omega, by go_num, by rw [HJ1.out], HE1, hb⟩, by simp [intOf]; omega⟩
     ·have z1 : decide (0 < i) = true := decide_eq_true (by omega)
      have z3 : ((0 : Int) < ↑i) := by omega
      go_wp2_with fail
      exact ⟨⟨i + 1, by omega, by go_num, by rw [HJ1.out], HE1, hb⟩, by simp [intOf]; omega⟩
    ·obtain ⟨k, rfl⟩ : ∃ k, v = k + 1 := ⟨v - 1, by omega⟩
     have hkk : (((k + 1 : Nat) : Int) - 1) = (k : Int) := by omega
     rw [hkk] at hcl0
     have x0 : decide ((k : Int) < 0) = false := decide_eq_false (by omega)
     have x1 : ¬ ((k : Int) < 0) := by omega
     have hkn : k < n := by omega
     have HR0 := hid (Run.start vt HV'.out HE.out)
     have HSX := hid (fun x => (HSEP.out x).trans (by rw [HS0.out]))
     clear hv0 HRS HSEP HJJ hkk
     rcases hs2 with ⟨h0, h⟩ | ⟨h0, h⟩
     case' inl =>
      have z1 : decide (0 < i) = false := decide_eq_false (by omega)
      have z2 : ¬ (0 < i) := by omega
      have z3 : ¬ ((0 : Int) < ↑i) := by omega
      clear h0
      subst h
      go_upto_region 13 with fail
      clear z1 z2 z3
     case' inr =>
      have z1 : decide (0 < i) = true := decide_eq_true (by omega)
      have z3 : ((0 : Int) < ↑i) := by omega
      go_upto_region 13 with fail
      rw [← h]
      clear h h0 z1 z3
     all_goals (
      go_loopw [9] (fun jv wr => ∃ j x : Nat, i ≤ j ∧ j < N ∧ jv = .int .i64 j ∧ Hid (Run vt l i j (k + 1) x) ∧ Hid (Below w2.heap.size w2 wr)) (fun jv _ => N - (intOf jv).toNat)
      case atStart => exact ⟨i, k + 1, Nat.le_refl _, hlt, rfl, HR0, hb⟩
      case round =>
       clear q0 q2 hcl0 hb
       obtain ⟨j, x, hij, hjN, rfl, HR, hb⟩ := hrel
       have q0 := cell_below hb.out hz2 t0
       have q2 := cell_below hb.out hg2 t2
       have hcj := cell_below hb.out hgl (HLC.out j x HR.out.1)
       have hxk := HR.out.2.1
       have hxn := HVB.out x (List.mem_of_getElem? HR.out.1)
       obtain ⟨y, rfl⟩ : ∃ y, x = y + 1 := ⟨x - 1, by omega⟩
       rw [show (((y + 1 : Nat) : Int) - 1) = (y : Int) by omega] at hcj
       have j0 : (0 : Int) ≤ ↑j := by omega
       have j1 : (↑j : Int) < ↑N := by omega
       have j2 : IntKind.i64.wrap ((j : Int) + 1) = (j : Int) + 1 := IntWalk.i64_in _ (by omega)
       have j3 : (0 : Int) ≤ (j : Int) + 1 := by omega
       have j4 : ((j : Int) + 1).toNat = j + 1 := by omega
       have j5 : IntKind.i64.wrap ((y : Int) + 1) = (y : Int) + 1 := IntWalk.i64_in _ (by omega)
       have HED : Hid ((∀ z, l[j + 1]? = some z → z ≠ y + 1 + 1) → Edge l (j + 1)) := hid (fun h => edge_next HR.out.1 h)
       have hcase : (∃ z : Nat, l[j + 1]? = some z ∧ j + 1 < N ∧ z = y + 1 + 1) ∨ (∃ z : Nat, l[j + 1]? = some z ∧ j + 1 < N ∧ z ≠ y + 1 + 1) ∨ (N ≤ j + 1 ∧ l[j + 1]? = none) := by
        by_cases hj1 : j + 1 < N
        ·have hz := List.getElem?_eq_getElem (l := l) (show j + 1 < l.length by rw [HNL.out]; exact hj1)
         by_cases hzz : l[j + 1]'(by rw [HNL.out]; exact hj1) = y + 1 + 1
         ·exact .inl ⟨_, hz, hj1, hzz⟩
         ·exact .inr (.inl ⟨_, hz, hj1, hzz⟩)
        ·exact .inr (.inr ⟨by omega, List.getElem?_eq_none (by rw [HNL.out]; omega)⟩)
       rcases hcase with ⟨z, hz, hj1, rfl⟩ | ⟨z, hz, hj1, hzy⟩ | ⟨hj1, hz⟩
       case inl =>
        have hcz := cell_below hb.out hgl (HLC.out (j + 1) _ hz)
        rw [show (((y + 1 + 1 : Nat) : Int) - 1) = (y : Int) + 1 by omega] at hcz
        have k1 : (j : Int) + 1 < ↑N := by omega
        have k2 : decide ((j : Int) + 1 < ↑N) = true := decide_eq_true k1
        have k3 : decide (j + 1 < N) = true := decide_eq_true hj1
        have HRN := hid (HR.out.next (by omega) hz)
        have HZ := hid hz
        clear hz HR HED hxk
        go_wp2_with fail
        go_quiet (fail)
        go_wp2_with fail
        exact ⟨⟨j + 1, y + 1 + 1, by omega, hj1, by go_num, HRN, hid (below_drewN hb.out _)⟩, by simp [intOf]; omega⟩
       case' inr.inl =>
        have hcz := cell_below hb.out hgl (HLC.out (j + 1) _ hz)
        have k1 : (j : Int) + 1 < ↑N := by omega
        have k2 : decide ((j : Int) + 1 < ↑N) = true := decide_eq_true k1
        have k3 : decide (j + 1 < N) = true := decide_eq_true hj1
        have k4 : ((z : Int) - 1 == (y : Int) + 1) = false := by rw [beq_eq_false_iff_ne]; omega
        have HE1 := hid (HED.out fun z' hz' => by rw [hz] at hz'; rw [← Option.some.inj hz']; exact hzy)
        clear hz hzy
        go_wp2_with fail
        go_quiet (fail)
        clear k1 k2 k3 k4 hcz
       case' inr.inr =>
        have k1 : ¬ (j : Int) + 1 < ↑N := by omega
        have k2 : decide ((j : Int) + 1 < ↑N) = false := decide_eq_false k1
        have k3 : decide (j + 1 < N) = false := decide_eq_false (by omega)
        have HE1 := hid (HED.out fun z' hz' => by rw [hz] at hz'; cases hz')
        clear hz
        go_wp2_with fail
        go_quiet (fail)
        clear k1 k2 k3
       all_goals (
        obtain ⟨wq, hwq⟩ : ∃ wq : World, wq = wr.drewN nq := ⟨_, rfl⟩
        rw [← hwq]
        replace q0 : wq.cell? ⟨w.heap.size, 0, none⟩ = some (.slice (some ⟨g, 0, none⟩) us.length cap0) := hwq ▸ q0
        replace q2 : wq.cell? ⟨g, u * 3 + 2, none⟩ = some (.slice Ac n cc) := hwq ▸ q2
        replace hcj : wq.cell? ⟨gl, ol + j, none⟩ = some (.int .i64 (y : Int)) := hwq ▸ hcj
        have hbq : Below w2.heap.size w2 wq := hwq ▸ below_drewN hb.out _
        have HBQ := hid hbq
        have HBWQ := hid (qa1 HBW2.out hbq)
        have hzq := Nat.lt_of_lt_of_le hz2 hbq.size
        have hgq := Nat.lt_of_lt_of_le hg2 hbq.size
        have hglq := Nat.lt_of_lt_of_le hgl hbq.size
        obtain ⟨gc, o, nv, bv, hA, hFc, hat, hB, -, -⟩ := HCD.out k (by rw [HN.out]; exact hkn)
        subst hA
        have hgc : gc < wq.heap.size := Nat.lt_of_lt_of_le hFc HBWQ.out.size
        obtain ⟨d0, d1, d2, d3, d4, -, -, -⟩ := hat.below HBWQ.out hFc
        have hpb : vt[k]? = some (qg5 (cs[k]'(by rw [HN.out]; exact hkn)).v) := by rw [HVT.out, List.getElem?_map, List.getElem?_eq_getElem (by rw [HN.out]; exact hkn)]; rfl
        have hts := (HVO.out k (by rw [HN.out]; exact hkn)).t
        generalize cs[k]'(by rw [HN.out]; exact hkn) = cd at *
        obtain ⟨⟨va, vb, vc, vp, vq⟩, sh, nd, br⟩ := cd
        dsimp only at d0 d1 d2 d3 d4 hpb hB hts
        have HPR := hid (fun W' => zo8 ⟨va, vb, vc, vp, vq⟩ hB W')
        obtain ⟨s, hs⟩ : ∃ s, qg5 ⟨va, vb, vc, vp, vq⟩ = s := ⟨_, rfl⟩
        rw [hs] at HPR hpb hts
        have HPB := hid hpb
        have i3 : (↑k : Int) < ↑n := by omega
        have i4 : (0 : Int) ≤ ↑k := by omega
        have s4 : ¬ 9223372036854775807 < s0.size + s.size := by omega
        have s5 : ¬ 9223372036854775807 < s0.size + s.size + 4 := by omega
        have hw1 : IntKind.i64.wrap ((j : Int) + 1) = (j : Int) + 1 := j2
        clear hat hB hpb hs hwq hbq hb
        have HJX := hid (show qf7 (qg7 vt (l.take (j + 1))) [44, 32] = s0 ++ qk6 vt (k + 1, y + 1) from by rw [HR.out.strs]; exact HSX.out _)
        have HP1 : Hid (qk6 vt (k + 1, k + 1) = s) := hid (by unfold qk6; rw [if_neg (by show ¬ k + 1 = 0; omega), if_pos rfl]; show (vt[k]?).getD ⟨#[]⟩ = s; rw [HPB.out]; rfl)
        rcases Nat.lt_or_ge k y with hky | hky
        ·have z1 : (k : Int) < ↑y := by omega
         have z2 : decide ((k : Int) < ↑y) = true := decide_eq_true z1
         have z3 : decide (k < y) = true := decide_eq_true hky
         have hyn : y < n := by omega
         obtain ⟨gc2, o2, nv2, bv2, hA2, hFc2, hat2, hB2, -, -⟩ := HCD.out y (by rw [HN.out]; exact hyn)
         injection hA2 with hA2
         injection hA2 with e1 e2
         subst e1 e2
         have hb2 := hat2.below HBWQ.out hFc2
         have hpb2 : vt[y]? = some (qg5 (cs[y]'(by rw [HN.out]; exact hyn)).v) := by rw [HVT.out, List.getElem?_map, List.getElem?_eq_getElem (by rw [HN.out]; exact hyn)]; rfl
         have hts2 := (HVO.out y (by rw [HN.out]; exact hyn)).t
         generalize cs[y]'(by rw [HN.out]; exact hyn) = cd2 at *
         obtain ⟨⟨ta, tb, tc, tp, tq⟩, sh2, nd2, br2⟩ := cd2
         dsimp only at hb2 hpb2 hB2 hts2
         have HPR2 := hid (fun W' => zo8 ⟨ta, tb, tc, tp, tq⟩ hB2 W')
         obtain ⟨t, ht⟩ : ∃ t, qg5 ⟨ta, tb, tc, tp, tq⟩ = t := ⟨_, rfl⟩
         rw [ht] at HPR2 hpb2 hts2
         have HFIN : Hid (s0 ++ s ++ ⟨#[32, 116, 111, 32]⟩ ++ t = qf7 (qg7 vt (l.take (j + 1))) [44, 32]) := hid (by
          rw [HJX.out, zj2 (by omega) (by omega)]
          show _ = s0 ++ ((vt[k]?).getD ⟨#[]⟩ ++ _ ++ (vt[y]?).getD ⟨#[]⟩)
          rw [HPB.out, hpb2]
          simp only [Option.getD_some, ByteArray.append_assoc])
         have HB2 := hid hb2
         have i5 : (↑y : Int) < ↑n := by omega
         have i6 : (0 : Int) ≤ ↑y := by omega
         have s6 : ¬ 9223372036854775807 < s0.size + s.size + 4 + t.size := by omega
         clear hat2 hB2 hpb2 ht hb2 hky
         go_wp2_with (go_at_call 24; refine (HPR.out _).mono ?_; rintro e wp ⟨rfl, hbp⟩; have e0 := cell_below hbp hzq q0; have e2 := cell_below hbp hgq q2; have e3 := cell_below hbp hglq hcj; have HBP := hid hbp; have hzp := hbp.size; clear hbp)
         obtain ⟨f0, f1, f2, f3, f4, -, -, -⟩ := HB2.out.below HBP.out hgc
         have l0 := qa2 (Nat.lt_of_lt_of_le hzq hzp) e0
         have l1 := qa2 (Nat.lt_of_lt_of_le hgq hzp) e2
         have l2 := qa2 (Nat.lt_of_lt_of_le hglq hzp) e3
         have l3 := qa2 (Nat.lt_of_lt_of_le hgc hzp) f0
         have l4 := qa2 (Nat.lt_of_lt_of_le hgc hzp) f1
         have l5 := qa2 (Nat.lt_of_lt_of_le hgc hzp) f2
         have l6 := qa2 (Nat.lt_of_lt_of_le hgc hzp) f3
         have l7 := qa2 (Nat.lt_of_lt_of_le hgc hzp) f4
         dsimp only at l3 l4 l5 l6 l7
         (refine qa3 (by kernel_rfl) (by kernel_rfl) ?_; (repeat (go_big_quiet_step ((go_at_call 24; exact Calls.later (HPR2.out _) rfl)))); refine wpQuiet_nil ?_; rintro _ ⟨e9, rfl⟩)
         go_wp2_with fail
         exact ⟨⟨j + 1, by omega, by go_num, by rw [HFIN.out], HE1, hid (qa1 (qa1 HBQ.out HBP.out) e9.below)⟩, by simp [intOf]; omega⟩
        ·have hyk : y = k := by omega
         subst hyk
         have HFIN : Hid (s0 ++ s = qf7 (qg7 vt (l.take (j + 1))) [44, 32]) := hid (by rw [HJX.out, HP1.out])
         clear hky
         go_wp2_with (go_at_call 24; refine (HPR.out _).mono ?_; rintro e wp ⟨rfl, hbp⟩; have e0 := cell_below hbp hzq q0; have e2 := cell_below hbp hgq q2; have e3 := cell_below hbp hglq hcj; have HBP := hid hbp; have hzp := hbp.size; clear hbp)
         exact ⟨⟨j + 1, by omega, by go_num, by rw [HFIN.out], HE1, hid (qa1 HBQ.out HBP.out)⟩, by simp [intOf]; omega⟩))
   ·have hiN : i = N := by omega
    have i2 : decide (i < N) = false := decide_eq_false hlt
    have i3 : ¬ ((i : Int) < ↑N) := by omega
    have HFI : Hid (qf7 (qg7 vt (l.take i)) [44, 32] = qj3 vt m) := hid (by rw [HV.out, hiN, ← HNL.out, List.take_length])
    clear hiN
    go_wp2_with fail
    go_ret
    exact ⟨congrArg (fun x => Ending.returned (Value.string x)) HFI.out, qa1 HBW2.out hb.out⟩
end
section
def qf1 (us : List UnitW) (u m : Nat) : ByteArray := qj3 (qh2 us u) (m &&& qb8 (nsOf us) u)
def qo3 (us : List UnitW) (r : Row) : ByteArray := qe7 us r.unit.toNat ++ ⟨#[32]⟩ ++ qf1 us r.unit.toNat (qg3 (nsOf us) r.terms r.unit.toNat)
def decB (n : Nat) : ByteArray := ⟨(Lib.decDigits n).toArray⟩
def qe5 (us : List UnitW) (r : Row) : ByteArray :=
 if r.kind = 1 then ⟨#[84, 104, 101, 32, 112, 114, 111, 106, 101, 99, 116, 32, 105, 115, 32, 119, 97, 110, 116, 101, 100]⟩
 else if r.kind = 2 then qo3 us r ++ ⟨#[32, 110, 101, 101, 100, 115]⟩
 else if r.kind = 3 then qo3 us r ++ ⟨#[32, 98, 97, 114, 115]⟩
 else if r.kind = 4 then ⟨#[73, 116, 32, 119, 97, 115, 32, 97, 115, 107, 101, 100, 32, 111, 102, 32]⟩ ++ qe7 us r.unit.toNat
 else ⟨#[66, 121, 32]⟩ ++ decB (r.a.toNat + 1) ++ ⟨#[32, 97, 110, 100, 32]⟩ ++ decB (r.b.toNat + 1) ++ ⟨#[44, 32, 97, 115, 32, 116, 111, 32]⟩ ++ qe7 us r.unit.toNat
def qg8 (us : List UnitW) (t : Term) : ByteArray := qe7 us t.unit.toNat ++ ⟨#[32]⟩ ++ qf1 us t.unit.toNat t.mask.toNat
def qi4 (us : List UnitW) (r : Row) (n : Nat) : ByteArray :=
 decB n ++ ⟨#[46, 32]⟩ ++ qe5 us r ++ (if r.terms.isEmpty = true then ⟨#[58, 32, 115, 111, 32, 116, 104, 101, 114, 101, 32, 105, 115, 32, 110, 111, 110, 101, 46]⟩ else ⟨#[58, 32, 110, 101, 118, 101, 114, 32]⟩ ++ qf7 (r.terms.map (qg8 us)) [59, 32] ++ ⟨#[46]⟩)
structure RowS (us : List UnitW) (r : Row) : Prop where
 kind : 1 ≤ r.kind ∧ r.kind ≤ 5
 unit : 0 ≤ r.unit ∧ r.unit < us.length
 may : mayL (nsOf us) r.terms = true
 a : 0 ≤ r.a ∧ r.a ≤ 100000
 b : 0 ≤ r.b ∧ r.b ≤ 100000
section
variable {us : List UnitW}
theorem zi2 {l : List Term} (h : mayL (nsOf us) l = true) (ho : StW us) {u : Nat} (hu : u < us.length) : qk3 (nsOf us) l u = ((qg3 (nsOf us) l u : Nat) : Int) ∧ qg3 (nsOf us) l u ≤ 31 := by
 obtain ⟨M, hM, rfl⟩ := qt7 h
 have hu' : u < (nsOf us).length := by simpa [nsOf] using hu
 rw [zi3 hu', qq0, qp9 M hu']
 refine ⟨rfl, ?_⟩
 rw [← hM.sub u hu']
 exact Nat.le_trans Nat.and_le_right (qi2 ho.ns u)
theorem zb0 {l : List Term} (h : mayL (nsOf us) l = true) (ho : StW us) {t : Term} (ht : t ∈ l) : ∃ u m : Nat, u < us.length ∧ t = ⟨(u : Int), (m : Int)⟩ ∧ 0 < m ∧ m ≤ 31 := by
 obtain ⟨M, hM, rfl⟩ := qt7 h
 obtain ⟨k, hk, rfl⟩ := List.getElem_of_mem ht
 have h1 := qr3.1 (canon_may hM) k hk
 rw [qx8 hk, Bool.and_eq_true] at h1
 obtain ⟨u, m, h2, h3, h4, h5⟩ := qz6 h1.1
 refine ⟨u, m, by simpa [nsOf] using h2, h3, h4, ?_⟩
 have := qi2 ho.ns u
 omega
theorem zl0 {l : List Term} (h : mayL (nsOf us) l = true) (ho : StW us) : l.length ≤ 11 := by
 obtain ⟨M, hM, rfl⟩ := qt7 h
 have h1 := zg4 (ns := nsOf us) M
 have := ho.ns.hi
 omega
theorem qj4 {n : Nat} (h : n ≤ 9999999) : (decB n).size ≤ 7 := qq9 h
theorem qo7 (ho : StW us) (u m : Nat) (hm : m ≤ 31) : (qf1 us u m).size ≤ 17 * 24 := by
 unfold qf1 qj3
 split
 ·decide
 ·have hv : ∀ t ∈ qh2 us u, t.size ≤ 9 := fun t ht => by
   rcases Nat.lt_or_ge u us.length with hu | hu
   ·rw [qk9 hu] at ht
    obtain ⟨c, hc, rfl⟩ := List.mem_map.1 ht
    obtain ⟨k, hk, rfl⟩ := List.getElem_of_mem hc
    exact (ho.vok hu hk).t
   ·unfold qh2 at ht
    rw [List.getElem?_eq_none hu] at ht
    cases ht
  have h1 := qn0 (qs0 (qh2 us u) (m &&& qb8 (nsOf us) u)) 22 (fun x hx => by
   obtain ⟨p, -, rfl⟩ := List.mem_map.1 hx
   exact qv1 hv p) [44, 32]
  have h2 : (qs0 (qh2 us u) (m &&& qb8 (nsOf us) u)).length ≤ 17 := by
   have h3 := za7 (qh2 us u) (qw2 (m &&& qb8 (nsOf us) u) 17)
   have h4 := List.length_filter_le (fun v => (m &&& qb8 (nsOf us) u).testBit v) (List.range 17)
   rw [List.length_range] at h4
   exact Nat.le_trans h3 h4
  have h3 : (qs0 (qh2 us u) (m &&& qb8 (nsOf us) u)).length * 24 ≤ 17 * 24 := Nat.mul_le_mul_right _ h2
  have _ := hm
  exact Nat.le_trans h1 h3
theorem zd4 (ho : StW us) {r : Row} (h : RowS us r) : (qo3 us r).size ≤ 420 := by
 have hu : r.unit.toNat < us.length := by have := h.unit; omega
 have h1 := ql4 ho r.unit.toNat
 have h2 := qo7 ho r.unit.toNat _ (zi2 h.may ho hu).2
 unfold qo3
 simp only [ByteArray.size_append]
 show _ + 1 + _ ≤ _
 omega
theorem qq4 (ho : StW us) {l : List Term} (h : mayL (nsOf us) l = true) {t : Term} (ht : t ∈ l) : (qg8 us t).size ≤ 420 := by
 obtain ⟨u, m, h1, rfl, h2, h3⟩ := zb0 h ho ht
 have h4 := ql4 ho u
 have h5 := qo7 ho u m h3
 unfold qg8
 simp only [ByteArray.size_append, Int.toNat_natCast]
 show _ + 1 + _ ≤ _
 omega
theorem zc1 (ho : StW us) {r : Row} (h : RowS us r) : (qe5 us r).size ≤ 430 := by
 have h1 := ql4 ho r.unit.toNat
 have h2 := zd4 ho h
 have ha := h.a
 have hb := h.b
 have h3 := qj4 (n := r.a.toNat + 1) (by omega)
 have h4 := qj4 (n := r.b.toNat + 1) (by omega)
 unfold qe5
 split
 ·decide
 ·split
  ·simp only [ByteArray.size_append]
   show _ + 6 ≤ _
   omega
  ·split
   ·simp only [ByteArray.size_append]
    show _ + 5 ≤ _
    omega
   ·split
    ·simp only [ByteArray.size_append]
     show 16 + _ ≤ _
     omega
    ·simp only [ByteArray.size_append]
     show 3 + _ + 5 + _ + 8 + _ ≤ _
     omega
theorem qu9 (ho : StW us) {r : Row} (h : RowS us r) {n : Nat} (hn : n ≤ 9999999) : (qi4 us r n).size ≤ 6000 := by
 have h1 := zc1 ho h
 have h2 := qj4 hn
 have h3 := zl0 h.may ho
 have h4 := qn0 (r.terms.map (qg8 us)) 420 (fun x hx => by
  obtain ⟨t, ht, rfl⟩ := List.mem_map.1 hx
  exact qq4 ho h.may ht) [59, 32]
 rw [List.length_map] at h4
 have h5 : r.terms.length * (420 + 2) ≤ 11 * 422 := Nat.mul_le_mul_right _ h3
 have h6 : (qf7 (r.terms.map (qg8 us)) [59, 32]).size ≤ 11 * 422 := Nat.le_trans h4 h5
 unfold qi4
 split
 ·simp only [ByteArray.size_append]
  show _ + 2 + _ + 19 ≤ _
  omega
 ·simp only [ByteArray.size_append]
  show _ + 2 + _ + (8 + _ + 1) ≤ _
  omega
end
end
end Go.Proofs.YtbfbppjccbppiaaGreatDoor
