import Derived.Test.YthneiolcljnbeaaGreatDoorzP2
import Derived.BigQuiet
import Derived.Deep.DeepMust
import Derived.Outline
import Derived.Shelf.Abstract
import Derived.Deep.RegionWith
namespace Go.Proofs.YthneiolcljnbeaaGreatDoor
open Go Go.RowKit
section
theorem alloc_cell (w : World) (xs : Array Value) (t : TypeId) (i : Nat) : (w.alloc (.cells xs t)).cell? ⟨w.heap.size, i, none⟩ = xs[i]? := World.cell?_alloc_new w xs t i
theorem uni_later {w w0 : World} {v : Value} {ns : List Nat} (h : UniRd w (Lt w.heap.size) v ns) (hb : Below w.heap.size w w0) : UniRd w0 (Lt w0.heap.size) v ns :=
 (h.below hb).more fun _ hk => Nat.lt_of_lt_of_le hk hb.size
theorem uni_lat {w0 : World} {v : Value} {ns : List Nat} (h : UniRd w0 (Lt w0.heap.size) v ns) (e : Later w0) : UniRd e.w (Lt e.w.heap.size) v ns := uni_later h e.below
theorem choice_at {w : World} {F : Nat → Prop} {cv : Value} {c : List Int} {ns : List Nat} (h : SliceRd tInt w F cv c) (hc : ChoiceOk ns c) {u : Nat} (hu : u < ns.length) :
  ∃ A cap g o i, cv = .slice A c.length cap ∧ A = some ⟨g, o, none⟩ ∧ F g ∧ c.length = ns.length ∧ w.cell? ⟨g, o + u, none⟩ = some (.int .i64 ((i : Nat) - 1)) ∧ i ≤ ns.getD u 0 ∧ valN c u = 2 ^ i := by
 obtain ⟨A, cap, rfl, hcap, hmax, hat⟩ := h.ints
 obtain ⟨g, o, hA, hF, hcell, -⟩ := hat u (by rw [hc.len]; exact hu)
 have hv := hc.val u hu
 have hcu : u < c.length := by rw [hc.len]; exact hu
 rw [List.getD_eq_getElem?_getD, List.getElem?_eq_getElem hcu] at hv
 simp only [Option.getD_some] at hv
 refine ⟨A, cap, g, o, (c[u] + 1).toNat, rfl, hA, hF, hc.len, ?_, ?_, ?_⟩
 ·rw [hcell]
  congr 2
  omega
 ·rw [List.getD_eq_getElem?_getD, List.getElem?_eq_getElem hu]
  simp only [Option.getD_some]
  omega
 ·unfold valN
  rw [List.getD_eq_getElem?_getD, List.getElem?_eq_getElem hcu]
  rfl
set_option maxRecDepth 100000 in
set_option maxHeartbeats 1000000 in
theorem rvalue_any (v cv : Value) (ns : List Nat) (c : List Int) (u : Nat) (w : World) (h : UniRd w (Lt w.heap.size) v ns) (ho : NsOk ns) (hcv : SliceRd tInt w (Lt w.heap.size) cv c) (hc : ChoiceOk ns c) (hu : u < ns.length) :
  Calls Tryz.prog 64 #[v, cv, .int .i64 u] w fun e w' => e = .returned (.int .i64 (valN c u : Nat)) ∧ Below w.heap.size w w' := by
 obtain ⟨A, cap, g1, o1, i, rfl, rfl, hg1, hcl, hci, hin, hval⟩ := choice_at hcv hc hu
 obtain ⟨g, cap0, rfl, hg, hat⟩ := h
 obtain ⟨Ak, ck, hck⟩ := hat u hu
 have hn := ho.le u hu
 rw [List.getD_eq_getElem?_getD, List.getElem?_eq_getElem hu] at hin
 simp only [Option.getD_some] at hin
 generalize ns[u] = n at *
 have k1 : (0 : Int) ≤ ↑u := by omega
 have k2 : (↑u : Int) < ↑ns.length := by omega
 have k3 : (↑u : Int) < ↑c.length := by omega
 obtain ⟨x, hx⟩ : ∃ x : Int, x = (i : Int) - 1 := ⟨_, rfl⟩
 have HX := hid hx
 rw [← hx] at hci
 have p := pw_bd (i := i) (by omega)
 have HV := hid hval
 have z2 : decide (x < -1) = false := decide_eq_false (by omega)
 have z3 : decide ((n : Int) ≤ x) = false := decide_eq_false (by omega)
 have m1 : min (n : Int) 16 = n := by omega
 have y1 : IntKind.i64.wrap (x + 1) = x + 1 := IntWalk.i64_in _ (by omega)
 have y2 : x + 1 = i := by omega
 clear hat hcv hc hval hcl hx
 go_enter Tryz.func64, Tryz.ntmps64
 go_wp2
 obtain ⟨w0, hw0⟩ : ∃ w0 : World, w0 = w.alloc (.cells #[.slice (some ⟨g, 0, none⟩) ns.length cap0] 25) := ⟨_, rfl⟩
 have hb0 : Below w.heap.size w w0 := hw0 ▸ balloc (b0 w) _
 have hl0 : w.heap.size < w0.heap.size := by rw [hw0]; simp
 have hx0 : w0.cell? ⟨w.heap.size, 0, none⟩ = some (.slice (some ⟨g, 0, none⟩) ns.length cap0) := by rw [hw0, alloc_cell]; rfl
 have l1 := later_cell hl0 hx0
 have l2 := later_cell (Nat.lt_of_lt_of_le hg hb0.size) (cell_below hb0 hg hck)
 have l3 := later_cell (Nat.lt_of_lt_of_le hg1 hb0.size) (cell_below hb0 hg1 hci)
 have HB0 := hid hb0
 have HI := hid hin
 rw [← hw0]
 clear hw0 hx0 hck hci hb0 hin
 (refine wp_region_later (by kernel_rfl) (by kernel_rfl) ?_; (repeat (go_big_quiet_step ((fail)))); refine wpQuiet_nil ?_; rintro _ ⟨e1, rfl⟩)
 have hci1 := l3 e1
 obtain ⟨wx, hwx⟩ : ∃ wx : World, wx = e1.w := ⟨_, rfl⟩
 have HBX := hid (show Below w0.heap.size w0 wx from hwx ▸ e1.below)
 rw [← hwx] at hci1 ⊢
 clear hwx l1 l2 l3
 have Y2 := hid y2
 clear m1 y1 y2 p z2 z3
 go_wp2_with fail
 rw [IntWalk.wrap64_in (x + 1) (by have := HI.out; have := Y2.out; omega), Y2.out]
 refine (rbit_any i _ (by have := HI.out; omega)).mono ?_
 rintro e w2 ⟨rfl, rfl⟩
 go_wp2_with fail
 go_ret
 exact ⟨ret_int (by rw [HV.out]; rfl), bstep HB0.out HBX.out⟩
def holdT (c : List Int) (t : Term) : Bool := valN c t.unit.toNat &&& nm t.mask != 0
theorem valN_lt {ns : List Nat} (ho : NsOk ns) {c : List Int} (hc : ChoiceOk ns c) {u : Nat} (hu : u < ns.length) : valN c u ≤ 16 := by
 have h1 := hc.val u hu
 have h2 := ho.le u hu
 unfold valN
 have : 2 ^ (c.getD u 0 + 1).toNat ≤ 2 ^ 4 := Nat.pow_le_pow_right (by decide) (by omega)
 exact this
theorem two_boxes {w w0 : World} {x : Value} {y z : Value} {t t' : TypeId} (h : w0 = (w.alloc (.cells #[x] t)).alloc (.cells #[y, z] t')) :
  Below w.heap.size w w0 ∧ w0.heap.size = w.heap.size + 2 ∧ w0.cell? ⟨w.heap.size, 0, none⟩ = some x ∧ w0.cell? ⟨w.heap.size + 1, 0, none⟩ = some y ∧ w0.cell? ⟨w.heap.size + 1, 1, none⟩ = some z := by
 subst h
 refine ⟨balloc (balloc (b0 w) _) _, by simp, ?_, ?_, ?_⟩
 ·exact cell_below (balloc (b0 (w.alloc (.cells #[x] t))) _) (by simp) ((alloc_cell w _ _ 0).trans rfl)
 ·have := alloc_cell (w.alloc (.cells #[x] t)) #[y, z] t' 0
  rw [World.size_alloc] at this
  exact this
 ·have := alloc_cell (w.alloc (.cells #[x] t)) #[y, z] t' 1
  rw [World.size_alloc] at this
  exact this
set_option maxHeartbeats 1000000 in
theorem rholds_any (v cv : Value) (ns : List Nat) (c : List Int) (t : Term) (w : World) (h : UniRd w (Lt w.heap.size) v ns) (ho : NsOk ns) (hcv : SliceRd tInt w (Lt w.heap.size) cv c) (hc : ChoiceOk ns c) (hu : 0 ≤ t.unit ∧ t.unit < ns.length) :
  Calls Tryz.prog 30 #[v, .agg #[.int .i64 t.unit, .int .i64 t.mask], cv] w fun e w' => e = .returned (.bool (holdT c t)) ∧ Below w.heap.size w w' := by
 obtain ⟨m, hm⟩ : ∃ m, t.mask = m := ⟨_, rfl⟩
 obtain ⟨u, hun⟩ : ∃ u : Nat, t.unit = u := ⟨t.unit.toNat, by omega⟩
 have hun2 : u < ns.length := by omega
 have HT : Hid (holdT c t = !(bits .and .i64 (valN c u : Nat) m == 0)) := hid (by
  have h1 := valN_lt ho hc hun2
  have h2 : nm ((valN c u : Nat) : Int) = valN c u := nm_nat (by omega)
  have h3 : valN c u &&& nm m ≤ 16 := Nat.le_trans Nat.and_le_left h1
  rw [band _ _ (by rw [h2]; omega), h2]
  unfold holdT
  rw [hm, hun, Int.toNat_natCast]
  by_cases h0 : valN c u &&& nm m = 0
  ·rw [h0]; rfl
  ·have h4 : ¬ (((valN c u &&& nm m : Nat) : Int) = 0) := by omega
   simp only [bne, beq_eq_false_iff_ne.2 h0, beq_eq_false_iff_ne.2 h4])
 rw [hm, hun]
 have HH := hid h
 have HO := hid ho
 have HC := hid hcv
 have HCO := hid hc
 obtain ⟨g, cap0, rfl, -, -⟩ := h
 obtain ⟨A, cap, rfl, -, -, -⟩ := hcv.ints
 clear hcv hc ho hm hun hu
 go_enter Tryz.func30, Tryz.ntmps30
 go_wp2
 obtain ⟨w0, hw0⟩ : ∃ w0 : World, w0 = (w.alloc (.cells #[.slice (some ⟨g, 0, none⟩) ns.length cap0] 25)).alloc (.cells #[.int .i64 u, .int .i64 m] 69) := ⟨_, rfl⟩
 obtain ⟨hb0, hs0, q0, q1, q2⟩ := two_boxes hw0
 have l0 := later_cell (by omega) q0
 have l1 := later_cell (by omega) q1
 have l2 := later_cell (by omega) q2
 have HU0 := hid (uni_later HH.out hb0)
 have HC0 := hid (HC.out.lift hb0 hb0.size)
 have HB0 := hid hb0
 rw [← hw0]
 clear hw0 hs0 q0 q1 q2 hb0
 (refine wp_region_later (by kernel_rfl) (by kernel_rfl) ?_; (repeat (go_big_quiet_step ((go_at_call 64; exact Calls.later (rvalue_any _ _ ns c u _ (uni_lat HU0.out _) HO.out (HC0.out.lift (Later.below _) (Later.below _).size) HCO.out hun2) rfl)))); refine wpQuiet_nil ?_; rintro _ ⟨⟨w1, hb1⟩, rfl⟩)
 go_wp2
 go_ret
 exact ⟨ret_bool (by rw [HT.out]; rfl), bstep HB0.out hb1⟩
end
section
def tv (t : Term) : Value := .agg #[.int .i64 t.unit, .int .i64 t.mask]
def PredB (P : Program) (g : Nat) (lb : Array Value) (l : List Term) (p : Term → Bool) (w : World) : Prop :=
  ∀ (W : World) (t : Term), t ∈ l → Below w.heap.size w W → Calls P g (#[tv t] ++ lb) W fun e w' => e = .returned (.bool (p t)) ∧ Below w.heap.size w w'
def IdxIs (l : List Term) (p : Term → Bool) (r : Int) : Prop := (r = -1 ∧ ∀ t ∈ l, p t = false) ∨ ∃ k, ∃ h : k < l.length, r = k ∧ p l[k] = true ∧ ∀ j, (hj : j < k) → p (l[j]'(Nat.lt_trans hj h)) = false
set_option maxHeartbeats 1000000 in
theorem index_any (v : Value) (l : List Term) (p : Term → Bool) (g : Nat) (lb : Array Value) (eg : ∀ args w, (callFunc g args).run Tryz.prog w = .ok (.enter g args) w) (w : World) (h : SliceRd tTerm w (Lt w.heap.size) v l) (hp : PredB Tryz.prog g lb l p w) :
    Calls Tryz.prog 24 #[v, .func (.func g) #[] lb] w fun e w' => ∃ r : Int, e = .returned (.int .i64 r) ∧ IdxIs l p r ∧ Below w.heap.size w w' := by
  obtain ⟨A, cap, rfl, hcap, hmax, hc⟩ := h.terms
  unfold maxLen at hmax
  have HC := hid hc
  have HP := hid hp
  clear hc h hp
  go_enter Tryz.func24, Tryz.ntmps24
  go_wp2
  go_loopw [5, 8] (fun _ kv wr => ∃ k : Nat, k ≤ l.length ∧ kv = .int .i64 k ∧ Hid (Below w.heap.size w wr) ∧ Hid (∀ j, (hj : j < l.length) → j < k → p l[j] = false)) (fun _ kv _ => l.length - (intOf kv).toNat)
  case atStart => exact ⟨0, Nat.zero_le _, rfl, hid (b0 w), hid (fun j _ hj => absurd hj (by omega))⟩
  case round =>
    obtain ⟨k, hk, rfl, hb, hn⟩ := hrel
    by_cases hlt : k < l.length
    · obtain ⟨gg, o, hA, hF, g0, g1, -, -⟩ := HC.out k hlt
      subst hA
      have c0 := cell_below hb.out hF g0
      have c1 := cell_below hb.out hF g1
      have i1 : (0 : Int) ≤ ↑k := by omega
      have i2 : (↑k : Int) < ↑l.length := by omega
      have hcall := HP.out wr l[k] (List.getElem_mem hlt) hb.out
      obtain ⟨a, ha⟩ : ∃ a, l[k].unit = a := ⟨_, rfl⟩
      obtain ⟨m, hm⟩ : ∃ m, l[k].mask = m := ⟨_, rfl⟩
      unfold tv at hcall
      rw [ha, hm] at hcall
      rw [ha] at c0
      rw [hm] at c1
      clear g0 g1
      cases hq : p l[k] with
      | true =>
        have HQ := hid hq
        rw [hq] at hcall
        clear hq ha hm
        go_wp2_with (go_at_fn g; refine hcall.mono ?_; rintro e w' ⟨rfl, hb'⟩)
        go_ret
        exact ⟨_, rfl, .inr ⟨k, hlt, rfl, HQ.out, fun j hj => hn.out j _ hj⟩, hb'⟩
      | false =>
        have HQ := hid hq
        rw [hq] at hcall
        clear hq ha hm
        go_wp2_with (go_at_fn g; refine hcall.mono ?_; rintro e w' ⟨rfl, hb'⟩)
        exact ⟨⟨k + 1, by omega, by go_num, hid hb', hid (fun j hj hjk => if e : j = k then by subst e; exact HQ.out else hn.out j hj (by omega))⟩, by simp [intOf]; omega⟩
    · go_wp2
      go_ret
      exact ⟨_, rfl, .inl ⟨rfl, fun t ht => by obtain ⟨j, hj, rfl⟩ := List.getElem_of_mem ht; exact hn.out j hj (by omega)⟩, hb.out⟩
theorem mask_clos (l : List Term) (u : Int) (b : Nat) (w : World) (hb : b < w.heap.size) (hc : w.cell? ⟨b, 0, none⟩ = some (.int .i64 u)) : PredB Tryz.prog 107 #[.pointer (some ⟨b, 0, none⟩)] l (fun t => t.unit == u) w := fun W t _ hw => by
  have c0 := cell_below hw hb hc
  have hbW := Nat.lt_of_lt_of_le hb hw.size
  have hne : b ≠ W.heap.size := by omega
  show Calls Tryz.prog 107 #[.agg #[.int .i64 t.unit, .int .i64 t.mask], .pointer (some ⟨b, 0, none⟩)] W _
  go_enter Tryz.func107, Tryz.ntmps107
  go_wp2
  go_ret
  exact ⟨rfl, hw.alloc hw.size _⟩
theorem find_of_idx {l : List Term} {p : Term → Bool} {r : Int} (h : IdxIs l p r) : (r = -1 ∧ l.find? p = none) ∨ ∃ k, ∃ hk : k < l.length, r = k ∧ l.find? p = some l[k] := by
  rcases h with ⟨rfl, h⟩ | ⟨k, hk, rfl, hp, hn⟩
  · exact .inl ⟨rfl, List.find?_eq_none.2 fun t ht => by rw [h t ht]; decide⟩
  · refine .inr ⟨k, hk, rfl, List.find?_eq_some_iff_getElem.2 ⟨hp, k, hk, rfl, fun j hj => ?_⟩⟩
    rw [hn j hj]; rfl
set_option maxRecDepth 100000 in
set_option maxHeartbeats 1000000 in
theorem mask_any (v lv : Value) (ns : List Nat) (l : List Term) (u : Int) (w : World) (h : UniRd w (Lt w.heap.size) v ns) (ho : NsOk ns) (hl : SliceRd tTerm w (Lt w.heap.size) lv l) :
    Calls Tryz.prog 85 #[v, lv, .int .i64 u] w fun e w' => e = .returned (.int .i64 (maskF ns l u)) ∧ Below w.heap.size w w' := by
  have HH := hid h
  have HO := hid ho
  have HL := hid hl
  obtain ⟨g, cap0, rfl, hg, -⟩ := h
  obtain ⟨A, cap, rfl, hcap, hmax, hc⟩ := hl.terms
  unfold maxLen at hmax
  have HC := hid hc
  have eg := enters_of (P := Tryz.prog) Tryz.func107 (by kernel_rfl) rfl
  obtain ⟨w0, hw0⟩ : ∃ w0 : World, w0 = (w.alloc (.cells #[.slice (some ⟨g, 0, none⟩) ns.length cap0] 25)).alloc (.cells #[.int .i64 u] 3) := ⟨_, rfl⟩
  have hb0 : Below w.heap.size w w0 := by rw [hw0]; exact balloc (balloc (b0 w) _) _
  have hs0 : w0.heap.size = w.heap.size + 2 := by rw [hw0]; simp
  have q0 : w0.cell? ⟨w.heap.size, 0, none⟩ = some (.slice (some ⟨g, 0, none⟩) ns.length cap0) := by
    rw [hw0]
    exact cell_below (balloc (b0 (w.alloc _)) _) (by simp) ((alloc_cell w _ _ 0).trans rfl)
  have q1 : w0.cell? ⟨w.heap.size + 1, 0, none⟩ = some (.int .i64 u) := by
    rw [hw0]
    have := alloc_cell (w.alloc (.cells #[.slice (some ⟨g, 0, none⟩) ns.length cap0] 25)) #[.int .i64 u] 3 0
    rw [World.size_alloc] at this
    exact this
  have hcall := index_any _ l (fun t => t.unit == u) 107 #[.pointer (some ⟨w.heap.size + 1, 0, none⟩)] eg w0 (HL.out.lift hb0 hb0.size) (mask_clos l u (w.heap.size + 1) w0 (by omega) q1)
  have HB0 := hid hb0
  have HU0 := hid (uni_later HH.out hb0)
  have HCALL := hid hcall
  have HW0 := hid hw0
  have HQ := hid (And.intro q0 (And.intro q1 hs0))
  clear hc ho hl hcall hw0 q0 q1 hs0 hb0 eg
  cases hfd : l.find? (fun t => t.unit == u) with
  | none =>
    have HM : Hid (maskF ns l u = fullF ns u) := hid (by unfold maskF; rw [hfd])
    have HF := hid hfd
    clear hfd
    go_enter Tryz.func85, Tryz.ntmps85
    go_wp2_with (first
      | (go_at_call 24; rw [← HW0.out]; refine HCALL.out.mono ?_; rintro e w1 ⟨r, rfl, hr, hb'⟩; have HB := hid hb'
         obtain rfl : r = -1 := (by rcases find_of_idx hr with ⟨h, _⟩ | ⟨k, _, _, h⟩; exact h; rw [HF.out] at h; cases h)
         have q2 := cell_below hb' (by have := HQ.out.2.2; omega) HQ.out.1; have q3 := cell_below hb' (by have := HQ.out.2.2; omega) HQ.out.2.1; clear hb' hr)
      | (go_at_call 47; refine (full_any _ ns u _ _ (uni_later HU0.out HB.out) HO.out (fun _ h => h)).mono ?_; rintro e w2 ⟨rfl, hb2⟩))
    go_ret
    exact ⟨ret_int HM.out.symm, bstep (bstep HB0.out HB.out) hb2⟩
  | some t =>
    have HM : Hid (maskF ns l u = t.mask) := hid (by unfold maskF; rw [hfd])
    have HF := hid hfd
    clear hfd
    go_enter Tryz.func85, Tryz.ntmps85
    go_wp2_with (first
      | (go_at_call 24; rw [← HW0.out]; refine HCALL.out.mono ?_; rintro e w1 ⟨r, rfl, hr, hb'⟩; have HB := hid hb'
         obtain ⟨k, hk, rfl, hkt⟩ : ∃ k, ∃ hk : k < l.length, r = k ∧ l[k] = t := (by
           rcases find_of_idx hr with ⟨_, h⟩ | ⟨k, hk, e, h⟩
           · rw [HF.out] at h; cases h
           · rw [HF.out] at h; exact ⟨k, hk, e, (Option.some.inj h).symm⟩)
         obtain ⟨gg, o, hA, hF, g0, g1, -, -⟩ := HC.out k hk
         subst hA
         have c1 := cell_below hb' (Nat.lt_of_lt_of_le hF HB0.out.size) (cell_below HB0.out hF g1)
         obtain ⟨mm, hmm⟩ : ∃ mm, l[k].mask = mm := ⟨_, rfl⟩
         rw [hmm] at c1
         have HMM := hid (show maskF ns l u = mm by rw [HM.out, ← hkt, hmm])
         have i1 : (0 : Int) ≤ ↑k := (by omega)
         have i2 : (↑k : Int) < ↑l.length := (by omega)
         clear g0 g1 hmm hkt hb' hr))
    go_ret
    exact ⟨ret_int HMM.out.symm, bstep HB0.out HB.out⟩
end
section
set_option maxHeartbeats 1000000 in
theorem rhold_any (v lv cv : Value) (ns : List Nat) (l : List Term) (c : List Int) (w : World) (h : UniRd w (Lt w.heap.size) v ns) (ho : NsOk ns) (hl : SliceRd tTerm w (Lt w.heap.size) lv l) (hcv : SliceRd tInt w (Lt w.heap.size) cv c) (hc : ChoiceOk ns c)
  (hu : ∀ t ∈ l, 0 ≤ t.unit ∧ t.unit < ns.length) :
  Calls Tryz.prog 10 #[v, lv, cv] w fun e w' => e = .returned (.bool (holdL c l)) ∧ Below w.heap.size w w' := by
 have HH := hid h
 have HO := hid ho
 have HCO := hid hc
 have HCV := hid hcv
 have HUU := hid hu
 obtain ⟨g, cap0, rfl, hg, -⟩ := h
 obtain ⟨A, cap, rfl, hcap, hmax, hcc⟩ := hl.terms
 obtain ⟨B, bcap, rfl, -⟩ := hcv.ints
 unfold maxLen at hmax
 have HC := hid hcc
 clear hcc hl ho hcv hc hu
 go_enter Tryz.func10, Tryz.ntmps10
 go_wp2_with fail
 obtain ⟨w0, hw0⟩ : ∃ w0 : World, w0 = w.alloc (.cells #[.slice (some ⟨g, 0, none⟩) ns.length cap0] 25) := ⟨_, rfl⟩
 have hb0 : Below w.heap.size w w0 := hw0 ▸ balloc (b0 w) _
 have hl0 : w.heap.size < w0.heap.size := by rw [hw0]; simp
 have q0 : w0.cell? ⟨w.heap.size, 0, none⟩ = some (.slice (some ⟨g, 0, none⟩) ns.length cap0) := by rw [hw0, alloc_cell]; rfl
 have HB0 := hid hb0
 have HQ := hid q0
 have HU0 := hid (uni_later HH.out hb0)
 have HCV0 := hid (HCV.out.lift hb0 hb0.size)
 rw [← hw0]
 clear hw0 hb0 q0
 go_loopw [7] (fun iv wr => ∃ k : Nat, k ≤ l.length ∧ iv = .int .i64 k ∧ Hid (Below w0.heap.size w0 wr) ∧ Hid (∀ j, (hj : j < l.length) → j < k → holdT c l[j] = true)) (fun iv _ => l.length - (intOf iv).toNat)
 case atStart => exact ⟨0, Nat.zero_le _, rfl, hid (b0 w0), hid (fun j _ hj => absurd hj (by omega))⟩
 case round =>
  obtain ⟨k, hk, rfl, hb, hn⟩ := hrel
  by_cases hlt : k < l.length
  ·obtain ⟨gg, o, hA, hF, g0, g1, -, -⟩ := HC.out k hlt
   subst hA
   have hFr : gg < wr.heap.size := Nat.lt_of_lt_of_le hF (Nat.le_trans HB0.out.size hb.out.size)
   have hlr : w.heap.size < wr.heap.size := Nat.lt_of_lt_of_le hl0 hb.out.size
   have l0 := later_cell hlr (cell_below hb.out hl0 HQ.out)
   have l1 := later_cell hFr (cell_below hb.out (Nat.lt_of_lt_of_le hF HB0.out.size) (cell_below HB0.out hF g0))
   have l2 := later_cell hFr (cell_below hb.out (Nat.lt_of_lt_of_le hF HB0.out.size) (cell_below HB0.out hF g1))
   have i1 : (0 : Int) ≤ ↑k := by omega
   have i2 : (↑k : Int) < ↑l.length := by omega
   have HUR := hid (uni_later HU0.out hb.out)
   have HCR := hid (HCV0.out.lift hb.out hb.out.size)
   have HT := hid (HUU.out _ (List.getElem_mem hlt))
   have hcall := fun e : Later wr => rholds_any _ _ ns c l[k] e.w (uni_lat HUR.out e) HO.out (HCR.out.lift e.below e.below.size) HCO.out HT.out
   obtain ⟨a, ha⟩ : ∃ a, l[k].unit = a := ⟨_, rfl⟩
   obtain ⟨m, hm⟩ : ∃ m, l[k].mask = m := ⟨_, rfl⟩
   rw [ha, hm] at hcall
   rw [ha] at l1
   rw [hm] at l2
   clear g0 g1 ha hm
   cases hq : holdT c l[k] with
   | true =>
    have HN : Hid (∀ j, (hj : j < l.length) → j < k + 1 → holdT c l[j] = true) := hid (fun j hj hjk => if e : j = k then by subst e; exact hq else hn.out j hj (by omega))
    rw [hq] at hcall
    have HCALL := hid hcall
    clear hq hcall
    go_wp2_with fail
    (refine wp_region_later (by kernel_rfl) (by kernel_rfl) ?_; (repeat (go_big_quiet_step ((go_at_call 30; exact Calls.later (HCALL.out _) rfl)))); refine wpQuiet_nil ?_; rintro _ ⟨⟨w1, hb1⟩, rfl⟩)
    go_wp2
    exact ⟨⟨k + 1, by omega, by go_num, hid (bstep hb.out hb1), HN⟩, by simp [intOf]; omega⟩
   | false =>
    have HN : Hid (holdL c l = false) := hid (by unfold holdL; exact List.all_eq_false.2 ⟨_, List.getElem_mem hlt, by unfold holdT at hq; rw [hq]; decide⟩)
    rw [hq] at hcall
    have HCALL := hid hcall
    clear hq hcall
    go_wp2_with fail
    (refine wp_region_later (by kernel_rfl) (by kernel_rfl) ?_; (repeat (go_big_quiet_step ((go_at_call 30; exact Calls.later (HCALL.out _) rfl)))); refine wpQuiet_nil ?_; rintro _ ⟨⟨w1, hb1⟩, rfl⟩)
    go_wp2
    go_ret
    exact ⟨ret_bool HN.out.symm, bstep HB0.out (bstep hb.out hb1)⟩
  ·have HN : Hid (holdL c l = true) := hid (by
    unfold holdL
    rw [List.all_eq_true]
    intro t ht
    obtain ⟨j, hj, rfl⟩ := List.getElem_of_mem ht
    exact hn.out j hj (by omega))
   go_wp2
   go_ret
   exact ⟨ret_bool HN.out.symm, bstep HB0.out hb.out⟩
end
section
theorem canon_sorted {ns : List Nat} (M : Nat → Nat) : (canon ns M).Pairwise fun a b => a.unit < b.unit := by
 unfold canon canonTo
 refine List.Pairwise.filterMap (tm ns M) (fun a b hab x hx y hy => ?_) List.pairwise_lt_range
 unfold tm at hx hy
 split at hx
 ·cases hx
 ·split at hy
  ·cases hy
  ·have h1 := Option.some.inj hx
   have h2 := Option.some.inj hy
   subst h1; subst h2
   dsimp only
   omega
theorem canon_lt {ns : List Nat} (M : Nat → Nat) {k : Nat} (hk : k < (canon ns M).length) (h0 : k ≠ 0) : ((canon ns M)[k - 1]'(by omega)).unit < (canon ns M)[k].unit :=
 List.pairwise_iff_getElem.1 (canon_sorted M) (k - 1) k (by omega) hk (by omega)
end
section
def wiT (ns : List Nat) (Mb : Nat → Nat) (t : Term) : Bool := decide (maskN ns Mb t.unit &&& nm t.mask = maskN ns Mb t.unit)
def tellsN (h m : Nat) : Int := if h &&& m = h then 2 else if h &&& m = 0 then 0 else 1
end
end Go.Proofs.YthneiolcljnbeaaGreatDoor
