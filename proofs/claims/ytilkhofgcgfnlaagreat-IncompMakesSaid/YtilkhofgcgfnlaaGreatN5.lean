/- Contracts: slices.IndexFunc, ContainsFunc at terms; incomp.Mask, ref21.Mask, incomp.Holds, ref21.Hold. -/
import Derived.Test.YtilkhofgcgfnlaaGreatN4
import Derived.Shelf.Abstract
import Derived.Outline
namespace Go.Proofs.YtilkhofgcgfnlaaGreat
open Go Go.RowKit

/-- A term as a value. -/
def tv (t : Term) : Value := .agg #[.int .i64 t.unit, .int .i64 t.mask]
/-- What is asked of a predicate on a list's terms: it may make memory. -/
def PredB (P : Program) (g : Nat) (lb : Array Value) (l : List Term) (p : Term → Bool) (w : World) : Prop :=
  ∀ (W : World) (t : Term), t ∈ l → Below w.heap.size w W → Calls P g (#[tv t] ++ lb) W fun e w' => e = .returned (.bool (p t)) ∧ Below w.heap.size w w'
/-- The first place at which it holds. -/
def IdxIs (l : List Term) (p : Term → Bool) (r : Int) : Prop := (r = -1 ∧ ∀ t ∈ l, p t = false) ∨ ∃ k, ∃ h : k < l.length, r = k ∧ p l[k] = true ∧ ∀ j, (hj : j < k) → p (l[j]'(Nat.lt_trans hj h)) = false
set_option maxHeartbeats 1000000 in
theorem index_any (v : Value) (l : List Term) (p : Term → Bool) (g : Nat) (lb : Array Value) (eg : ∀ args w, (callFunc g args).run Tryz.prog w = .ok (.enter g args) w) (w : World) (h : SliceRd tTerm w (Lt w.heap.size) v l) (hp : PredB Tryz.prog g lb l p w) :
    Calls Tryz.prog 65 #[v, .func (.func g) #[] lb] w fun e w' => ∃ r : Int, e = .returned (.int .i64 r) ∧ IdxIs l p r ∧ Below w.heap.size w w' := by
  obtain ⟨A, cap, rfl, hcap, hmax, hc⟩ := h.terms
  unfold maxLen at hmax
  have HC := hid hc
  have HP := hid hp
  clear hc h hp
  go_enter Tryz.func65, Tryz.ntmps65
  go_wp2
  go_loopw [5, 8] (fun _ kv wr => ∃ k : Nat, k ≤ l.length ∧ kv = .int .i64 k ∧ Hid (Below w.heap.size w wr) ∧ Hid (∀ j, (hj : j < l.length) → j < k → p l[j] = false)) (fun _ kv _ => l.length - (intOf kv).toNat)
  case atStart => exact ⟨0, Nat.zero_le _, rfl, hid (b0 w), hid (fun j _ hj => absurd hj (by omega))⟩
  case round =>
    obtain ⟨k, hk, rfl, hb, hn⟩ := hrel
    by_cases hlt : k < l.length
    · obtain ⟨gg, o, hA, hF, g0, g1, -, -⟩ := HC.out k hlt
      subst hA
      have c0 := cell_below hb.out hF g0
      have c1 := cell_below hb.out hF g1
      have i1 : (0 : Int) ≤ ↑k := by omega
      have i2 : (↑k : Int) < ↑l.length := by omega
      have hcall := HP.out wr l[k] (List.getElem_mem hlt) hb.out
      obtain ⟨a, ha⟩ : ∃ a, l[k].unit = a := ⟨_, rfl⟩
      obtain ⟨m, hm⟩ : ∃ m, l[k].mask = m := ⟨_, rfl⟩
      unfold tv at hcall
      rw [ha, hm] at hcall
      rw [ha] at c0
      rw [hm] at c1
      clear g0 g1
      cases hq : p l[k] with
      | true =>
        have HQ := hid hq
        rw [hq] at hcall
        clear hq ha hm
        go_wp2_with (go_at_fn g; refine hcall.mono ?_; rintro e w' ⟨rfl, hb'⟩)
        go_ret
        exact ⟨_, rfl, .inr ⟨k, hlt, rfl, HQ.out, fun j hj => hn.out j _ hj⟩, hb'⟩
      | false =>
        have HQ := hid hq
        rw [hq] at hcall
        clear hq ha hm
        go_wp2_with (go_at_fn g; refine hcall.mono ?_; rintro e w' ⟨rfl, hb'⟩)
        exact ⟨⟨k + 1, by omega, by go_num, hid hb', hid (fun j hj hjk => if e : j = k then by subst e; exact HQ.out else hn.out j hj (by omega))⟩, by simp [intOf]; omega⟩
    · go_wp2
      go_ret
      exact ⟨_, rfl, .inl ⟨rfl, fun t ht => by obtain ⟨j, hj, rfl⟩ := List.getElem_of_mem ht; exact hn.out j hj (by omega)⟩, hb.out⟩
theorem contains_any (v : Value) (l : List Term) (p : Term → Bool) (g : Nat) (lb : Array Value) (eg : ∀ args w, (callFunc g args).run Tryz.prog w = .ok (.enter g args) w) (w : World) (h : SliceRd tTerm w (Lt w.heap.size) v l) (hp : PredB Tryz.prog g lb l p w) :
    Calls Tryz.prog 40 #[v, .func (.func g) #[] lb] w fun e w' => e = .returned (.bool (l.any p)) ∧ Below w.heap.size w w' := by
  have hcall := index_any v l p g lb eg w h hp
  obtain ⟨A, cap, rfl, -⟩ := h.terms
  clear h hp eg
  go_enter Tryz.func40, Tryz.ntmps40
  go_wp2_with (go_at_call 65; refine hcall.mono ?_; rintro e w' ⟨r, rfl, hr, hb'⟩)
  go_ret
  refine ⟨ret_bool ?_, hb'⟩
  rcases hr with ⟨rfl, hn⟩ | ⟨k, hk, rfl, hp, _⟩
  · rw [List.any_eq_false.2 (fun t ht => by rw [hn t ht]; decide)]
    decide
  · rw [List.any_eq_true.2 ⟨_, List.getElem_mem hk, hp⟩]
    exact decide_eq_true (by omega)

/- incomp.Mask. -/
theorem mask_clos (l : List Term) (u : Int) (b : Nat) (w : World) (hb : b < w.heap.size) (hc : w.cell? ⟨b, 0, none⟩ = some (.int .i64 u)) : PredB Tryz.prog 69 #[.pointer (some ⟨b, 0, none⟩)] l (fun t => t.unit == u) w := fun W t _ hw => by
  have c0 := cell_below hw hb hc
  have hbW := Nat.lt_of_lt_of_le hb hw.size
  have hne : b ≠ W.heap.size := by omega
  show Calls Tryz.prog 69 #[.agg #[.int .i64 t.unit, .int .i64 t.mask], .pointer (some ⟨b, 0, none⟩)] W _
  go_enter Tryz.func69, Tryz.ntmps69
  go_wp2
  go_ret
  exact ⟨rfl, hw.alloc hw.size _⟩
theorem find_of_idx {l : List Term} {p : Term → Bool} {r : Int} (h : IdxIs l p r) : (r = -1 ∧ l.find? p = none) ∨ ∃ k, ∃ hk : k < l.length, r = k ∧ l.find? p = some l[k] := by
  rcases h with ⟨rfl, h⟩ | ⟨k, hk, rfl, hp, hn⟩
  · exact .inl ⟨rfl, List.find?_eq_none.2 fun t ht => by rw [h t ht]; decide⟩
  · refine .inr ⟨k, hk, rfl, List.find?_eq_some_iff_getElem.2 ⟨hp, k, hk, rfl, fun j hj => ?_⟩⟩
    rw [hn j hj]; rfl
set_option maxRecDepth 100000 in
set_option maxHeartbeats 1000000 in
theorem mask_any (v lv : Value) (ns : List Nat) (l : List Term) (u : Int) (w : World) (h : UniRd w (Lt w.heap.size) v ns) (ho : NsOk ns) (hl : SliceRd tTerm w (Lt w.heap.size) lv l) :
    Calls Tryz.prog 45 #[v, lv, .int .i64 u] w fun e w' => e = .returned (.int .i64 (maskF ns l u)) ∧ Below w.heap.size w w' := by
  have HH := hid h
  have HO := hid ho
  have HL := hid hl
  obtain ⟨g, cap0, rfl, hg, -⟩ := h
  obtain ⟨A, cap, rfl, hcap, hmax, hc⟩ := hl.terms
  unfold maxLen at hmax
  have HC := hid hc
  have eg := enters_of (P := Tryz.prog) Tryz.func69 (by kernel_rfl) rfl
  obtain ⟨w0, hw0⟩ : ∃ w0 : World, w0 = (w.alloc (.cells #[.slice (some ⟨g, 0, none⟩) ns.length cap0] 27)).alloc (.cells #[.int .i64 u] 3) := ⟨_, rfl⟩
  have hb0 : Below w.heap.size w w0 := by rw [hw0]; exact balloc (balloc (b0 w) _) _
  have hs0 : w0.heap.size = w.heap.size + 2 := by rw [hw0]; simp
  have q0 : w0.cell? ⟨w.heap.size, 0, none⟩ = some (.slice (some ⟨g, 0, none⟩) ns.length cap0) := by
    rw [hw0]
    exact cell_below (balloc (b0 (w.alloc _)) _) (by simp) ((alloc_cell w _ _ 0).trans rfl)
  have q1 : w0.cell? ⟨w.heap.size + 1, 0, none⟩ = some (.int .i64 u) := by
    rw [hw0]
    have := alloc_cell (w.alloc (.cells #[.slice (some ⟨g, 0, none⟩) ns.length cap0] 27)) #[.int .i64 u] 3 0
    rw [World.size_alloc] at this
    exact this
  have hcall := index_any _ l (fun t => t.unit == u) 69 #[.pointer (some ⟨w.heap.size + 1, 0, none⟩)] eg w0 (HL.out.lift hb0 hb0.size) (mask_clos l u (w.heap.size + 1) w0 (by omega) q1)
  have HB0 := hid hb0
  have HU0 := hid (uni_later HH.out hb0)
  have HCALL := hid hcall
  have HW0 := hid hw0
  have HQ := hid (And.intro q0 (And.intro q1 hs0))
  clear hc ho hl hcall hw0 q0 q1 hs0 hb0 eg
  cases hfd : l.find? (fun t => t.unit == u) with
  | none =>
    have HM : Hid (maskF ns l u = fullF ns u) := hid (by unfold maskF; rw [hfd])
    have HF := hid hfd
    clear hfd
    go_enter Tryz.func45, Tryz.ntmps45
    go_wp2_with (first
      | (go_at_call 65; rw [← HW0.out]; refine HCALL.out.mono ?_; rintro e w1 ⟨r, rfl, hr, hb'⟩; have HB := hid hb'
         obtain rfl : r = -1 := (by rcases find_of_idx hr with ⟨h, _⟩ | ⟨k, _, _, h⟩; exact h; rw [HF.out] at h; cases h)
         have q2 := cell_below hb' (by have := HQ.out.2.2; omega) HQ.out.1; have q3 := cell_below hb' (by have := HQ.out.2.2; omega) HQ.out.2.1; clear hb' hr)
      | (go_at_call 34; refine (full_any _ ns u _ _ (uni_later HU0.out HB.out) HO.out (fun _ h => h)).mono ?_; rintro e w2 ⟨rfl, hb2⟩))
    go_ret
    exact ⟨ret_int HM.out.symm, bstep (bstep HB0.out HB.out) hb2⟩
  | some t =>
    have HM : Hid (maskF ns l u = t.mask) := hid (by unfold maskF; rw [hfd])
    have HF := hid hfd
    clear hfd
    go_enter Tryz.func45, Tryz.ntmps45
    go_wp2_with (first
      | (go_at_call 65; rw [← HW0.out]; refine HCALL.out.mono ?_; rintro e w1 ⟨r, rfl, hr, hb'⟩; have HB := hid hb'
         obtain ⟨k, hk, rfl, hkt⟩ : ∃ k, ∃ hk : k < l.length, r = k ∧ l[k] = t := (by
           rcases find_of_idx hr with ⟨_, h⟩ | ⟨k, hk, e, h⟩
           · rw [HF.out] at h; cases h
           · rw [HF.out] at h; exact ⟨k, hk, e, (Option.some.inj h).symm⟩)
         obtain ⟨gg, o, hA, hF, g0, g1, -, -⟩ := HC.out k hk
         subst hA
         have c1 := cell_below hb' (Nat.lt_of_lt_of_le hF HB0.out.size) (cell_below HB0.out hF g1)
         obtain ⟨mm, hmm⟩ : ∃ mm, l[k].mask = mm := ⟨_, rfl⟩
         rw [hmm] at c1
         have HMM := hid (show maskF ns l u = mm by rw [HM.out, ← hkt, hmm])
         have i1 : (0 : Int) ≤ ↑k := (by omega)
         have i2 : (↑k : Int) < ↑l.length := (by omega)
         clear g0 g1 hmm hkt hb' hr))
    go_ret
    exact ⟨ret_int HMM.out.symm, bstep HB0.out HB.out⟩
end Go.Proofs.YtilkhofgcgfnlaaGreat
