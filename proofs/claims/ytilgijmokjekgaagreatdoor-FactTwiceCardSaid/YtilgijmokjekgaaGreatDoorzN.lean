import Derived.Test.YtilgijmokjekgaaGreatDoorzBase
import Derived.Outline
import Derived.BigQuiet
import Derived.Deep.DeepMust
import Derived.Shelf.Abstract
import Derived.Deep.RegionWith
section
/- Contracts: ref21.bit, ref21.Full. -/
namespace Go.Proofs.YtilgijmokjekgaaGreatDoor
open Go Go.RowKit

set_option maxHeartbeats 400000 in
theorem rbit_any (v : Nat) (w : World) (hv : v ≤ 16) :
    Calls Tryz.prog 64 #[.int .i64 v] w fun e w' => e = .returned (.int .i64 (pw v)) ∧ w' = w := by
  go_enter Tryz.func64, Tryz.ntmps64
  go_wp2
  go_loopw [3, 4] (fun mv iv wr => ∃ i : Nat, i ≤ v ∧ mv = .int .i64 (pw i) ∧ iv = .int .i64 i ∧ wr = w) (fun _ iv _ => v - (intOf iv).toNat)
  case atStart => exact ⟨0, Nat.zero_le _, by simp [pw], rfl, rfl⟩
  case round =>
    obtain ⟨i, hi, rfl, rfl, rfl⟩ := hrel
    obtain ⟨p1, p2⟩ := pw_bd (i := i) (by omega)
    have hs := pw_succ i
    by_cases hlt : i < v
    · have z1 : decide ((i : Int) < v) = true := decide_eq_true (by omega)
      go_wp2
      refine ⟨⟨i + 1, by omega, by rw [hs], by go_num, ?_⟩, by simp [intOf]; omega⟩
      first | trivial | rfl
    · have e : i = v := by omega
      subst e
      have z1 : decide ((i : Int) < i) = false := decide_eq_false (by omega)
      go_wp2
      go_ret
      exact ⟨rfl, rfl⟩

set_option maxHeartbeats 400000 in
theorem rfull_any (v : Value) (ns : List Nat) (u : Int) (w : World) (F : Nat → Prop) (h : UniRd w F v ns) (ho : NsOk ns) (hu : I64 u) (hF : ∀ k, F k → k < w.heap.size) :
    Calls Tryz.prog 29 #[v, .int .i64 u] w fun e w' => e = .returned (.int .i64 (fullF ns u)) ∧ Below w.heap.size w w' := by
  obtain ⟨g, cap, rfl, hg, hc⟩ := h
  have hgl := hF g hg
  have hne : g ≠ w.heap.size := by omega
  go_enter Tryz.func29, Tryz.ntmps29
  by_cases h0 : u < 0
  · go_wp2
    all_goals go_ret
    exact ⟨ret_int (by unfold fullF; rw [if_pos (.inl h0)]), balloc (b0 w) _⟩
  · by_cases h1 : (ns.length : Int) ≤ u
    · go_wp2
      all_goals go_ret
      exact ⟨ret_int (by unfold fullF; rw [if_pos (.inr h1)]), balloc (b0 w) _⟩
    · obtain ⟨k, rfl⟩ : ∃ k : Nat, u = ↑k := ⟨u.toNat, by omega⟩
      have hk : k < ns.length := by omega
      have hn := ho.le k hk
      have he : fullF ns ↑k = pw (ns[k] + 1) - 1 := by
        unfold fullF
        rw [if_neg (by omega), Int.toNat_natCast, List.getElem?_eq_getElem hk]
        rfl
      obtain ⟨Ak, ck, hck⟩ := hc k hk
      generalize ns[k] = n at *
      have k1 : (0 : Int) ≤ ↑k := by omega
      have k2 : (↑k : Int) < ↑ns.length := by omega
      have p := pw_bd (i := n + 1) (by omega)
      have m1 : min (n : Int) 16 = n := by omega
      clear hc
      go_wp2_with (go_at_call 64; refine (rbit_any (n + 1) _ (by omega)).mono ?_; rintro e w1 ⟨rfl, rfl⟩)
      go_ret
      exact ⟨ret_int (by rw [he]), balloc (b0 w) _⟩
end Go.Proofs.YtilgijmokjekgaaGreatDoor
end
section
/- Contracts: term.has, term.bit, term.Full. -/
namespace Go.Proofs.YtilgijmokjekgaaGreatDoor
open Go Go.RowKit

def hasF (ns : List Nat) (u : Int) : Bool := decide (0 ≤ u) && decide (u < ns.length)
set_option maxHeartbeats 400000 in
theorem has_any (v : Value) (ns : List Nat) (u : Int) (w : World) (F : Nat → Prop) (h : UniRd w F v ns) :
    Calls Tryz.prog 116 #[v, .int .i64 u] w fun e w' => e = .returned (.bool (hasF ns u)) ∧ Below w.heap.size w w' := by
  obtain ⟨g, cap, rfl, hg, hc⟩ := h
  clear hc
  go_enter Tryz.func116, Tryz.ntmps116
  by_cases h0 : 0 ≤ u
  · by_cases h1 : u < ns.length
    · go_wp2
      all_goals go_ret
      exact ⟨ret_bool (by simp [hasF, h0, h1]), balloc (b0 w) _⟩
    · go_wp2
      all_goals go_ret
      exact ⟨ret_bool (by simp [hasF, h0, h1]), balloc (b0 w) _⟩
  · go_wp2
    all_goals go_ret
    exact ⟨ret_bool (by simp [hasF]; omega), balloc (b0 w) _⟩
set_option maxHeartbeats 400000 in
theorem bit_any (i : Nat) (w : World) (hi : i ≤ 16) :
    Calls Tryz.prog 91 #[.int .i64 (i - 1)] w fun e w' => e = .returned (.int .i64 (pw i)) ∧ w' = w := by
  go_enter Tryz.func91, Tryz.ntmps91
  have e : (i : Int) - 1 + 1 = i := by omega
  have p := pw_bd (i := i) (by omega)
  go_wp2
  go_ret
  exact ⟨ret_int (by
    have h2 : (2 : Int) ^ i = pw i := by unfold pw; push_cast; rfl
    rw [h2]
    exact IntWalk.wrap64_in (pw i) (by omega)), rfl⟩
set_option maxHeartbeats 400000 in
theorem full_any (v : Value) (ns : List Nat) (u : Int) (w : World) (F : Nat → Prop) (h : UniRd w F v ns) (ho : NsOk ns) (hF : ∀ k, F k → k < w.heap.size) :
    Calls Tryz.prog 78 #[v, .int .i64 u] w fun e w' => e = .returned (.int .i64 (fullF ns u)) ∧ Below w.heap.size w w' := by
  have HU := hid h
  obtain ⟨g, cap, rfl, hg, hc⟩ := h
  have hgl := hF g hg
  have hal : ∀ o, UniRd (w.alloc o) F (.agg #[.slice (some ⟨g, 0, none⟩) ns.length cap]) ns := fun o => HU.out.keep fun j hj => Below.heap_alloc w o j (hF j hj)
  have hbx : ∀ xs t, (w.alloc (.cells xs t)).cell? ⟨w.heap.size, 0, none⟩ = xs[0]? := fun xs t => World.cell?_alloc_new w xs t 0
  go_enter Tryz.func78, Tryz.ntmps78
  by_cases h0 : 0 ≤ u ∧ u < ns.length
  · obtain ⟨k, rfl⟩ : ∃ k : Nat, u = ↑k := ⟨u.toNat, by omega⟩
    have hk : k < ns.length := by omega
    have hn := ho.le k hk
    have he : fullF ns ↑k = pw (ns[k] + 1) - 1 := by
      unfold fullF
      rw [if_neg (by omega), Int.toNat_natCast, List.getElem?_eq_getElem hk]
      rfl
    obtain ⟨Ak, ck, hck⟩ := hc k hk
    have hhas : hasF ns ↑k = true := by simp [hasF, hk]
    have hck' : ∀ o, (w.alloc o).cell? ⟨g, k * 3 + 2, none⟩ = some (.slice Ak ns[k] ck) := fun o => cell_below (balloc (b0 w) o) hgl hck
    generalize ns[k] = n at *
    have k1 : (0 : Int) ≤ ↑k := by omega
    have k2 : (↑k : Int) < ↑ns.length := by omega
    have p := pw_bd (i := n + 1) (by omega)
    have hb := fun wx => bit_any (n + 1) wx (by omega)
    simp only [show ((n + 1 : Nat) : Int) - 1 = n by omega] at hb
    clear hc h0
    go_wp2_with (first
      | (go_at_call 116; refine (has_any _ ns _ _ F (hal _)).mono ?_; rintro e w1 ⟨rfl, hb1⟩; rw [hhas]; have hc1 := cell_below hb1 (by simp; omega) (hck' _); have hc2 := cell_below hb1 (by simp) (hbx _ _); have HB1 := hid hb1; clear hb1)
      | (go_at_call 91; refine (hb _).mono ?_; rintro e w2 ⟨rfl, rfl⟩))
    go_ret
    exact ⟨ret_int (by rw [he]), (balloc (b0 w) _).trans (HB1.out.mono (by simp))⟩
  · have hhas : hasF ns u = false := by simp [hasF]; omega
    have he : fullF ns u = 0 := by unfold fullF; rw [if_pos (by omega)]
    clear hc
    go_wp2_with (go_at_call 116; refine (has_any _ ns _ _ F (hal _)).mono ?_; rintro e w1 ⟨rfl, hb1⟩; rw [hhas])
    go_ret
    exact ⟨ret_int he.symm, (balloc (b0 w) _).trans (hb1.mono (by simp))⟩
end Go.Proofs.YtilgijmokjekgaaGreatDoor
end
section
/- Contracts: term.Value, ref21.Value, term.Holds, ref21.Holds. -/
namespace Go.Proofs.YtilgijmokjekgaaGreatDoor
open Go Go.RowKit

theorem alloc_cell (w : World) (xs : Array Value) (t : TypeId) (i : Nat) : (w.alloc (.cells xs t)).cell? ⟨w.heap.size, i, none⟩ = xs[i]? := World.cell?_alloc_new w xs t i
theorem uni_later {w w0 : World} {v : Value} {ns : List Nat} (h : UniRd w (Lt w.heap.size) v ns) (hb : Below w.heap.size w w0) : UniRd w0 (Lt w0.heap.size) v ns :=
  (h.below hb).more fun _ hk => Nat.lt_of_lt_of_le hk hb.size
theorem uni_lat {w0 : World} {v : Value} {ns : List Nat} (h : UniRd w0 (Lt w0.heap.size) v ns) (e : Later w0) : UniRd e.w (Lt e.w.heap.size) v ns := uni_later h e.below
/-- A choice's entry. -/
theorem choice_at {w : World} {F : Nat → Prop} {cv : Value} {c : List Int} {ns : List Nat} (h : SliceRd tInt w F cv c) (hc : ChoiceOk ns c) {u : Nat} (hu : u < ns.length) :
    ∃ A cap g o i, cv = .slice A c.length cap ∧ A = some ⟨g, o, none⟩ ∧ F g ∧ c.length = ns.length ∧ w.cell? ⟨g, o + u, none⟩ = some (.int .i64 ((i : Nat) - 1)) ∧ i ≤ ns.getD u 0 ∧ valN c u = 2 ^ i := by
  obtain ⟨A, cap, rfl, hcap, hmax, hat⟩ := h.ints
  obtain ⟨g, o, hA, hF, hcell, -⟩ := hat u (by rw [hc.len]; exact hu)
  have hv := hc.val u hu
  have hcu : u < c.length := by rw [hc.len]; exact hu
  rw [List.getD_eq_getElem?_getD, List.getElem?_eq_getElem hcu] at hv
  simp only [Option.getD_some] at hv
  refine ⟨A, cap, g, o, (c[u] + 1).toNat, rfl, hA, hF, hc.len, ?_, ?_, ?_⟩
  · rw [hcell]
    congr 2
    omega
  · rw [List.getD_eq_getElem?_getD, List.getElem?_eq_getElem hu]
    simp only [Option.getD_some]
    omega
  · unfold valN
    rw [List.getD_eq_getElem?_getD, List.getElem?_eq_getElem hcu]
    rfl
set_option maxRecDepth 100000 in
set_option maxHeartbeats 1000000 in
theorem rvalue_any (v cv : Value) (ns : List Nat) (c : List Int) (u : Nat) (w : World) (h : UniRd w (Lt w.heap.size) v ns) (ho : NsOk ns) (hcv : SliceRd tInt w (Lt w.heap.size) cv c) (hc : ChoiceOk ns c) (hu : u < ns.length) :
    Calls Tryz.prog 65 #[v, cv, .int .i64 u] w fun e w' => e = .returned (.int .i64 (valN c u : Nat)) ∧ Below w.heap.size w w' := by
  obtain ⟨A, cap, g1, o1, i, rfl, rfl, hg1, hcl, hci, hin, hval⟩ := choice_at hcv hc hu
  obtain ⟨g, cap0, rfl, hg, hat⟩ := h
  obtain ⟨Ak, ck, hck⟩ := hat u hu
  have hn := ho.le u hu
  rw [List.getD_eq_getElem?_getD, List.getElem?_eq_getElem hu] at hin
  simp only [Option.getD_some] at hin
  generalize ns[u] = n at *
  have k1 : (0 : Int) ≤ ↑u := by omega
  have k2 : (↑u : Int) < ↑ns.length := by omega
  have k3 : (↑u : Int) < ↑c.length := by omega
  obtain ⟨x, hx⟩ : ∃ x : Int, x = (i : Int) - 1 := ⟨_, rfl⟩
  have HX := hid hx
  rw [← hx] at hci
  have p := pw_bd (i := i) (by omega)
  have HV := hid hval
  have z2 : decide (x < -1) = false := decide_eq_false (by omega)
  have z3 : decide ((n : Int) ≤ x) = false := decide_eq_false (by omega)
  have m1 : min (n : Int) 16 = n := by omega
  have y1 : IntKind.i64.wrap (x + 1) = x + 1 := IntWalk.i64_in _ (by omega)
  have y2 : x + 1 = i := by omega
  clear hat hcv hc hval hcl hx
  go_enter Tryz.func65, Tryz.ntmps65
  go_wp2
  obtain ⟨w0, hw0⟩ : ∃ w0 : World, w0 = w.alloc (.cells #[.slice (some ⟨g, 0, none⟩) ns.length cap0] 25) := ⟨_, rfl⟩
  have hb0 : Below w.heap.size w w0 := hw0 ▸ balloc (b0 w) _
  have hl0 : w.heap.size < w0.heap.size := by rw [hw0]; simp
  have hx0 : w0.cell? ⟨w.heap.size, 0, none⟩ = some (.slice (some ⟨g, 0, none⟩) ns.length cap0) := by rw [hw0, alloc_cell]; rfl
  have l1 := later_cell hl0 hx0
  have l2 := later_cell (Nat.lt_of_lt_of_le hg hb0.size) (cell_below hb0 hg hck)
  have l3 := later_cell (Nat.lt_of_lt_of_le hg1 hb0.size) (cell_below hb0 hg1 hci)
  have HB0 := hid hb0
  have HI := hid hin
  rw [← hw0]
  clear hw0 hx0 hck hci hb0 hin
  (refine wp_region_later (by kernel_rfl) (by kernel_rfl) ?_; (repeat (go_big_quiet_step ((fail)))); refine wpQuiet_nil ?_; rintro _ ⟨e1, rfl⟩)
  have hci1 := l3 e1
  obtain ⟨wx, hwx⟩ : ∃ wx : World, wx = e1.w := ⟨_, rfl⟩
  have HBX := hid (show Below w0.heap.size w0 wx from hwx ▸ e1.below)
  rw [← hwx] at hci1 ⊢
  clear hwx l1 l2 l3
  have Y2 := hid y2
  clear m1 y1 y2 p z2 z3
  go_wp2_with fail
  rw [IntWalk.wrap64_in (x + 1) (by have := HI.out; have := Y2.out; omega), Y2.out]
  refine (rbit_any i _ (by have := HI.out; omega)).mono ?_
  rintro e w2 ⟨rfl, rfl⟩
  go_wp2_with fail
  go_ret
  exact ⟨ret_int (by rw [HV.out]; rfl), bstep HB0.out HBX.out⟩

/-- Does a term hold? -/
def holdT (c : List Int) (t : Term) : Bool := valN c t.unit.toNat &&& nm t.mask != 0
theorem valN_lt {ns : List Nat} (ho : NsOk ns) {c : List Int} (hc : ChoiceOk ns c) {u : Nat} (hu : u < ns.length) : valN c u ≤ 16 := by
  have h1 := hc.val u hu
  have h2 := ho.le u hu
  unfold valN
  have : 2 ^ (c.getD u 0 + 1).toNat ≤ 2 ^ 4 := Nat.pow_le_pow_right (by decide) (by omega)
  exact this
theorem two_boxes {w w0 : World} {x : Value} {y z : Value} {t t' : TypeId} (h : w0 = (w.alloc (.cells #[x] t)).alloc (.cells #[y, z] t')) :
    Below w.heap.size w w0 ∧ w0.heap.size = w.heap.size + 2 ∧ w0.cell? ⟨w.heap.size, 0, none⟩ = some x ∧ w0.cell? ⟨w.heap.size + 1, 0, none⟩ = some y ∧ w0.cell? ⟨w.heap.size + 1, 1, none⟩ = some z := by
  subst h
  refine ⟨balloc (balloc (b0 w) _) _, by simp, ?_, ?_, ?_⟩
  · exact cell_below (balloc (b0 (w.alloc (.cells #[x] t))) _) (by simp) ((alloc_cell w _ _ 0).trans rfl)
  · have := alloc_cell (w.alloc (.cells #[x] t)) #[y, z] t' 0
    rw [World.size_alloc] at this
    exact this
  · have := alloc_cell (w.alloc (.cells #[x] t)) #[y, z] t' 1
    rw [World.size_alloc] at this
    exact this
set_option maxHeartbeats 1000000 in
theorem rholds_any (v cv : Value) (ns : List Nat) (c : List Int) (t : Term) (w : World) (h : UniRd w (Lt w.heap.size) v ns) (ho : NsOk ns) (hcv : SliceRd tInt w (Lt w.heap.size) cv c) (hc : ChoiceOk ns c) (hu : 0 ≤ t.unit ∧ t.unit < ns.length) :
    Calls Tryz.prog 58 #[v, .agg #[.int .i64 t.unit, .int .i64 t.mask], cv] w fun e w' => e = .returned (.bool (holdT c t)) ∧ Below w.heap.size w w' := by
  obtain ⟨m, hm⟩ : ∃ m, t.mask = m := ⟨_, rfl⟩
  obtain ⟨u, hun⟩ : ∃ u : Nat, t.unit = u := ⟨t.unit.toNat, by omega⟩
  have hun2 : u < ns.length := by omega
  have HT : Hid (holdT c t = !(bits .and .i64 (valN c u : Nat) m == 0)) := hid (by
    have h1 := valN_lt ho hc hun2
    have h2 : nm ((valN c u : Nat) : Int) = valN c u := nm_nat (by omega)
    have h3 : valN c u &&& nm m ≤ 16 := Nat.le_trans Nat.and_le_left h1
    rw [band _ _ (by rw [h2]; omega), h2]
    unfold holdT
    rw [hm, hun, Int.toNat_natCast]
    by_cases h0 : valN c u &&& nm m = 0
    · rw [h0]; rfl
    · have h4 : ¬ (((valN c u &&& nm m : Nat) : Int) = 0) := by omega
      simp only [bne, beq_eq_false_iff_ne.2 h0, beq_eq_false_iff_ne.2 h4])
  rw [hm, hun]
  have HH := hid h
  have HO := hid ho
  have HC := hid hcv
  have HCO := hid hc
  obtain ⟨g, cap0, rfl, -, -⟩ := h
  obtain ⟨A, cap, rfl, -, -, -⟩ := hcv.ints
  clear hcv hc ho hm hun hu
  go_enter Tryz.func58, Tryz.ntmps58
  go_wp2
  obtain ⟨w0, hw0⟩ : ∃ w0 : World, w0 = (w.alloc (.cells #[.slice (some ⟨g, 0, none⟩) ns.length cap0] 25)).alloc (.cells #[.int .i64 u, .int .i64 m] 55) := ⟨_, rfl⟩
  obtain ⟨hb0, hs0, q0, q1, q2⟩ := two_boxes hw0
  have l0 := later_cell (by omega) q0
  have l1 := later_cell (by omega) q1
  have l2 := later_cell (by omega) q2
  have HU0 := hid (uni_later HH.out hb0)
  have HC0 := hid (HC.out.lift hb0 hb0.size)
  have HB0 := hid hb0
  rw [← hw0]
  clear hw0 hs0 q0 q1 q2 hb0
  (refine wp_region_later (by kernel_rfl) (by kernel_rfl) ?_; (repeat (go_big_quiet_step ((go_at_call 65; exact Calls.later (rvalue_any _ _ ns c u _ (uni_lat HU0.out _) HO.out (HC0.out.lift (Later.below _) (Later.below _).size) HCO.out hun2) rfl)))); refine wpQuiet_nil ?_; rintro _ ⟨⟨w1, hb1⟩, rfl⟩)
  go_wp2
  go_ret
  exact ⟨ret_bool (by rw [HT.out]; rfl), bstep HB0.out hb1⟩
end Go.Proofs.YtilgijmokjekgaaGreatDoor
end
section
/- Contracts: slices.IndexFunc, ContainsFunc at terms; incomp.Mask, ref21.Mask, incomp.Holds, ref21.Hold. -/
namespace Go.Proofs.YtilgijmokjekgaaGreatDoor
open Go Go.RowKit

/-- A term as a value. -/
def tv (t : Term) : Value := .agg #[.int .i64 t.unit, .int .i64 t.mask]
/-- What is asked of a predicate on a list's terms: it may make memory. -/
def PredB (P : Program) (g : Nat) (lb : Array Value) (l : List Term) (p : Term → Bool) (w : World) : Prop :=
  ∀ (W : World) (t : Term), t ∈ l → Below w.heap.size w W → Calls P g (#[tv t] ++ lb) W fun e w' => e = .returned (.bool (p t)) ∧ Below w.heap.size w w'
/-- The first place at which it holds. -/
def IdxIs (l : List Term) (p : Term → Bool) (r : Int) : Prop := (r = -1 ∧ ∀ t ∈ l, p t = false) ∨ ∃ k, ∃ h : k < l.length, r = k ∧ p l[k] = true ∧ ∀ j, (hj : j < k) → p (l[j]'(Nat.lt_trans hj h)) = false
set_option maxHeartbeats 1000000 in
theorem index_any (v : Value) (l : List Term) (p : Term → Bool) (g : Nat) (lb : Array Value) (eg : ∀ args w, (callFunc g args).run Tryz.prog w = .ok (.enter g args) w) (w : World) (h : SliceRd tTerm w (Lt w.heap.size) v l) (hp : PredB Tryz.prog g lb l p w) :
    Calls Tryz.prog 51 #[v, .func (.func g) #[] lb] w fun e w' => ∃ r : Int, e = .returned (.int .i64 r) ∧ IdxIs l p r ∧ Below w.heap.size w w' := by
  obtain ⟨A, cap, rfl, hcap, hmax, hc⟩ := h.terms
  unfold maxLen at hmax
  have HC := hid hc
  have HP := hid hp
  clear hc h hp
  go_enter Tryz.func51, Tryz.ntmps51
  go_wp2
  go_loopw [5, 8] (fun _ kv wr => ∃ k : Nat, k ≤ l.length ∧ kv = .int .i64 k ∧ Hid (Below w.heap.size w wr) ∧ Hid (∀ j, (hj : j < l.length) → j < k → p l[j] = false)) (fun _ kv _ => l.length - (intOf kv).toNat)
  case atStart => exact ⟨0, Nat.zero_le _, rfl, hid (b0 w), hid (fun j _ hj => absurd hj (by omega))⟩
  case round =>
    obtain ⟨k, hk, rfl, hb, hn⟩ := hrel
    by_cases hlt : k < l.length
    · obtain ⟨gg, o, hA, hF, g0, g1, -, -⟩ := HC.out k hlt
      subst hA
      have c0 := cell_below hb.out hF g0
      have c1 := cell_below hb.out hF g1
      have i1 : (0 : Int) ≤ ↑k := by omega
      have i2 : (↑k : Int) < ↑l.length := by omega
      have hcall := HP.out wr l[k] (List.getElem_mem hlt) hb.out
      obtain ⟨a, ha⟩ : ∃ a, l[k].unit = a := ⟨_, rfl⟩
      obtain ⟨m, hm⟩ : ∃ m, l[k].mask = m := ⟨_, rfl⟩
      unfold tv at hcall
      rw [ha, hm] at hcall
      rw [ha] at c0
      rw [hm] at c1
      clear g0 g1
      cases hq : p l[k] with
      | true =>
        have HQ := hid hq
        rw [hq] at hcall
        clear hq ha hm
        go_wp2_with (go_at_fn g; refine hcall.mono ?_; rintro e w' ⟨rfl, hb'⟩)
        go_ret
        exact ⟨_, rfl, .inr ⟨k, hlt, rfl, HQ.out, fun j hj => hn.out j _ hj⟩, hb'⟩
      | false =>
        have HQ := hid hq
        rw [hq] at hcall
        clear hq ha hm
        go_wp2_with (go_at_fn g; refine hcall.mono ?_; rintro e w' ⟨rfl, hb'⟩)
        exact ⟨⟨k + 1, by omega, by go_num, hid hb', hid (fun j hj hjk => if e : j = k then by subst e; exact HQ.out else hn.out j hj (by omega))⟩, by simp [intOf]; omega⟩
    · go_wp2
      go_ret
      exact ⟨_, rfl, .inl ⟨rfl, fun t ht => by obtain ⟨j, hj, rfl⟩ := List.getElem_of_mem ht; exact hn.out j hj (by omega)⟩, hb.out⟩
/- incomp.Mask. -/
theorem mask_clos (l : List Term) (u : Int) (b : Nat) (w : World) (hb : b < w.heap.size) (hc : w.cell? ⟨b, 0, none⟩ = some (.int .i64 u)) : PredB Tryz.prog 150 #[.pointer (some ⟨b, 0, none⟩)] l (fun t => t.unit == u) w := fun W t _ hw => by
  have c0 := cell_below hw hb hc
  have hbW := Nat.lt_of_lt_of_le hb hw.size
  have hne : b ≠ W.heap.size := by omega
  show Calls Tryz.prog 150 #[.agg #[.int .i64 t.unit, .int .i64 t.mask], .pointer (some ⟨b, 0, none⟩)] W _
  go_enter Tryz.func150, Tryz.ntmps150
  go_wp2
  go_ret
  exact ⟨rfl, hw.alloc hw.size _⟩
theorem find_of_idx {l : List Term} {p : Term → Bool} {r : Int} (h : IdxIs l p r) : (r = -1 ∧ l.find? p = none) ∨ ∃ k, ∃ hk : k < l.length, r = k ∧ l.find? p = some l[k] := by
  rcases h with ⟨rfl, h⟩ | ⟨k, hk, rfl, hp, hn⟩
  · exact .inl ⟨rfl, List.find?_eq_none.2 fun t ht => by rw [h t ht]; decide⟩
  · refine .inr ⟨k, hk, rfl, List.find?_eq_some_iff_getElem.2 ⟨hp, k, hk, rfl, fun j hj => ?_⟩⟩
    rw [hn j hj]; rfl
set_option maxRecDepth 100000 in
set_option maxHeartbeats 1000000 in
theorem mask_any (v lv : Value) (ns : List Nat) (l : List Term) (u : Int) (w : World) (h : UniRd w (Lt w.heap.size) v ns) (ho : NsOk ns) (hl : SliceRd tTerm w (Lt w.heap.size) lv l) :
    Calls Tryz.prog 125 #[v, lv, .int .i64 u] w fun e w' => e = .returned (.int .i64 (maskF ns l u)) ∧ Below w.heap.size w w' := by
  have HH := hid h
  have HO := hid ho
  have HL := hid hl
  obtain ⟨g, cap0, rfl, hg, -⟩ := h
  obtain ⟨A, cap, rfl, hcap, hmax, hc⟩ := hl.terms
  unfold maxLen at hmax
  have HC := hid hc
  have eg := enters_of (P := Tryz.prog) Tryz.func150 (by kernel_rfl) rfl
  obtain ⟨w0, hw0⟩ : ∃ w0 : World, w0 = (w.alloc (.cells #[.slice (some ⟨g, 0, none⟩) ns.length cap0] 25)).alloc (.cells #[.int .i64 u] 3) := ⟨_, rfl⟩
  have hb0 : Below w.heap.size w w0 := by rw [hw0]; exact balloc (balloc (b0 w) _) _
  have hs0 : w0.heap.size = w.heap.size + 2 := by rw [hw0]; simp
  have q0 : w0.cell? ⟨w.heap.size, 0, none⟩ = some (.slice (some ⟨g, 0, none⟩) ns.length cap0) := by
    rw [hw0]
    exact cell_below (balloc (b0 (w.alloc _)) _) (by simp) ((alloc_cell w _ _ 0).trans rfl)
  have q1 : w0.cell? ⟨w.heap.size + 1, 0, none⟩ = some (.int .i64 u) := by
    rw [hw0]
    have := alloc_cell (w.alloc (.cells #[.slice (some ⟨g, 0, none⟩) ns.length cap0] 25)) #[.int .i64 u] 3 0
    rw [World.size_alloc] at this
    exact this
  have hcall := index_any _ l (fun t => t.unit == u) 150 #[.pointer (some ⟨w.heap.size + 1, 0, none⟩)] eg w0 (HL.out.lift hb0 hb0.size) (mask_clos l u (w.heap.size + 1) w0 (by omega) q1)
  have HB0 := hid hb0
  have HU0 := hid (uni_later HH.out hb0)
  have HCALL := hid hcall
  have HW0 := hid hw0
  have HQ := hid (And.intro q0 (And.intro q1 hs0))
  clear hc ho hl hcall hw0 q0 q1 hs0 hb0 eg
  cases hfd : l.find? (fun t => t.unit == u) with
  | none =>
    have HM : Hid (maskF ns l u = fullF ns u) := hid (by unfold maskF; rw [hfd])
    have HF := hid hfd
    clear hfd
    go_enter Tryz.func125, Tryz.ntmps125
    go_wp2_with (first
      | (go_at_call 51; rw [← HW0.out]; refine HCALL.out.mono ?_; rintro e w1 ⟨r, rfl, hr, hb'⟩; have HB := hid hb'
         obtain rfl : r = -1 := (by rcases find_of_idx hr with ⟨h, _⟩ | ⟨k, _, _, h⟩; exact h; rw [HF.out] at h; cases h)
         have q2 := cell_below hb' (by have := HQ.out.2.2; omega) HQ.out.1; have q3 := cell_below hb' (by have := HQ.out.2.2; omega) HQ.out.2.1; clear hb' hr)
      | (go_at_call 78; refine (full_any _ ns u _ _ (uni_later HU0.out HB.out) HO.out (fun _ h => h)).mono ?_; rintro e w2 ⟨rfl, hb2⟩))
    go_ret
    exact ⟨ret_int HM.out.symm, bstep (bstep HB0.out HB.out) hb2⟩
  | some t =>
    have HM : Hid (maskF ns l u = t.mask) := hid (by unfold maskF; rw [hfd])
    have HF := hid hfd
    clear hfd
    go_enter Tryz.func125, Tryz.ntmps125
    go_wp2_with (first
      | (go_at_call 51; rw [← HW0.out]; refine HCALL.out.mono ?_; rintro e w1 ⟨r, rfl, hr, hb'⟩; have HB := hid hb'
         obtain ⟨k, hk, rfl, hkt⟩ : ∃ k, ∃ hk : k < l.length, r = k ∧ l[k] = t := (by
           rcases find_of_idx hr with ⟨_, h⟩ | ⟨k, hk, e, h⟩
           · rw [HF.out] at h; cases h
           · rw [HF.out] at h; exact ⟨k, hk, e, (Option.some.inj h).symm⟩)
         obtain ⟨gg, o, hA, hF, g0, g1, -, -⟩ := HC.out k hk
         subst hA
         have c1 := cell_below hb' (Nat.lt_of_lt_of_le hF HB0.out.size) (cell_below HB0.out hF g1)
         obtain ⟨mm, hmm⟩ : ∃ mm, l[k].mask = mm := ⟨_, rfl⟩
         rw [hmm] at c1
         have HMM := hid (show maskF ns l u = mm by rw [HM.out, ← hkt, hmm])
         have i1 : (0 : Int) ≤ ↑k := (by omega)
         have i2 : (↑k : Int) < ↑l.length := (by omega)
         clear g0 g1 hmm hkt hb' hr))
    go_ret
    exact ⟨ret_int HMM.out.symm, bstep HB0.out HB.out⟩
end Go.Proofs.YtilgijmokjekgaaGreatDoor
end
section
/- Contracts: ref21.Mask, incomp.Holds, ref21.Hold, term.May, incomp.May. -/
namespace Go.Proofs.YtilgijmokjekgaaGreatDoor
open Go Go.RowKit

theorem maskF_hit {ns : List Nat} {l : List Term} {u : Int} {k : Nat} (hk : k < l.length) (hu : l[k].unit = u) (hn : ∀ j, (hj : j < l.length) → j < k → l[j].unit ≠ u) : maskF ns l u = l[k].mask := by
  have : l.find? (fun t => t.unit == u) = some l[k] := List.find?_eq_some_iff_getElem.2 ⟨by simp [hu], k, hk, rfl, fun j hj => by simp [hn j (by omega) hj]⟩
  unfold maskF; rw [this]
theorem maskF_miss {ns : List Nat} {l : List Term} {u : Int} (hn : ∀ j, (hj : j < l.length) → l[j].unit ≠ u) : maskF ns l u = fullF ns u := by
  have : l.find? (fun t => t.unit == u) = none := List.find?_eq_none.2 fun t ht => by
    obtain ⟨j, hj, rfl⟩ := List.getElem_of_mem ht
    simp [hn j hj]
  unfold maskF; rw [this]
set_option maxHeartbeats 1000000 in
theorem rmask_any (v lv : Value) (ns : List Nat) (l : List Term) (u : Int) (w : World) (h : UniRd w (Lt w.heap.size) v ns) (ho : NsOk ns) (hl : SliceRd tTerm w (Lt w.heap.size) lv l) (hu : I64 u) :
    Calls Tryz.prog 83 #[v, lv, .int .i64 u] w fun e w' => e = .returned (.int .i64 (maskF ns l u)) ∧ Below w.heap.size w w' := by
  have HH := hid h
  have HO := hid ho
  obtain ⟨g, cap0, rfl, hg, -⟩ := h
  obtain ⟨A, cap, rfl, hcap, hmax, hc⟩ := hl.terms
  unfold maxLen at hmax
  have HC := hid hc
  clear hc hl ho
  go_enter Tryz.func83, Tryz.ntmps83
  go_wp2_with fail
  obtain ⟨w0, hw0⟩ : ∃ w0 : World, w0 = w.alloc (.cells #[.slice (some ⟨g, 0, none⟩) ns.length cap0] 25) := ⟨_, rfl⟩
  have hb0 : Below w.heap.size w w0 := hw0 ▸ balloc (b0 w) _
  have q0 : w0.cell? ⟨w.heap.size, 0, none⟩ = some (.slice (some ⟨g, 0, none⟩) ns.length cap0) := by rw [hw0, alloc_cell]; rfl
  have HB0 := hid hb0
  have HU0 := hid (uni_later HH.out hb0)
  rw [← hw0]
  clear hw0 hb0
  go_loopw [7] (fun iv wr => ∃ k : Nat, k ≤ l.length ∧ iv = .int .i64 k ∧ wr = w0 ∧ Hid (∀ j, (hj : j < l.length) → j < k → l[j].unit ≠ u)) (fun iv _ => l.length - (intOf iv).toNat)
  case atStart => exact ⟨0, Nat.zero_le _, rfl, rfl, hid (fun j _ hj => absurd hj (by omega))⟩
  case round =>
    obtain ⟨k, hk, rfl, rfl, hn⟩ := hrel
    by_cases hlt : k < l.length
    · obtain ⟨gg, o, hA, hF, g0, g1, -, -⟩ := HC.out k hlt
      subst hA
      have c0 := cell_below HB0.out hF g0
      have c1 := cell_below HB0.out hF g1
      have i1 : (0 : Int) ≤ ↑k := by omega
      have i2 : (↑k : Int) < ↑l.length := by omega
      clear g0 g1
      obtain ⟨a, ha⟩ : ∃ a, l[k].unit = a := ⟨_, rfl⟩
      rw [ha] at c0
      have HA := hid ha
      clear ha
      by_cases he : a = u
      · subst he
        have HM := hid (maskF_hit (ns := ns) hlt HA.out hn.out)
        go_wp2
        go_ret
        exact ⟨ret_int HM.out.symm, HB0.out⟩
      · have HE := hid he
        have hz : (a == u) = false := by simpa using he
        clear he
        go_wp2
        exact ⟨⟨k + 1, by omega, by go_num, (by first | trivial | rfl), hid (fun j hj hjk => if e : j = k then by subst e; rw [HA.out]; exact HE.out else hn.out j hj (by omega))⟩, by simp [intOf]; omega⟩
    · have HM := hid (maskF_miss (ns := ns) (u := u) (fun j hj => hn.out j hj (by omega)))
      go_wp2_with (go_at_call 29; refine (rfull_any _ ns u _ _ HU0.out HO.out hu (fun _ h => h)).mono ?_; rintro e w2 ⟨rfl, hb2⟩)
      go_ret
      exact ⟨ret_int HM.out.symm, bstep HB0.out hb2⟩

/- Holds. -/
theorem two_boxes' {w w0 : World} {x : Value} {y : Value} {t t' : TypeId} (h : w0 = (w.alloc (.cells #[x] t)).alloc (.cells #[y] t')) :
    Below w.heap.size w w0 ∧ w0.heap.size = w.heap.size + 2 ∧ w0.cell? ⟨w.heap.size, 0, none⟩ = some x ∧ w0.cell? ⟨w.heap.size + 1, 0, none⟩ = some y := by
  subst h
  refine ⟨balloc (balloc (b0 w) _) _, by simp, ?_, ?_⟩
  · exact cell_below (balloc (b0 (w.alloc (.cells #[x] t))) _) (by simp) ((alloc_cell w _ _ 0).trans rfl)
  · have := alloc_cell (w.alloc (.cells #[x] t)) #[y] t' 0
    rw [World.size_alloc] at this
    exact this
theorem any_not_all (c : List Int) (l : List Term) : (!l.any fun t => !holdT c t) = holdL c l := by
  unfold holdL holdT
  rw [List.any_eq_not_all_not]
  simp
theorem predB_nil {g : Nat} {lb : Array Value} {p : Term → Bool} {w : World} : PredB Tryz.prog g lb [] p w := fun _ _ h => by cases h
/- Hold. -/
set_option maxHeartbeats 1000000 in
theorem rhold_any (v lv cv : Value) (ns : List Nat) (l : List Term) (c : List Int) (w : World) (h : UniRd w (Lt w.heap.size) v ns) (ho : NsOk ns) (hl : SliceRd tTerm w (Lt w.heap.size) lv l) (hcv : SliceRd tInt w (Lt w.heap.size) cv c) (hc : ChoiceOk ns c)
    (hu : ∀ t ∈ l, 0 ≤ t.unit ∧ t.unit < ns.length) :
    Calls Tryz.prog 24 #[v, lv, cv] w fun e w' => e = .returned (.bool (holdL c l)) ∧ Below w.heap.size w w' := by
  have HH := hid h
  have HO := hid ho
  have HCO := hid hc
  have HCV := hid hcv
  have HUU := hid hu
  obtain ⟨g, cap0, rfl, hg, -⟩ := h
  obtain ⟨A, cap, rfl, hcap, hmax, hcc⟩ := hl.terms
  obtain ⟨B, bcap, rfl, -⟩ := hcv.ints
  unfold maxLen at hmax
  have HC := hid hcc
  clear hcc hl ho hcv hc hu
  go_enter Tryz.func24, Tryz.ntmps24
  go_wp2_with fail
  obtain ⟨w0, hw0⟩ : ∃ w0 : World, w0 = w.alloc (.cells #[.slice (some ⟨g, 0, none⟩) ns.length cap0] 25) := ⟨_, rfl⟩
  have hb0 : Below w.heap.size w w0 := hw0 ▸ balloc (b0 w) _
  have hl0 : w.heap.size < w0.heap.size := by rw [hw0]; simp
  have q0 : w0.cell? ⟨w.heap.size, 0, none⟩ = some (.slice (some ⟨g, 0, none⟩) ns.length cap0) := by rw [hw0, alloc_cell]; rfl
  have HB0 := hid hb0
  have HQ := hid q0
  have HU0 := hid (uni_later HH.out hb0)
  have HCV0 := hid (HCV.out.lift hb0 hb0.size)
  rw [← hw0]
  clear hw0 hb0 q0
  go_loopw [7] (fun iv wr => ∃ k : Nat, k ≤ l.length ∧ iv = .int .i64 k ∧ Hid (Below w0.heap.size w0 wr) ∧ Hid (∀ j, (hj : j < l.length) → j < k → holdT c l[j] = true)) (fun iv _ => l.length - (intOf iv).toNat)
  case atStart => exact ⟨0, Nat.zero_le _, rfl, hid (b0 w0), hid (fun j _ hj => absurd hj (by omega))⟩
  case round =>
    obtain ⟨k, hk, rfl, hb, hn⟩ := hrel
    by_cases hlt : k < l.length
    · obtain ⟨gg, o, hA, hF, g0, g1, -, -⟩ := HC.out k hlt
      subst hA
      have hFr : gg < wr.heap.size := Nat.lt_of_lt_of_le hF (Nat.le_trans HB0.out.size hb.out.size)
      have hlr : w.heap.size < wr.heap.size := Nat.lt_of_lt_of_le hl0 hb.out.size
      have l0 := later_cell hlr (cell_below hb.out hl0 HQ.out)
      have l1 := later_cell hFr (cell_below hb.out (Nat.lt_of_lt_of_le hF HB0.out.size) (cell_below HB0.out hF g0))
      have l2 := later_cell hFr (cell_below hb.out (Nat.lt_of_lt_of_le hF HB0.out.size) (cell_below HB0.out hF g1))
      have i1 : (0 : Int) ≤ ↑k := by omega
      have i2 : (↑k : Int) < ↑l.length := by omega
      have HUR := hid (uni_later HU0.out hb.out)
      have HCR := hid (HCV0.out.lift hb.out hb.out.size)
      have HT := hid (HUU.out _ (List.getElem_mem hlt))
      have hcall := fun e : Later wr => rholds_any _ _ ns c l[k] e.w (uni_lat HUR.out e) HO.out (HCR.out.lift e.below e.below.size) HCO.out HT.out
      obtain ⟨a, ha⟩ : ∃ a, l[k].unit = a := ⟨_, rfl⟩
      obtain ⟨m, hm⟩ : ∃ m, l[k].mask = m := ⟨_, rfl⟩
      rw [ha, hm] at hcall
      rw [ha] at l1
      rw [hm] at l2
      clear g0 g1 ha hm
      cases hq : holdT c l[k] with
      | true =>
        have HN : Hid (∀ j, (hj : j < l.length) → j < k + 1 → holdT c l[j] = true) := hid (fun j hj hjk => if e : j = k then by subst e; exact hq else hn.out j hj (by omega))
        rw [hq] at hcall
        have HCALL := hid hcall
        clear hq hcall
        go_wp2_with fail
        (refine wp_region_later (by kernel_rfl) (by kernel_rfl) ?_; (repeat (go_big_quiet_step ((go_at_call 58; exact Calls.later (HCALL.out _) rfl)))); refine wpQuiet_nil ?_; rintro _ ⟨⟨w1, hb1⟩, rfl⟩)
        go_wp2
        exact ⟨⟨k + 1, by omega, by go_num, hid (bstep hb.out hb1), HN⟩, by simp [intOf]; omega⟩
      | false =>
        have HN : Hid (holdL c l = false) := hid (by unfold holdL; exact List.all_eq_false.2 ⟨_, List.getElem_mem hlt, by unfold holdT at hq; rw [hq]; decide⟩)
        rw [hq] at hcall
        have HCALL := hid hcall
        clear hq hcall
        go_wp2_with fail
        (refine wp_region_later (by kernel_rfl) (by kernel_rfl) ?_; (repeat (go_big_quiet_step ((go_at_call 58; exact Calls.later (HCALL.out _) rfl)))); refine wpQuiet_nil ?_; rintro _ ⟨⟨w1, hb1⟩, rfl⟩)
        go_wp2
        go_ret
        exact ⟨ret_bool HN.out.symm, bstep HB0.out (bstep hb.out hb1)⟩
    · have HN : Hid (holdL c l = true) := hid (by
        unfold holdL
        rw [List.all_eq_true]
        intro t ht
        obtain ⟨j, hj, rfl⟩ := List.getElem_of_mem ht
        exact hn.out j hj (by omega))
      go_wp2
      go_ret
      exact ⟨ret_bool HN.out.symm, bstep HB0.out hb.out⟩
end Go.Proofs.YtilgijmokjekgaaGreatDoor
end
section
/- Contracts: term.May, incomp.May, incomp.Within, ref21.Tells, ref21.Within. -/
namespace Go.Proofs.YtilgijmokjekgaaGreatDoor
open Go Go.RowKit

theorem fullN_small {ns : List Nat} (ho : NsOk ns) (u : Nat) : nm ((fullN ns u : Nat) : Int) = fullN ns u := nm_nat (by have := fullN_le ho u; omega)
set_option maxHeartbeats 1000000 in
theorem tmay_any (v : Value) (ns : List Nat) (u m : Nat) (w : World) (h : UniRd w (Lt w.heap.size) v ns) (ho : NsOk ns) (hm0 : m ≠ 0) (hs : m &&& fullN ns u = m) (hf : m ≠ fullN ns u) :
    Calls Tryz.prog 88 #[v, .agg #[.int .i64 u, .int .i64 m]] w fun e w' => e = .returned (.bool true) ∧ Below w.heap.size w w' := by
  have hm31 : m ≤ 31 := by rw [← hs]; exact and_le31 (fullN_le ho u)
  have hz : (bits .andNot .i64 (m : Int) (fullN ns u : Nat) == 0) = true := by
    rw [bandn, nm_nat (by omega), fullN_small ho]
    exact decide_eq_true hs
  have HH := hid h
  obtain ⟨g, cap0, rfl, hg, -⟩ := h
  obtain ⟨w0, hw0⟩ : ∃ w0 : World, w0 = (w.alloc (.cells #[.slice (some ⟨g, 0, none⟩) ns.length cap0] 25)).alloc (.cells #[.int .i64 u, .int .i64 m] 55) := ⟨_, rfl⟩
  obtain ⟨hb0, hs0, q0, q1, q2⟩ := two_boxes hw0
  have HCALL := hid (full_any _ ns u w0 _ (uni_later HH.out hb0) ho (fun _ h => h))
  have HQ1 := hid q1
  have HQ2 := hid q2
  have HS0 := hid hs0
  have HB0 := hid hb0
  have HW0 := hid hw0
  have n1 : ((m : Int) == 0) = false := by simp; omega
  have n2 : ((m : Int) == ((fullN ns u : Nat) : Int)) = false := by simp; omega
  have n3 : ((m : Int) != 0) = true := by simp; omega
  have n4 : ((m : Int) != ((fullN ns u : Nat) : Int)) = true := by simp; omega
  have hff := fullF_nat (ns := ns) u
  rw [hff] at HCALL
  have hn5 : ¬ ((m : Int) = ((fullN ns u : Nat) : Int)) := by omega
  have hn6 : ¬ ((m : Int) = 0) := by omega
  clear hw0 hb0 q0 q1 q2 hs0 ho hs hf hff hm0
  generalize fullN ns u = f at *
  go_enter Tryz.func88, Tryz.ntmps88
  go_wp2_with (go_at_call 78; rw [← HW0.out]; refine HCALL.out.mono ?_; rintro e w1 ⟨rfl, hb1⟩; have c1 := cell_below hb1 (by have := HS0.out; omega) HQ1.out; have c2 := cell_below hb1 (by have := HS0.out; omega) HQ2.out; have HB1 := hid hb1; clear hb1)
  all_goals (first | (exfalso; omega) | skip)
  go_ret
  exact ⟨rfl, bstep HB0.out HB1.out⟩

theorem canon_sorted {ns : List Nat} (M : Nat → Nat) : (canon ns M).Pairwise fun a b => a.unit < b.unit := by
  unfold canon canonTo
  refine List.Pairwise.filterMap (tm ns M) (fun a b hab x hx y hy => ?_) List.pairwise_lt_range
  unfold tm at hx hy
  split at hx
  · cases hx
  · split at hy
    · cases hy
    · have h1 := Option.some.inj hx
      have h2 := Option.some.inj hy
      subst h1; subst h2
      dsimp only
      omega
theorem canon_lt {ns : List Nat} (M : Nat → Nat) {k : Nat} (hk : k < (canon ns M).length) (h0 : k ≠ 0) : ((canon ns M)[k - 1]'(by omega)).unit < (canon ns M)[k].unit :=
  List.pairwise_iff_getElem.1 (canon_sorted M) (k - 1) k (by omega) hk (by omega)
set_option maxRecDepth 100000 in
set_option maxHeartbeats 1000000 in
theorem incMay_l (v lv : Value) (ns : List Nat) (M : Nat → Nat) (l : List Term) (w : World) (h : UniRd w (Lt w.heap.size) v ns) (ho : NsOk ns) (hM : IncOk ns M) (hl : SliceRd tTerm w (Lt w.heap.size) lv l) (hlen : l.length ≤ ns.length)
    (hmem : ∀ k, (hk : k < l.length) → ∃ u, u < ns.length ∧ M u ≠ fullN ns u ∧ l[k] = ⟨(u : Int), (M u : Int)⟩) (hsort : ∀ k, (hk : k < l.length) → k ≠ 0 → (l[k - 1]'(Nat.lt_of_le_of_lt (Nat.sub_le _ _) hk)).unit < l[k].unit) :
    Calls Tryz.prog 49 #[v, lv] w fun e w' => e = .returned (.bool true) ∧ Below w.heap.size w w' := by
  have HH := hid h
  have HO := hid ho
  have HM := hid hM
  have HMEM := hid hmem
  have HSORT := hid hsort
  obtain ⟨g, cap0, rfl, hg, -⟩ := h
  obtain ⟨A, cap, rfl, hcap, hmax, hcc⟩ := hl.terms
  unfold maxLen at hmax
  have HC := hid hcc
  clear hcc hl ho hM hmem hsort
  have hl11 := HO.out.hi
  go_enter Tryz.func49, Tryz.ntmps49
  go_wp2_with fail
  obtain ⟨w0, hw0⟩ : ∃ w0 : World, w0 = w.alloc (.cells #[.slice (some ⟨g, 0, none⟩) ns.length cap0] 25) := ⟨_, rfl⟩
  have hb0 : Below w.heap.size w w0 := hw0 ▸ balloc (b0 w) _
  have hl0 : w.heap.size < w0.heap.size := by rw [hw0]; simp
  have q0 : w0.cell? ⟨w.heap.size, 0, none⟩ = some (.slice (some ⟨g, 0, none⟩) ns.length cap0) := by rw [hw0, alloc_cell]; rfl
  have HB0 := hid hb0
  have HQ := hid q0
  have HU0 := hid (uni_later HH.out hb0)
  rw [← hw0]
  clear hw0 hb0 q0
  go_loopw [5, 6, 9] (fun _ _ iv wr => ∃ k : Nat, k ≤ l.length ∧ iv = .int .i64 k ∧ Hid (Below w0.heap.size w0 wr)) (fun _ _ iv _ => l.length - (intOf iv).toNat)
  case atStart => exact ⟨0, Nat.zero_le _, rfl, hid (b0 w0)⟩
  case round =>
    obtain ⟨k, hk, rfl, hb⟩ := hrel
    by_cases hlt : k < l.length
    · obtain ⟨gg, o, hA, hF, g0, g1, -, -⟩ := HC.out k hlt
      subst hA
      obtain ⟨u, hu, hne, hut⟩ := HMEM.out k hlt
      have HUT := hid hut
      rw [hut] at g0 g1
      dsimp only at g0 g1
      have c0 := cell_below hb.out (Nat.lt_of_lt_of_le hF HB0.out.size) (cell_below HB0.out hF g0)
      have c1 := cell_below hb.out (Nat.lt_of_lt_of_le hF HB0.out.size) (cell_below HB0.out hF g1)
      have i1 : (0 : Int) ≤ ↑k := by omega
      have i2 : (↑k : Int) < ↑l.length := by omega
      clear g0 g1 hut
      go_wp2_with fail
      obtain ⟨wb, hwb⟩ : ∃ wb : World, wb = wr.alloc (.cells #[.int .i64 u, .int .i64 (M u : Nat)] 55) := ⟨_, rfl⟩
      have hbb : Below wr.heap.size wr wb := hwb ▸ balloc (b0 wr) _
      have hlb : wr.heap.size < wb.heap.size := by rw [hwb]; simp
      have y0 : wb.cell? ⟨wr.heap.size, 0, none⟩ = some (.int .i64 u) := by rw [hwb, alloc_cell]; rfl
      have y1 : wb.cell? ⟨wr.heap.size, 1, none⟩ = some (.int .i64 (M u : Nat)) := by rw [hwb, alloc_cell]; rfl
      have hb2 := bstep hb.out hbb
      have HB2 := hid hb2
      have hFb : gg < wb.heap.size := Nat.lt_of_lt_of_le hF (Nat.le_trans HB0.out.size hb2.size)
      have l0 := later_cell (Nat.lt_of_lt_of_le hl0 hb2.size) (cell_below hb2 hl0 HQ.out)
      have l1 := later_cell hlb y0
      have l2 := later_cell hlb y1
      have HUB := hid (uni_later HU0.out hb2)
      have HTM := hid (fun e : Later wb => tmay_any _ ns u (M u) e.w (uni_lat HUB.out e) HO.out (HM.out.pos u hu) (HM.out.sub u hu) hne)
      rw [← hwb]
      clear hwb hbb y0 y1 hb2 c0 c1
      by_cases h0 : k = 0
      · have z1 : decide (0 < k) = false := decide_eq_false (by omega)
        have z2 : decide ((0 : Int) < ↑k) = false := decide_eq_false (by omega)
        clear h0
        (refine wp_region_later (by kernel_rfl) (by kernel_rfl) ?_; (repeat (go_big_quiet_step ((go_at_call 88; exact Calls.later (HTM.out _) rfl)))); refine wpQuiet_nil ?_; rintro _ ⟨⟨w1, hb1⟩, rfl⟩)
        go_wp2
        exact ⟨⟨k + 1, by omega, by go_num, hid (bstep HB2.out hb1)⟩, by simp [intOf]; omega⟩
      · obtain ⟨gg2, o2, hA2, hF2, e0, -, -, -⟩ := HC.out (k - 1) (by omega)
        cases hA2
        have hst := HSORT.out k hlt h0
        rw [HUT.out] at hst
        obtain ⟨a, ha⟩ : ∃ a, (l[k-1]'(by omega)).unit = a := ⟨_, rfl⟩
        rw [ha] at hst e0
        dsimp only at hst
        have l3 := later_cell hFb (cell_below HB2.out (Nat.lt_of_lt_of_le hF2 HB0.out.size) (cell_below HB0.out hF2 e0))
        have i3 : (0 : Int) ≤ ↑k - 1 := by omega
        have i4 : (↑k : Int) - 1 < ↑l.length := by omega
        have i5 : ((↑k : Int) - 1).toNat = k - 1 := by omega
        have i6 : IntKind.i64.wrap (↑k - 1) = (↑k : Int) - 1 := IntWalk.i64_in _ (by omega)
        have z1 : decide (0 < k) = true := decide_eq_true (by omega)
        have z2 : decide ((u : Int) ≤ a) = false := decide_eq_false (by omega)
        clear h0 ha e0 hst
        (refine wp_region_later (by kernel_rfl) (by kernel_rfl) ?_; (repeat (go_big_quiet_step ((go_at_call 88; exact Calls.later (HTM.out _) rfl)))); refine wpQuiet_nil ?_; rintro _ ⟨⟨w1, hb1⟩, rfl⟩)
        go_wp2
        exact ⟨⟨k + 1, by omega, by go_num, hid (bstep HB2.out hb1)⟩, by simp [intOf]; omega⟩
    · go_wp2
      go_ret
      exact ⟨rfl, bstep HB0.out hb.out⟩
theorem incMay_any (v lv : Value) (ns : List Nat) (M : Nat → Nat) (w : World) (h : UniRd w (Lt w.heap.size) v ns) (ho : NsOk ns) (hM : IncOk ns M) (hl : SliceRd tTerm w (Lt w.heap.size) lv (canon ns M)) :
    Calls Tryz.prog 49 #[v, lv] w fun e w' => e = .returned (.bool true) ∧ Below w.heap.size w w' :=
  incMay_l v lv ns M _ w h ho hM hl (canon_len M) (fun _ hk => canon_mem.1 (List.getElem_mem hk)) (fun _ hk h0 => canon_lt M hk h0)
end Go.Proofs.YtilgijmokjekgaaGreatDoor
end
section
/- Contracts: incomp.Within, ref21.Tells, ref21.Within. -/
namespace Go.Proofs.YtilgijmokjekgaaGreatDoor
open Go Go.RowKit

theorem maskN_le {ns : List Nat} (ho : NsOk ns) {M : Nat → Nat} (hM : IncOk ns M) (u : Int) : maskN ns M u ≤ 31 := by
  unfold maskN
  split
  · omega
  · exact hM.le ho _ (by omega)
/-- Does b say at a term's unit no more than the term? -/
def wiT (ns : List Nat) (Mb : Nat → Nat) (t : Term) : Bool := decide (maskN ns Mb t.unit &&& nm t.mask = maskN ns Mb t.unit)
theorem any_not_within (ns : List Nat) (Mb : Nat → Nat) (l : List Term) : (!l.any fun t => !wiT ns Mb t) = withinL ns l Mb := by
  unfold withinL wiT
  rw [List.any_eq_not_all_not]
  simp
/- The reference's. -/
def tellsN (h m : Nat) : Int := if h &&& m = h then 2 else if h &&& m = 0 then 0 else 1
theorem tells_any (h m : Nat) (w : World) (hh : h ≤ 31) (hm : m ≤ 31) :
    Calls Tryz.prog 151 #[.int .i64 h, .int .i64 m] w fun e w' => e = .returned (.int .i64 (tellsN h m)) ∧ w' = w := by
  have hb : bits .and .i64 (h : Int) (m : Int) = ((h &&& m : Nat) : Int) := by
    have h1 : nm (h : Int) = h := nm_nat (by omega)
    have h2 : nm (m : Int) = m := nm_nat (by omega)
    rw [band _ _ (by rw [h1, h2]; have := and_le31 (a := h) hm; omega), h1, h2]
  have HT : Hid (tellsN h m = if h &&& m = h then 2 else if h &&& m = 0 then 0 else 1) := hid rfl
  generalize h &&& m = r at hb HT
  go_enter Tryz.func151, Tryz.ntmps151
  by_cases h1 : r = h
  · have z1 : ((r : Int) == h) = true := by simp [h1]
    go_wp2
    all_goals go_ret
    exact ⟨ret_int (by rw [HT.out, if_pos h1]), rfl⟩
  · have z1 : ((r : Int) == h) = false := by simp; omega
    by_cases h2 : r = 0
    · have z2 : ((r : Int) == 0) = true := by simp; omega
      have HN := hid (show tellsN h m = 0 by rw [HT.out, if_neg h1, if_pos h2])
      clear h1 h2
      go_wp2
      all_goals go_ret
      exact ⟨ret_int HN.out.symm, rfl⟩
    · have z2 : ((r : Int) == 0) = false := by simp; omega
      have HN := hid (show tellsN h m = 1 by rw [HT.out, if_neg h1, if_neg h2])
      clear h1 h2
      go_wp2
      all_goals go_ret
      exact ⟨ret_int HN.out.symm, rfl⟩
end Go.Proofs.YtilgijmokjekgaaGreatDoor
end
