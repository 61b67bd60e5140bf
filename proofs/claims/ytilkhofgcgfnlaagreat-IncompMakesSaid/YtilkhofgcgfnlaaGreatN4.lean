/- Contracts: term.Value, ref21.Value, term.Holds, ref21.Holds. -/
import Derived.Test.YtilkhofgcgfnlaaGreatN3
import Derived.Test.YtilkhofgcgfnlaaGreatP2
import Derived.BigQuiet
import Derived.Deep.DeepMust
import Derived.Outline
namespace Go.Proofs.YtilkhofgcgfnlaaGreat
open Go Go.RowKit

theorem alloc_cell (w : World) (xs : Array Value) (t : TypeId) (i : Nat) : (w.alloc (.cells xs t)).cell? ⟨w.heap.size, i, none⟩ = xs[i]? := World.cell?_alloc_new w xs t i
theorem uni_later {w w0 : World} {v : Value} {ns : List Nat} (h : UniRd w (Lt w.heap.size) v ns) (hb : Below w.heap.size w w0) : UniRd w0 (Lt w0.heap.size) v ns :=
  (h.below hb).more fun _ hk => Nat.lt_of_lt_of_le hk hb.size
theorem uni_lat {w0 : World} {v : Value} {ns : List Nat} (h : UniRd w0 (Lt w0.heap.size) v ns) (e : Later w0) : UniRd e.w (Lt e.w.heap.size) v ns := uni_later h e.below
/-- A choice's entry. -/
theorem choice_at {w : World} {F : Nat → Prop} {cv : Value} {c : List Int} {ns : List Nat} (h : SliceRd tInt w F cv c) (hc : ChoiceOk ns c) {u : Nat} (hu : u < ns.length) :
    ∃ A cap g o i, cv = .slice A c.length cap ∧ A = some ⟨g, o, none⟩ ∧ F g ∧ c.length = ns.length ∧ w.cell? ⟨g, o + u, none⟩ = some (.int .i64 ((i : Nat) - 1)) ∧ i ≤ ns.getD u 0 ∧ valN c u = 2 ^ i := by
  obtain ⟨A, cap, rfl, hcap, hmax, hat⟩ := h.ints
  obtain ⟨g, o, hA, hF, hcell, -⟩ := hat u (by rw [hc.len]; exact hu)
  have hv := hc.val u hu
  have hcu : u < c.length := by rw [hc.len]; exact hu
  rw [List.getD_eq_getElem?_getD, List.getElem?_eq_getElem hcu] at hv
  simp only [Option.getD_some] at hv
  refine ⟨A, cap, g, o, (c[u] + 1).toNat, rfl, hA, hF, hc.len, ?_, ?_, ?_⟩
  · rw [hcell]
    congr 2
    omega
  · rw [List.getD_eq_getElem?_getD, List.getElem?_eq_getElem hu]
    simp only [Option.getD_some]
    omega
  · unfold valN
    rw [List.getD_eq_getElem?_getD, List.getElem?_eq_getElem hcu]
    rfl
set_option maxHeartbeats 1000000 in
theorem value_any (v cv : Value) (ns : List Nat) (c : List Int) (u : Nat) (w : World) (h : UniRd w (Lt w.heap.size) v ns) (ho : NsOk ns) (hcv : SliceRd tInt w (Lt w.heap.size) cv c) (hc : ChoiceOk ns c) (hu : u < ns.length) :
    Calls Tryz.prog 66 #[v, cv, .int .i64 u] w fun e w' => e = .returned (.int .i64 (valN c u : Nat)) ∧ Below w.heap.size w w' := by
  have HU := hid h
  obtain ⟨A, cap, g1, o1, i, rfl, rfl, hg1, hcl, hci, hin, hval⟩ := choice_at hcv hc hu
  obtain ⟨g, cap0, rfl, hg, hat⟩ := h
  obtain ⟨Ak, ck, hck⟩ := hat u hu
  have hn := ho.le u hu
  rw [List.getD_eq_getElem?_getD, List.getElem?_eq_getElem hu] at hin
  simp only [Option.getD_some] at hin
  have hhas : Hid (hasF ns u = true) := hid (by simp [hasF, hu])
  generalize ns[u] = n at *
  have k1 : (0 : Int) ≤ ↑u := by omega
  have k2 : (↑u : Int) < ↑ns.length := by omega
  have k3 : (↑u : Int) < ↑c.length := by omega
  obtain ⟨x, hx⟩ : ∃ x : Int, x = (i : Int) - 1 := ⟨_, rfl⟩
  have HX := hid hx
  rw [← hx] at hci
  have p := pw_bd (i := i) (by omega)
  have HV := hid hval
  have z1 : decide (c.length ≤ u) = false := decide_eq_false (by omega)
  have z2 : decide (x < -1) = false := decide_eq_false (by omega)
  have z3 : decide ((n : Int) ≤ x) = false := decide_eq_false (by omega)
  clear hat hcv hc hval hcl hx
  go_enter Tryz.func66, Tryz.ntmps66
  go_wp2
  obtain ⟨w0, hw0⟩ : ∃ w0 : World, w0 = w.alloc (.cells #[.slice (some ⟨g, 0, none⟩) ns.length cap0] 27) := ⟨_, rfl⟩
  have hb0 : Below w.heap.size w w0 := hw0 ▸ balloc (b0 w) _
  have hl0 : w.heap.size < w0.heap.size := by rw [hw0]; simp
  have hx0 : w0.cell? ⟨w.heap.size, 0, none⟩ = some (.slice (some ⟨g, 0, none⟩) ns.length cap0) := by rw [hw0, alloc_cell]; rfl
  have HU0 := hid (uni_later HU.out hb0)
  have l1 := later_cell hl0 hx0
  have l2 := later_cell (Nat.lt_of_lt_of_le hg hb0.size) (cell_below hb0 hg hck)
  have l3 := later_cell (Nat.lt_of_lt_of_le hg1 hb0.size) (cell_below hb0 hg1 hci)
  have HB0 := hid hb0
  have HI := hid hin
  rw [← hw0]
  clear hw0 hx0 hck hci hb0 hin
  (refine wp_region_later (by kernel_rfl) (by kernel_rfl) ?_; (repeat (go_big_quiet_step ((go_at_call 60; exact Calls.later (has_any _ ns _ _ _ (uni_lat HU0.out _)) (congrArg Value.bool hhas.out))))); refine wpQuiet_nil ?_; rintro _ ⟨e1, rfl⟩)
  have hci1 := l3 e1
  obtain ⟨wx, hwx⟩ : ∃ wx : World, wx = e1.w := ⟨_, rfl⟩
  have HBX := hid (show Below w0.heap.size w0 wx from hwx ▸ e1.below)
  rw [← hwx] at hci1 ⊢
  clear hwx l1 l2 l3
  go_wp2_with (go_at_call 61; rw [HX.out]; refine (bit_any i _ (by have := HI.out; omega)).mono ?_; rintro e w2 ⟨rfl, rfl⟩)
  go_ret
  exact ⟨ret_int (by rw [HV.out]; rfl), bstep HB0.out HBX.out⟩
set_option maxRecDepth 100000 in
set_option maxHeartbeats 1000000 in
theorem rvalue_any (v cv : Value) (ns : List Nat) (c : List Int) (u : Nat) (w : World) (h : UniRd w (Lt w.heap.size) v ns) (ho : NsOk ns) (hcv : SliceRd tInt w (Lt w.heap.size) cv c) (hc : ChoiceOk ns c) (hu : u < ns.length) :
    Calls Tryz.prog 67 #[v, cv, .int .i64 u] w fun e w' => e = .returned (.int .i64 (valN c u : Nat)) ∧ Below w.heap.size w w' := by
  obtain ⟨A, cap, g1, o1, i, rfl, rfl, hg1, hcl, hci, hin, hval⟩ := choice_at hcv hc hu
  obtain ⟨g, cap0, rfl, hg, hat⟩ := h
  obtain ⟨Ak, ck, hck⟩ := hat u hu
  have hn := ho.le u hu
  rw [List.getD_eq_getElem?_getD, List.getElem?_eq_getElem hu] at hin
  simp only [Option.getD_some] at hin
  generalize ns[u] = n at *
  have k1 : (0 : Int) ≤ ↑u := by omega
  have k2 : (↑u : Int) < ↑ns.length := by omega
  have k3 : (↑u : Int) < ↑c.length := by omega
  obtain ⟨x, hx⟩ : ∃ x : Int, x = (i : Int) - 1 := ⟨_, rfl⟩
  have HX := hid hx
  rw [← hx] at hci
  have p := pw_bd (i := i) (by omega)
  have HV := hid hval
  have z2 : decide (x < -1) = false := decide_eq_false (by omega)
  have z3 : decide ((n : Int) ≤ x) = false := decide_eq_false (by omega)
  have m1 : min (n : Int) 16 = n := by omega
  have y1 : IntKind.i64.wrap (x + 1) = x + 1 := IntWalk.i64_in _ (by omega)
  have y2 : x + 1 = i := by omega
  clear hat hcv hc hval hcl hx
  go_enter Tryz.func67, Tryz.ntmps67
  go_wp2
  obtain ⟨w0, hw0⟩ : ∃ w0 : World, w0 = w.alloc (.cells #[.slice (some ⟨g, 0, none⟩) ns.length cap0] 27) := ⟨_, rfl⟩
  have hb0 : Below w.heap.size w w0 := hw0 ▸ balloc (b0 w) _
  have hl0 : w.heap.size < w0.heap.size := by rw [hw0]; simp
  have hx0 : w0.cell? ⟨w.heap.size, 0, none⟩ = some (.slice (some ⟨g, 0, none⟩) ns.length cap0) := by rw [hw0, alloc_cell]; rfl
  have l1 := later_cell hl0 hx0
  have l2 := later_cell (Nat.lt_of_lt_of_le hg hb0.size) (cell_below hb0 hg hck)
  have l3 := later_cell (Nat.lt_of_lt_of_le hg1 hb0.size) (cell_below hb0 hg1 hci)
  have HB0 := hid hb0
  have HI := hid hin
  rw [← hw0]
  clear hw0 hx0 hck hci hb0 hin
  (refine wp_region_later (by kernel_rfl) (by kernel_rfl) ?_; (repeat (go_big_quiet_step ((fail)))); refine wpQuiet_nil ?_; rintro _ ⟨e1, rfl⟩)
  have hci1 := l3 e1
  obtain ⟨wx, hwx⟩ : ∃ wx : World, wx = e1.w := ⟨_, rfl⟩
  have HBX := hid (show Below w0.heap.size w0 wx from hwx ▸ e1.below)
  rw [← hwx] at hci1 ⊢
  clear hwx l1 l2 l3
  have Y2 := hid y2
  clear m1 y1 y2 p z2 z3
  go_wp2_with fail
  rw [IntWalk.wrap64_in (x + 1) (by have := HI.out; have := Y2.out; omega), Y2.out]
  refine (rbit_any i _ (by have := HI.out; omega)).mono ?_
  rintro e w2 ⟨rfl, rfl⟩
  go_wp2_with fail
  go_ret
  exact ⟨ret_int (by rw [HV.out]; rfl), bstep HB0.out HBX.out⟩

/-- Does a term hold? -/
def holdT (c : List Int) (t : Term) : Bool := valN c t.unit.toNat &&& nm t.mask != 0
theorem valN_lt {ns : List Nat} (ho : NsOk ns) {c : List Int} (hc : ChoiceOk ns c) {u : Nat} (hu : u < ns.length) : valN c u ≤ 16 := by
  have h1 := hc.val u hu
  have h2 := ho.le u hu
  unfold valN
  have : 2 ^ (c.getD u 0 + 1).toNat ≤ 2 ^ 4 := Nat.pow_le_pow_right (by decide) (by omega)
  exact this
theorem two_boxes {w w0 : World} {x : Value} {y z : Value} {t t' : TypeId} (h : w0 = (w.alloc (.cells #[x] t)).alloc (.cells #[y, z] t')) :
    Below w.heap.size w w0 ∧ w0.heap.size = w.heap.size + 2 ∧ w0.cell? ⟨w.heap.size, 0, none⟩ = some x ∧ w0.cell? ⟨w.heap.size + 1, 0, none⟩ = some y ∧ w0.cell? ⟨w.heap.size + 1, 1, none⟩ = some z := by
  subst h
  refine ⟨balloc (balloc (b0 w) _) _, by simp, ?_, ?_, ?_⟩
  · exact cell_below (balloc (b0 (w.alloc (.cells #[x] t))) _) (by simp) ((alloc_cell w _ _ 0).trans rfl)
  · have := alloc_cell (w.alloc (.cells #[x] t)) #[y, z] t' 0
    rw [World.size_alloc] at this
    exact this
  · have := alloc_cell (w.alloc (.cells #[x] t)) #[y, z] t' 1
    rw [World.size_alloc] at this
    exact this
set_option maxHeartbeats 1000000 in
theorem holds_any (v cv : Value) (ns : List Nat) (c : List Int) (t : Term) (w : World) (h : UniRd w (Lt w.heap.size) v ns) (ho : NsOk ns) (hcv : SliceRd tInt w (Lt w.heap.size) cv c) (hc : ChoiceOk ns c) (hu : 0 ≤ t.unit ∧ t.unit < ns.length) :
    Calls Tryz.prog 42 #[v, .agg #[.int .i64 t.unit, .int .i64 t.mask], cv] w fun e w' => e = .returned (.bool (holdT c t)) ∧ Below w.heap.size w w' := by
  obtain ⟨m, hm⟩ : ∃ m, t.mask = m := ⟨_, rfl⟩
  obtain ⟨u, hun⟩ : ∃ u : Nat, t.unit = u := ⟨t.unit.toNat, by omega⟩
  have hun2 : u < ns.length := by omega
  have HT : Hid (holdT c t = !(bits .and .i64 m (valN c u : Nat) == 0)) := hid (by
    have h1 := valN_lt ho hc hun2
    have h2 : nm ((valN c u : Nat) : Int) = valN c u := nm_nat (by omega)
    have h3 : nm m &&& valN c u ≤ 16 := Nat.le_trans Nat.and_le_right h1
    rw [band _ _ (by rw [h2]; omega), h2, Nat.and_comm]
    unfold holdT
    rw [hm, hun, Int.toNat_natCast]
    by_cases h0 : valN c u &&& nm m = 0
    · rw [h0]; rfl
    · have h4 : ¬ (((valN c u &&& nm m : Nat) : Int) = 0) := by omega
      simp only [bne, beq_eq_false_iff_ne.2 h0, beq_eq_false_iff_ne.2 h4])
  rw [hm, hun]
  have HH := hid h
  have HO := hid ho
  have HC := hid hcv
  have HCO := hid hc
  obtain ⟨g, cap0, rfl, -, -⟩ := h
  obtain ⟨A, cap, rfl, -, -, -⟩ := hcv.ints
  clear hcv hc ho hm hun hu
  go_enter Tryz.func42, Tryz.ntmps42
  go_wp2
  obtain ⟨w0, hw0⟩ : ∃ w0 : World, w0 = (w.alloc (.cells #[.slice (some ⟨g, 0, none⟩) ns.length cap0] 27)).alloc (.cells #[.int .i64 u, .int .i64 m] 31) := ⟨_, rfl⟩
  obtain ⟨hb0, hs0, q0, q1, q2⟩ := two_boxes hw0
  have l0 := later_cell (by omega) q0
  have l1 := later_cell (by omega) q1
  have l2 := later_cell (by omega) q2
  have HU0 := hid (uni_later HH.out hb0)
  have HC0 := hid (HC.out.lift hb0 hb0.size)
  have HB0 := hid hb0
  rw [← hw0]
  clear hw0 hs0 q0 q1 q2 hb0
  (refine wp_region_later (by kernel_rfl) (by kernel_rfl) ?_; (repeat (go_big_quiet_step ((go_at_call 66; exact Calls.later (value_any _ _ ns c u _ (uni_lat HU0.out _) HO.out (HC0.out.lift (Later.below _) (Later.below _).size) HCO.out hun2) rfl)))); refine wpQuiet_nil ?_; rintro _ ⟨⟨w1, hb1⟩, rfl⟩)
  go_wp2
  go_ret
  exact ⟨ret_bool (by rw [HT.out]; rfl), bstep HB0.out hb1⟩
set_option maxHeartbeats 1000000 in
theorem rholds_any (v cv : Value) (ns : List Nat) (c : List Int) (t : Term) (w : World) (h : UniRd w (Lt w.heap.size) v ns) (ho : NsOk ns) (hcv : SliceRd tInt w (Lt w.heap.size) cv c) (hc : ChoiceOk ns c) (hu : 0 ≤ t.unit ∧ t.unit < ns.length) :
    Calls Tryz.prog 43 #[v, .agg #[.int .i64 t.unit, .int .i64 t.mask], cv] w fun e w' => e = .returned (.bool (holdT c t)) ∧ Below w.heap.size w w' := by
  obtain ⟨m, hm⟩ : ∃ m, t.mask = m := ⟨_, rfl⟩
  obtain ⟨u, hun⟩ : ∃ u : Nat, t.unit = u := ⟨t.unit.toNat, by omega⟩
  have hun2 : u < ns.length := by omega
  have HT : Hid (holdT c t = !(bits .and .i64 (valN c u : Nat) m == 0)) := hid (by
    have h1 := valN_lt ho hc hun2
    have h2 : nm ((valN c u : Nat) : Int) = valN c u := nm_nat (by omega)
    have h3 : valN c u &&& nm m ≤ 16 := Nat.le_trans Nat.and_le_left h1
    rw [band _ _ (by rw [h2]; omega), h2]
    unfold holdT
    rw [hm, hun, Int.toNat_natCast]
    by_cases h0 : valN c u &&& nm m = 0
    · rw [h0]; rfl
    · have h4 : ¬ (((valN c u &&& nm m : Nat) : Int) = 0) := by omega
      simp only [bne, beq_eq_false_iff_ne.2 h0, beq_eq_false_iff_ne.2 h4])
  rw [hm, hun]
  have HH := hid h
  have HO := hid ho
  have HC := hid hcv
  have HCO := hid hc
  obtain ⟨g, cap0, rfl, -, -⟩ := h
  obtain ⟨A, cap, rfl, -, -, -⟩ := hcv.ints
  clear hcv hc ho hm hun hu
  go_enter Tryz.func43, Tryz.ntmps43
  go_wp2
  obtain ⟨w0, hw0⟩ : ∃ w0 : World, w0 = (w.alloc (.cells #[.slice (some ⟨g, 0, none⟩) ns.length cap0] 27)).alloc (.cells #[.int .i64 u, .int .i64 m] 31) := ⟨_, rfl⟩
  obtain ⟨hb0, hs0, q0, q1, q2⟩ := two_boxes hw0
  have l0 := later_cell (by omega) q0
  have l1 := later_cell (by omega) q1
  have l2 := later_cell (by omega) q2
  have HU0 := hid (uni_later HH.out hb0)
  have HC0 := hid (HC.out.lift hb0 hb0.size)
  have HB0 := hid hb0
  rw [← hw0]
  clear hw0 hs0 q0 q1 q2 hb0
  (refine wp_region_later (by kernel_rfl) (by kernel_rfl) ?_; (repeat (go_big_quiet_step ((go_at_call 67; exact Calls.later (rvalue_any _ _ ns c u _ (uni_lat HU0.out _) HO.out (HC0.out.lift (Later.below _) (Later.below _).size) HCO.out hun2) rfl)))); refine wpQuiet_nil ?_; rintro _ ⟨⟨w1, hb1⟩, rfl⟩)
  go_wp2
  go_ret
  exact ⟨ret_bool (by rw [HT.out]; rfl), bstep HB0.out hb1⟩
end Go.Proofs.YtilkhofgcgfnlaaGreat
