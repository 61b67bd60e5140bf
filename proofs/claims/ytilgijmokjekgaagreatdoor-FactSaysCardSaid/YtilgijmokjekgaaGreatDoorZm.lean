/- Contracts: law23.met, law23.said. -/
import Derived.Test.YtilgijmokjekgaaGreatDoorzZ6
import Derived.Test.YtilgijmokjekgaaGreatDoorzY15
import Derived.Outline
namespace Go.Proofs.YtilgijmokjekgaaGreatDoor
open Go Go.RowKit

/-- Does a choice meet a want? -/
def metC (us : List UnitW) (c : List Int) (x : WantD) : Bool := valN c x.u.toNat &&& metN us x != 0
theorem any_at {α : Type} {l : List α} {f : α → Bool} {k : Nat} (hk : k < l.length) (h : f l[k] = true) : l.any f = true := List.any_eq_true.2 ⟨_, List.getElem_mem hk, h⟩
theorem any_no {α : Type} {l : List α} {f : α → Bool} (h : ∀ k, (hk : k < l.length) → f l[k] = false) : l.any f = false := List.any_eq_false.2 fun x hx => by
  obtain ⟨k, hk, rfl⟩ := List.getElem_of_mem hx
  rw [h k hk]
  decide
set_option maxRecDepth 100000 in
set_option maxHeartbeats 4000000 in
theorem met23_any (v cv lv : Value) (us : List UnitW) (c : List Int) (l : List WantD) (w : World) (h : WorldRd w (Lt w.heap.size) v us) (ho : UnitsOk us) (hcv : SliceRd tInt w (Lt w.heap.size) cv c) (hc : ChoiceOk (nsOf us) c) (hl : SliceRd tWant w (Lt w.heap.size) lv l) (hi : WantsIn us.length l) :
    Calls Tryz.prog 32 #[v, cv, lv] w fun e w' => e = .returned (.bool (l.any (metC us c))) ∧ Below w.heap.size w w' := by
  have HH := hid h
  have HO := hid ho
  have HCO := hid hc
  have HCV := hid hcv
  have HI := hid hi.2
  have hl1000 := hi.1
  obtain ⟨g, cap0, rfl, hg, -⟩ := h
  obtain ⟨A, cap, rfl, hcap, hmax, hcc⟩ := hl.wants
  obtain ⟨B, bcap, rfl, -⟩ := hcv.ints
  have HC := hid hcc
  clear hcc hl ho hcv hc hi
  go_enter Tryz.func32, Tryz.ntmps32
  go_wp2_with fail
  obtain ⟨w0, hw0⟩ : ∃ w0 : World, w0 = w.alloc (.cells #[.slice (some ⟨g, 0, none⟩) us.length cap0] 25) := ⟨_, rfl⟩
  have hb0 : Below w.heap.size w w0 := hw0 ▸ balloc (b0 w) _
  have hl0 : w.heap.size < w0.heap.size := by rw [hw0]; simp
  have q0 : w0.cell? ⟨w.heap.size, 0, none⟩ = some (.slice (some ⟨g, 0, none⟩) us.length cap0) := by rw [hw0, alloc_cell]; rfl
  have HB0 := hid hb0
  have HQ := hid q0
  rw [← hw0]
  clear hw0 hb0 q0
  go_loopw [7] (fun iv wr => ∃ k : Nat, k ≤ l.length ∧ iv = .int .i64 k ∧ Hid (Below w0.heap.size w0 wr) ∧ Hid (∀ j, (hj : j < l.length) → j < k → metC us c l[j] = false)) (fun iv _ => l.length - (intOf iv).toNat)
  case atStart => exact ⟨0, Nat.zero_le _, rfl, hid (b0 w0), hid (fun j _ hj => absurd hj (by omega))⟩
  case round =>
    obtain ⟨k, hk, rfl, hb, hn⟩ := hrel
    by_cases hlt : k < l.length
    · obtain ⟨gg, o, a, b, hA, hF, g0, g1, g2, hra, hrb⟩ := HC.out k hlt
      subst hA
      obtain ⟨hx0, hx1⟩ := HI.out _ (List.getElem_mem hlt)
      have hbw := bstep HB0.out hb.out
      have HANY := hid (fun (h : metC us c l[k] = true) => any_at (f := metC us c) hlt h)
      have HGO := hid (fun (h : metC us c l[k] = false) j (hj : j < l.length) (hjk : j < k + 1) => if e : j = k then by subst e; exact h else hn.out j hj (by omega))
      have HMET := hid (fun e : Later wr => met_any (.agg #[.slice (some ⟨g, 0, none⟩) us.length cap0]) a b us l[k] e.w (HH.out.lift (bstep hbw e.below) (bstep hbw e.below).size) HO.out (hra.lift (bstep hbw e.below) (bstep hbw e.below).size) (hrb.lift (bstep hbw e.below) (bstep hbw e.below).size) hx0 hx1)
      obtain ⟨Aa, ca, hav, -⟩ := hra.shape
      obtain ⟨Ab, cb, hbv, -⟩ := hrb.shape
      have hmle := metN_le us l[k]
      have hf31 := fullN_le HO.out.ns l[k].u.toNat
      have HMC : Hid (metC us c l[k] = (valN c l[k].u.toNat &&& metN us l[k] != 0)) := hid rfl
      obtain ⟨xu, hxu⟩ : ∃ xu : Nat, l[k].u = (xu : Int) := ⟨l[k].u.toNat, by omega⟩
      have hxl : xu < (nsOf us).length := by simp [nsOf]; omega
      have HVAL := hid (fun e : Later wr => rvalue_any (.agg #[.slice (some ⟨g, 0, none⟩) us.length cap0]) (.slice B c.length bcap) (nsOf us) c xu e.w (HH.out.lift (bstep hbw e.below) (bstep hbw e.below).size).uni HO.out.ns (HCV.out.lift (bstep hbw e.below) (bstep hbw e.below).size) HCO.out hxl)
      have hv16 := valN_lt HO.out.ns HCO.out hxl
      rw [hxu, Int.toNat_natCast] at HMC hmle hf31
      rw [hxu] at g0 HMET
      generalize l[k].s.rel.length = n1 at hav
      generalize l[k].s.pre.length = n2 at hbv
      subst hav hbv
      have hF0 : gg < wr.heap.size := Nat.lt_of_lt_of_le hF hbw.size
      have l0 := later_cell (Nat.lt_of_lt_of_le hl0 hb.out.size) (cell_below hb.out hl0 HQ.out)
      have l1 := later_cell hF0 (cell_below hbw hF g0)
      have l2 := later_cell hF0 (cell_below hbw hF g1)
      have l3 := later_cell hF0 (cell_below hbw hF g2)
      have i1 : (0 : Int) ≤ ↑k := by omega
      have i2 : (↑k : Int) < ↑l.length := by omega
      obtain ⟨mt, hmt⟩ : ∃ mt, metN us l[k] = mt := ⟨_, rfl⟩
      rw [hmt] at HMET HMC hmle
      obtain ⟨vl, hvl⟩ : ∃ vl, valN c xu = vl := ⟨_, rfl⟩
      rw [hvl] at HVAL HMC hv16
      have hand := and_pq (m := vl) (q := mt) (by omega) (by omega)
      have hne := int_ne0 (vl &&& mt)
      obtain ⟨mc, hmc⟩ : ∃ mc, (vl &&& mt != 0) = mc := ⟨_, rfl⟩
      rw [hmc] at HMC hne
      generalize vl &&& mt = r at *
      clear g0 g1 g2 hra hrb hmt hvl hxu hmle hf31 hv16 hmc hbw hx0 hx1 hxl
      cases mc with
      | true =>
        have HR := hid (HANY.out HMC.out)
        go_wp2_with fail
        (refine wp_region_later (by kernel_rfl) (by kernel_rfl) ?_; (repeat (go_big_quiet_step ((first | (go_at_call 65; exact Calls.later (HVAL.out _) rfl) | (go_at_call 66; exact Calls.later (HMET.out _) rfl))))); refine wpQuiet_nil ?_; rintro _ ⟨⟨w1, hb1⟩, rfl⟩)
        go_wp2
        go_ret
        exact ⟨ret_bool HR.out.symm, bstep HB0.out (bstep hb.out hb1)⟩
      | false =>
        have HG := hid (HGO.out HMC.out)
        go_wp2_with fail
        (refine wp_region_later (by kernel_rfl) (by kernel_rfl) ?_; (repeat (go_big_quiet_step ((first | (go_at_call 65; exact Calls.later (HVAL.out _) rfl) | (go_at_call 66; exact Calls.later (HMET.out _) rfl))))); refine wpQuiet_nil ?_; rintro _ ⟨⟨w1, hb1⟩, rfl⟩)
        go_wp2
        exact ⟨⟨k + 1, by omega, by go_num, hid (bstep hb.out hb1), HG⟩, by simp [intOf]; omega⟩
    · have HR := hid (any_no (f := metC us c) fun j hj => hn.out j hj (by omega))
      go_wp2
      go_ret
      exact ⟨ret_bool HR.out.symm, bstep HB0.out hb.out⟩
/-- Does a row say it of a choice? -/
def saidC (kind u : Int) (c : List Int) (r : Row) : Bool := decide (r.kind = kind) && (decide (r.unit = u) && holdL c r.terms)
set_option maxRecDepth 100000 in
set_option maxHeartbeats 4000000 in
theorem said23_any (v lv cv : Value) (ns : List Nat) (rows : List Row) (kind u : Int) (c : List Int) (w : World) (h : UniRd w (Lt w.heap.size) v ns) (ho : NsOk ns) (hl : SliceRd tRow w (Lt w.heap.size) lv rows) (hcv : SliceRd tInt w (Lt w.heap.size) cv c) (hc : ChoiceOk ns c) (hi : ∀ r ∈ rows, ∀ t ∈ r.terms, 0 ≤ t.unit ∧ t.unit < ns.length) (hlen : rows.length ≤ 1000000) :
    Calls Tryz.prog 33 #[v, lv, .int .i64 kind, .int .i64 u, cv] w fun e w' => e = .returned (.bool (rows.any (saidC kind u c))) ∧ Below w.heap.size w w' := by
  have HH := hid h
  have HO := hid ho
  have HCO := hid hc
  have HCV := hid hcv
  have HI := hid hi
  obtain ⟨g, cap0, rfl, hg, -⟩ := h
  obtain ⟨A, cap, rfl, hcap, hmax, hcc⟩ := hl.rows
  obtain ⟨B, bcap, rfl, -⟩ := hcv.ints
  have HC := hid hcc
  clear hcc hl ho hcv hc hi
  go_enter Tryz.func33, Tryz.ntmps33
  go_wp2_with fail
  obtain ⟨w0, hw0⟩ : ∃ w0 : World, w0 = w.alloc (.cells #[.slice (some ⟨g, 0, none⟩) ns.length cap0] 25) := ⟨_, rfl⟩
  have hb0 : Below w.heap.size w w0 := hw0 ▸ balloc (b0 w) _
  have hl0 : w.heap.size < w0.heap.size := by rw [hw0]; simp
  have q0 : w0.cell? ⟨w.heap.size, 0, none⟩ = some (.slice (some ⟨g, 0, none⟩) ns.length cap0) := by rw [hw0, alloc_cell]; rfl
  have HB0 := hid hb0
  have HQ := hid q0
  rw [← hw0]
  clear hw0 hb0 q0
  go_loopw [11] (fun iv wr => ∃ k : Nat, k ≤ rows.length ∧ iv = .int .i64 k ∧ Hid (Below w0.heap.size w0 wr) ∧ Hid (∀ j, (hj : j < rows.length) → j < k → saidC kind u c rows[j] = false)) (fun iv _ => rows.length - (intOf iv).toNat)
  case atStart => exact ⟨0, Nat.zero_le _, rfl, hid (b0 w0), hid (fun j _ hj => absurd hj (by omega))⟩
  case round =>
    obtain ⟨k, hk, rfl, hb, hn⟩ := hrel
    by_cases hlt : k < rows.length
    · obtain ⟨gg, o, tv, hA, hF, g0, g1, g2, g3, g4, hi64, htr⟩ := HC.out k hlt
      subst hA
      have hbw := bstep HB0.out hb.out
      have HANY := hid (fun (h : saidC kind u c rows[k] = true) => any_at (f := saidC kind u c) hlt h)
      have HGO := hid (fun (h : saidC kind u c rows[k] = false) j (hj : j < rows.length) (hjk : j < k + 1) => if e : j = k then by subst e; exact h else hn.out j hj (by omega))
      have HHOLD := hid (fun e : Later wr => rhold_any (.agg #[.slice (some ⟨g, 0, none⟩) ns.length cap0]) tv (.slice B c.length bcap) ns rows[k].terms c e.w (uni_later HH.out (bstep hbw e.below)) HO.out (htr.lift (bstep hbw e.below) (bstep hbw e.below).size) (HCV.out.lift (bstep hbw e.below) (bstep hbw e.below).size) HCO.out (HI.out _ (List.getElem_mem hlt)))
      obtain ⟨At, ct, htv, -⟩ := htr.terms
      have HSC : Hid (saidC kind u c rows[k] = (decide (rows[k].kind = kind) && (decide (rows[k].unit = u) && holdL c rows[k].terms))) := hid rfl
      generalize rows[k].terms.length = n3 at htv
      subst htv
      obtain ⟨kk, hkk⟩ : ∃ kk, rows[k].kind = kk := ⟨_, rfl⟩
      obtain ⟨ru, hru⟩ : ∃ ru, rows[k].unit = ru := ⟨_, rfl⟩
      obtain ⟨hd, hhd⟩ : ∃ hd, holdL c rows[k].terms = hd := ⟨_, rfl⟩
      rw [hkk] at g0 HSC
      rw [hru] at g1 HSC
      rw [hhd] at HHOLD HSC
      have hF0 : gg < wr.heap.size := Nat.lt_of_lt_of_le hF hbw.size
      have l0 := later_cell (Nat.lt_of_lt_of_le hl0 hb.out.size) (cell_below hb.out hl0 HQ.out)
      have l1 := later_cell hF0 (cell_below hbw hF g0)
      have l2 := later_cell hF0 (cell_below hbw hF g1)
      have l3 := later_cell hF0 (cell_below hbw hF g4)
      have i1 : (0 : Int) ≤ ↑k := by omega
      have i2 : (↑k : Int) < ↑rows.length := by omega
      clear g0 g1 g2 g3 g4 htr hhd hkk hru hbw hi64
      by_cases e1 : kk = kind
      · have z1 : (kk == kind) = true := beq_iff_eq.2 e1
        rw [decide_eq_true e1, Bool.true_and] at HSC
        clear e1
        by_cases e2 : ru = u
        · have z2 : (ru == u) = true := beq_iff_eq.2 e2
          rw [decide_eq_true e2, Bool.true_and] at HSC
          clear e2
          cases hd with
          | true =>
            have HR := hid (HANY.out HSC.out)
            go_wp2_with fail
            (refine wp_region_later (by kernel_rfl) (by kernel_rfl) ?_; (repeat (go_big_quiet_step ((go_at_call 24; exact Calls.later (HHOLD.out _) rfl)))); refine wpQuiet_nil ?_; rintro _ ⟨⟨w1, hb1⟩, rfl⟩)
            go_wp2
            go_ret
            exact ⟨ret_bool HR.out.symm, bstep HB0.out (bstep hb.out hb1)⟩
          | false =>
            have HG := hid (HGO.out HSC.out)
            go_wp2_with fail
            (refine wp_region_later (by kernel_rfl) (by kernel_rfl) ?_; (repeat (go_big_quiet_step ((go_at_call 24; exact Calls.later (HHOLD.out _) rfl)))); refine wpQuiet_nil ?_; rintro _ ⟨⟨w1, hb1⟩, rfl⟩)
            go_wp2
            exact ⟨⟨k + 1, by omega, by go_num, hid (bstep hb.out hb1), HG⟩, by simp [intOf]; omega⟩
        · have z2 : (ru == u) = false := beq_false_of_ne e2
          rw [decide_eq_false e2, Bool.false_and] at HSC
          have HG := hid (HGO.out HSC.out)
          clear e2
          go_wp2_with fail
          (refine wp_region_later (by kernel_rfl) (by kernel_rfl) ?_; (repeat (go_big_quiet_step ((go_at_call 24; exact Calls.later (HHOLD.out _) rfl)))); refine wpQuiet_nil ?_; rintro _ ⟨⟨w1, hb1⟩, rfl⟩)
          go_wp2
          exact ⟨⟨k + 1, by omega, by go_num, hid (bstep hb.out hb1), HG⟩, by simp [intOf]; omega⟩
      · have z1 : (kk == kind) = false := beq_false_of_ne e1
        rw [decide_eq_false e1, Bool.false_and] at HSC
        have HG := hid (HGO.out HSC.out)
        clear e1
        go_wp2_with fail
        (refine wp_region_later (by kernel_rfl) (by kernel_rfl) ?_; (repeat (go_big_quiet_step ((go_at_call 24; exact Calls.later (HHOLD.out _) rfl)))); refine wpQuiet_nil ?_; rintro _ ⟨⟨w1, hb1⟩, rfl⟩)
        go_wp2
        exact ⟨⟨k + 1, by omega, by go_num, hid (bstep hb.out hb1), HG⟩, by simp [intOf]; omega⟩
    · have HR := hid (any_no (f := saidC kind u c) fun j hj => hn.out j hj (by omega))
      go_wp2
      go_ret
      exact ⟨ret_bool HR.out.symm, bstep HB0.out hb.out⟩
end Go.Proofs.YtilgijmokjekgaaGreatDoor
