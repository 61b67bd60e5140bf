import Derived.Test.YtbfbppjccbppiaaGreatDoorzU
import Derived.Test.YtbfbppjccbppiaaGreatDoorzA
import Derived.Deep.RegionHeld3
import Derived.Deep.RegionLaw
namespace Go.Proofs.YtbfbppjccbppiaaGreatDoor
open Go Go.RowKit
def BentPost (w : World) (n m : Nat) (e : Ending) (w' : World) : Prop :=
  ∃ v' L, e = .returned v' ∧ SliceRd tRow w' (Lt w'.heap.size) v' L ∧ L.length = n ∧ (∀ r ∈ L, r.terms.length ≤ m + 1) ∧ Below w.heap.size w w'
theorem place_eq (v n r : Int) (w : World) (hv : I64 v) (hn : I64 n) (hr : Hid (qd7 v n = r)) :
    Calls Tryz.prog 19 #[.int .i64 v, .int .i64 n] w fun e w' => e = .returned (.int .i64 r) ∧ w = w' :=
  hr.out ▸ qg4 v n w hv hn
theorem Copied.form {eR eT : TypeId} {w : World} {B : Nat} {v : Value} {l : List Row} {tvs : List Value} (h : Copied eR eT w B v l tvs) (hl : 0 < l.length) :
    ∃ g cap, v = .slice (some ⟨g, 0, none⟩) l.length cap ∧ B ≤ g ∧ g < w.heap.size ∧ l.length ≤ cap ∧ cap ≤ maxLen ∧
      ∀ p, (hp : p < l.length) → (hp' : p < tvs.length) → (w.cell? ⟨g, p * 5, none⟩ = some (.int .i64 l[p].kind) ∧ w.cell? ⟨g, p * 5 + 1, none⟩ = some (.int .i64 l[p].unit) ∧ w.cell? ⟨g, p * 5 + 2, none⟩ = some (.int .i64 l[p].a) ∧ w.cell? ⟨g, p * 5 + 3, none⟩ = some (.int .i64 l[p].b) ∧ w.cell? ⟨g, p * 5 + 4, none⟩ = some tvs[p]) ∧ ∀ o, w.frozen? ⟨g, o, none⟩ = false := by
  rcases h.own.2 with ⟨rfl, h0⟩ | ⟨g, cap, cur, rfl, hb, hg, h1, h2, h3, h4⟩
  · omega
  · refine ⟨g, cap, rfl, hb, (h.lt.1 g rfl).2, h1, h2, fun p hp hp' => ?_⟩
    have hc : ∀ j, j < 5 → w.cell? ⟨g, p * 5 + j, none⟩ = (qe0 l[p] tvs[p])[j]? := by
      intro j hj
      rw [cell_of_row w g _ cur eR (0, 0) hg, ← qj0 h.len hp hp' j hj, ← h4, List.getElem?_take_of_lt (by omega), Array.getElem?_toList]
    exact ⟨⟨hc 0 (by omega), hc 1 (by omega), hc 2 (by omega), hc 3 (by omega), hc 4 (by omega)⟩, fun o => frozen_of_row w g o cur eR hg⟩
set_option maxRecDepth 100000 in
set_option maxHeartbeats 4000000 in
theorem bent_any (v : Value) (l : List Row) (m : Nat) (at_ which by_ : Int) (w : World) (h : SliceRd tRow w (Lt w.heap.size) v l) (hl : l.length ≤ 1000000) (hlt : ∀ r ∈ l, r.terms.length ≤ m) (hm : m ≤ 1000)
    (ha : I64 at_) (hw : I64 which) (hb : I64 by_) :
    Calls Tryz.prog 31 #[v, .int .i64 at_, .int .i64 which, .int .i64 by_] w (BentPost w l.length m) := by
  have HH := hid h
  have HLT := hid hlt
  clear h hlt
  obtain ⟨it, hit⟩ := info_parts qk7
  have HIT := hid hit
  clear hit
  go_enter Tryz.func31, Tryz.ntmps31
  go_wp2_with fail
  refine (copyRows_any v l w HH.out hl (fun r hr => by have := HLT.out r hr; omega)).mono ?_
  rintro e w1 ⟨v1, tvs, rfl, hcop, hb1⟩
  have HCOP := hid hcop
  clear hcop
  obtain ⟨A1, cap1, rfl⟩ := qb1 HCOP.out.own
  by_cases hz : l.length = 0
  · have hzB : ((l.length : Int) == 0) = true := by rw [beq_iff_eq]; omega
    have HZ := hid hz
    clear hz
    go_wp2_with fail
    go_ret
    exact ⟨_, l, rfl, HCOP.out.rd (fun g _ h => h), rfl, fun r hr => by have := HLT.out r hr; omega, hb1⟩
  · have hzB : ((l.length : Int) == 0) = false := by rw [beq_eq_false_iff_ne]; omega
    obtain ⟨g, cap, hv, hBg, hgl, hlc, hcm, hcells⟩ := HCOP.out.form (by omega)
    injection hv with e1 e2 e3
    subst e1; subst e3
    have HCELLS := hid hcells
    clear hcells e2
    unfold maxLen at hcm
    go_wp2_with fail
    have p0 := qf4 at_ l.length
    have p1 := qf3 at_ l.length (by omega)
    obtain ⟨p, hp⟩ : ∃ p : Nat, qd7 at_ l.length = (p : Int) := ⟨(qd7 at_ l.length).toNat, by omega⟩
    refine (place_eq at_ l.length p _ ha ⟨by omega, by omega⟩ (hid hp)).mono ?_
    rintro e w2 ⟨rfl, rfl⟩
    have hpl : p < l.length := by omega
    have hplI : (p : Int) < l.length := by omega
    have HP := hid hp
    clear hp p0 p1
    have hpt : p < tvs.length := by rw [HCOP.out.len]; exact hpl
    obtain ⟨⟨c0, c1, c2, c3, c4⟩, cf⟩ := HCELLS.out p hpl hpt
    go_wp2_with fail
    have w0 := qf4 which 7
    have w7 := qf3 which 7 (by omega)
    obtain ⟨q, hq⟩ : ∃ q : Int, qd7 which 7 = q := ⟨_, rfl⟩
    rw [hq] at w0 w7
    have HQ := hid hq
    clear hq
    refine (place_eq which 7 q _ hw ⟨by omega, by omega⟩ HQ).mono ?_
    rintro e w2 ⟨rfl, rfl⟩
    have hq : q = 0 ∨ q = 1 ∨ q = 2 ∨ q = 3 ∨ q = 4 ∨ q = 5 ∨ q = 6 := by omega
    clear w0 w7
    rcases hq with rfl | rfl | rfl | rfl | rfl | rfl | rfl
    · skip
      have hy8 := qf4 by_ 8
      have hy9 := qf3 by_ 8 (by omega)
      go_wp2_with fail
      refine (qg4 by_ 8 _ hb ⟨by omega, by omega⟩).mono ?_
      rintro e w2 ⟨rfl, rfl⟩
      go_wp2_with fail
      obtain ⟨L, T, hL1, hL2, hL3⟩ := (HCOP.out.upd_field hpl (y := qd7 by_ 8 - 1) ⟨by omega, by omega⟩).1
      go_ret
      exact ⟨_, L, rfl, hL3.rd (fun g _ h => h), hL1, (fun r hr => by obtain ⟨r0, h0, h1⟩ := hL2 r hr; have := HLT.out r0 h0; omega), hb1.setCell (p := ⟨g, _, none⟩) hBg _⟩
    · skip
      have hy8 := qf4 by_ 9
      have hy9 := qf3 by_ 9 (by omega)
      go_wp2_with fail
      refine (qg4 by_ 9 _ hb ⟨by omega, by omega⟩).mono ?_
      rintro e w2 ⟨rfl, rfl⟩
      go_wp2_with fail
      obtain ⟨L, T, hL1, hL2, hL3⟩ := (HCOP.out.upd_field hpl (y := qd7 by_ 9 - 1) ⟨by omega, by omega⟩).2.1
      go_ret
      exact ⟨_, L, rfl, hL3.rd (fun g _ h => h), hL1, (fun r hr => by obtain ⟨r0, h0, h1⟩ := hL2 r hr; have := HLT.out r0 h0; omega), hb1.setCell (p := ⟨g, _, none⟩) hBg _⟩
    · skip
      have hy8 := qf4 by_ ((l.length : Int) + 2)
      have hy9 := qf3 by_ ((l.length : Int) + 2) (by omega)
      go_wp2_with fail
      refine (qg4 by_ ((l.length : Int) + 2) _ hb ⟨by omega, by omega⟩).mono ?_
      rintro e w2 ⟨rfl, rfl⟩
      go_wp2_with fail
      obtain ⟨L, T, hL1, hL2, hL3⟩ := (HCOP.out.upd_field hpl (y := qd7 by_ ((l.length : Int) + 2) - 1) ⟨by omega, by omega⟩).2.2.1
      go_ret
      exact ⟨_, L, rfl, hL3.rd (fun g _ h => h), hL1, (fun r hr => by obtain ⟨r0, h0, h1⟩ := hL2 r hr; have := HLT.out r0 h0; omega), hb1.setCell (p := ⟨g, _, none⟩) hBg _⟩
    · skip
      have hy8 := qf4 by_ ((l.length : Int) + 2)
      have hy9 := qf3 by_ ((l.length : Int) + 2) (by omega)
      go_wp2_with fail
      refine (qg4 by_ ((l.length : Int) + 2) _ hb ⟨by omega, by omega⟩).mono ?_
      rintro e w2 ⟨rfl, rfl⟩
      go_wp2_with fail
      obtain ⟨L, T, hL1, hL2, hL3⟩ := (HCOP.out.upd_field hpl (y := qd7 by_ ((l.length : Int) + 2) - 1) ⟨by omega, by omega⟩).2.2.2
      go_ret
      exact ⟨_, L, rfl, hL3.rd (fun g _ h => h), hL1, (fun r hr => by obtain ⟨r0, h0, h1⟩ := hL2 r hr; have := HLT.out r0 h0; omega), hb1.setCell (p := ⟨g, _, none⟩) hBg _⟩
    · skip
      by_cases hz4 : 0 < l[p].terms.length
      · obtain ⟨gt, tcap, hv4, hob, hBt, htl, htc, htm, hcel, hfr⟩ := zi9 (HCOP.out.terms p hpl hpt) hz4
        have hne : gt ≠ g := fun e => own_ne HCOP.out.own (HCOP.out.terms p hpl hpt) HCOP.out.ne g rfl (by rw [hob, e])
        rw [hv4] at c4
        have HOB := hid hob
        clear hv4 hob
        have hl64 : l[p].terms.length ≤ 1000 := by have := HLT.out _ (List.getElem_mem hpl); omega
        have q0 := qf4 by_ l[p].terms.length
        have q1 := qf3 by_ l[p].terms.length (by omega)
        obtain ⟨q, hq⟩ : ∃ q : Nat, qd7 by_ l[p].terms.length = (q : Int) := ⟨(qd7 by_ l[p].terms.length).toNat, by omega⟩
        have hql : q < l[p].terms.length := by omega
        have d0 : w1.cell? ⟨gt, q * 2 + 1, none⟩ = some (.int .i64 l[p].terms[q].mask) := by rw [hcel (q * 2 + 1) (by omega)]; exact (qr6 hql).2
        have df := hfr (q * 2 + 1)
        have m0 := qf4 by_ 70
        have m1 := qf3 by_ 70 (by omega)
        have r1 : (0 : Int) ≤ ↑q := by omega
        have r2 : (↑q : Int) < ↑l[p].terms.length := by omega
        clear hcel hfr q0 q1
        go_wp2_with fail
        go_region_held3 (fun w' => w'.cell? ⟨g, p * 5 + 4, none⟩ = some (.slice (some ⟨gt, 0, none⟩) l[p].terms.length tcap)) (go_keep)
          ((go_at_call 19; refine (qg4 _ _ _ hb (by unfold I64; omega)).mono ?_; rintro e w' ⟨rfl, rfl⟩))
        all_goals
          go_wp2_with fail
          obtain ⟨L, T, hL1, hL2, hL3⟩ := HCOP.out.updMask hpl hpt hql HOB.out (y := qd7 by_ 70) ⟨by omega, by omega⟩
          go_ret
          exact ⟨_, L, rfl, hL3.drew.rd (fun g _ h => h), hL1, (fun r hr => by obtain ⟨r0, h0, h1⟩ := hL2 r hr; have := HLT.out r0 h0; omega), (hb1.setCell (p := ⟨gt, _, none⟩) hBt _).drew⟩
      · obtain ⟨TA, tcap, htv⟩ := qb1 (HCOP.out.terms p hpl hpt)
        rw [htv] at c4
        clear htv
        have hz5 : l[p].terms.length ≤ 0 := by omega
        go_wp2_with fail
        go_ret
        exact ⟨_, l, rfl, HCOP.out.rd (fun g _ h => h), rfl, fun r hr => by have := HLT.out r hr; omega, hb1⟩
    · skip
      by_cases hz4 : 0 < l[p].terms.length
      · obtain ⟨gt, tcap, hv4, hob, hBt, htl, htc, htm, hcel, hfr⟩ := zi9 (HCOP.out.terms p hpl hpt) hz4
        have HV4 := hid hv4
        rw [hv4] at c4
        clear hv4 hob hcel hfr
        have hl64 : l[p].terms.length ≤ 1000 := by have := HLT.out _ (List.getElem_mem hpl); omega
        unfold maxLen at htm
        have r1 : (0 : Int) ≤ ↑l[p].terms.length - 1 := by omega
        have r2 : (↑l[p].terms.length : Int) - 1 ≤ ↑tcap := by omega
        have r5 : (1 : Int) ≤ ↑l[p].terms.length := by omega
        have r6 : (↑l[p].terms.length : Int) ≤ ↑tcap + 1 := by omega
        have r3 : ((↑l[p].terms.length : Int) - 1).toNat = l[p].terms.length - 1 := by omega
        have r4 : IntKind.i64.wrap ((↑l[p].terms.length : Int) - 1) = ↑l[p].terms.length - 1 := IntWalk.i64_in _ (by omega)
        go_wp2_with fail
        go_region_law (fail)
        all_goals
          go_wp2_with fail
          obtain ⟨L, T, hL1, hL2, hL3⟩ := HCOP.out.updCut hpl hpt HV4.out
          go_ret
          exact ⟨_, L, rfl, hL3.drew.rd (fun g _ h => h), hL1, (fun r hr => by obtain ⟨r0, h0, h1⟩ := hL2 r hr; have := HLT.out r0 h0; omega), (hb1.setCell (p := ⟨g, _, none⟩) hBg _).drew⟩
      · obtain ⟨TA, tcap, htv⟩ := qb1 (HCOP.out.terms p hpl hpt)
        rw [htv] at c4
        clear htv
        have hz5 : l[p].terms.length ≤ 0 := by omega
        go_wp2_with fail
        go_ret
        exact ⟨_, l, rfl, HCOP.out.rd (fun g _ h => h), rfl, fun r hr => by have := HLT.out r hr; omega, hb1⟩
    · skip
      obtain ⟨TA, tcap, htv⟩ := qb1 (HCOP.out.terms p hpl hpt)
      rw [htv] at c4
      have HTV := hid htv
      have htt := HCOP.out.terms p hpl hpt
      rw [htv] at htt
      have HTT := hid htt
      clear htv htt
      have hl64 : l[p].terms.length ≤ 1000 := by have := HLT.out _ (List.getElem_mem hpl); omega
      have m0 := qf4 by_ 9
      have m1 := qf3 by_ 9 (by omega)
      have m2 := qf4 by_ 33
      have m3 := qf3 by_ 33 (by omega)
      go_wp2_with fail
      go_region_law ((first
        | (refine qc9 (.tmp 114) (.tmp 121) 47 rfl ?_
           refine qa9 _ rfl (.tmp 114) (.tmp 121) _ rfl w.heap.size 66 it _ 2 16 Tryz.underlying47 HIT.out.1 HIT.out.2.1 HIT.out.2.2.1 HIT.out.2.2.2 rfl (by omega) (.slice TA l[p].terms.length tcap) l[p].terms.length (qb2 l[p].terms) rfl (by with_reducible exact qe4 HTT.out _) (some ⟨w1.heap.size, 0, none⟩) 1 1 (qb2 [⟨IntKind.i64.wrap (qd7 by_ 9 - 1), qd7 by_ 33⟩]) rfl (by exact qh8 _ _ rfl 2 _ rfl rfl) qr7 (by unfold maxLen; omega) (by omega) (by have := hb1.size; simp; omega) ?_
           intro v9 w9 hown9 hg9 hat9
           have hb9 : ∀ o, w9.cell? ⟨g, o, none⟩ = w1.cell? ⟨g, o, none⟩ := fun o => World.cell?_of_block (by rw [hg9.block g (by simp; omega) (by intro e; exact own_ne HCOP.out.own (HCOP.out.terms p hpl hpt) HCOP.out.ne g rfl (by rw [HTV.out, e]))]; exact Below.heap_alloc w1 _ g hgl)
           have hf9 : ∀ o, w9.frozen? ⟨g, o, none⟩ = w1.frozen? ⟨g, o, none⟩ := fun o => World.frozen?_of_block (by rw [hg9.block g (by simp; omega) (by intro e; exact own_ne HCOP.out.own (HCOP.out.terms p hpl hpt) HCOP.out.ne g rfl (by rw [HTV.out, e]))]; exact Below.heap_alloc w1 _ g hgl)
           obtain ⟨A9, c9, rfl⟩ := qb1 hown9)
        | (go_simp; go_at_call 19; refine (qg4 _ _ _ hb (by unfold I64; omega)).mono ?_; rintro e w' ⟨rfl, rfl⟩)))
      all_goals
        go_wp2_with fail
        obtain ⟨L, T, hL1, hL2, hL3⟩ := HCOP.out.updMore (v1 := .slice A9 (l[p].terms.length + 1) c9) (t := ⟨IntKind.i64.wrap (qd7 by_ 9 - 1), qd7 by_ 33⟩) hpl hpt ⟨zr1 _, i64_of (x := qd7 by_ 33) (by omega) (by omega)⟩ (by rw [HTV.out]; exact hg9) hown9 (by rw [HTV.out]; simpa using hat9)
        have hB9 : Below w.heap.size w w9 := ((hb1.alloc hb1.size _).drew).grown hg9 (by have := hb1.size; simp; omega) (fun k hk => (HTT.out.lt k hk).1)
        go_ret
        exact ⟨_, L, rfl, hL3.rd (fun g _ h => h), hL1, (fun r hr => by obtain ⟨r0, h0, h1⟩ := hL2 r hr; have := HLT.out r0 h0; omega), hB9.setCell (p := ⟨g, _, none⟩) hBg _⟩
end Go.Proofs.YtbfbppjccbppiaaGreatDoor
