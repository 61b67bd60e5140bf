import Derived.Test.YthneiolcljnbeaaGreatDoorzM3
import Derived.Outline
import Derived.Test.YthneiolcljnbeaaGreatDoorzP2
namespace Go.Proofs.YthneiolcljnbeaaGreatDoor
open Go Go.RowKit
section
def boolsF : Nat → List (List Bool)
 | 0 => [[]]
 | n + 1 => [] :: ((boolsF n).map (true :: ·) ++ (boolsF n).map (false :: ·))
theorem bools_mem : ∀ (n : Nat) (l : List Bool), l.length ≤ n → l ∈ boolsF n
 | 0, [], _ => List.mem_singleton_self _
 | 0, _ :: _, h => by simp at h
 | _ + 1, [], _ => List.mem_cons_self ..
 | n + 1, b :: l, h => by
  have h1 := bools_mem n l (by simpa using h)
  refine List.mem_cons_of_mem _ (List.mem_append.2 ?_)
  cases b with
  | true => exact .inl (List.mem_map.2 ⟨l, h1, rfl⟩)
  | false => exact .inr (List.mem_map.2 ⟨l, h1, rfl⟩)
def nmAheadB (p q : ByteArray × ByteArray) : Bool := Op.bytesLess p.1.toList q.1.toList || (decide (p.1 = q.1) && Op.bytesLess p.2.toList q.2.toList)
theorem ahead_ok {p q : ByteArray × ByteArray} (h : nmAheadB p q = true) : Ahead18 p.1 p.2 q.1 q.2 := by
 unfold nmAheadB at h
 rw [Bool.or_eq_true, Bool.and_eq_true, decide_eq_true_eq] at h
 exact h
def namesB (l : List (ByteArray × ByteArray)) : Bool := (List.range l.length).all fun k => match l[k]? with
 | none => true
 | some q => (if k = 0 then decide (q = (⟨#[]⟩, ⟨#[]⟩)) else decide (q.1 ≠ ⟨#[]⟩)) && (if k < 2 then true else match l[k - 1]? with | none => true | some p => nmAheadB p q)
theorem names_all : ∀ fs ∈ boolsF 5, namesB (namesF fs) = true := by decide +kernel
theorem names_at {fs : List Bool} (h5 : fs.length ≤ 5) {k : Nat} {q : ByteArray × ByteArray} (hq : (namesF fs)[k]? = some q) :
  (k = 0 → q = (⟨#[]⟩, ⟨#[]⟩)) ∧ (0 < k → q.1 ≠ ⟨#[]⟩) ∧ ∀ p, 1 < k → (namesF fs)[k - 1]? = some p → Ahead18 p.1 p.2 q.1 q.2 := by
 have h := names_all fs (bools_mem 5 fs h5)
 unfold namesB at h
 have hk := (List.getElem?_eq_some_iff.1 hq).1
 have h1 := List.all_eq_true.1 h k (List.mem_range.2 hk)
 rw [hq] at h1
 dsimp only at h1
 rw [Bool.and_eq_true] at h1
 refine ⟨fun e => ?_, fun e => ?_, fun p e hp => ?_⟩
 ·rw [if_pos e] at h1
  exact of_decide_eq_true h1.1
 ·rw [if_neg (by omega)] at h1
  exact of_decide_eq_true h1.1
 ·have h2 := h1.2
  rw [if_neg (by omega), hp] at h2
  exact ahead_ok h2
theorem VersD.may {l : List Ver} (h : VersD l) : ∀ v ∈ l, mayV v = true := by
 rcases h with h | rfl
 ·exact h.may
 ·intro v hv
  rw [List.mem_singleton.1 hv]
  decide +kernel
theorem VersD.rise {l : List Ver} (h : VersD l) {j : Nat} (hj : j + 1 < l.length) : cmpV (l[j]'(by omega)) l[j + 1] < 0 := by
 rcases h with h | rfl
 ·exact h.rise (Nat.lt_succ_self j) hj
 ·simp at hj
theorem want_may {m : Nat} {x : WantD} (h : x.ok m) (h1 : 1 ≤ x.u) : WantMay m x := ⟨h1, h.2.1, h.2.2.2.2⟩
theorem units_may {us : List UnitW} (h : UnitsT us) (h0 : (nsOf us).head? = some 1) : ∀ k, (hk : k < us.length) → UnitMay us k hk := by
 intro k hk
 obtain ⟨fs, h5, hn⟩ := h.names
 have hat : ∀ i, (hi : i < us.length) → (namesF fs)[i]? = some (us[i].nm, us[i].ft) := fun i hi => by
  rw [← hn, List.getElem?_map, List.getElem?_eq_getElem hi]
  rfl
 obtain ⟨n0, n1, n2⟩ := names_at h5 (hat k hk)
 have h4 : us[k].cands.length ≤ 4 := by
  have := h.ns.le k (by simpa [nsOf] using hk)
  simpa [nsOf] using this
 have hmem : us[k] ∈ us := List.getElem_mem hk
 refine ⟨by omega, fun e => ?_, n1, fun e => n2 _ e (hat (k - 1) (by omega)), fun c hc => ?_, fun j hj => ?_⟩
 ·have h1 := n0 e
  injection h1 with e1 e2
  refine ⟨e1, e2, ?_⟩
  subst e
  have h2 : (nsOf us)[0]? = some us[0].cands.length := by unfold nsOf; rw [List.getElem?_map, List.getElem?_eq_getElem hk]; rfl
  rw [List.head?_eq_getElem?, h2] at h0
  injection h0
 ·have ht := h.cands _ hmem c hc
  have hg := h.good _ hmem c hc
  refine ⟨(h.vers _ hmem).may c.v (List.mem_map.2 ⟨c, hc, rfl⟩), Nat.le_trans ht.1 (by decide), Nat.le_trans ht.2.2.1 (by decide), fun r hr => ?_, fun x hx => want_may (ht.2.2.2 x hx) (hg.2 x hx)⟩
  obtain ⟨r1, r2⟩ := ht.2.1 r hr
  obtain ⟨r3, r4⟩ := hg.1 r hr
  exact ⟨⟨r3, Nat.le_trans r1 (by decide)⟩, fun x hx => want_may (r2 x hx) (r4 x hx)⟩
 ·have h1 := (h.vers _ hmem).rise (j := j) (by simpa using hj)
  simpa using h1
end
section
set_option maxRecDepth 100000 in
set_option maxHeartbeats 4000000 in
theorem may19_any (v cv : Value) (us : List UnitW) (c : List Int) (w : World) (h : WorldRd w (Lt w.heap.size) v us) (hu : UnitsT us) (h0 : (nsOf us).head? = some 1) (hcv : SliceRd tInt w (Lt w.heap.size) cv c) (hc : ChoiceOk (nsOf us) c) :
  Calls Tryz.prog 32 #[v, cv] w fun e w' => e = .returned (.bool true) ∧ Below w.heap.size w w' := by
 have hl : (nsOf us).length = us.length := by simp [nsOf]
 have h11 := hu.ns.hi
 have h2 := hu.ns.lo
 have hcl := hc.len
 have HMAY := hid (fun (W : World) (hb : Below w.heap.size w W) => may18_any v us W (h.lift hb hb.size) (by omega) (by omega) (units_may hu h0))
 obtain ⟨g, cap, rfl, hg, hun⟩ := h.opened
 obtain ⟨Ac, cc, rfl, hca, hcm, hcc⟩ := hcv.ints
 unfold maxLen at hcm
 have HVAL := hid (show ∀ k, (hk : k < us.length) → -1 ≤ c.getD k 0 ∧ c.getD k 0 < us[k].cands.length from fun k hk => by
  have := hc.val k (by omega)
  simpa [nsOf] using this)
 obtain ⟨n, hn⟩ : ∃ n, us.length = n := ⟨_, rfl⟩
 have hcn : c.length = n := by omega
 have HN := hid hn
 have HCN := hid hcn
 have HUN := hid (show ∀ u, (hu : u < us.length) → ∃ A c, w.cell? ⟨g, u * 3 + 2, none⟩ = some (.slice A us[u].cands.length c) from fun u hu => by
  obtain ⟨A, c, e, -⟩ := hun u hu
  exact ⟨A, c, e⟩)
 have HCC := hid hcc
 rw [hn] at HMAY ⊢
 rw [hcn] at hca ⊢
 clear h hu h0 hcv hc hun hcc hn hcn hcl hl h11 h2
 have n1 : ((n : Int) == (n : Int)) = true := beq_self_eq_true _
 obtain ⟨w0, hw0⟩ : ∃ w0 : World, w0 = w.alloc (.cells #[.slice (some ⟨g, 0, none⟩) n cap] 25) := ⟨_, rfl⟩
 have hb0 : Below w.heap.size w w0 := hw0 ▸ balloc (b0 w) _
 have hz0 : w.heap.size < w0.heap.size := by rw [hw0]; simp
 have q0 : w0.cell? ⟨w.heap.size, 0, none⟩ = some (.slice (some ⟨g, 0, none⟩) n cap) := by rw [hw0, alloc_cell]; rfl
 have HB0 := hid hb0
 have HW0 := hid hw0
 clear hb0 hw0
 go_enter Tryz.func32, Tryz.ntmps32
 go_wp2_with (go_at_call 66; go_must (rw [← HW0.out]; refine (HMAY.out _ HB0.out).mono ?_; rintro e w1 ⟨rfl, hb1⟩; have HB1 := hid (bstep (b0 w0) hb1); have r0 := cell_below hb1 hz0 q0))
 have HBW := hid (bstep HB0.out HB1.out)
 have hz1 : w.heap.size < w1.heap.size := Nat.lt_of_lt_of_le hz0 HB1.out.size
 clear q0 hb1
 go_loopw [5] (fun iv wr => ∃ k : Nat, k ≤ n ∧ iv = .int .i64 k ∧ Hid (Below w1.heap.size w1 wr)) (fun iv _ => n - (intOf iv).toNat)
 case atStart => exact ⟨0, Nat.zero_le _, rfl, hid (b0 w1)⟩
 case round =>
  obtain ⟨k, hk, rfl, hb⟩ := hrel
  have hbw := bstep HBW.out hb.out
  have c0 := cell_below hb.out hz1 r0
  by_cases hlt : k < n
  ·obtain ⟨A, ca, hcell⟩ := HUN.out k (by rw [HN.out]; exact hlt)
   obtain ⟨gc, oc, hA, hFc, hcel, -⟩ := HCC.out k (by rw [HCN.out]; exact hlt)
   subst hA
   obtain ⟨v0, v1⟩ := HVAL.out k (by rw [HN.out]; exact hlt)
   have e2 : c.getD k 0 = c[k]'(by rw [HCN.out]; exact hlt) := by rw [List.getD_eq_getElem?_getD, List.getElem?_eq_getElem (by rw [HCN.out]; exact hlt)]; rfl
   rw [e2] at v0 v1
   generalize (us[k]'(by rw [HN.out]; exact hlt)).cands.length = m at *
   generalize c[k]'(by rw [HCN.out]; exact hlt) = q at *
   have d0 := cell_below hbw hg hcell
   have d1 := cell_below hbw hFc hcel
   have hgr : g < wr.heap.size := Nat.lt_of_lt_of_le hg hbw.size
   have hgc : gc < wr.heap.size := Nat.lt_of_lt_of_le hFc hbw.size
   have hzr : w.heap.size < wr.heap.size := Nat.lt_of_lt_of_le hz1 hb.out.size
   have l0 := later_cell hgr d0
   have l1 := later_cell hgc d1
   have l2 := later_cell hzr c0
   have i0 : (0 : Int) ≤ ↑k := by omega
   have i1 : (↑k : Int) < ↑n := by omega
   have m1 : decide (q < -1) = false := decide_eq_false (by omega)
   have m2 : decide ((m : Int) ≤ q) = false := decide_eq_false (by omega)
   clear e2 v0 v1 hcel hcell d0 d1
   go_wp2_with fail
   (refine wp_region_later (by kernel_rfl) (by kernel_rfl) ?_; (repeat (go_big_quiet_step ((fail)))); refine wpQuiet_nil ?_; rintro _ ⟨⟨w2, hb2⟩, rfl⟩)
   go_wp2_with fail
   exact ⟨⟨k + 1, by omega, by go_num, hid (bstep hb.out hb2)⟩, by simp [intOf]; omega⟩
  ·have hkn : k = n := by omega
   subst hkn
   go_wp2_with fail
   go_ret
   exact ⟨rfl, hbw⟩
end
end Go.Proofs.YthneiolcljnbeaaGreatDoor
