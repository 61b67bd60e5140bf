import Derived.Test.YtfdjoknklpiooaaGreatDoorzY10
import Derived.Outline
import Derived.Test.YtfdjoknklpiooaaGreatDoorzA1
import Derived.Test.YtfdjoknklpiooaaGreatDoorzN10
import Derived.BigRegion
section
/- Contracts: slices.IndexFunc, ContainsFunc at wants and at rows of wants, by places; fact.broken's closures. -/
namespace Go.Proofs.YtfdjoknklpiooaaGreatDoor
open Go Go.RowKit

/-- The first place at which a predicate holds. -/
def IdxP (n : Nat) (p : Nat → Bool) (r : Int) : Prop := (r = -1 ∧ ∀ k, k < n → p k = false) ∨ ∃ k, k < n ∧ r = (k : Int) ∧ p k = true
theorem idx_any {n : Nat} {p : Nat → Bool} {r : Int} (h : IdxP n p r) : decide (0 ≤ r) = (List.range n).any p := by
 rcases h with ⟨rfl, hn⟩ | ⟨k, hk, rfl, hp⟩
 ·rw [List.any_eq_false.2 (fun t ht => by rw [hn t (List.mem_range.1 ht)]; decide)]
  decide
 ·rw [List.any_eq_true.2 ⟨k, List.mem_range.2 hk, hp⟩]
  exact decide_eq_true (by omega)
set_option maxHeartbeats 1000000 in
theorem indexW_any (A : Option Addr) (n cap : Nat) (xu av bv : Nat → Value) (p : Nat → Bool) (f : Nat) (lb : Array Value) (eg : ∀ args w, (callFunc f args).run Tryz.prog w = .ok (.enter f args) w) (w : World) (hmax : n ≤ 1000000)
  (hc : ∀ k, k < n → ∃ g o, A = some ⟨g, o, none⟩ ∧ g < w.heap.size ∧ w.cell? ⟨g, o + k * 3, none⟩ = some (xu k) ∧ w.cell? ⟨g, o + k * 3 + 1, none⟩ = some (av k) ∧ w.cell? ⟨g, o + k * 3 + 2, none⟩ = some (bv k))
  (hp : ∀ W k, k < n → Below w.heap.size w W → Calls Tryz.prog f (#[.agg #[xu k, av k, bv k]] ++ lb) W fun e w' => e = .returned (.bool (p k)) ∧ Below w.heap.size w w') :
  Calls Tryz.prog 87 #[.slice A n cap, .func (.func f) #[] lb] w fun e w' => ∃ r : Int, e = .returned (.int .i64 r) ∧ IdxP n p r ∧ Below w.heap.size w w' := by
 have HC := hid hc
 have HP := hid hp
 clear hc hp
 go_enter Tryz.func87, Tryz.ntmps87
 go_wp2
 go_loopw [5, 8] (fun _ kv wr => ∃ k : Nat, k ≤ n ∧ kv = .int .i64 k ∧ Hid (Below w.heap.size w wr) ∧ Hid (∀ j, j < k → p j = false)) (fun _ kv _ => n - (intOf kv).toNat)
 case atStart => exact ⟨0, Nat.zero_le _, rfl, hid (b0 w), hid (fun j hj => absurd hj (by omega))⟩
 case round =>
  obtain ⟨k, hk, rfl, hb, hn⟩ := hrel
  by_cases hlt : k < n
  ·obtain ⟨g, o, hA, hF, h0, h1, h2⟩ := HC.out k hlt
   subst hA
   have hcall := HP.out wr k hlt hb.out
   obtain ⟨y0, hy0⟩ : ∃ y, xu k = y := ⟨_, rfl⟩
   obtain ⟨y1, hy1⟩ : ∃ y, av k = y := ⟨_, rfl⟩
   obtain ⟨y2, hy2⟩ : ∃ y, bv k = y := ⟨_, rfl⟩
   rw [hy0] at h0
   rw [hy1] at h1
   rw [hy2] at h2
   have c0 := cell_below hb.out hF h0
   have c1 := cell_below hb.out hF h1
   have c2 := cell_below hb.out hF h2
   rw [hy0, hy1, hy2] at hcall
   have i1 : (0 : Int) ≤ ↑k := by omega
   have i2 : (↑k : Int) < ↑n := by omega
   clear hy0 h0 hy1 h1 hy2 h2
   cases hq : p k with
   | true =>
    have HQ := hid hq
    rw [hq] at hcall
    clear hq
    go_wp2_with (go_at_fn f; refine hcall.mono ?_; rintro e w' ⟨rfl, hb'⟩)
    go_ret
    exact ⟨_, rfl, .inr ⟨k, hlt, rfl, HQ.out⟩, hb'⟩
   | false =>
    have HQ := hid hq
    rw [hq] at hcall
    clear hq
    go_wp2_with (go_at_fn f; refine hcall.mono ?_; rintro e w' ⟨rfl, hb'⟩)
    exact ⟨⟨k + 1, by omega, by go_num, hid hb', hid (fun j hj => if e : j = k then by subst e; exact HQ.out else hn.out j (by omega))⟩, by simp [intOf]; omega⟩
  ·go_wp2
   go_ret
   exact ⟨_, rfl, .inl ⟨rfl, fun j hj => hn.out j (by omega)⟩, hb.out⟩
theorem containsW_any (A : Option Addr) (n cap : Nat) (xu av bv : Nat → Value) (p : Nat → Bool) (f : Nat) (lb : Array Value) (eg : ∀ args w, (callFunc f args).run Tryz.prog w = .ok (.enter f args) w) (w : World) (hmax : n ≤ 1000000)
  (hc : ∀ k, k < n → ∃ g o, A = some ⟨g, o, none⟩ ∧ g < w.heap.size ∧ w.cell? ⟨g, o + k * 3, none⟩ = some (xu k) ∧ w.cell? ⟨g, o + k * 3 + 1, none⟩ = some (av k) ∧ w.cell? ⟨g, o + k * 3 + 2, none⟩ = some (bv k))
  (hp : ∀ W k, k < n → Below w.heap.size w W → Calls Tryz.prog f (#[.agg #[xu k, av k, bv k]] ++ lb) W fun e w' => e = .returned (.bool (p k)) ∧ Below w.heap.size w w') :
  Calls Tryz.prog 59 #[.slice A n cap, .func (.func f) #[] lb] w fun e w' => e = .returned (.bool ((List.range n).any p)) ∧ Below w.heap.size w w' := by
 have hcall := indexW_any A n cap xu av bv p f lb eg w hmax hc hp
 clear hc hp eg
 go_enter Tryz.func59, Tryz.ntmps59
 go_wp2_with (go_at_call 87; refine hcall.mono ?_; rintro e w' ⟨r, rfl, hr, hb'⟩)
 go_ret
 exact ⟨ret_bool (idx_any hr), hb'⟩
set_option maxHeartbeats 1000000 in
theorem indexL_any (A : Option Addr) (n cap : Nat) (lv : Nat → Value) (p : Nat → Bool) (f : Nat) (lb : Array Value) (eg : ∀ args w, (callFunc f args).run Tryz.prog w = .ok (.enter f args) w) (w : World) (hmax : n ≤ 1000000)
  (hc : ∀ k, k < n → ∃ g o, A = some ⟨g, o, none⟩ ∧ g < w.heap.size ∧ w.cell? ⟨g, o + k, none⟩ = some (lv k))
  (hp : ∀ W k, k < n → Below w.heap.size w W → Calls Tryz.prog f (#[lv k] ++ lb) W fun e w' => e = .returned (.bool (p k)) ∧ Below w.heap.size w w') :
  Calls Tryz.prog 89 #[.slice A n cap, .func (.func f) #[] lb] w fun e w' => ∃ r : Int, e = .returned (.int .i64 r) ∧ IdxP n p r ∧ Below w.heap.size w w' := by
 have HC := hid hc
 have HP := hid hp
 clear hc hp
 go_enter Tryz.func89, Tryz.ntmps89
 go_wp2
 go_loopw [5, 8] (fun _ kv wr => ∃ k : Nat, k ≤ n ∧ kv = .int .i64 k ∧ Hid (Below w.heap.size w wr) ∧ Hid (∀ j, j < k → p j = false)) (fun _ kv _ => n - (intOf kv).toNat)
 case atStart => exact ⟨0, Nat.zero_le _, rfl, hid (b0 w), hid (fun j hj => absurd hj (by omega))⟩
 case round =>
  obtain ⟨k, hk, rfl, hb, hn⟩ := hrel
  by_cases hlt : k < n
  ·obtain ⟨g, o, hA, hF, h0⟩ := HC.out k hlt
   subst hA
   have hcall := HP.out wr k hlt hb.out
   obtain ⟨y0, hy0⟩ : ∃ y, lv k = y := ⟨_, rfl⟩
   rw [hy0] at h0
   have c0 := cell_below hb.out hF h0
   rw [hy0] at hcall
   have i1 : (0 : Int) ≤ ↑k := by omega
   have i2 : (↑k : Int) < ↑n := by omega
   clear hy0 h0
   cases hq : p k with
   | true =>
    have HQ := hid hq
    rw [hq] at hcall
    clear hq
    go_wp2_with (go_at_fn f; refine hcall.mono ?_; rintro e w' ⟨rfl, hb'⟩)
    go_ret
    exact ⟨_, rfl, .inr ⟨k, hlt, rfl, HQ.out⟩, hb'⟩
   | false =>
    have HQ := hid hq
    rw [hq] at hcall
    clear hq
    go_wp2_with (go_at_fn f; refine hcall.mono ?_; rintro e w' ⟨rfl, hb'⟩)
    exact ⟨⟨k + 1, by omega, by go_num, hid hb', hid (fun j hj => if e : j = k then by subst e; exact HQ.out else hn.out j (by omega))⟩, by simp [intOf]; omega⟩
  ·go_wp2
   go_ret
   exact ⟨_, rfl, .inl ⟨rfl, fun j hj => hn.out j (by omega)⟩, hb.out⟩
theorem containsL_any (A : Option Addr) (n cap : Nat) (lv : Nat → Value) (p : Nat → Bool) (f : Nat) (lb : Array Value) (eg : ∀ args w, (callFunc f args).run Tryz.prog w = .ok (.enter f args) w) (w : World) (hmax : n ≤ 1000000)
  (hc : ∀ k, k < n → ∃ g o, A = some ⟨g, o, none⟩ ∧ g < w.heap.size ∧ w.cell? ⟨g, o + k, none⟩ = some (lv k))
  (hp : ∀ W k, k < n → Below w.heap.size w W → Calls Tryz.prog f (#[lv k] ++ lb) W fun e w' => e = .returned (.bool (p k)) ∧ Below w.heap.size w w') :
  Calls Tryz.prog 62 #[.slice A n cap, .func (.func f) #[] lb] w fun e w' => e = .returned (.bool ((List.range n).any p)) ∧ Below w.heap.size w w' := by
 have hcall := indexL_any A n cap lv p f lb eg w hmax hc hp
 clear hc hp eg
 go_enter Tryz.func62, Tryz.ntmps62
 go_wp2_with (go_at_call 89; refine hcall.mono ?_; rintro e w' ⟨r, rfl, hr, hb'⟩)
 go_ret
 exact ⟨ret_bool (idx_any hr), hb'⟩
end Go.Proofs.YtfdjoknklpiooaaGreatDoor
end
section
/- Contracts: ref23.clause. -/
namespace Go.Proofs.YtfdjoknklpiooaaGreatDoor
open Go Go.RowKit

theorem clauseL_snoc (us : List UnitW) (u p : Nat) (l : List WantD) (bar : Bool) {k : Nat} (hk : k < l.length) : clauseL us u p (l.take (k + 1)) bar = clauseL us u p (l.take k) bar ++ [clauseT us bar l[k]] := by
 unfold clauseL
 rw [take_snoc hk, List.map_append]
 rfl
theorem full_pow {ns : List Nat} {u p : Nat} (hu : u < ns.length) (hp : p < ns[u]) : fullN ns u &&& 2 ^ (p + 1) = 2 ^ (p + 1) := by
 apply Nat.eq_of_testBit_eq
 intro k
 rw [Nat.testBit_and, Nat.testBit_two_pow, full_bit hu]
 by_cases e : p + 1 = k
 ·subst e; simp; omega
 ·simp [e]
/-- A row of wants, opened. -/
theorem SliceRd.wants {w : World} {F : Nat → Prop} {v : Value} {l : List WantD} (h : SliceRd tWant w F v l) :
  ∃ A cap, v = .slice A l.length cap ∧ l.length ≤ cap ∧ cap ≤ maxLen ∧ ∀ k, (hk : k < l.length) → ∃ g o a b, A = some ⟨g, o, none⟩ ∧ F g ∧ w.cell? ⟨g, o + k * 3, none⟩ = some (.int .i64 l[k].u) ∧ w.cell? ⟨g, o + k * 3 + 1, none⟩ = some a ∧ w.cell? ⟨g, o + k * 3 + 2, none⟩ = some b ∧ SliceRd fSpan.ty w F a l[k].s.rel ∧ SliceRd fSpan.ty w F b l[k].s.pre := by
 obtain ⟨A, cap, hv, h1, h2, h3⟩ := h.shape
 refine ⟨A, cap, hv, h1, h2, fun k hk => ?_⟩
 obtain ⟨g, o, cs, hA, hF, -, hcell, a, b, rfl, -, a', b', e, hr, hp⟩ := h3 k hk
 injection e with e1 e
 injection e with e2 _
 subst e1 e2
 exact ⟨g, o, a, b, hA, hF, hcell 0 (by show 0 < 3; omega), hcell 1 (by show 1 < 3; omega), hcell 2 (by show 2 < 3; omega), hr, hp⟩
set_option maxRecDepth 100000 in
set_option maxHeartbeats 8000000 in
theorem clause_any (v lv : Value) (us : List UnitW) (u p : Nat) (l : List WantD) (bar : Bool) (w : World) (h : WorldRd w (Lt w.heap.size) v us) (ho : UnitsOk us) (hl : SliceRd tWant w (Lt w.heap.size) lv l) (hu : u < us.length) (hp : p < us[u].cands.length) (hll : l.length ≤ 10) (hok : ∀ x ∈ l, x.ok us.length) :
  Calls Tryz.prog 23 #[v, .int .i64 u, .int .i64 p, lv, .bool bar] w (TermsNew (makeN (nsOf us) (clauseL us u p l bar)) w) := by
 obtain ⟨it, hit⟩ := info_parts term_info
 have HIT := hid hit
 have HW := hid h
 have HU := hid h.uni
 have HO := hid ho
 have HNS := hid ho.ns
 have h11 : us.length ≤ 11 := by have := ho.ns.hi; simpa [nsOf] using this
 have h4 : us[u].cands.length ≤ 4 := by
  have := ho.ns.le u (by simpa [nsOf] using hu)
  simpa [nsOf] using this
 have HF31 := hid (fun x => fullN_le ho.ns x)
 have hful := full_pow (ns := nsOf us) (u := u) (p := p) (by simpa [nsOf] using hu) (by simpa [nsOf] using hp)
 obtain ⟨g, cap0, rfl, hg, -⟩ := h
 obtain ⟨A, cap, rfl, hca, hcm, hc⟩ := hl.wants
 unfold maxLen at hcm
 have HC := hid hc
 have HOK := hid (fun k (hk : k < l.length) => hok l[k] (List.getElem_mem hk))
 have hp4 : p < 4 := by omega
 have hpc : p = 0 ∨ p = 1 ∨ p = 2 ∨ p = 3 := by omega
 obtain ⟨pq, hpq⟩ : ∃ pq, 2 ^ (p + 1) = pq := ⟨_, rfl⟩
 have hpq31 : pq ≤ 31 := by rw [← hpq]; rcases hpc with rfl | rfl | rfl | rfl <;> decide
 have hsh : wrap64 (2 * (2 : Int) ^ p) = (pq : Int) := by rw [← hpq]; rcases hpc with rfl | rfl | rfl | rfl <;> simp [wrap64]
 rw [hpq] at hful
 have HCL0 : Hid (clauseL us u p (l.take 0) bar = [⟨(u : Int), (pq : Int)⟩]) := hid (by unfold clauseL; rw [List.take_zero, hpq]; rfl)
 have HSN := hid (fun k (hk : k < l.length) => clauseL_snoc us u p l bar hk)
 have hand := and_nat (HF31.out u) hpq31
 rw [hful] at hand
 have hfu := fullF_nat (ns := nsOf us) u
 have HFL := hid (fun (x : Nat) (W : World) (hb : Below w.heap.size w W) (hx : x ≤ 100) => rfull_any (.agg #[.slice (some ⟨g, 0, none⟩) us.length cap0]) (nsOf us) x W _ (uni_later HU.out hb) HNS.out ⟨by omega, by omega⟩ (fun _ h => h))
 have p0 : (0 : Int) ≤ ↑p := by omega
 clear hit ho hl hc hok hpc hful hp
 go_enter Tryz.func23, Tryz.ntmps23
 go_wp2_with fail
 obtain ⟨w0, hw0⟩ : ∃ w0 : World, w0 = w.alloc (.cells #[.slice (some ⟨g, 0, none⟩) us.length cap0] 29) := ⟨_, rfl⟩
 have hb0 : Below w.heap.size w w0 := hw0 ▸ balloc (b0 w) _
 have hz0 : w.heap.size < w0.heap.size := by rw [hw0]; simp
 have q0 : w0.cell? ⟨w.heap.size, 0, none⟩ = some (.slice (some ⟨g, 0, none⟩) us.length cap0) := by rw [hw0, alloc_cell]; rfl
 have HB0 := hid hb0
 rw [← hw0]
 clear hw0 hb0
 refine (HFL.out u w0 HB0.out (by omega)).mono ?_
 rintro e w1 ⟨rfl, hb1⟩
 rw [hfu]
 have q1 := cell_below hb1 hz0 q0
 have hz1 := Nat.lt_of_lt_of_le hz0 hb1.size
 have HB1 := hid (bstep HB0.out hb1)
 clear hb1 q0
 go_wp2_with fail
 obtain ⟨w2, hw2⟩ : ∃ w2 : World, w2 = w1.alloc (.cells #[.int .i64 u, .int .i64 pq] 73) := ⟨_, rfl⟩
 have hb2 : Below w1.heap.size w1 w2 := hw2 ▸ balloc (b0 w1) _
 have HOW0 : Hid (OwnF fTerm 73 w1.heap.size w2 (.slice (some ⟨w1.heap.size, 0, none⟩) 1 1) [⟨(u : Int), (pq : Int)⟩]) := hid (by
  rw [hw2]
  exact own_new (f := fTerm) (e := 73) (w := w1) (l := [⟨(u : Int), (pq : Int)⟩]) (cs := #[.int .i64 u, .int .i64 pq]) rfl (fun x hx => by rw [List.mem_singleton.1 hx]; exact ⟨⟨by show -9223372036854775808 ≤ (u : Int); omega, by show (u : Int) ≤ 9223372036854775807; omega⟩, i64_small hpq31⟩) (by simp [maxLen]))
 have HB2 := hid hb2
 rw [← hw2]
 clear hw2 hb2 hsh hand hfu
 go_loopw [12, 13] (fun tv iv wr => ∃ k : Nat, k ≤ l.length ∧ iv = .int .i64 k ∧ Hid (OwnF fTerm 73 w1.heap.size wr tv (clauseL us u p (l.take k) bar)) ∧ Hid (Below w1.heap.size w1 wr)) (fun _ iv _ => l.length - (intOf iv).toNat)
 case atStart => exact ⟨0, Nat.zero_le _, rfl, hid (by rw [HCL0.out]; exact HOW0.out), HB2⟩
 case round =>
  obtain ⟨k, hk, rfl, how, hb⟩ := hrel
  have hbw := HB1.out.trans (hb.out.mono HB1.out.size)
  have HBW := hid hbw
  have qr := cell_below hb.out hz1 q1
  have hzr := Nat.lt_of_lt_of_le hz1 hb.out.size
  obtain ⟨Ao, co, hov⟩ := how.out.form
  subst hov
  have hlen : (clauseL us u p (l.take k) bar).length ≤ 20 := by
   unfold clauseL
   rw [List.length_cons, List.length_map, List.length_take]
   omega
  by_cases hlt : k < l.length
  ·obtain ⟨gx, ox, a, b, hA, hFx, x0, x1, x2, hra, hrb⟩ := HC.out k hlt
   subst hA
   have HS := hid (HSN.out k hlt)
   obtain ⟨hx0, hx1, -⟩ := HOK.out k hlt
   have HMT := hid (fun (W : World) (hb : Below w.heap.size w W) => met_any (.agg #[.slice (some ⟨g, 0, none⟩) us.length cap0]) a b us l[k] W (HW.out.lift hb hb.size) HO.out (hra.lift hb hb.size) (hrb.lift hb hb.size) hx0 hx1)
   have hmle := metN_le us l[k]
   obtain ⟨xu, hxu⟩ : ∃ xu : Nat, l[k].u = (xu : Int) := ⟨l[k].u.toNat, by omega⟩
   have hxl : xu < us.length := by omega
   have hct : clauseT us bar l[k] = ⟨(xu : Int), ((if bar then metN us l[k] else fullN (nsOf us) xu - metN us l[k] : Nat) : Int)⟩ := by
    unfold clauseT
    rw [hxu, Int.toNat_natCast]
   have HCT := hid hct
   rw [hxu, Int.toNat_natCast] at hmle
   rw [hxu] at x0 HMT
   have hf31 := HF31.out xu
   have hfu := fullF_nat (ns := nsOf us) xu
   have HFX := hid (fun (W : World) (hb : Below w.heap.size w W) => HFL.out xu W hb (by omega))
   rw [hfu] at HFX
   obtain ⟨mt, hmt⟩ : ∃ mt, metN us l[k] = mt := ⟨_, rfl⟩
   rw [hmt] at HMT hmle HCT
   obtain ⟨ff, hff⟩ : ∃ ff, fullN (nsOf us) xu = ff := ⟨_, rfl⟩
   rw [hff] at HFX hmle HCT hf31
   have hgx : gx < wr.heap.size := Nat.lt_of_lt_of_le hFx hbw.size
   have l0 := later_cell hgx (cell_below hbw hFx x0)
   have l1 := later_cell hgx (cell_below hbw hFx x1)
   have l2 := later_cell hgx (cell_below hbw hFx x2)
   have lq := later_cell hzr qr
   have HX0 := hid x0
   have HM1 := hid (fun e : Later wr => HMT.out e.w (bstep HBW.out e.below))
   have i0 : (0 : Int) ≤ ↑k := by omega
   have i1 : (↑k : Int) < ↑l.length := by omega
   clear hra hrb hxu hct hmt hff hfu x1 x2 hx0 hx1
   generalize hLs : clauseL us u p (l.take k) bar = L at *
   go_wp2_with fail
   (refine wp_region_later (by kernel_rfl) (by kernel_rfl) ?_; (repeat (go_big_quiet_step ((first | (go_at_call 48; exact Calls.later (HM1.out _) rfl))))); refine wpQuiet_nil ?_; rintro _ ⟨⟨w3, hb3⟩, rfl⟩)
   rename_i w3
   have HB3 := hid (hb.out.trans (hb3.mono hb.out.size))
   have HBW3 := hid (bstep HBW.out hb3)
   have HOW3 := hid (how.out.below hb3 (Nat.le_refl _))
   have z0 := cell_below HBW3.out hFx HX0.out
   have q3 := cell_below hb3 hzr qr
   have hz3 := Nat.lt_of_lt_of_le hzr hb3.size
   have hgx3 : gx < w3.heap.size := Nat.lt_of_lt_of_le hFx HBW3.out.size
   have hs3 := HB3.out.size
   clear hb3 l0 l1 l2 lq
   cases bar with
   | true =>
    have hct2 := HCT.out
    rw [if_pos rfl] at hct2
    have HE := hid (HS.out.trans (by rw [hct2]))
    have HOKT := hid (show fTerm.ok ⟨(xu : Int), (mt : Int)⟩ from ⟨⟨by show -9223372036854775808 ≤ (xu : Int); omega, by show (xu : Int) ≤ 9223372036854775807; omega⟩, i64_small (by omega)⟩)
    clear hct2
    go_wp2_with (at_builtin; go_must (refine wpList_append_src _ rfl (.tmp 48) (.tmp 56) _ rfl w1.heap.size 73 it _ 2 16 Tryz.underlying23 HIT.out.1 HIT.out.2.1 HIT.out.2.2.1 HIT.out.2.2.2 rfl (by omega) (.slice Ao L.length co) L.length (fTerm.all L) (by rfl) (by exact HOW3.out.1.alloc _) (some ⟨w3.heap.size, 0, none⟩) 1 1 (fTerm.cells ⟨(xu : Int), (mt : Int)⟩) (by rfl) (by exact src_one (f := fTerm) rfl) (by simp [fTerm, Value.oneCell']) (by unfold maxLen; omega) (by omega) (by simp; omega) ?_; intro v5 w5 hown5 hg5 hat5; have HO5 := hid (HOW3.out.snoc HOKT.out hown5); have HB5 := hid (own_app (v2 := v5) (HB3.out.alloc hs3 _) (HOW3.out.alloc _) (by simp; omega) hg5 rfl); clear hown5 hg5 hat5))
    exact ⟨⟨k + 1, by omega, by go_num, hid (by rw [HE.out]; exact HO5.out), HB5⟩, by simp [intOf]; omega⟩
   | false =>
    have hct2 := HCT.out
    rw [if_neg (by decide)] at hct2
    have HE := hid (HS.out.trans (by rw [hct2]))
    have HOKT := hid (show fTerm.ok ⟨(xu : Int), ((ff - mt : Nat) : Int)⟩ from ⟨⟨by show -9223372036854775808 ≤ (xu : Int); omega, by show (xu : Int) ≤ 9223372036854775807; omega⟩, i64_small (by omega)⟩)
    have hsub : (ff : Int) - (mt : Int) = ((ff - mt : Nat) : Int) := by omega
    have hw64 : IntKind.i64.wrap (((ff - mt : Nat) : Int)) = ((ff - mt : Nat) : Int) := IntWalk.i64_in _ (by omega)
    have m0 := later_cell hgx3 z0
    have mq := later_cell hz3 q3
    have HF3 := hid (fun e : Later w3 => HFX.out e.w (bstep HBW3.out e.below))
    clear hct2
    go_wp2_with fail
    (refine wp_region_later (by kernel_rfl) (by kernel_rfl) ?_; (repeat (go_big_quiet_step ((first | (go_at_call 26; exact Calls.later (HF3.out _) rfl))))); refine wpQuiet_nil ?_; rintro _ ⟨⟨w4, hb4⟩, rfl⟩)
    rename_i w4
    have HB4 := hid (HB3.out.trans (hb4.mono HB3.out.size))
    have HOW4 := hid (HOW3.out.below hb4 (Nat.le_refl _))
    have y0 := cell_below hb4 hgx3 z0
    have hs4 := HB4.out.size
    clear hb4 m0 mq
    go_wp2_with (at_builtin; go_must (refine wpList_append_src _ rfl (.tmp 48) (.tmp 56) _ rfl w1.heap.size 73 it _ 2 16 Tryz.underlying23 HIT.out.1 HIT.out.2.1 HIT.out.2.2.1 HIT.out.2.2.2 rfl (by omega) (.slice Ao L.length co) L.length (fTerm.all L) (by rfl) (by exact HOW4.out.1.alloc _) (some ⟨w4.heap.size, 0, none⟩) 1 1 (fTerm.cells ⟨(xu : Int), ((ff - mt : Nat) : Int)⟩) (by rfl) (by exact src_one (f := fTerm) rfl) (by simp [fTerm, Value.oneCell']) (by unfold maxLen; omega) (by omega) (by simp; omega) ?_; intro v5 w5 hown5 hg5 hat5; have HO5 := hid (HOW4.out.snoc HOKT.out hown5); have HB5 := hid (own_app (v2 := v5) (HB4.out.alloc hs4 _) (HOW4.out.alloc _) (by simp; omega) hg5 rfl); clear hown5 hg5 hat5))
    exact ⟨⟨k + 1, by omega, by go_num, hid (by rw [HE.out]; exact HO5.out), HB5⟩, by simp [intOf]; omega⟩
  ·have hkn : k = l.length := by omega
   subst hkn
   rw [List.take_length] at how hlen ⊢
   have hrd := how.out.rd
   generalize hLs : clauseL us u p l bar = L at *
   generalize hLL : L.length = LL at *
   have HMK := hid (rmake22_new (.agg #[.slice (some ⟨g, 0, none⟩) us.length cap0]) (.slice Ao LL co) (nsOf us) L wr (by have := uni_later HU.out HBW.out; exact this) HNS.out hrd)
   clear hrd hlt
   go_wp2_with (go_at_call 49; refine HMK.out.mono ?_; rintro e w6 ⟨sv, rfl, hsv, hb6⟩)
   go_ret2
   exact ⟨_, rfl, hsv.more fun _ h => ⟨Nat.le_trans HBW.out.size h.1, h.2⟩, bstep HBW.out hb6⟩
end Go.Proofs.YtfdjoknklpiooaaGreatDoor
end
section
/- Contracts: fact.broken and its closures. -/
namespace Go.Proofs.YtfdjoknklpiooaaGreatDoor
open Go Go.RowKit

/-- The three boxes that fact.broken's closures hold. -/
structure Trio (g cap0 n : Nat) (tv : Value) (kk : Int) (u p bw br bp : Nat) (w : World) : Prop where
 l1 : bw < w.heap.size
 l2 : br < w.heap.size
 l3 : bp < w.heap.size
 c : w.cell? ⟨bw, 0, none⟩ = some (.slice (some ⟨g, 0, none⟩) n cap0)
 r0 : w.cell? ⟨br, 0, none⟩ = some (.int .i64 kk)
 r1 : w.cell? ⟨br, 1, none⟩ = some (.int .i64 u)
 r2 : w.cell? ⟨br, 2, none⟩ = some (.int .i64 0)
 r3 : w.cell? ⟨br, 3, none⟩ = some (.int .i64 0)
 r4 : w.cell? ⟨br, 4, none⟩ = some tv
 p0 : w.cell? ⟨bp, 0, none⟩ = some (.int .i64 p)
theorem Trio.later {g cap0 n : Nat} {tv : Value} {kk : Int} {u p bw br bp : Nat} {w w' : World} (h : Trio g cap0 n tv kk u p bw br bp w) (hb : Below w.heap.size w w') : Trio g cap0 n tv kk u p bw br bp w' :=
 have hs := hb.size
 ⟨Nat.lt_of_lt_of_le h.l1 hs, Nat.lt_of_lt_of_le h.l2 hs, Nat.lt_of_lt_of_le h.l3 hs, cell_below hb h.l1 h.c, cell_below hb h.l2 h.r0, cell_below hb h.l2 h.r1, cell_below hb h.l2 h.r2, cell_below hb h.l2 h.r3, cell_below hb h.l2 h.r4, cell_below hb h.l3 h.p0⟩
/-- A closure's captured boxes. -/
def trioV (bw br bp : Nat) : Array Value := #[.pointer (some ⟨bw, 0, none⟩), .pointer (some ⟨br, 0, none⟩), .pointer (some ⟨bp, 0, none⟩)]
set_option maxHeartbeats 2000000 in
theorem sureC_any (a b : Value) (us : List UnitW) (M : Nat → Nat) (kk : Int) (u p g cap0 bw br bp : Nat) (At : Option Addr) (n3 ct : Nat) (x : WantD) (w : World) (ht : Trio g cap0 us.length (.slice At n3 ct) kk u p bw br bp w)
  (h : RowWant us (.agg #[.slice (some ⟨g, 0, none⟩) us.length cap0]) (.slice At n3 ct) a b M u p x w) :
  Calls Tryz.prog 60 (#[.agg #[.int .i64 x.u, a, b]] ++ trioV bw br bp) w fun e w' => e = .returned (.bool (sureN us M u p x)) ∧ Below w.heap.size w w' := by
 have HC := hid (fun (W : World) (hb : Below w.heap.size w W) => sure_any _ _ a b us M kk u p x W (h.later hb))
 obtain ⟨Aa, ca, hav, -⟩ := h.rel.shape
 obtain ⟨Ab, cb, hbv, -⟩ := h.pre.shape
 generalize x.s.rel.length = n1 at hav
 generalize x.s.pre.length = n2 at hbv
 subst hav hbv
 obtain ⟨l1, l2, l3, c, r0, r1, r2, r3, r4, p0⟩ := ht
 have m1 : bw ≠ w.heap.size := by omega
 have m2 : br ≠ w.heap.size := by omega
 have m3 : bp ≠ w.heap.size := by omega
 obtain ⟨xu, hxx⟩ : ∃ xu, x.u = xu := ⟨_, rfl⟩
 rw [hxx] at HC ⊢
 clear h hxx
 show Calls Tryz.prog 60 #[.agg #[.int .i64 xu, .slice Aa n1 ca, .slice Ab n2 cb], .pointer (some ⟨bw, 0, none⟩), .pointer (some ⟨br, 0, none⟩), .pointer (some ⟨bp, 0, none⟩)] w _
 go_enter Tryz.func60, Tryz.ntmps60
 go_wp2_with fail
 refine (HC.out _ (balloc (b0 w) _)).mono ?_
 rintro e w1 ⟨rfl, hb1⟩
 have hb2 := bstep (balloc (b0 w) _) hb1
 have HB := hid hb2
 clear hb1 hb2
 go_wp2
 go_ret
 exact ⟨rfl, HB.out⟩
set_option maxHeartbeats 2000000 in
theorem keptC_any (a b : Value) (us : List UnitW) (M : Nat → Nat) (kk : Int) (u p g cap0 bw br bp : Nat) (At : Option Addr) (n3 ct : Nat) (x : WantD) (w : World) (ht : Trio g cap0 us.length (.slice At n3 ct) kk u p bw br bp w)
  (h : RowWant us (.agg #[.slice (some ⟨g, 0, none⟩) us.length cap0]) (.slice At n3 ct) a b M u p x w) :
  Calls Tryz.prog 64 (#[.agg #[.int .i64 x.u, a, b]] ++ trioV bw br bp) w fun e w' => e = .returned (.bool (!lostN us M u p x)) ∧ Below w.heap.size w w' := by
 have HC := hid (fun (W : World) (hb : Below w.heap.size w W) => lost_any _ _ a b us M kk u p x W (h.later hb))
 obtain ⟨Aa, ca, hav, -⟩ := h.rel.shape
 obtain ⟨Ab, cb, hbv, -⟩ := h.pre.shape
 generalize x.s.rel.length = n1 at hav
 generalize x.s.pre.length = n2 at hbv
 subst hav hbv
 obtain ⟨l1, l2, l3, c, r0, r1, r2, r3, r4, p0⟩ := ht
 have m1 : bw ≠ w.heap.size := by omega
 have m2 : br ≠ w.heap.size := by omega
 have m3 : bp ≠ w.heap.size := by omega
 obtain ⟨xu, hxx⟩ : ∃ xu, x.u = xu := ⟨_, rfl⟩
 rw [hxx] at HC ⊢
 clear h hxx
 show Calls Tryz.prog 64 #[.agg #[.int .i64 xu, .slice Aa n1 ca, .slice Ab n2 cb], .pointer (some ⟨bw, 0, none⟩), .pointer (some ⟨br, 0, none⟩), .pointer (some ⟨bp, 0, none⟩)] w _
 go_enter Tryz.func64, Tryz.ntmps64
 go_wp2_with fail
 refine (HC.out _ (balloc (b0 w) _)).mono ?_
 rintro e w1 ⟨rfl, hb1⟩
 have hb2 := bstep (balloc (b0 w) _) hb1
 have HB := hid hb2
 clear hb1 hb2
 go_wp2
 go_ret
 exact ⟨rfl, HB.out⟩
/-- What a row of a candidate is to be. -/
structure RowCand (us : List UnitW) (v tv : Value) (M : Nat → Nat) (p : Nat) (w : World) : Prop where
 wd : WorldRd w (Lt w.heap.size) v us
 ok : UnitsOk us
 inc : IncOk (nsOf us) M
 terms : SliceRd tTerm w (Lt w.heap.size) tv (canon (nsOf us) M)
 first : FirstIs w
 p : p ≤ 3
theorem RowCand.later {us : List UnitW} {v tv : Value} {M : Nat → Nat} {p : Nat} {w w' : World} (h : RowCand us v tv M p w) (hb : Below w.heap.size w w') : RowCand us v tv M p w' :=
 ⟨h.wd.lift hb hb.size, h.ok, h.inc, h.terms.lift hb hb.size, h.first.below hb, h.p⟩
/-- A row of wants, each of them of a unit. -/
def WantsIn (n : Nat) (l : List WantD) : Prop := l.length ≤ 1000 ∧ ∀ x ∈ l, 0 ≤ x.u ∧ x.u < (n : Int)
theorem range_any {α : Type} (l : List α) (f : α → Bool) (d : Bool) : (List.range l.length).any (fun k => (l[k]?.map f).getD d) = l.any f := by
 rw [Bool.eq_iff_iff, List.any_eq_true, List.any_eq_true]
 constructor
 ·rintro ⟨k, hk, h⟩
  have hk2 := List.mem_range.1 hk
  rw [List.getElem?_eq_getElem hk2] at h
  exact ⟨_, List.getElem_mem hk2, h⟩
 ·rintro ⟨x, hx, h⟩
  obtain ⟨k, hk, rfl⟩ := List.getElem_of_mem hx
  exact ⟨k, List.mem_range.2 hk, by rw [List.getElem?_eq_getElem hk]; exact h⟩
/-- ContainsFunc over a row of wants with a closure that holds the three boxes. -/
theorem anyWant_any (f : Nat) (pr : WantD → Bool) (eg : ∀ args w, (callFunc f args).run Tryz.prog w = .ok (.enter f args) w) (us : List UnitW) (M : Nat → Nat) (kk : Int) (u p g cap0 bw br bp : Nat) (At : Option Addr) (n3 ct : Nat) (lv : Value) (l : List WantD) (w : World)
  (hpr : ∀ (a b : Value) (x : WantD) (W : World), Trio g cap0 us.length (.slice At n3 ct) kk u p bw br bp W → RowWant us (.agg #[.slice (some ⟨g, 0, none⟩) us.length cap0]) (.slice At n3 ct) a b M u p x W →
   Calls Tryz.prog f (#[.agg #[.int .i64 x.u, a, b]] ++ trioV bw br bp) W fun e w' => e = .returned (.bool (pr x)) ∧ Below W.heap.size W w')
  (ht : Trio g cap0 us.length (.slice At n3 ct) kk u p bw br bp w) (h : RowCand us (.agg #[.slice (some ⟨g, 0, none⟩) us.length cap0]) (.slice At n3 ct) M p w) (hl : SliceRd tWant w (Lt w.heap.size) lv l) (hi : WantsIn us.length l) :
  Calls Tryz.prog 59 #[lv, .func (.func f) #[] (trioV bw br bp)] w fun e w' => e = .returned (.bool (l.any pr)) ∧ Below w.heap.size w w' := by
 obtain ⟨A, cap, rfl, hcap, hmax, hc⟩ := hl.wants
 have hx : ∀ k, ∃ a b : Value, ∀ hk : k < l.length, ∃ g o, A = some ⟨g, o, none⟩ ∧ g < w.heap.size ∧ w.cell? ⟨g, o + k * 3, none⟩ = some (.int .i64 l[k].u) ∧ w.cell? ⟨g, o + k * 3 + 1, none⟩ = some a ∧ w.cell? ⟨g, o + k * 3 + 2, none⟩ = some b ∧ SliceRd fSpan.ty w (Lt w.heap.size) a l[k].s.rel ∧ SliceRd fSpan.ty w (Lt w.heap.size) b l[k].s.pre := fun k => by
  by_cases hk : k < l.length
  ·obtain ⟨g, o, a, b, h1, h2⟩ := hc k hk
   exact ⟨a, b, fun _ => ⟨g, o, h1, h2⟩⟩
  ·exact ⟨default, default, fun h => absurd h hk⟩
 obtain ⟨av, hav⟩ := Classical.axiomOfChoice hx
 obtain ⟨bv, hbv⟩ := Classical.axiomOfChoice hav
 have e := containsW_any A l.length cap (fun k => (l[k]?.map fun x => Value.int .i64 x.u).getD default) av bv (fun k => (l[k]?.map pr).getD false) f (trioV bw br bp) eg w (by have := hi.1; omega) (fun k hk => by
  obtain ⟨g, o, h1, h2, h3, h4, h5, -⟩ := hbv k hk
  refine ⟨g, o, h1, h2, ?_, h4, h5⟩
  rw [List.getElem?_eq_getElem hk]
  exact h3) (fun W k hk hb => by
  obtain ⟨g, o, h1, h2, h3, h4, h5, h6, h7⟩ := hbv k hk
  rw [List.getElem?_eq_getElem hk]
  have hm := hi.2 _ (List.getElem_mem hk)
  have h8 := h.later hb
  refine (hpr (av k) (bv k) l[k] W (ht.later hb) ⟨h8.wd, h8.ok, h8.inc, h8.terms, h6.lift hb hb.size, h7.lift hb hb.size, hm.1, hm.2, h8.first, h8.p⟩).mono ?_
  rintro e w' ⟨rfl, hb2⟩
  exact ⟨rfl, bstep hb hb2⟩)
 rw [range_any l pr false] at e
 exact e
set_option maxHeartbeats 2000000 in
theorem needC_any (us : List UnitW) (M : Nat → Nat) (kk : Int) (u p g cap0 bw br bp : Nat) (At : Option Addr) (n3 ct : Nat) (lv : Value) (l : List WantD) (w : World)
  (ht : Trio g cap0 us.length (.slice At n3 ct) kk u p bw br bp w) (h : RowCand us (.agg #[.slice (some ⟨g, 0, none⟩) us.length cap0]) (.slice At n3 ct) M p w) (hl : SliceRd tWant w (Lt w.heap.size) lv l) (hi : WantsIn us.length l) :
  Calls Tryz.prog 63 (#[lv] ++ trioV bw br bp) w fun e w' => e = .returned (.bool (l.all (lostN us M u p))) ∧ Below w.heap.size w w' := by
 have HC := hid (anyWant_any 64 (fun x => !lostN us M u p x) (enters_of (P := Tryz.prog) Tryz.func64 (by kernel_rfl) rfl) us M kk u p g cap0 bw br bp At n3 ct lv l w (fun a b x W h1 h2 => keptC_any a b us M kk u p g cap0 bw br bp At n3 ct x W h1 h2) ht h hl hi)
 obtain ⟨A, cap, rfl, -⟩ := hl.wants
 clear hl ht h
 show Calls Tryz.prog 63 #[.slice A l.length cap, .pointer (some ⟨bw, 0, none⟩), .pointer (some ⟨br, 0, none⟩), .pointer (some ⟨bp, 0, none⟩)] w _
 have HE : Hid ((!l.any fun x => !lostN us M u p x) = l.all (lostN us M u p)) := hid (by rw [List.any_eq_not_all_not]; simp)
 obtain ⟨bb, hbb⟩ : ∃ bb, (l.any fun x => !lostN us M u p x) = bb := ⟨_, rfl⟩
 rw [hbb] at HC HE
 clear hbb
 unfold trioV at HC
 go_enter Tryz.func63, Tryz.ntmps63
 go_wp2_with (go_at_call 59; refine HC.out.mono ?_; rintro e w' ⟨rfl, hb'⟩)
 go_ret
 exact ⟨ret_bool HE.out, hb'⟩
end Go.Proofs.YtfdjoknklpiooaaGreatDoor
end
