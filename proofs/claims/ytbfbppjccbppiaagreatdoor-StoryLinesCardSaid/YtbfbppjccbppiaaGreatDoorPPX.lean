/- Contract: linchpinmade.Prove. -/
import Derived.Test.YtbfbppjccbppiaaGreatDoorPNX
import Derived.Test.YtbfbppjccbppiaaGreatDoorzA9
import Derived.Test.YtbfbppjccbppiaaGreatDoorA12
namespace Go.Proofs.YtbfbppjccbppiaaGreatDoor
open Go Go.RowKit

theorem SliceRd.takeN {α : Type} {t : Ty α} {w : World} {F : Nat → Prop} {A : Option Addr} {n cap k : Nat} {l : List α} (h : SliceRd t w F (.slice A n cap) l) (hk : k ≤ l.length) : SliceRd t w F (.slice A k cap) (l.take k) := by
 obtain ⟨A', cap', hv, h1, h2, h3⟩ := h.shape
 injection hv with e1 e2 e3
 subst e1 e3
 have hlen : (l.take k).length = k := by rw [List.length_take]; omega
 refine ⟨A, cap, by rw [hlen], by omega, h2, fun j hj => ?_⟩
 obtain ⟨g, o, cs, hA, hF, hc, hcell, hr⟩ := h3 j (by omega)
 refine ⟨g, o, cs, hA, hF, hc, hcell, ?_⟩
 rw [List.getElem_take]
 exact hr
def rowOf (ns : List Nat) (r : RowN) : Row := ⟨r.kind, r.u, 0, 0, canon ns r.M⟩
structure FactOk (ns : List Nat) (r : RowN) : Prop where
 inc : IncOk ns r.M
 kind : 1 ≤ r.kind ∧ r.kind ≤ 4
 u : r.u < ns.length
 one : r.kind = 1 → r.u = 0
 small : r.u ≤ 1000
theorem rowN_rowC {ns : List Nat} {w : World} {F : Nat → Prop} {v : Value} {l : List RowN} (h : SliceRd (qw1 ns) w F v l) (hl : ∀ r ∈ l, FactOk ns r) : SliceRd (qs4 ns) w F v (l.map (rowOf ns)) := by
 obtain ⟨A, cap, hv, h1, h2, h3⟩ := h
 refine ⟨A, cap, by rw [List.length_map]; exact hv, by rw [List.length_map]; exact h1, h2, fun k hk => ?_⟩
 rw [List.length_map] at hk
 obtain ⟨g, o, cs, hA, hF, hl1, hc, tv, rfl, ht⟩ := h3 k hk
 have ho := hl _ (List.getElem_mem hk)
 refine ⟨g, o, _, hA, hF, rfl, hc, ?_⟩
 rw [List.getElem_map]
 have := ho.kind
 have := ho.small
 exact ⟨⟨tv, rfl, ⟨by show -9223372036854775808 ≤ l[k].kind; omega, by show l[k].kind ≤ 9223372036854775807; omega⟩, ⟨by show -9223372036854775808 ≤ (l[k].u : Int); omega, by show (l[k].u : Int) ≤ 9223372036854775807; omega⟩, ⟨by show (-9223372036854775808 : Int) ≤ 0; decide, by show (0 : Int) ≤ 9223372036854775807; decide⟩, ⟨by show (-9223372036854775808 : Int) ≤ 0; decide, by show (0 : Int) ≤ 9223372036854775807; decide⟩, ht⟩, ⟨l[k].M, ho.inc, rfl⟩, ⟨by show 1 ≤ l[k].kind; omega, by show l[k].kind ≤ 5; omega⟩, ⟨by show (0 : Int) ≤ (l[k].u : Int); omega, by show (l[k].u : Int) < ns.length; have := ho.u; omega⟩, fun _ => ⟨rfl, rfl⟩, fun h => by show ((l[k].u : Nat) : Int) = 0; rw [ho.one h]; rfl⟩
theorem put_one {ns : List Nat} {r : RowN} (hr : r.kind ≠ 1) : ∀ {l : List RowN}, (∀ x ∈ l, x.kind = 1 → x.u = 0) → ∀ x ∈ putN ns l r, x.kind = 1 → x.u = 0
 | [], _, x, hx, hk => by
  rw [List.mem_singleton.1 hx] at hk
  exact absurd hk hr
 | y :: l, h, x, hx, hk => by
  unfold putN at hx
  split at hx
  ·rcases List.mem_cons.1 hx with rfl | hx
   ·exact h y (List.mem_cons_self ..) hk
   ·exact h x (List.mem_cons_of_mem _ hx) hk
  ·rcases List.mem_cons.1 hx with rfl | hx
   ·exact h x (List.mem_cons_self ..) hk
   ·exact put_one hr (fun z hz => h z (List.mem_cons_of_mem _ hz)) x hx hk
theorem add_one {us : List UnitW} {u p : Nat} {kd : Int} {bar : Bool} {rows : List RowN} {l : List WantD} (hk : kd ≠ 1) (h : ∀ x ∈ rows, x.kind = 1 → x.u = 0) : ∀ x ∈ addN us u p kd bar rows l, x.kind = 1 → x.u = 0 := by
 unfold addN
 split
 ·exact put_one hk h
 ·exact h
theorem needs_one {us : List UnitW} {u p : Nat} : ∀ (l : List (List WantD)) (rows : List RowN), (∀ x ∈ rows, x.kind = 1 → x.u = 0) → ∀ x ∈ qn4 us u p rows l, x.kind = 1 → x.u = 0
 | [], _, h => h
 | r :: l, _, h => needs_one l _ (add_one (by decide) h)
theorem bars_one {us : List UnitW} {u p : Nat} : ∀ (l : List WantD) (rows : List RowN), (∀ x ∈ rows, x.kind = 1 → x.u = 0) → ∀ x ∈ zb6 us u p rows l, x.kind = 1 → x.u = 0
 | [], _, h => h
 | r :: l, _, h => bars_one l _ (add_one (by decide) h)
theorem cands_one {us : List UnitW} {u : Nat} {cs : List CandW} {rows : List RowN} (h : ∀ x ∈ rows, x.kind = 1 → x.u = 0) : ∀ k, ∀ x ∈ qt0 us u rows cs k, x.kind = 1 → x.u = 0
 | 0 => h
 | k + 1 => by
  unfold qt0
  split
  ·exact bars_one _ _ (needs_one _ _ (cands_one h k))
  ·exact cands_one h k
theorem units_one (us : List UnitW) : ∀ k, ∀ x ∈ qo0 us k, x.kind = 1 → x.u = 0
 | 0 => fun x hx hk => by rw [List.mem_singleton.1 hx]; rfl
 | k + 1 => by
  unfold qo0
  split
  ·exact cands_one (units_one us k) _
  ·exact units_one us k
def ProvePost (ns : List Nat) (w : World) (e : Ending) (w' : World) : Prop :=
 ∃ (rv : Value) (R : List Row), e = .returned rv ∧ SliceRd (qs4 ns) w' (Lt w'.heap.size) rv R ∧ R.length ≤ 4000 ∧ ((rv = .slice none 0 0 ∧ R = []) ∨ 1 ≤ R.length) ∧ IdxR R ∧ Below w.heap.size w w'

set_option maxRecDepth 100000 in
set_option maxHeartbeats 4000000 in
theorem prove_any (v av : Value) (us : List UnitW) (al : List Nat) (w : World) (h : qd0 w (Lt w.heap.size) v us) (ho : UnitsOk us) (h0 : (nsOf us).head? = some 1) (ha : SliceRd tInt w (Lt w.heap.size) av (ze1 al)) (hal : al.length = 0 ∨ al.length = (nsOf us).length) (h31 : ∀ a ∈ al, a ≤ 31) :
  Calls Tryz.prog 16 #[v, av] w (ProvePost (nsOf us) w) := by
 obtain ⟨ir, hir⟩ := info_parts za3
 have HIR := hid hir
 have HW := hid h
 have HU := hid h.uni
 have HO := hid ho
 have HNS := hid ho.ns
 have HA := hid ha
 have H31 := hid h31
 have H0 := hid h0
 have HF31 := hid (fun u => qi2 ho.ns u)
 have HROK := hid (fun k (hk : k ≤ us.length) => units_ok ho h0 k hk)
 have h11 : us.length ≤ 11 := by have := ho.ns.hi; simpa [nsOf] using this
 have hns : (nsOf us).length = us.length := by simp [nsOf]
 rw [hns] at hal
 have HNL := hid hns
 obtain ⟨g, cap0, rfl, hg, -⟩ := h
 obtain ⟨Aa, ca, rfl, hca, hcam, hacell⟩ := ha.ints
 have HAC := hid hacell
 rw [qk5] at hca ⊢
 clear hir ho h0 ha h31 hacell hns
 go_enter Tryz.func16, Tryz.ntmps16
 go_wp2_with fail
 obtain ⟨w0, hw0⟩ : ∃ w0 : World, w0 = w.alloc (.cells #[.slice (some ⟨g, 0, none⟩) us.length cap0] 26) := ⟨_, rfl⟩
 have hb0 : Below w.heap.size w w0 := hw0 ▸ qa0 (b0 w) _
 have hz0 : w.heap.size < w0.heap.size := by rw [hw0]; simp
 have q0 : w0.cell? ⟨w.heap.size, 0, none⟩ = some (.slice (some ⟨g, 0, none⟩) us.length cap0) := by rw [hw0, qa6]; rfl
 have HB0 := hid hb0
 have HALL := hid (all23_any (.agg #[.slice (some ⟨g, 0, none⟩) us.length cap0]) us w0 (HW.out.lift hb0 hb0.size) HO.out H0.out)
 rw [← hw0]
 clear hw0 hb0
 refine HALL.out.mono ?_
 rintro e w1 ⟨rv1, xs1, rfl, ho1, hb1⟩
 have q1 := cell_below hb1 hz0 q0
 have hz1 := Nat.lt_of_lt_of_le hz0 hb1.size
 have HOW1 := hid ho1
 have HB1 := hid hb1
 have HBW1 := hid (qa1 HB0.out hb1)
 have HAO := hid (HROK.out us.length (Nat.le_refl _))
 have HONE := hid (units_one us us.length)
 clear ho1 hb1 HALL
 go_wp2_with fail
 go_loopw [5, 6] (fun rv iv wr => ∃ (u : Nat) (rows : List RowN) (xs : List Value), u ≤ al.length ∧ iv = .int .i64 u ∧ Hid (OwnT (qw1 (nsOf us)) 49 wr w0.heap.size rv rows xs) ∧ Hid (∀ r ∈ rows, FactOk (nsOf us) r) ∧ rows.length ≤ 600 + u ∧ Hid (Below w0.heap.size w0 wr)) (fun _ iv _ => al.length - (intOf iv).toNat)
 case atStart => exact ⟨0, allN us, xs1, Nat.zero_le _, rfl, HOW1, hid (fun r hr => by have h := HAO.out.1 r hr; exact ⟨h.inc, by have := h.kind; omega, h.u, HONE.out r hr, by have := h.u; have := HNS.out.hi; omega⟩), (by have h := HAO.out.2; show (qo0 us us.length).length ≤ _; omega), HB1⟩
 case round =>
  obtain ⟨u, rows, xs, hu, rfl, how, hok, hrl, hb⟩ := hrel
  have qr := cell_below hb.out hz0 q0
  have hzr := Nat.lt_of_lt_of_le hz0 hb.out.size
  have HB3 := hid (qa1 HB0.out hb.out)
  obtain ⟨Ao, co, hov⟩ := qb1 how.out.own
  subst hov
  by_cases hlt : u < al.length
  ·have i0 : (0 : Int) ≤ ↑u := by omega
   have i1 : (↑u : Int) < ↑al.length := by omega
   have hlt2 : u < us.length := by omega
   have i2 : (↑u : Int) < ↑us.length := by omega
   obtain ⟨ga, oa, hA, hFa, ca0, -⟩ := HAC.out u (by rw [qk5]; exact hlt)
   subst hA
   have ca1 : w.cell? ⟨ga, oa + u, none⟩ = some (.int .i64 (al[u] : Nat)) := by rw [ca0]; simp [ze1]
   have ca3 := cell_below HB3.out hFa ca1
   have hga3 : ga < wr.heap.size := Nat.lt_of_lt_of_le hFa HB3.out.size
   have ha31 := H31.out _ (List.getElem_mem hlt)
   have hf31 := HF31.out u
   have hand := zq2 hf31 ha31
   have hle : qb8 (nsOf us) u &&& al[u] ≤ qb8 (nsOf us) u := Nat.and_le_left
   have HFL := hid (fun (W : World) (hb : Below wr.heap.size wr W) => qj8 (.agg #[.slice (some ⟨g, 0, none⟩) us.length cap0]) (nsOf us) u W _ (qc0 HU.out (qa1 HB3.out hb)) HNS.out ⟨by omega, by omega⟩ (fun _ h => h))
   rw [qj6] at HFL
   have HMK := hid (fun (lv : Value) (l : List Term) (W : World) (hb : Below wr.heap.size wr W) (hl : SliceRd qg1 W (Lt W.heap.size) lv l) => zj6 (.agg #[.slice (some ⟨g, 0, none⟩) us.length cap0]) lv (nsOf us) l W (qc0 HU.out (qa1 HB3.out hb)) HNS.out hl)
   obtain ⟨av, hav⟩ : ∃ av, al[u] = av := ⟨_, rfl⟩
   rw [hav] at ca3 hand hle
   obtain ⟨f, hf⟩ : ∃ f, qb8 (nsOf us) u = f := ⟨_, rfl⟩
   rw [hf] at hf31 hand hle HFL
   obtain ⟨fa, hfa⟩ : ∃ fa, f &&& av = fa := ⟨_, rfl⟩
   rw [hfa] at hand hle
   have hsub : IntKind.i64.wrap ((f : Int) - (fa : Int)) = ((f - fa : Nat) : Int) := by rw [IntWalk.i64_in _ (by omega)]; omega
   have hm31 : f - fa ≤ 31 := by omega
   obtain ⟨m, hm⟩ : ∃ m, f - fa = m := ⟨_, rfl⟩
   rw [hm] at hsub hm31
   have HOKT := hid (show qd9.ok ⟨(u : Int), (m : Int)⟩ from ⟨⟨by show -9223372036854775808 ≤ (u : Int); omega, by show (u : Int) ≤ 9223372036854775807; omega⟩, qg9 hm31⟩)
   clear ca0 ca1 hav hf hfa hm hf31 ha31
   go_wp2_with fail
   refine (HFL.out _ (b0 wr)).mono ?_
   rintro e w5 ⟨rfl, hb5⟩
   have HB5 := hid hb5
   have f0 := cell_below hb5 hzr qr
   have f1 := cell_below hb5 hga3 ca3
   have hz5 := Nat.lt_of_lt_of_le hzr hb5.size
   have hga5 := Nat.lt_of_lt_of_le hga3 hb5.size
   have HON := hid (fun W : World => zj1 (f := qd9) (e := 66) (w := W) (l := [⟨(u : Int), (m : Int)⟩]) (cs := #[.int .i64 u, .int .i64 m]) rfl (fun x hx => by rw [List.mem_singleton.1 hx]; exact HOKT.out) (by simp [maxLen]))
   clear hb5 qr ca3 HFL
   go_wp2_with fail
   go_region_held3 (fun w' => w'.cell? ⟨w.heap.size, 0, none⟩ = some (.slice (some ⟨g, 0, none⟩) us.length cap0) ∧ w'.cell? ⟨ga, oa + u, none⟩ = some (.int .i64 av)) (first | exact ⟨by assumption, by assumption⟩ | go_keep) (first
    | (go_at_call 43; refine (HMK.out _ _ _ (qa1 HB5.out (by first | exact (qa0 (b0 w5) _).drew | exact qa0 (b0 w5).drew _)) (by first | exact (HON.out _).rd | exact (HON.out _).drew.rd)).mono ?_; rintro e w7 ⟨sv, rfl, hsv, hb7⟩; obtain ⟨As, cs4, hse, -⟩ := hsv.terms; generalize ((qt5 (nsOf us) [⟨(u : Int), (m : Int)⟩]).getD []).length = ln at hse; subst hse; have HB7 := hid (show Below w5.heap.size w5 w7 from qa1 (by first | exact (qa0 (b0 w5) _).drew | exact qa0 (b0 w5).drew _) hb7); have HSV := hid (hsv.more (F' := fun b => w5.heap.size ≤ b ∧ b < w7.heap.size) fun b h => ⟨by have := h.1; simp at *; omega, h.2⟩); have h0 := cell_below HB7.out hz5 f0; have h1 := cell_below HB7.out hga5 f1; clear hsv hb7))
   obtain ⟨mk, hmk⟩ : ∃ mk, qt5 (nsOf us) [⟨(u : Int), (m : Int)⟩] = mk := ⟨_, rfl⟩
   rw [hmk] at HSV ⊢
   have HMKE := hid hmk
   have HB57 := hid (qa1 HB5.out HB7.out)
   have HB17 := hid (qa1 hb.out HB57.out)
   have hs7 := HB57.out.size
   have hbs := hb.out.size
   have HOW7 := hid (how.out.later HB57.out)
   clear hmk f0 f1
   cases mk with
   | none =>
    go_wp2
    exact ⟨⟨u + 1, rows, xs, by omega, by go_num, HOW7, hok, by omega, HB17⟩, by simp [intOf]; omega⟩
   | some T =>
    obtain ⟨hM1, hM2⟩ := qz5 HMKE.out
    subst hM2
    have HTF := hid (fun o => show SliceRd qg1 (w7.alloc o) (fun b => w0.heap.size ≤ b ∧ b < (w7.alloc o).heap.size ∧ (Value.slice Ao rows.length co).ownBlock ≠ some b) (.slice As ln cs4) (canon (nsOf us) (qi5 (nsOf us) [⟨(u : Int), (m : Int)⟩])) from (HSV.out.keep (qn2.of_below (qa0 (b0 w7) o) fun _ h => h.2)).more fun b h => ⟨by have := h.1; have := HB5.out.size; omega, Nat.lt_of_lt_of_le h.2 (qa0 (b0 w7) o).size, fun e => by have h1 := (how.out.own.lt b e).2; have := h.1; have := HB5.out.size; omega⟩)
    have HFO := hid (show FactOk (nsOf us) ⟨4, u, qi5 (nsOf us) [⟨(u : Int), (m : Int)⟩]⟩ from ⟨hM1, ⟨by show (1 : Int) ≤ 4; decide, by show (4 : Int) ≤ 4; decide⟩, by show u < (nsOf us).length; rw [HNL.out]; exact hlt2, fun h => absurd h (by show ¬ (4 : Int) = 1; decide), by show u ≤ 1000; omega⟩)
    clear hM1
    go_wp2_with (at_builtin; go_must (refine qa5 _ rfl (.tmp 47) (.tmp 51) _ rfl w0.heap.size 49 ir _ 5 56 Tryz.underlying28 HIR.out.1 HIR.out.2.1 HIR.out.2.2.1 HIR.out.2.2.2 rfl (by omega) (.slice Ao rows.length co) rows.length xs (by rfl) (by exact HOW7.out.own.alloc _) (some ⟨w7.heap.size, 0, none⟩) 1 1 [.int .i64 4, .int .i64 u, .int .i64 0, .int .i64 0, .slice As ln cs4] (by rfl) (by exact qe1 _ _ rfl 5 _ rfl rfl) (by simp [Value.oneCell']) (by unfold maxLen; omega) (by omega) (by simp; omega) ?_; intro v8 w8 hown8 hg8 hat8; have HR8 := hid (OwnT.snoc (x := (⟨4, u, qi5 (nsOf us) [⟨(u : Int), (m : Int)⟩]⟩ : RowN)) (cs := [.int .i64 4, .int .i64 u, .int .i64 0, .int .i64 0, .slice As ln cs4]) (HOW7.out.later (qa0 (b0 w7) _)) rfl ⟨_, rfl, HTF.out _⟩ hown8 hg8 hat8); have HG8 := hid ((qa0 HB17.out (.cells #[.int .i64 4, .int .i64 u, .int .i64 0, .int .i64 0, .slice As ln cs4] 49)).grown hg8 (by simp; omega) fun b h => (HOW7.out.own.lt b h).1); clear hown8 hg8 hat8))
    exact ⟨⟨u + 1, _, _, by omega, by go_num, HR8, hid (fun r hr => (List.mem_append.1 hr).elim (hok.out r) (fun h => by rw [List.mem_singleton.1 h]; exact HFO.out)), by simp; omega, HG8⟩, by simp [intOf]; omega⟩
  ·have hul : u = al.length := by omega
   subst hul
   have i1 : ¬ ((↑al.length : Int) < ↑al.length) := by omega
   have HF0 := hid (rowN_rowC how.out.rd hok.out)
   have hfl : rows.length ≤ 1000 := by omega
   clear hlt
   go_wp2_with fail
   obtain ⟨wq, hwq⟩ : ∃ wq : World, wq = wr.alloc (.cells #[.slice (some ⟨g, 0, none⟩) us.length cap0, .slice Ao rows.length co, .slice none 0 0] 102) := ⟨_, rfl⟩
   have hbq : Below wr.heap.size wr wq := hwq ▸ qa0 (b0 wr) _
   have hbox : PBox wq wr.heap.size (.slice (some ⟨g, 0, none⟩) us.length cap0) (.slice Ao rows.length co) (.slice none 0 0) := by rw [hwq]; exact heap_alloc_new wr _
   have hno := none_any wr.heap.size g cap0 (.slice Ao rows.length co) (nsOf us) (rows.map (rowOf (nsOf us))) HNS.out (by rw [List.length_map]; omega) (fun r hr => by obtain ⟨x, hx, rfl⟩ := List.mem_map.1 hr; have := (hok.out x hx).kind; show x.kind ≠ 5; omega) (nsOf us).length (.slice none 0 0) (.slice none 0 0) [] [] [] wq (by simp) (by rw [HNL.out]; exact hbox) (by rw [HNL.out]; exact (qc0 HU.out HB3.out).below hbq) (HF0.out.below hbq) (OwnG.nil _ _ _ _) (by simp) (SliceRd.nil _ _ _) ⟨by simp, fun u hu => absurd hu (by simp)⟩ (fun i hi => absurd hi (by simp))
   rw [HNL.out] at hno
   rw [← hwq]
   have HBQ := hid (qa1 HB3.out hbq)
   clear hwq hbox
   refine hno.mono ?_
   rintro e w2 ⟨r, rv2, R2, xs2, rfl, hr1, hr2, hbox, hown, hfr, -, hcap, hidx⟩
   have HB2 := hid (HBQ.out.trans (hfr.below.mono HB3.out.size))
   have hR2 : R2.length ≤ 4000 := by unfold capR at hcap; rw [if_neg (by simp)] at hcap; have := HNS.out.hi; rw [HNL.out] at this; omega
   obtain ⟨-, -, p2⟩ := hbox.cells
   have HOWN := hid hown
   have HIX := hid hidx
   clear hno hcap hfr hbox hown hbq hidx
   by_cases hneg : r < 0
   ·go_wp2_with fail
    go_ret
    exact ⟨_, [], rfl, SliceRd.nil _ _ _, by simp, .inl ⟨rfl, rfl⟩, (fun i hi => absurd hi (by simp)), HB2.out⟩
   ·obtain ⟨x, rfl⟩ : ∃ x : Nat, r = x := ⟨r.toNat, by omega⟩
    have hx2 : x < R2.length := by omega
    obtain ⟨A2, cap2, g2, o2, tv2, hve, rfl, hg2, -, -, -, -, z4, hrd⟩ := zf3 HOWN.out.rd hx2
    subst hve
    obtain ⟨⟨k2, cs2, hk2, hcp2, hcm2, -⟩⟩ := HOWN.out.rd
    obtain ⟨TF, tn, tc, rfl⟩ := zo6 hrd
    have hcp : R2.length ≤ cap2 := by injection hk2 with _ _ e3; omega
    have j1 : (0 : Int) ≤ ↑x := by omega
    have j2 : (↑x : Int) < ↑R2.length := by omega
    have j3 : IntKind.i64.wrap (↑x + 1) = (↑x : Int) + 1 := IntWalk.i64_in _ (by omega)
    have j4 : (0 : Int) ≤ ↑x + 1 := by omega
    have j5 : ((↑x : Int) + 1).toNat = x + 1 := by omega
    have j6 : (↑x : Int) + 1 ≤ ↑cap2 := by omega
    clear hrd hk2 hcp2 hcm2
    by_cases htn : 0 < tn
    ·have htn' : (0 : Int) < ↑tn := by omega
     go_wp2_with fail
     go_ret
     exact ⟨_, [], rfl, SliceRd.nil _ _ _, by simp, .inl ⟨rfl, rfl⟩, (fun i hi => absurd hi (by simp)), HB2.out⟩
    ·have htn' : ¬ ((0 : Int) < ↑tn) := by omega
     go_wp2_with fail
     go_ret
     exact ⟨_, R2.take (x + 1), rfl, HOWN.out.rd.takeN hx2, by rw [List.length_take]; omega, .inr (by rw [List.length_take]; omega), HIX.out.take _, HB2.out⟩
end Go.Proofs.YtbfbppjccbppiaaGreatDoor
