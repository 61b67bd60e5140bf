import Derived.Test.YthneiolcljnbeaaGreatDoorzA0
import Derived.Outline
import Derived.Test.YthneiolcljnbeaaGreatDoorzM1
import Derived.Deep.RegionHeld3
import Derived.Deep.DeepMust
import Derived.Test.YthneiolcljnbeaaGreatDoorzV18
import Derived.Test.YthneiolcljnbeaaGreatDoorzN4
import Derived.OrdersHeld
namespace Go.Proofs.YthneiolcljnbeaaGreatDoor
open Go Go.RowKit
section
def metW (us : List UnitW) (c : List Int) (x : WantD) : Bool := (metN us x).testBit (c.getD x.u.toNat 0 + 1).toNat
def servedC (us : List UnitW) (c : List Int) (cd : CandW) : Bool := cd.needs.all (fun l => l.any (metW us c)) && !cd.bars.any (metW us c)
def fineAt (us : List UnitW) (c : List Int) (u : Nat) : Bool := if c.getD u 0 < 0 then true else match us[u]? with
 | some x => (match x.cands[(c.getD u 0).toNat]? with | some cd => servedC us c cd | none => true)
 | none => true
def fineC (us : List UnitW) (c : List Int) : Bool := decide (0 ≤ c.getD 0 0) && (List.range us.length).all (fineAt us c)
section
variable {us : List UnitW} {c : List Int} {r : Row}
def InWH (us : List UnitW) (c : CandW) : Prop := (∀ l ∈ c.needs, ∀ x ∈ l, 0 ≤ x.u ∧ x.u < us.length) ∧ ∀ x ∈ c.bars, 0 ≤ x.u ∧ x.u < us.length
theorem ok_inH (ho : UnitsOk us) {u p : Nat} {x : UnitW} {c : CandW} (hx : us[u]? = some x) (hc : x.cands[p]? = some c) : InWH us c := by
 have h1 := List.getElem?_eq_some_iff.1 hx
 have h2 := List.getElem?_eq_some_iff.1 hc
 have h := ho.cands x (h1.2 ▸ List.getElem_mem h1.1) c (h2.2 ▸ List.getElem_mem h2.1)
 exact ⟨fun l hl y hy => ⟨((h.2.1 l hl).2 y hy).1, ((h.2.1 l hl).2 y hy).2.1⟩, fun y hy => ⟨(h.2.2.2 y hy).1, (h.2.2.2 y hy).2.1⟩⟩
theorem left_bitH {a b k : Nat} (h : a &&& b = a) (ha : a.testBit k = true) : b.testBit k = true := by
 have := congrArg (fun x => Nat.testBit x k) h
 simp only [Nat.testBit_and, ha, Bool.true_and] at this
 exact this
theorem zero_bitH {a b k : Nat} (h : a &&& b = 0) (ha : a.testBit k = true) : b.testBit k = false := by
 have := congrArg (fun x => Nat.testBit x k) h
 simp only [Nat.testBit_and, ha, Bool.true_and, Nat.zero_testBit] at this
 exact this
theorem fine_at (h : fineC us c = true) {u : Nat} (hu : u < us.length) (hc : ChoiceOk (nsOf us) c) (h0 : 0 ≤ c.getD u 0) : ∃ cd, us[u].cands[(c.getD u 0).toNat]? = some cd ∧ servedC us c cd = true := by
 unfold fineC at h
 rw [Bool.and_eq_true, List.all_eq_true] at h
 have h1 := h.2 u (List.mem_range.2 hu)
 unfold fineAt at h1
 rw [if_neg (by omega), List.getElem?_eq_getElem hu] at h1
 dsimp only at h1
 have hv := (hc.val u (by simpa [nsOf] using hu)).2
 have hp : (c.getD u 0).toNat < us[u].cands.length := by
  simp only [nsOf, List.getElem_map] at hv
  omega
 rw [List.getElem?_eq_getElem hp] at h1
 exact ⟨_, List.getElem?_eq_getElem hp, h1⟩
theorem fine_root (h : fineC us c = true) : 0 ≤ c.getD 0 0 := by
 unfold fineC at h
 rw [Bool.and_eq_true, decide_eq_true_eq] at h
 exact h.1
theorem says_sound {bar : Bool} {M : Nat → Nat} {u : Nat} (ho : UnitsOk us) (hu : u < us.length) (hc : ChoiceOk (nsOf us) c) (hf : fineC us c = true) (hs : saysN us bar M u = true) (hh : holdN (nsOf us) M c = true) : False := by
 have hl : (nsOf us).length = us.length := by simp [nsOf]
 rw [holdN_iff] at hh
 obtain ⟨h0, h1⟩ := says_all hs
 have hcu := hh u (by omega)
 have hlo := (hc.val u (by omega)).1
 have hhi := (hc.val u (by omega)).2
 have h4 := ho.ns.le u (by omega)
 have hpos : 0 ≤ c.getD u 0 := by
  rcases Int.lt_or_le (c.getD u 0) 0 with hn | hn
  ·have e : c.getD u 0 = -1 := by omega
   rw [e] at hcu
   rw [show ((-1 : Int) + 1).toNat = 0 from rfl, h0] at hcu
   cases hcu
  ·exact hn
 obtain ⟨p, hp⟩ : ∃ p : Nat, c.getD u 0 = (p : Int) := ⟨(c.getD u 0).toNat, by omega⟩
 have hp1 : (c.getD u 0 + 1).toNat = p + 1 := by omega
 rw [hp1] at hcu
 obtain ⟨cd, hcd, hsv⟩ := fine_at hf hu hc hpos
 rw [hp, Int.toNat_natCast] at hcd
 have hb := h1 p (by omega) hcu
 unfold brokenAt at hb
 rw [List.getElem?_eq_getElem hu] at hb
 dsimp only at hb
 rw [hcd] at hb
 dsimp only at hb
 have hin := ok_inH ho (List.getElem?_eq_getElem hu) hcd
 unfold servedC at hsv
 rw [Bool.and_eq_true, List.all_eq_true] at hsv
 have hsv2 : cd.bars.any (metW us c) = false := by simpa using hsv.2
 unfold brokenN at hb
 cases bar with
 | true =>
  rw [if_pos rfl, List.any_eq_true] at hb
  obtain ⟨x, hx, hsu⟩ := hb
  have hnm := List.any_eq_false.1 hsv2 x hx
  obtain ⟨hx0, hx1⟩ := hin.2 x hx
  apply hnm
  unfold sureN at hsu
  unfold metW
  split at hsu
  ·rename_i e
   rw [e, Int.toNat_natCast, hp1]
   rw [bne_iff_ne, Nat.and_comm] at hsu
   exact (pow_and _ _).1 hsu
  ·rw [beq_iff_eq] at hsu
   exact left_bitH hsu (hh _ (by omega))
 | false =>
  rw [if_neg (by decide), List.any_eq_true] at hb
  obtain ⟨l, hl', hall⟩ := hb
  rw [List.all_eq_true] at hall
  obtain ⟨x, hx, hm⟩ := List.any_eq_true.1 (hsv.1 l hl')
  obtain ⟨hx0, hx1⟩ := hin.1 l hl' x hx
  have hlo := hall x hx
  unfold lostN at hlo
  unfold metW at hm
  rw [beq_iff_eq] at hlo
  split at hlo
  ·rename_i e
   rw [e, Int.toNat_natCast, hp1] at hm
   exact (pow_and _ _).2 hm (by rw [Nat.and_comm]; exact hlo)
  ·have := zero_bitH hlo hm
   rw [hh _ (by omega)] at this
   cases this
theorem right_sound (ho : UnitsOk us) (hc : ChoiceOk (nsOf us) c) (hf : fineC us c = true) (hr : rightR us r = true) : holdL c r.terms = false := by
 cases hh : holdL c r.terms with
 | false => rfl
 | true =>
  exfalso
  have hl : (nsOf us).length = us.length := by simp [nsOf]
  unfold rightR at hr
  rw [Bool.and_eq_true, Bool.and_eq_true, Bool.and_eq_true] at hr
  obtain ⟨-, -, hm, hr⟩ := hr
  by_cases hk : r.kind = 1
  ·rw [if_pos hk, Bool.and_eq_true, decide_eq_true_eq, decide_eq_true_eq] at hr
   rw [hr.2, holdL_iff] at hh
   have h1 := hh _ (List.mem_singleton.2 rfl)
   have h0 := fine_root hf
   have e : nm (1 : Int) = 1 := nm_nat (k := 1) (by decide)
   dsimp only at h1
   rw [e] at h1
   have e2 : ((0 : Int).toNat) = 0 := rfl
   rw [e2] at h1
   obtain ⟨q, hq⟩ : ∃ q, (c.getD 0 0 + 1).toNat = q + 1 := ⟨(c.getD 0 0).toNat, by omega⟩
   rw [hq] at h1
   rw [show (1 : Nat) = 2 ^ 0 from rfl, Nat.testBit_two_pow] at h1
   have := of_decide_eq_true h1
   omega
  ·rw [if_neg hk, Bool.and_eq_true, Bool.and_eq_true, decide_eq_true_eq, decide_eq_true_eq] at hr
   obtain ⟨-, hu, hs⟩ := hr
   obtain ⟨hM, hT⟩ := may_masks hm
   rw [hT, holdL_canon ho.ns hc hM] at hh
   exact says_sound ho (by omega) hc hf hs hh
end
end
section
def wantT (us : List UnitW) (x : WantD) : Term := ⟨x.u, (metN us x : Nat)⟩
def wantsL (us : List UnitW) (l : List WantD) : List Term := l.map (wantT us)
theorem wantsL_snoc (us : List UnitW) (l : List WantD) {k : Nat} (hk : k < l.length) : wantsL us (l.take (k + 1)) = wantsL us (l.take k) ++ [wantT us l[k]] := by
 unfold wantsL
 rw [take_snoc hk, List.map_append]
 rfl
theorem wantsL_len (us : List UnitW) (l : List WantD) : (wantsL us l).length = l.length := by unfold wantsL; rw [List.length_map]
theorem rwant_info : (Tryz.prog.info? 124).map (fun i => (i.zero, i.size, i.bytes)) = some (some (.agg #[.int .i64 0, .int .i64 0]), 2, 16) := by kernel_rfl
def WantsPost (us : List UnitW) (l : List WantD) (w : World) (e : Ending) (w' : World) : Prop :=
 ∃ v', e = .returned v' ∧ SliceRd tTerm w' (fun b => w.heap.size ≤ b ∧ b < w'.heap.size) v' (wantsL us l) ∧ Below w.heap.size w w'
set_option maxRecDepth 100000 in
set_option maxHeartbeats 4000000 in
theorem wants_any (v lv : Value) (us : List UnitW) (l : List WantD) (w : World) (h : WorldRd w (Lt w.heap.size) v us) (ho : UnitsOk us) (hl : SliceRd tWant w (Lt w.heap.size) lv l) (hll : l.length ≤ 100) (hok : ∀ x ∈ l, 0 ≤ x.u ∧ x.u < us.length) :
  Calls Tryz.prog 28 #[v, lv] w (WantsPost us l w) := by
 obtain ⟨it, hit⟩ := info_parts rwant_info
 have HIT := hid hit
 have HW := hid h
 have HO := hid ho
 have h11 : us.length ≤ 11 := by have := ho.ns.hi; simpa [nsOf] using this
 have HF31 := hid (fun x => fullN_le ho.ns x)
 obtain ⟨g, cap0, rfl, hg, -⟩ := h
 obtain ⟨A, cap, rfl, hca, hcm, hc⟩ := hl.wants
 unfold maxLen at hcm
 have HC := hid hc
 have HOK := hid (fun k (hk : k < l.length) => hok l[k] (List.getElem_mem hk))
 have HSN := hid (fun k (hk : k < l.length) => wantsL_snoc us l hk)
 obtain ⟨n, hn⟩ : ∃ n, l.length = n := ⟨_, rfl⟩
 have HN := hid hn
 rw [hn] at hca hll ⊢
 clear hit ho hl hc hok hn
 go_enter Tryz.func28, Tryz.ntmps28
 go_wp2_with fail
 obtain ⟨w0, hw0⟩ : ∃ w0 : World, w0 = w.alloc (.cells #[.slice (some ⟨g, 0, none⟩) us.length cap0] 25) := ⟨_, rfl⟩
 have hb0 : Below w.heap.size w w0 := hw0 ▸ balloc (b0 w) _
 have hz0 : w.heap.size < w0.heap.size := by rw [hw0]; simp
 have q0 : w0.cell? ⟨w.heap.size, 0, none⟩ = some (.slice (some ⟨g, 0, none⟩) us.length cap0) := by rw [hw0, alloc_cell]; rfl
 have HB0 := hid hb0
 rw [← hw0]
 clear hw0 hb0
 go_loopw [5, 6] (fun tv iv wr => ∃ k : Nat, k ≤ n ∧ iv = .int .i64 k ∧ Hid (OwnF fTerm 124 w0.heap.size wr tv (wantsL us (l.take k))) ∧ Hid (Below w0.heap.size w0 wr)) (fun _ iv _ => n - (intOf iv).toNat)
 case atStart => exact ⟨0, Nat.zero_le _, rfl, hid (OwnF.nil _ _ _ _), hid (b0 _)⟩
 case round =>
  obtain ⟨k, hk, rfl, how, hb⟩ := hrel
  have hbw := HB0.out.trans (hb.out.mono HB0.out.size)
  have HBW := hid hbw
  have qr := cell_below hb.out hz0 q0
  have hzr := Nat.lt_of_lt_of_le hz0 hb.out.size
  obtain ⟨Ao, co, hov⟩ := how.out.form
  have hlen : (wantsL us (l.take k)).length = k := by rw [wantsL_len, List.length_take, HN.out]; omega
  have HLEN := hid hlen
  rw [hlen] at hov
  subst hov
  by_cases hlt : k < n
  ·have hkl : k < l.length := by rw [HN.out]; exact hlt
   obtain ⟨gx, ox, a, b, hA, hFx, x0, x1, x2, hra, hrb⟩ := HC.out k hkl
   subst hA
   have HS := hid (HSN.out k hkl)
   obtain ⟨hx0, hx1⟩ := HOK.out k hkl
   have HMT := hid (fun (W : World) (hb : Below w.heap.size w W) => met_any (.agg #[.slice (some ⟨g, 0, none⟩) us.length cap0]) a b us l[k] W (HW.out.lift hb hb.size) HO.out (hra.lift hb hb.size) (hrb.lift hb hb.size) hx0 hx1)
   have hmle := metN_le us l[k]
   have hf31 := HF31.out l[k].u.toNat
   obtain ⟨xu, hxu⟩ : ∃ xu, l[k].u = xu := ⟨_, rfl⟩
   obtain ⟨mt, hmt⟩ : ∃ mt, metN us l[k] = mt := ⟨_, rfl⟩
   have HCT := hid (show wantT us l[k] = ⟨xu, (mt : Int)⟩ by unfold wantT; rw [hxu, hmt])
   rw [hxu] at x0 hx0 hx1 hmle hf31 HMT
   rw [hmt] at hmle HMT
   have HOKT := hid (show fTerm.ok ⟨xu, (mt : Int)⟩ from ⟨⟨by show -9223372036854775808 ≤ xu; omega, by show xu ≤ 9223372036854775807; omega⟩, i64_small (by omega)⟩)
   have hgx : gx < wr.heap.size := Nat.lt_of_lt_of_le hFx hbw.size
   have hgx0 : gx < w0.heap.size := Nat.lt_of_lt_of_le hFx HB0.out.size
   have y0 := cell_below HB0.out hFx x0
   have y1 := cell_below HB0.out hFx x1
   have y2 := cell_below HB0.out hFx x2
   have c0 := cell_below hbw hFx x0
   have c1 := cell_below hbw hFx x1
   have c2 := cell_below hbw hFx x2
   have i0 : (0 : Int) ≤ ↑k := by omega
   have i1 : (↑k : Int) < ↑n := by omega
   have HOWN := hid (show wr.ownsRow w0.heap.size 124 2 (.slice Ao k co) k (fTerm.all (wantsL us (l.take k))) by have h := how.out.1; rw [HLEN.out] at h; exact h)
   have hsr := hb.out.size
   clear hra hrb hxu hmt x0 x1 x2 hx0 hx1 hlen hmle hf31
   go_wp2_with fail
   go_region_held3 (fun w' => w'.cell? ⟨w.heap.size, 0, none⟩ = some (.slice (some ⟨g, 0, none⟩) us.length cap0) ∧ w'.cell? ⟨gx, ox + k * 3, none⟩ = some (.int .i64 xu) ∧ w'.cell? ⟨gx, ox + k * 3 + 1, none⟩ = some a ∧ w'.cell? ⟨gx, ox + k * 3 + 2, none⟩ = some b) (first | exact ⟨by assumption, by assumption, by assumption, by assumption⟩ | go_keep) (first
    | (go_at_call 62; go_must (refine (HMT.out _ (bstep HBW.out (b0 wr).drew)).mono ?_; rintro e w3 ⟨rfl, hb3⟩; have HB3 := hid (show Below wr.heap.size wr w3 from bstep (b0 wr).drew hb3); have f0 := cell_below HB3.out hzr qr; have f1 := cell_below HB3.out hgx c0; have f2 := cell_below HB3.out hgx c1; have f3 := cell_below HB3.out hgx c2; clear hb3))
    | (refine step_guard (.tmp 13) (.tmp 26) 88 rfl ?_; go_must (refine step_append_src _ rfl (.tmp 13) (.tmp 26) 88 rfl w0.heap.size 124 it _ 2 16 Tryz.underlying88 HIT.out.1 HIT.out.2.1 HIT.out.2.2.1 HIT.out.2.2.2 rfl (by omega) (.slice Ao k co) k (fTerm.all (wantsL us (l.take k))) (by rfl) (by exact ownsRow_below HOWN.out (balloc HB3.out _) (fun g hg => (HOWN.out.lt g hg).2)) (some ⟨w3.heap.size, 0, none⟩) 1 1 (fTerm.cells ⟨xu, (mt : Int)⟩) (by rfl) (by exact src_one (f := fTerm) rfl) (by simp [fTerm, Value.oneCell']) (by unfold maxLen; omega) (by omega) (by have := HB3.out.size; simp; omega) ?_; intro v5 w5 hown5 hg5 hat5; have HO5 := hid (own_snocF (x := (⟨xu, (mt : Int)⟩ : Term)) HLEN.out how.out.2 HOKT.out hown5); have HB5 := hid (Below.grown (hb.out.trans ((balloc HB3.out _).mono hb.out.size)) hg5 (by have := HB3.out.size; simp; omega) (fun k h => (HOWN.out.lt k h).1)); have e0 := cell_below HB5.out hz0 q0; have e1 := cell_below HB5.out hgx0 y0; have e2 := cell_below HB5.out hgx0 y1; have e3 := cell_below HB5.out hgx0 y2; clear hown5 hg5 hat5)))
   go_wp2_with fail
   exact ⟨⟨k + 1, by omega, by go_num, hid (by rw [HS.out, HCT.out]; exact HO5.out), HB5⟩, by simp [intOf]; omega⟩
  ·have hkn : k = n := by omega
   subst hkn
   have hrd : SliceRd tTerm wr (fun b => w0.heap.size ≤ b ∧ b < wr.heap.size) (.slice Ao k co) (wantsL us l) := by
    have h := how.out
    rw [List.take_of_length_le (by rw [HN.out]; exact Nat.le_refl _)] at h
    exact rd_of_ownF (f := fTerm) h.1 h.2 fun g hg => h.lt g hg
   clear hlt
   go_wp2_with fail
   go_ret
   exact ⟨_, rfl, hrd.more fun b hb => ⟨Nat.le_trans HB0.out.size hb.1, hb.2⟩, HBW.out⟩
end
section
theorem met_bit0 (us : List UnitW) (x : WantD) : (metN us x).testBit 0 = false := by
 unfold metN
 cases us[x.u.toNat]? with
 | none => exact Nat.zero_testBit 0
 | some u =>
  cases e : (metTo u.cands x.s u.cands.length).testBit 0 with
  | false => rfl
  | true => have := (metTo_bit u.cands x.s u.cands.length 0).1 e; omega
theorem metW_neg {us : List UnitW} {c : List Int} {x : WantD} (h : c.getD x.u.toNat 0 = -1) : metW us c x = false := by
 unfold metW
 rw [h]
 exact met_bit0 us x
theorem metW_pos {us : List UnitW} {c : List Int} {x : WantD} {j : Nat} (h : c.getD x.u.toNat 0 = j) : (((metN us x &&& 2 ^ (j + 1) : Nat) : Int) == 0) = !metW us c x := by
 have h1 := pow_and (j + 1) (metN us x)
 have hb : metW us c x = (metN us x).testBit (j + 1) := by
  unfold metW
  rw [h]
  congr 1
 rw [hb]
 cases e : (metN us x).testBit (j + 1) with
 | true =>
  have h2 := h1.2 e
  rw [Nat.and_comm] at h2
  rw [beq_eq_false_iff_ne.2 (by omega)]
  rfl
 | false =>
  have h2 : 2 ^ (j + 1) &&& metN us x = 0 := by
   rcases Nat.eq_zero_or_pos (2 ^ (j + 1) &&& metN us x) with h3 | h3
   ·exact h3
   ·have := h1.1 (by omega)
    rw [e] at this
    cases this
  rw [Nat.and_comm] at h2
  rw [h2]
  rfl
set_option maxRecDepth 100000 in
set_option maxHeartbeats 2000000 in
theorem meets_any (cv : Value) (us : List UnitW) (c : List Int) (x : WantD) (w : World) (ho : NsOk (nsOf us)) (hcv : SliceRd tInt w (Lt w.heap.size) cv c) (hc : ChoiceOk (nsOf us) c) (h0 : 0 ≤ x.u) (h1 : x.u < us.length) :
  Calls Tryz.prog 65 #[cv, .agg #[.int .i64 x.u, .int .i64 (metN us x : Nat)]] w fun e w' => e = .returned (.bool (metW us c x)) ∧ Below w.heap.size w w' := by
 have hl : (nsOf us).length = us.length := by simp [nsOf]
 obtain ⟨u, hu⟩ : ∃ u : Nat, x.u = u := ⟨x.u.toNat, by omega⟩
 have hun : x.u.toNat = u := by omega
 have hul : u < (nsOf us).length := by omega
 have hcl := hc.len
 obtain ⟨AC, capc, rfl, hcapc, hmaxc, hcc⟩ := hcv.ints
 unfold maxLen at hmaxc
 obtain ⟨gc, oc, rfl, hFc, hcel, -⟩ := hcc u (by omega)
 have hval := hc.val u hul
 have h4 := ho.le u hul
 have h11 := ho.hi
 obtain ⟨q, hq⟩ : ∃ q, c.getD u 0 = q := ⟨_, rfl⟩
 have hq2 : c[u]'(by omega) = q := by rw [← hq, List.getD_eq_getElem?_getD, List.getElem?_eq_getElem (by omega)]; rfl
 rw [hq] at hval
 rw [hq2] at hcel
 have HNEG := hid (fun h : q = -1 => metW_neg (us := us) (c := c) (x := x) (by rw [hun, hq]; exact h))
 have HPOS := hid (fun (j : Nat) (h : q = j) => metW_pos (us := us) (c := c) (x := x) (j := j) (by rw [hun, hq]; exact h))
 have hm31 : metN us x ≤ 31 := Nat.le_trans (metN_le us x) (fullN_le ho _)
 obtain ⟨m, hm⟩ : ∃ m, metN us x = m := ⟨_, rfl⟩
 rw [hm] at HPOS hm31 ⊢
 obtain ⟨b, hb⟩ : ∃ b, metW us c x = b := ⟨_, rfl⟩
 rw [hb] at HNEG HPOS ⊢
 rw [hu]
 have u1 : (0 : Int) ≤ ↑u := by omega
 have u2 : (↑u : Int) < ↑c.length := by omega
 have hlo := hval.1
 have hhi : q ≤ 3 := by omega
 clear hcv hcc hc hm hb hq hq2 hun hu h0 h1 hval hl h4 hcl ho
 go_enter Tryz.func65, Tryz.ntmps65
 go_wp2_with fail
 obtain ⟨w0, hw0⟩ : ∃ w0 : World, w0 = w.alloc (.cells #[.int .i64 u, .int .i64 m] 124) := ⟨_, rfl⟩
 have hb0 : Below w.heap.size w w0 := hw0 ▸ balloc (b0 w) _
 have hz0 : w.heap.size < w0.heap.size := by rw [hw0]; simp
 have q0 : w0.cell? ⟨w.heap.size, 0, none⟩ = some (.int .i64 u) := by rw [hw0, alloc_cell]; rfl
 have q1 : w0.cell? ⟨w.heap.size, 1, none⟩ = some (.int .i64 m) := by rw [hw0, alloc_cell]; rfl
 have l0 := later_cell hz0 q0
 have l1 := later_cell hz0 q1
 have l2 := later_cell (Nat.lt_of_lt_of_le hFc hb0.size) (cell_below hb0 hFc hcel)
 have HB0 := hid hb0
 rw [← hw0]
 clear hw0 hb0 q0 q1 hcel
 by_cases hneg : q < 0
 ·have hqe : q = -1 := by omega
  have hd : decide (0 ≤ q) = false := decide_eq_false (by omega)
  have HBF := hid (HNEG.out hqe)
  clear hqe
  (refine wp_region_later (by kernel_rfl) (by kernel_rfl) ?_; (repeat (go_big_quiet_step ((fail)))); refine wpQuiet_nil ?_; rintro _ ⟨e1, rfl⟩)
  have HB1 := hid (bstep HB0.out e1.below)
  clear l0 l1 l2
  go_wp2_with fail
  go_ret
  exact ⟨by rw [HBF.out]; rfl, HB1.out⟩
 ·obtain ⟨j, rfl⟩ : ∃ j : Nat, q = j := ⟨q.toNat, by omega⟩
  have hj : j = 0 ∨ j = 1 ∨ j = 2 ∨ j = 3 := by omega
  have hd : decide (0 ≤ (j : Int)) = true := decide_eq_true (by omega)
  have HBE := hid (HPOS.out j rfl)
  obtain ⟨pq, hpq⟩ : ∃ pq, 2 ^ (j + 1) = pq := ⟨_, rfl⟩
  rw [hpq] at HBE
  have hpq31 : pq ≤ 31 := by rw [← hpq]; rcases hj with rfl | rfl | rfl | rfl <;> decide
  have hsh : wrap64 (2 * (2 : Int) ^ j) = (pq : Int) := by rw [← hpq]; rcases hj with rfl | rfl | rfl | rfl <;> simp [wrap64]
  have hand := and_nat hm31 hpq31
  obtain ⟨mq, hmq⟩ : ∃ mq, m &&& pq = mq := ⟨_, rfl⟩
  rw [hmq] at hand HBE
  have hz : ((mq : Int) == 0) = !b := HBE.out
  have hz2 : ((mq : Int) != 0) = b := by rw [bne, hz, Bool.not_not]
  have hj0 : (0 : Int) ≤ ↑j := by omega
  clear hpq hmq hj
  (refine wp_region_later (by kernel_rfl) (by kernel_rfl) ?_; (repeat (go_big_quiet_step ((fail)))); refine wpQuiet_nil ?_; rintro _ ⟨e1, rfl⟩)
  have HB1 := hid (bstep HB0.out e1.below)
  clear l0 l1 l2
  go_wp2_with fail
  go_ret
  exact ⟨by rfl, HB1.out⟩
end
section
theorem wantsL_at (us : List UnitW) (l : List WantD) {k : Nat} (hk : k < l.length) : (wantsL us l)[k]'(by rw [wantsL_len]; exact hk) = wantT us l[k] := by
 unfold wantsL
 rw [List.getElem_map]
theorem anyw_at {us : List UnitW} {c : List Int} {l : List WantD} {k : Nat} (hk : k < l.length) (h : metW us c l[k] = true) : l.any (metW us c) = true := List.any_eq_true.2 ⟨_, List.getElem_mem hk, h⟩
theorem anyw_no {us : List UnitW} {c : List Int} {l : List WantD} (h : ∀ k, (hk : k < l.length) → metW us c l[k] = false) : l.any (metW us c) = false := List.any_eq_false.2 fun x hx => by
 obtain ⟨k, hk, rfl⟩ := List.getElem_of_mem hx
 rw [h k hk]
 decide
set_option maxRecDepth 100000 in
set_option maxHeartbeats 2000000 in
theorem kept_any (cv lv : Value) (us : List UnitW) (c : List Int) (l : List WantD) (w : World) (ho : NsOk (nsOf us)) (hcv : SliceRd tInt w (Lt w.heap.size) cv c) (hc : ChoiceOk (nsOf us) c) (hl : SliceRd tTerm w (Lt w.heap.size) lv (wantsL us l)) (hok : ∀ x ∈ l, 0 ≤ x.u ∧ x.u < us.length) (hll : l.length ≤ 100) :
  Calls Tryz.prog 31 #[cv, lv] w fun e w' => e = .returned (.bool (l.any (metW us c))) ∧ Below w.heap.size w w' := by
 have HO := hid ho
 have HCV := hid hcv
 have HC := hid hc
 have HOK := hid (fun k (hk : k < l.length) => hok l[k] (List.getElem_mem hk))
 obtain ⟨AC, capc, rfl, -⟩ := hcv.ints
 obtain ⟨A, cap, rfl, hca, hcm, hcel⟩ := hl.terms
 have HCEL := hid (show ∀ k, (hk : k < l.length) → ∃ g o, A = some ⟨g, o, none⟩ ∧ Lt w.heap.size g ∧ w.cell? ⟨g, o + k * 2, none⟩ = some (.int .i64 l[k].u) ∧ w.cell? ⟨g, o + k * 2 + 1, none⟩ = some (.int .i64 (metN us l[k] : Nat)) from fun k hk => by
  obtain ⟨g, o, h1, h2, h3, h4, -⟩ := hcel k (by rw [wantsL_len]; exact hk)
  rw [wantsL_at us l hk] at h3 h4
  exact ⟨g, o, h1, h2, h3, h4⟩)
 rw [wantsL_len] at hca ⊢
 obtain ⟨n, hn⟩ : ∃ n, l.length = n := ⟨_, rfl⟩
 have HN := hid hn
 rw [hn] at hca hll ⊢
 clear ho hcv hc hl hok hcel hn
 go_enter Tryz.func31, Tryz.ntmps31
 go_wp2_with fail
 go_loopw [5] (fun iv wr => ∃ k : Nat, k ≤ n ∧ iv = .int .i64 k ∧ Hid (Below w.heap.size w wr) ∧ Hid (∀ j, (hj : j < l.length) → j < k → metW us c l[j] = false)) (fun iv _ => n - (intOf iv).toNat)
 case atStart => exact ⟨0, Nat.zero_le _, rfl, hid (b0 w), hid (fun j _ h => absurd h (by omega))⟩
 case round =>
  obtain ⟨k, hk, rfl, hb, hno⟩ := hrel
  by_cases hlt : k < n
  ·have hkl : k < l.length := by rw [HN.out]; exact hlt
   obtain ⟨g, o, hA, hF, z0, z1⟩ := HCEL.out k hkl
   subst hA
   obtain ⟨hx0, hx1⟩ := HOK.out k hkl
   have c0 := cell_below hb.out hF z0
   have c1 := cell_below hb.out hF z1
   have HME := hid (meets_any (.slice AC c.length capc) us c l[k] wr HO.out (HCV.out.lift hb.out hb.out.size) HC.out hx0 hx1)
   have i0 : (0 : Int) ≤ ↑k := by omega
   have i1 : (↑k : Int) < ↑n := by omega
   obtain ⟨xu, hxu⟩ : ∃ xu, l[k].u = xu := ⟨_, rfl⟩
   obtain ⟨mt, hmt⟩ : ∃ mt, metN us l[k] = mt := ⟨_, rfl⟩
   obtain ⟨b, hbm⟩ : ∃ b, metW us c l[k] = b := ⟨_, rfl⟩
   have HBM := hid hbm
   rw [hxu, hmt, hbm] at HME
   rw [hxu] at c0
   rw [hmt] at c1
   clear z0 z1 hx0 hx1 hxu hmt hbm
   cases b with
   | true =>
    have HT := hid (anyw_at hkl HBM.out)
    go_wp2_with (go_at_call 65; go_must (refine HME.out.mono ?_; rintro e w1 ⟨rfl, hb1⟩))
    go_ret
    exact ⟨by rw [HT.out]; rfl, bstep hb.out hb1⟩
   | false =>
    go_wp2_with (go_at_call 65; go_must (refine HME.out.mono ?_; rintro e w1 ⟨rfl, hb1⟩))
    exact ⟨⟨k + 1, by omega, by go_num, hid (bstep hb.out hb1), hid (fun j hj hjk => if e : j = k then by subst e; exact HBM.out else hno.out j hj (by omega))⟩, by simp [intOf]; omega⟩
  ·have hkn : k = n := by omega
   subst hkn
   have HT := hid (anyw_no (us := us) (c := c) (l := l) fun j hj => hno.out j hj (by rw [HN.out] at hj; exact hj))
   go_wp2_with fail
   go_ret
   exact ⟨by rw [HT.out]; rfl, hb.out⟩
def needsM (us : List UnitW) : List (List (List (List Term))) := us.map fun u => u.cands.map fun c => c.needs.map (wantsL us)
def barsM (us : List UnitW) : List (List (List Term)) := us.map fun u => u.cands.map fun c => wantsL us c.bars
def MasksRd (us : List UnitW) (w : World) (F : Nat → Prop) (v : Value) : Prop := ∃ fv nv bv, v = .agg #[fv, nv, bv] ∧ SliceRd (tSlice (tSlice (tSlice tTerm))) w F nv (needsM us) ∧ SliceRd (tSlice (tSlice tTerm)) w F bv (barsM us)
theorem MasksRd.lift {us : List UnitW} {w w' : World} {B B' : Nat} {v : Value} (h : MasksRd us w (Lt B) v) (hb : Below B w w') (hB : B ≤ B') : MasksRd us w' (Lt B') v := by
 obtain ⟨fv, nv, bv, h0, h1, h2⟩ := h
 exact ⟨fv, nv, bv, h0, h1.lift hb hB, h2.lift hb hB⟩
section
variable {us : List UnitW} {c : List Int} {u j k : Nat} {cd : CandW}
theorem fine_false (hu : u < us.length) (h : fineAt us c u = false) : fineC us c = false := by
 unfold fineC
 rw [Bool.and_eq_false_iff]
 right
 rw [List.all_eq_false]
 exact ⟨u, List.mem_range.2 hu, by rw [h]; decide⟩
theorem fine_noroot (h : ¬ 0 ≤ c.getD 0 0) : fineC us c = false := by
 unfold fineC
 rw [decide_eq_false h, Bool.false_and]
theorem fine_true (h0 : 0 ≤ c.getD 0 0) (h : ∀ u, u < us.length → fineAt us c u = true) : fineC us c = true := by
 unfold fineC
 rw [decide_eq_true h0, Bool.true_and, List.all_eq_true]
 exact fun u hu => h u (List.mem_range.1 hu)
theorem at_neg (h : c.getD u 0 < 0) : fineAt us c u = true := by unfold fineAt; rw [if_pos h]
theorem at_served (hu : u < us.length) (hj : j < us[u].cands.length) (hc : c.getD u 0 = (j : Int)) : fineAt us c u = servedC us c us[u].cands[j] := by
 unfold fineAt
 rw [if_neg (by omega), List.getElem?_eq_getElem hu, hc, Int.toNat_natCast]
 dsimp only
 rw [List.getElem?_eq_getElem hj]
theorem served_need (hk : k < cd.needs.length) (h : cd.needs[k].any (metW us c) = false) : servedC us c cd = false := by
 unfold servedC
 rw [Bool.and_eq_false_iff]
 left
 rw [List.all_eq_false]
 exact ⟨_, List.getElem_mem hk, by rw [h]; decide⟩
theorem served_bar (h : cd.bars.any (metW us c) = true) : servedC us c cd = false := by
 unfold servedC
 rw [h, Bool.not_true, Bool.and_false]
theorem served_yes (h : ∀ k, (hk : k < cd.needs.length) → cd.needs[k].any (metW us c) = true) (hb : cd.bars.any (metW us c) = false) : servedC us c cd = true := by
 unfold servedC
 rw [hb, Bool.not_false, Bool.and_true, List.all_eq_true]
 intro l hl
 obtain ⟨k, hk, rfl⟩ := List.getElem_of_mem hl
 exact h k hk
end
set_option maxRecDepth 100000 in
set_option maxHeartbeats 4000000 in
theorem fine_any (mv cv : Value) (us : List UnitW) (c : List Int) (w : World) (ho : UnitsOk us) (hm : MasksRd us w (Lt w.heap.size) mv) (hcv : SliceRd tInt w (Lt w.heap.size) cv c) (hc : ChoiceOk (nsOf us) c) :
  Calls Tryz.prog 11 #[mv, cv] w fun e w' => e = .returned (.bool (fineC us c)) ∧ Below w.heap.size w w' := by
 have hl : (nsOf us).length = us.length := by simp [nsOf]
 have HO := hid ho
 have HCV := hid hcv
 have HC := hid hc
 have h11 := ho.ns.hi
 have h2 := ho.ns.lo
 have hcl := hc.len
 rw [hl] at hcl h11 h2
 obtain ⟨AC, capc, rfl, hcapc, hmaxc, hcc⟩ := hcv.ints
 have HCC := hid hcc
 obtain ⟨fv, nv, bv, rfl, hn, hb⟩ := hm
 have hln : (needsM us).length = us.length := by unfold needsM; rw [List.length_map]
 have hlb : (barsM us).length = us.length := by unfold barsM; rw [List.length_map]
 obtain ⟨AN, capn, rfl, -, -, hnn⟩ := hn.lists
 obtain ⟨AB, capb, rfl, -, -, hbb⟩ := hb.lists
 have HNN := hid hnn
 have HBB := hid hbb
 rw [hln, hlb]
 obtain ⟨n, hn'⟩ : ∃ n, us.length = n := ⟨_, rfl⟩
 have HN := hid hn'
 rw [hn'] at hcl h11 h2 ⊢
 rw [hcl] at hcapc HCV ⊢
 have HCL := hid hcl
 have HLN := hid hln
 have HLB := hid hlb
 obtain ⟨gc, oc, rfl, hFc, hc0, -⟩ := hcc 0 (by omega)
 obtain ⟨q, hq⟩ : ∃ q, c.getD 0 0 = q := ⟨_, rfl⟩
 have HQ := hid hq
 have hq2 : c[0]'(by omega) = q := by rw [← hq, List.getD_eq_getElem?_getD, List.getElem?_eq_getElem (by omega)]; rfl
 rw [hq2, Nat.add_zero] at hc0
 have hgw := cell_below (balloc (b0 w) (.cells #[fv, .slice AN n capn, .slice AB n capb] 36)) hFc hc0
 clear ho hcv hc hcc hn hb hnn hbb hn' hcl hln hlb hq hq2 hl
 by_cases hneg : q < 0
 ·have HF := hid (fine_noroot (us := us) (c := c) (by rw [HQ.out]; omega))
  go_enter Tryz.func11, Tryz.ntmps11
  go_wp2_with fail
  go_ret
  exact ⟨by rw [HF.out]; rfl, balloc (b0 w) _⟩
 ·have HQ0 := hid (show 0 ≤ c.getD 0 0 by rw [HQ.out]; omega)
  go_enter Tryz.func11, Tryz.ntmps11
  go_wp2_with fail
  obtain ⟨w0, hw0⟩ : ∃ w0 : World, w0 = w.alloc (.cells #[fv, .slice AN n capn, .slice AB n capb] 36) := ⟨_, rfl⟩
  have hb0 : Below w.heap.size w w0 := hw0 ▸ balloc (b0 w) _
  have hz0 : w.heap.size < w0.heap.size := by rw [hw0]; simp
  have q1 : w0.cell? ⟨w.heap.size, 1, none⟩ = some (.slice AN n capn) := by rw [hw0, alloc_cell]; rfl
  have q2 : w0.cell? ⟨w.heap.size, 2, none⟩ = some (.slice AB n capb) := by rw [hw0, alloc_cell]; rfl
  have HB0 := hid hb0
  rw [← hw0]
  clear hw0 hb0 hgw hc0 hneg HQ
  go_loopw [5] (fun iv wr => ∃ u : Nat, u ≤ n ∧ iv = .int .i64 u ∧ Hid (Below w0.heap.size w0 wr) ∧ Hid (∀ v, v < us.length → v < u → fineAt us c v = true)) (fun iv _ => n - (intOf iv).toNat)
  case atStart => exact ⟨0, Nat.zero_le _, rfl, hid (b0 w0), hid (fun j _ h => absurd h (by omega))⟩
  case round =>
   obtain ⟨u, hu, rfl, hb, hno⟩ := hrel
   have HBW := hid (bstep HB0.out hb.out)
   by_cases hlt : u < n
   ·have hul : u < us.length := by rw [HN.out]; exact hlt
    have hulc : u < c.length := by rw [HCL.out]; exact hlt
    obtain ⟨gc', oc', hA, hFu, hcu, -⟩ := HCC.out u hulc
    injection hA with hA
    injection hA with e1 e2 _
    subst e1 e2
    obtain ⟨q, hq⟩ : ∃ q, c.getD u 0 = q := ⟨_, rfl⟩
    have hq2 : c[u] = q := by rw [← hq, List.getD_eq_getElem?_getD, List.getElem?_eq_getElem hulc]; rfl
    rw [hq2] at hcu
    have hcw := cell_below HBW.out hFu hcu
    have hval := HC.out.val u (by simpa [nsOf] using hul)
    rw [hq] at hval
    have HQU := hid hq
    have i0 : (0 : Int) ≤ ↑u := by omega
    have i1 : (↑u : Int) < ↑n := by omega
    have hns : (nsOf us)[u]'(by simpa [nsOf] using hul) = us[u].cands.length := by simp [nsOf]
    rw [hns] at hval
    clear hq hq2 hns hcu
    by_cases hneg : q < 0
    ·have HAT := hid (at_neg (us := us) (c := c) (u := u) (by rw [HQU.out]; exact hneg))
     go_wp2_with fail
     exact ⟨⟨u + 1, by omega, by go_num, hb, hid (fun v hv hvu => if e : v = u then by subst e; exact HAT.out else hno.out v hv (by omega))⟩, by simp [intOf]; omega⟩
    ·obtain ⟨j, rfl⟩ : ∃ j : Nat, q = j := ⟨q.toNat, by omega⟩
     have hj : j < us[u].cands.length := by omega
     have HSV := hid (at_served hul hj HQU.out)
     obtain ⟨gn, on_, u1, hA1, hF1, hc1, hr1⟩ := HNN.out u (by rw [HLN.out]; exact hul)
     obtain ⟨gb, ob, u2, hA2, hF2, hc2, hr2⟩ := HBB.out u (by rw [HLB.out]; exact hul)
     have e1 : (needsM us)[u]'(by rw [HLN.out]; exact hul) = us[u].cands.map fun c => c.needs.map (wantsL us) := by unfold needsM; rw [List.getElem_map]
     have e2 : (barsM us)[u]'(by rw [HLB.out]; exact hul) = us[u].cands.map fun c => wantsL us c.bars := by unfold barsM; rw [List.getElem_map]
     rw [e1] at hr1
     rw [e2] at hr2
     obtain ⟨A1, k1, rfl, -, -, hl1⟩ := hr1.lists
     obtain ⟨A2, k2, rfl, -, -, hl2⟩ := hr2.lists
     obtain ⟨g3, o3, u3, hA3, hF3, hc3, hr3⟩ := hl1 j (by rw [List.length_map]; exact hj)
     obtain ⟨g4, o4, u4, hA4, hF4, hc4, hr4⟩ := hl2 j (by rw [List.length_map]; exact hj)
     rw [List.getElem_map] at hr3 hr4
     rw [List.length_map] at hc1 hc2
     subst hA1 hA2 hA3 hA4
     have hin := ok_inH HO.out (List.getElem?_eq_getElem hul) (List.getElem?_eq_getElem hj)
     have hcok := HO.out.cands _ (List.getElem_mem hul) _ (List.getElem_mem hj)
     have HIN := hid hin
     have HCOK := hid hcok
     obtain ⟨cd, hcd⟩ : ∃ cd, us[u].cands[j] = cd := ⟨_, rfl⟩
     rw [hcd] at hr3 hr4 HIN HCOK HSV
     obtain ⟨m, hm⟩ : ∃ m, us[u].cands.length = m := ⟨_, rfl⟩
     rw [hm] at hc1 hc2 hj
     obtain ⟨A5, k5, rfl, -, -, hl5⟩ := hr3.lists
     obtain ⟨A6, k6, rfl, -, -, -⟩ := hr4.terms
     rw [List.length_map] at hc3
     have HL5 := hid hl5
     have HR4 := hid hr4
     rw [wantsL_len] at HR4 hc4
     have L1 := later_cell (Nat.lt_of_lt_of_le hF1 HBW.out.size) (cell_below HBW.out hF1 hc1)
     have L2 := later_cell (Nat.lt_of_lt_of_le hF2 HBW.out.size) (cell_below HBW.out hF2 hc2)
     have L3 := later_cell (Nat.lt_of_lt_of_le hF3 HBW.out.size) (cell_below HBW.out hF3 hc3)
     have L4 := later_cell (Nat.lt_of_lt_of_le hF4 HBW.out.size) (cell_below HBW.out hF4 hc4)
     have L5 := later_cell (Nat.lt_of_lt_of_le hFu HBW.out.size) hcw
     have L6 := later_cell (Nat.lt_of_lt_of_le hz0 hb.out.size) (cell_below hb.out hz0 q1)
     have L7 := later_cell (Nat.lt_of_lt_of_le hz0 hb.out.size) (cell_below hb.out hz0 q2)
     have j0 : (0 : Int) ≤ ↑j := by omega
     have j1 : (↑j : Int) < ↑m := by omega
     obtain ⟨nn, hnn⟩ : ∃ nn, cd.needs.length = nn := ⟨_, rfl⟩
     have HNNL := hid hnn
     rw [hnn] at L3
     clear hr1 hr2 hl1 hl2 hr3 hr4 hl5 hc1 hc2 hc3 hc4 e1 e2 hin hcok hcd hm hnn hval hneg
     go_wp2_with fail
     (refine wp_region_later (by kernel_rfl) (by kernel_rfl) ?_; (repeat (go_big_quiet_step ((fail)))); refine wpQuiet_nil ?_; rintro _ ⟨e1, rfl⟩)
     obtain ⟨w2, hw2⟩ : ∃ w2 : World, w2 = e1.w := ⟨_, rfl⟩
     have HB2 := hid (show Below w0.heap.size w0 w2 from hw2 ▸ bstep hb.out e1.below)
     rw [← hw2]
     clear hw2 L1 L2 L3 L4 L5 L6 L7 hcw
     have HSRV := hid (fun (W : World) (hb : Below w.heap.size w W) (l : List WantD) (hl : SliceRd tTerm w (Lt w.heap.size) (.slice A6 cd.bars.length k6) (wantsL us cd.bars)) => kept_any (.slice (some ⟨gc, oc, none⟩) n capc) (.slice A6 cd.bars.length k6) us c cd.bars W HO.out.ns (HCV.out.lift hb hb.size) HC.out (hl.lift hb hb.size) HIN.out.2 (by have := HCOK.out.2.2.1; omega))
     have hnn8 : nn ≤ 8 := by rw [← HNNL.out]; exact HCOK.out.1
     go_wp2_with fail
     go_loopw [8] (fun kv wr => ∃ k : Nat, k ≤ nn ∧ kv = .int .i64 k ∧ Hid (Below w0.heap.size w0 wr) ∧ Hid (∀ i, (hi : i < cd.needs.length) → i < k → cd.needs[i].any (metW us c) = true)) (fun kv _ => nn - (intOf kv).toNat)
     case atStart => exact ⟨0, Nat.zero_le _, rfl, HB2, hid (fun i _ h => absurd h (by omega))⟩
     case round =>
      clear hb HBW HB2
      obtain ⟨k, hk, rfl, hb, hyes⟩ := hrel
      have HBW := hid (bstep HB0.out hb.out)
      by_cases hltk : k < nn
      ·have hkl : k < cd.needs.length := by rw [HNNL.out]; exact hltk
       obtain ⟨g7, o7, u7, hA7, hF7, hc7, hr7⟩ := HL5.out k (by rw [List.length_map]; exact hkl)
       rw [List.getElem_map] at hr7
       subst hA7
       obtain ⟨A8, k8, rfl, -, -, -⟩ := hr7.terms
       have hrow := HCOK.out.2.1 _ (List.getElem_mem hkl)
       have HKP := hid (kept_any (.slice (some ⟨gc, oc, none⟩) n capc) _ us c (cd.needs[k]'hkl) wr HO.out.ns (HCV.out.lift HBW.out HBW.out.size) HC.out (hr7.lift HBW.out HBW.out.size) (HIN.out.1 _ (List.getElem_mem hkl)) (by have := hrow.1; omega))
       have cc7 := cell_below HBW.out hF7 hc7
       have i0 : (0 : Int) ≤ ↑k := by omega
       have i1 : (↑k : Int) < ↑nn := by omega
       obtain ⟨b, hbm⟩ : ∃ b, (cd.needs[k]'hkl).any (metW us c) = b := ⟨_, rfl⟩
       have HBM := hid hbm
       rw [hbm] at HKP
       rw [wantsL_len] at HKP cc7
       obtain ⟨l8, hl8⟩ : ∃ l8, (cd.needs[k]'hkl).length = l8 := ⟨_, rfl⟩
       rw [hl8] at HKP cc7
       clear hr7 hc7 hrow hbm hl8
       cases b with
       | true =>
        go_wp2_with (go_at_call 31; go_must (refine HKP.out.mono ?_; rintro e w3 ⟨rfl, hb3⟩))
        exact ⟨⟨k + 1, by omega, by go_num, hid (bstep hb.out hb3), hid (fun i hi hik => if e : i = k then by subst e; exact HBM.out else hyes.out i hi (by omega))⟩, by simp [intOf]; omega⟩
       | false =>
        have HF := hid (fine_false (us := us) (c := c) hul (by rw [HSV.out]; exact served_need hkl HBM.out))
        go_wp2_with (go_at_call 31; go_must (refine HKP.out.mono ?_; rintro e w3 ⟨rfl, hb3⟩))
        go_ret
        exact ⟨by rw [HF.out]; rfl, bstep HBW.out hb3⟩
      ·have hkn : k = nn := by omega
       subst hkn
       have HYES := hid (fun i (hi : i < cd.needs.length) => hyes.out i hi (by rw [HNNL.out] at hi; exact hi))
       have HKP := hid (HSRV.out wr HBW.out cd.bars HR4.out)
       obtain ⟨b, hbm⟩ : ∃ b, cd.bars.any (metW us c) = b := ⟨_, rfl⟩
       have HBM := hid hbm
       rw [hbm] at HKP
       clear hbm
       cases b with
       | true =>
        have HF := hid (fine_false (us := us) (c := c) hul (by rw [HSV.out]; exact served_bar HBM.out))
        go_wp2_with (go_at_call 31; go_must (refine HKP.out.mono ?_; rintro e w3 ⟨rfl, hb3⟩))
        go_ret
        exact ⟨by rw [HF.out]; rfl, bstep HBW.out hb3⟩
       | false =>
        have HAT := hid (show fineAt us c u = true by rw [HSV.out]; exact served_yes HYES.out HBM.out)
        go_wp2_with (go_at_call 31; go_must (refine HKP.out.mono ?_; rintro e w3 ⟨rfl, hb3⟩))
        exact ⟨⟨u + 1, by omega, by go_num, hid (bstep hb.out hb3), hid (fun v hv hvu => if e : v = u then by subst e; exact HAT.out else hno.out v hv (by omega))⟩, by simp [intOf]; omega⟩
   ·have hun : u = n := by omega
    subst hun
    have HT := hid (fine_true HQ0.out fun v hv => hno.out v hv (by rw [HN.out] at hv; exact hv))
    go_wp2_with fail
    go_ret
    exact ⟨by rw [HT.out]; rfl, HBW.out⟩
end
section
def FX (X : List Value) (B : Nat) (w : World) : Nat → Prop := fun b => B ≤ b ∧ b < w.heap.size ∧ ∀ x ∈ X, x.ownBlock ≠ some b
structure OwnL {α : Type} (X : List Value) (t : Ty α) (e : TypeId) (w : World) (B : Nat) (v : Value) (l : List α) (xs : List Value) : Prop where
 own : w.ownsRow B e t.size v l.length xs
 el : ∀ k, (hk : k < l.length) → ∃ cs, cs.length = t.size ∧ (∀ j, j < t.size → xs[k * t.size + j]? = cs[j]?) ∧ t.rd w (FX X B w) cs l[k]
section
variable {α : Type} {X X' : List Value} {t : Ty α} {e : TypeId} {w w' : World} {B : Nat} {v v' u : Value} {l : List α} {xs cs : List Value} {x : α}
theorem OwnL.nil (X : List Value) (t : Ty α) (e : TypeId) (w : World) (B : Nat) : OwnL X t e w B (.slice none 0 0) [] [] := ⟨⟨by simp, .inl ⟨rfl, rfl⟩⟩, fun k hk => absurd hk (by simp)⟩
theorem OwnL.later (h : OwnL X t e w B v l xs) (hb : Below w.heap.size w w') : OwnL X t e w' B v l xs :=
 ⟨ownsRow_keep h.own fun g hg => hb.block g (h.own.lt g hg).2, fun k hk => by
  obtain ⟨cs, h1, h2, h3⟩ := h.el k hk
  exact ⟨cs, h1, h2, t.more (fun b hb' => ⟨hb'.1, Nat.lt_of_lt_of_le hb'.2.1 hb.size, hb'.2.2⟩) (t.keep (fun b hb' => hb.block b hb'.2.1) h3)⟩⟩
theorem OwnL.other (h : OwnL X t e w B v l xs) (hg : w.grownBy w' u.ownBlock) (hu : u ∈ X) (hne : ∀ b, v.ownBlock = some b → u.ownBlock ≠ some b) (hX : ∀ b, b < w.heap.size → (∀ x ∈ X, x.ownBlock ≠ some b) → ∀ x ∈ X', x.ownBlock ≠ some b) : OwnL X' t e w' B v l xs :=
 ⟨ownsRow_keep h.own fun g hg' => hg.block g (h.own.lt g hg').2 (fun e => hne g hg' e.symm), fun k hk => by
  obtain ⟨cs, h1, h2, h3⟩ := h.el k hk
  exact ⟨cs, h1, h2, t.more (fun b hb' => ⟨hb'.1, Nat.lt_of_lt_of_le hb'.2.1 hg.size, hX b hb'.2.1 hb'.2.2⟩) (t.keep (fun b hb' => hg.block b hb'.2.1 (fun e => hb'.2.2 u hu e.symm)) h3)⟩⟩
theorem OwnL.snoc (h : OwnL X t e w B v l xs) (hv : v ∈ X) (hl : cs.length = t.size) (hx : t.rd w (FX X B w) cs x)
  (ho : w'.ownsRow B e t.size v' (l.length + 1) (xs ++ cs)) (hg : w.grownBy w' v.ownBlock) (hX : ∀ b, b < w.heap.size → (∀ x ∈ X, x.ownBlock ≠ some b) → ∀ x ∈ X', x.ownBlock ≠ some b) : OwnL X' t e w' B v' (l ++ [x]) (xs ++ cs) := by
 have hk : ∀ {cs : List Value} {y : α}, t.rd w (FX X B w) cs y → t.rd w' (FX X' B w') cs y := fun {cs y} hs =>
  t.more (fun b hb => ⟨hb.1, Nat.lt_of_lt_of_le hb.2.1 hg.size, hX b hb.2.1 hb.2.2⟩) (t.keep (fun b hb => hg.block b hb.2.1 (fun e => hb.2.2 v hv e.symm)) hs)
 have hlen : xs.length = l.length * t.size := h.own.1
 refine ⟨by rw [List.length_append]; exact ho, fun k hk' => ?_⟩
 rw [List.length_append, List.length_singleton] at hk'
 by_cases hlt : k < l.length
 ·obtain ⟨c, h1, h2, h3⟩ := h.el k hlt
  rw [List.getElem_append_left hlt]
  refine ⟨c, h1, fun j hj => ?_, hk h3⟩
  have : (k + 1) * t.size ≤ l.length * t.size := Nat.mul_le_mul_right _ hlt
  rw [Nat.add_mul, Nat.one_mul] at this
  rw [List.getElem?_append_left (by omega)]
  exact h2 j hj
 ·have hk2 : k = l.length := by omega
  subst hk2
  rw [List.getElem_append_right (Nat.le_refl _)]
  simp only [Nat.sub_self, List.getElem_cons_zero]
  refine ⟨cs, hl, fun j hj => ?_, hk hx⟩
  rw [List.getElem?_append_right (by omega), hlen]
  congr 1
  omega
theorem OwnL.setOut (h : OwnL X t e w B v l xs) {p : Addr} (hp : p.block < B) (u : Value) : OwnL X t e (w.setCell p u) B v l xs :=
 ⟨ownsRow_keep h.own fun g hg => heap_setCell_other _ _ _ _ (by have := (h.own.lt g hg).1; show g ≠ p.block; omega), fun k hk => by
  obtain ⟨cs, h1, h2, h3⟩ := h.el k hk
  exact ⟨cs, h1, h2, t.more (fun b hb' => ⟨hb'.1, by have := hb'.2.1; simpa using this, hb'.2.2⟩) (t.keep (fun b hb' => heap_setCell_other _ _ _ _ (by have := hb'.1; omega)) h3)⟩⟩
theorem OwnL.rdF (h : OwnL X t e w B v l xs) : SliceRd t w (fun b => B ≤ b ∧ b < w.heap.size) v l := by
 rcases h.own.2 with ⟨rfl, h0⟩ | ⟨g, cap, cur, rfl, hbase, hg, q1, q2, q3, q4⟩
 ·have : l = [] := List.length_eq_zero_iff.1 h0
  subst this
  exact SliceRd.nil _ _ _
 ·refine ⟨_, cap, rfl, q1, q2, fun k hk => ?_⟩
  obtain ⟨cs, h1, h2, h3⟩ := h.el k hk
  refine ⟨g, 0, cs, rfl, ⟨hbase, (Array.getElem?_eq_some_iff.1 hg).1⟩, h1, fun j hj => ?_, t.more (fun b hb => ⟨hb.1, hb.2.1⟩) h3⟩
  rw [cell_of_row _ _ _ _ _ _ hg, ← h2 j hj]
  show cur[0 + k * t.size + j]? = _
  have : (k + 1) * t.size ≤ l.length * t.size := Nat.mul_le_mul_right _ hk
  rw [Nat.add_mul, Nat.one_mul] at this
  rw [Nat.zero_add, ← Array.getElem?_toList, ← q4, List.getElem?_take_of_lt (by omega)]
end
theorem repl {w : World} {u u' : Value} (hn : u'.ownBlock = u.ownBlock ∨ u'.ownBlock = some w.heap.size) {b : Nat} (hb : b < w.heap.size) (h : u.ownBlock ≠ some b) : u'.ownBlock ≠ some b := by
 rcases hn with e | e
 ·rw [e]; exact h
 ·rw [e]; intro e2; injection e2 with e2; omega
section
variable {α β : Type} {t : Ty α} {s : Ty β} {e e' : TypeId} {w W w' : World} {B : Nat} {a a' b b' : Value} {l : List α} {m : List β} {xs ys cs : List Value} {x : α} {y : β}
theorem fx_later {X : List Value} {v : Nat} (h : FX X B w v) (hb : Below w.heap.size w W) : FX X B W v := ⟨h.1, Nat.lt_of_lt_of_le h.2.1 hb.size, h.2.2⟩
theorem rd_later {X : List Value} (hx : t.rd w (FX X B w) cs x) (hb : Below w.heap.size w W) : t.rd W (FX X B W) cs x :=
 t.more (fun _ h => fx_later h hb) (t.keep (fun _ h => hb.block _ h.2.1) hx)
theorem pair_fst (hne : e ≠ e') (ha : OwnL [a, b] t e w B a l xs) (hb : OwnL [a, b] s e' w B b m ys) (hw : Below w.heap.size w W) (hl : cs.length = t.size) (hx : t.rd w (FX [a, b] B w) cs x)
  (hown : w'.ownsRow B e t.size a' (l.length + 1) (xs ++ cs)) (hg : W.grownBy w' a.ownBlock) (hn : a'.ownBlock = a.ownBlock ∨ a'.ownBlock = some W.heap.size) : OwnL [a', b] t e w' B a' (l ++ [x]) (xs ++ cs) ∧ OwnL [a', b] s e' w' B b m ys := by
 have hX : ∀ k, k < W.heap.size → (∀ z ∈ [a, b], z.ownBlock ≠ some k) → ∀ z ∈ [a', b], z.ownBlock ≠ some k := fun k hk h z hz => by
  rcases List.mem_cons.1 hz with rfl | hz
  ·exact repl hn hk (h a (by simp))
  ·exact h z (List.mem_cons_of_mem _ hz)
 exact ⟨(ha.later hw).snoc (by simp) hl (rd_later hx hw) hown hg hX, (hb.later hw).other (u := a) hg (by simp) (fun k hk => own_ne (hb.later hw).own (ha.later hw).own (Ne.symm hne) k hk) hX⟩
theorem pair_snd (hne : e ≠ e') (ha : OwnL [a, b] t e w B a l xs) (hb : OwnL [a, b] s e' w B b m ys) (hw : Below w.heap.size w W) (hl : cs.length = s.size) (hy : s.rd w (FX [a, b] B w) cs y)
  (hown : w'.ownsRow B e' s.size b' (m.length + 1) (ys ++ cs)) (hg : W.grownBy w' b.ownBlock) (hn : b'.ownBlock = b.ownBlock ∨ b'.ownBlock = some W.heap.size) : OwnL [a, b'] t e w' B a l xs ∧ OwnL [a, b'] s e' w' B b' (m ++ [y]) (ys ++ cs) := by
 have hX : ∀ k, k < W.heap.size → (∀ z ∈ [a, b], z.ownBlock ≠ some k) → ∀ z ∈ [a, b'], z.ownBlock ≠ some k := fun k hk h z hz => by
  rcases List.mem_cons.1 hz with rfl | hz
  ·exact h z (by simp)
  ·rw [List.mem_singleton.1 hz]
   exact repl hn hk (h b (by simp))
 exact ⟨(ha.later hw).other (u := b) hg (by simp) (fun k hk => own_ne (ha.later hw).own (hb.later hw).own hne k hk) hX, (hb.later hw).snoc (by simp) hl (rd_later hy hw) hown hg hX⟩
end
theorem src_mk {w : World} {b : Nat} {x : Value} (h : w.cell? ⟨b, 0, none⟩ = some x) : Src w (some ⟨b, 0, none⟩) 1 1 [x] := by
 refine ⟨rfl, fun _ => ⟨_, rfl, fun j u hu => ?_⟩⟩
 match j, hu with
 | 0, hu =>
  rw [add_mk]
  injection hu with hu
  rw [← hu]
  exact h
theorem cell_new {w : World} {cs : Array Value} {e : TypeId} {b i : Nat} {x : Value} (hb : b = w.heap.size) (hc : cs[i]? = some x) : (w.alloc (.cells cs e)).cell? ⟨b, i, none⟩ = some x := by
 rw [hb, alloc_cell]
 exact hc
theorem cell_old {w : World} {o : Obj} {b i : Nat} {x : Value} (hb : b < w.heap.size) (h : w.cell? ⟨b, i, none⟩ = some x) : (w.alloc o).cell? ⟨b, i, none⟩ = some x := cell_below (balloc (b0 w) o) hb h
theorem cell_drew {w : World} {b i : Nat} {x : Value} (h : w.cell? ⟨b, i, none⟩ = some x) : w.drew.cell? ⟨b, i, none⟩ = some x := h
theorem cell_hb {W w : World} {b i : Nat} {x : Value} (hW : Below W.heap.size W w) (hb : b < W.heap.size) (h : W.cell? ⟨b, i, none⟩ = some x) : w.cell? ⟨b, i, none⟩ = some x := cell_below hW hb h
theorem cell_hg {W w : World} {B b i : Nat} {u x : Value} (hg : W.grownBy w u.ownBlock) (ho : ∀ k, u.ownBlock = some k → k < B) (hB : B ≤ b) (h : W.cell? ⟨b, i, none⟩ = some x) : w.cell? ⟨b, i, none⟩ = some x :=
 hg.cell h (by intro e; have := ho b e.symm; omega)
end
section
open Go
section
variable {P : Program} {ops : Array Oper} {Q : Exit → Act → World → Prop} {md : Region.Mode} {S : World → Prop} {t : Nat}
def Till (P : Program) (md : Region.Mode) (ops : Array Oper) (Q : Exit → Act → World → Prop) (S : World → Prop) (t : Nat) : Nat → Array Bool → Act → World → Prop
 | 0, done, a, w => Region.ready md ops done = [] ∧ Q .normal a w
 | n + 1, done, a, w => (Region.ready md ops done = [] → Q .normal a w) ∧ ∀ i ∈ Region.ready md ops done, wpOp P ops Q i (fun a' w' => ((done.setIfInBounds i true).getD t false = false → S w') ∧ Till P md ops Q S t n (done.setIfInBounds i true) a' w') a w
theorem Till.any : ∀ (n : Nat) (done : Array Bool) (a : Act) (w : World), Till P md ops Q S t n done a w → wpAny P md ops Q n done a w
 | 0, _, _, _, h => h
 | n + 1, _, _, _, h => ⟨h.1, fun i hi => wpOp_mono (fun a' w' h' => Till.any n _ a' w' h'.2) (h.2 i hi)⟩
theorem Till.first {i : Nat} {oi : Oper} {v : Value} (hi : ops[i]? = some oi) (hsel : ∀ (j : Nat) (o : Oper) cs b, ops[j]? = some o → o.op ≠ .select cs b) (hQ : ∀ c a w, Q (.panic c) (a.put oi.dst v) w → Q (.panic c) a w)
  (hit : i ≠ t) (hwait : ∃ ot, ops[t]? = some ot ∧ ∃ e ∈ ot.after, Region.binds md e = true ∧ e.on = i) :
  ∀ (n : Nat) (done : Array Bool) (a : Act) (w : World), (∀ j oj, ops[j]? = some oj → j ≠ i → done.getD j true = false → (∀ e ∈ oj.after, Region.binds md e = true → e.on ≠ i) → oi.apart ops oj = true) →
   i ∈ Region.ready md ops done → done.getD t false = false → YieldsIf P ops S oi v a → S w → Till P md ops Q S t n (done.setIfInBounds i true) (a.put oi.dst v) w → Till P md ops Q S t (n + 1) done a w := by
 intro n
 induction n with
 | zero =>
  intro done a w _ hr ht hy hS H
  refine ⟨fun h => (by rw [h] at hr; cases hr), fun j hj => ?_⟩
  by_cases hji : j = i
  ·rw [hji]; exact hy.wpOp hi hS ⟨fun _ => hS, H⟩
  ·have h0 := ready_mono hj hji
   rw [H.1] at h0
   cases h0
 | succ n ih =>
  intro done a w hfree hr ht hy hS H
  refine ⟨fun h => (by rw [h] at hr; cases hr), fun j hj => ?_⟩
  by_cases hji : j = i
  ·rw [hji]; exact hy.wpOp hi hS ⟨fun _ => hS, H⟩
  ·obtain ⟨hjun, oj, hoj, hall⟩ := mem_ready.1 hj
   have hun := (mem_ready.1 hr).1
   have hnot : ∀ e ∈ oj.after, Region.binds md e = true → e.on ≠ i := fun e he hb heq => by
    have h1 := hall e he hb
    rw [heq] at h1
    rcases Nat.lt_or_ge i done.size with h' | h'
    ·simp [h'] at hun h1; rw [hun] at h1; cases h1
    ·simp [Array.getElem?_eq_none h'] at h1
   have hjt : j ≠ t := fun e => by
    obtain ⟨ot, hot, x, hx, hb, hxi⟩ := hwait
    rw [e, hot] at hoj
    injection hoj with hoj
    rw [hoj] at hx
    exact hnot x hx hb hxi
   have ht' : (done.setIfInBounds j true).getD t false = false := by rw [getD_set_ne false hjt]; exact ht
   have h2 := wpOp_putIf hoj (hfree j oj hoj hji hjun hnot) (fun cs b => hsel i oi cs b hi) (fun cs b => hsel j oj cs b hoj) hQ hy (H.2 j (ready_mono hj hji))
   have hset : ((done.setIfInBounds i true).setIfInBounds j true).getD t false = false := by rw [getD_set_ne false hjt, getD_set_ne false hit]; exact ht
   refine wpOp_mono (fun a' w' h3 => ⟨fun _ => h3.2.1 hset, ih (done.setIfInBounds j true) a' w' (fun k ok hk hki hku hno => hfree k ok hk hki ?_ hno) (ready_mono hr (Ne.symm hji)) ht' h3.1 (h3.2.1 hset) ?_⟩) h2
   ·by_cases hjk : j = k
    ·rw [← hjk]; exact hjun
    ·rw [getD_set_ne true hjk] at hku; exact hku
   ·rw [Array.setIfInBounds_comm _ _ hji]
    exact h3.2.2
theorem Till.firstW {i : Nat} {oi : Oper} {v : Value} (hi : ops[i]? = some oi) (hsel : ∀ (j : Nat) (o : Oper) cs b, ops[j]? = some o → o.op ≠ .select cs b) (hQ : ∀ c a w, Q (.panic c) (a.put oi.dst v) w → Q (.panic c) a w) (hit : i ≠ t) :
  ∀ (n : Nat) (done : Array Bool) (a : Act) (w : World), (∀ j oj, ops[j]? = some oj → j ≠ i → done.getD j true = false → (∀ e ∈ oj.after, Region.binds md e = true → e.on ≠ i) → oi.apart ops oj = true) →
   i ∈ Region.ready md ops done → (done.getD t false = false → S w) → YieldsIf P ops (fun _ => True) oi v a → Till P md ops Q S t n (done.setIfInBounds i true) (a.put oi.dst v) w → Till P md ops Q S t (n + 1) done a w := by
 intro n
 induction n with
 | zero =>
  intro done a w _ hr hS hy H
  refine ⟨fun h => (by rw [h] at hr; cases hr), fun j hj => ?_⟩
  by_cases hji : j = i
  ·rw [hji]; exact hy.wpOp hi trivial ⟨fun h => hS (by rw [getD_set_ne false hit] at h; exact h), H⟩
  ·have h0 := ready_mono hj hji
   rw [H.1] at h0
   cases h0
 | succ n ih =>
  intro done a w hfree hr hS hy H
  refine ⟨fun h => (by rw [h] at hr; cases hr), fun j hj => ?_⟩
  by_cases hji : j = i
  ·rw [hji]; exact hy.wpOp hi trivial ⟨fun h => hS (by rw [getD_set_ne false hit] at h; exact h), H⟩
  ·obtain ⟨hjun, oj, hoj, hall⟩ := mem_ready.1 hj
   have hun := (mem_ready.1 hr).1
   have hnot : ∀ e ∈ oj.after, Region.binds md e = true → e.on ≠ i := fun e he hb heq => by
    have h1 := hall e he hb
    rw [heq] at h1
    rcases Nat.lt_or_ge i done.size with h' | h'
    ·simp [h'] at hun h1; rw [hun] at h1; cases h1
    ·simp [Array.getElem?_eq_none h'] at h1
   have h2 := wpOp_putIf hoj (hfree j oj hoj hji hjun hnot) (fun cs b => hsel i oi cs b hi) (fun cs b => hsel j oj cs b hoj) hQ hy (H.2 j (ready_mono hj hji))
   have hcom : ((done.setIfInBounds i true).setIfInBounds j true).getD t false = (done.setIfInBounds j true).getD t false := by
    rw [Array.setIfInBounds_comm _ _ (Ne.symm hji), getD_set_ne false hit]
   refine wpOp_mono (fun a' w' h3 => ⟨fun h => h3.2.1 (by rw [hcom]; exact h), ih (done.setIfInBounds j true) a' w' (fun k ok hk hki hku hno => hfree k ok hk hki ?_ hno) (ready_mono hr (Ne.symm hji)) (fun h => h3.2.1 (by rw [hcom]; exact h)) h3.1 ?_⟩) h2
   ·by_cases hjk : j = k
    ·rw [← hjk]; exact hjun
    ·rw [getD_set_ne true hjk] at hku; exact hku
   ·rw [Array.setIfInBounds_comm _ _ hji]
    exact h3.2.2
theorem Till.takeW (i : Nat) {oi : Oper} {v : Value} {n : Nat} {done : Array Bool} {a : Act} {w : World} (hi : ops[i]? = some oi) (hs : Region.noSelect ops = true) (hf : Region.free md ops done i = true) (hr : (Region.ready md ops done).contains i = true)
  (hQ : ∀ c a w, Q (.panic c) (a.put oi.dst v) w → Q (.panic c) a w) (hit : (i == t) = false) (hS : S w) (hy : YieldsIf P ops (fun _ => True) oi v a)
  (h : Till P md ops Q S t n (done.setIfInBounds i true) (a.put oi.dst v) w) : Till P md ops Q S t (n + 1) done a w :=
 Till.firstW hi (Region.noSelect_spec hs) hQ (beq_eq_false_iff_ne.1 hit) n done a w (Region.free_spec hi hf) (by simpa using hr) (fun _ => hS) hy h
def waitsB (md : Region.Mode) (ops : Array Oper) (t i : Nat) : Bool := match ops[t]? with
 | some ot => ot.after.any fun e => Region.binds md e && e.on == i
 | none => false
theorem Till.take (i : Nat) {oi : Oper} {v : Value} {n : Nat} {done : Array Bool} {a : Act} {w : World} (hi : ops[i]? = some oi) (hs : Region.noSelect ops = true) (hf : Region.free md ops done i = true) (hr : (Region.ready md ops done).contains i = true)
  (hQ : ∀ c a w, Q (.panic c) (a.put oi.dst v) w → Q (.panic c) a w) (hw : waitsB md ops t i = true) (hit : (i == t) = false) (ht : done.getD t false = false) (hy : YieldsIf P ops S oi v a) (hS : S w)
  (h : Till P md ops Q S t n (done.setIfInBounds i true) (a.put oi.dst v) w) : Till P md ops Q S t (n + 1) done a w := by
 refine Till.first hi (Region.noSelect_spec hs) hQ (beq_eq_false_iff_ne.1 hit) ?_ n done a w (Region.free_spec hi hf) (by simpa using hr) ht hy hS h
 unfold waitsB at hw
 cases hot : ops[t]? with
 | none => rw [hot] at hw; cases hw
 | some ot =>
  rw [hot] at hw
  rw [Array.any_eq_true] at hw
  obtain ⟨k, hk, hb⟩ := hw
  rw [Bool.and_eq_true, beq_iff_eq] at hb
  exact ⟨ot, rfl, ot.after[k], Array.getElem_mem hk, hb.1, hb.2⟩
def Steps (P : Program) (md : Region.Mode) (ops : Array Oper) (Q : Exit → Act → World → Prop) (S : World → Prop) (t n : Nat) (done : Array Bool) (a : Act) (w : World) (L : List Nat) : Prop :=
 ∀ i ∈ L, (Region.ready md ops done).contains i = true → wpOp P ops Q i (fun a' w' => ((done.setIfInBounds i true).getD t false = false → S w') ∧ Till P md ops Q S t n (done.setIfInBounds i true) a' w') a w
theorem Steps.nil {n : Nat} {done : Array Bool} {a : Act} {w : World} : Steps P md ops Q S t n done a w [] := fun _ h => by cases h
theorem Steps.skip (i : Nat) {n : Nat} {done : Array Bool} {a : Act} {w : World} {L : List Nat} (h : (Region.ready md ops done).contains i = false) (hs : Steps P md ops Q S t n done a w L) : Steps P md ops Q S t n done a w (i :: L) := fun j hj hr => by
 rcases List.mem_cons.1 hj with e | hj
 ·rw [e, h] at hr; cases hr
 ·exact hs j hj hr
theorem Steps.cons (i : Nat) {o : Oper} {n : Nat} {done : Array Bool} {a : Act} {w : World} {L : List Nat} (ho : ops[i]? = some o)
  (h : ∀ K : Act → World → Prop, Shut (∀ a w, ((done.setIfInBounds i true).getD t false = false → S w) → Till P md ops Q S t n (done.setIfInBounds i true) a w → K a w) → if Region.wanted o (yielded ops a.tmps) = true then Oper.wp P o a w K Q else K (a.put o.dst undef) w)
  (hs : Steps P md ops Q S t n done a w L) : Steps P md ops Q S t n done a w (i :: L) := fun j hj hr => by
 rcases List.mem_cons.1 hj with e | hj
 ·rw [e]
  exact wpOp_step ho (fun K hK => h K (fun a w h1 h2 => hK a w ⟨h1, h2⟩))
 ·exact hs j hj hr
theorem Till.over (L : List Nat) {n : Nat} {done : Array Bool} {a : Act} {w : World} (hne : (Region.ready md ops done).isEmpty = false) (hL : ((Region.ready md ops done).all fun i => L.contains i) = true)
  (h : Steps P md ops Q S t n done a w L) : Till P md ops Q S t (n + 1) done a w := by
 refine ⟨fun h0 => (by rw [h0] at hne; cases hne), fun i hi => ?_⟩
 have h1 := List.all_eq_true.1 hL i hi
 exact h i (by simpa using h1) (by simpa using hi)
theorem Till.done {done : Array Bool} {a : Act} {w : World} (hr : Region.ready md ops done = []) (h : Q .normal a w) : ∀ n, Till P md ops Q S t n done a w
 | 0 => ⟨hr, h⟩
 | _ + 1 => ⟨fun _ => h, by rw [hr]; simp⟩
theorem wp_region_till {id : Nat} {a : Act} {w : World} (t : Nat) (hm : P.follows .mixedOrders = true) (hS : S w.drew) (h : S w.drew → Till P .any ops Q S t ops.size (Array.replicate ops.size false) a w.drew) : (Code.region id ops true).wp P Q a w :=
 wp_region_any hm (Till.any _ _ _ _ (h hS))
end
end
end Go.Proofs.YthneiolcljnbeaaGreatDoor
