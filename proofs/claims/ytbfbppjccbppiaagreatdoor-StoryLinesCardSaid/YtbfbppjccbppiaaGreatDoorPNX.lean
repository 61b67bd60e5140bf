/- Contract: prover.none. -/
import Derived.Test.YtbfbppjccbppiaaGreatDoorzPX
import Derived.Test.YtbfbppjccbppiaaGreatDoorzGW
import Derived.Test.YtbfbppjccbppiaaGreatDoorN13
import Derived.Test.YtbfbppjccbppiaaGreatDoorzA4
import Derived.Test.YtbfbppjccbppiaaGreatDoorzA8
import Derived.BigRegion
import Derived.Deep.DeepMust
namespace Go.Proofs.YtbfbppjccbppiaaGreatDoor
open Go Go.RowKit

def NonePost (ns : List Nat) (bp : Nat) (uv fv rv : Value) (n d : Nat) (w : World) (e : Ending) (w' : World) : Prop :=
 ∃ (r : Int) (rv' : Value) (R' : List Row) (xs' : List Value), e = .returned (.int .i64 r) ∧ -1 ≤ r ∧ r < R'.length ∧ PBox w' bp uv fv rv' ∧ OwnG (qs4 ns) 49 w' bp rv' R' xs' ∧ PFrame bp rv w w' rv' ∧ n ≤ R'.length ∧ R'.length ≤ capR n d ∧ IdxR R'
structure PSt (ns : List Nat) (bp : Nat) (uv fv rv0 : Value) (w0 : World) (w : World) (rv : Value) (R : List Row) (xs : List Value) : Prop where
 box : PBox w bp uv fv rv
 own : OwnG (qs4 ns) 49 w bp rv R xs
 fr : PFrame bp rv0 w0 w rv
 lt : bp < w.heap.size
 idx : IdxR R
theorem PBox.free {w : World} {bp : Nat} {uv fv rv : Value} (h : PBox w bp uv fv rv) (o : Nat) : w.frozen? ⟨bp, o, none⟩ = false := frozen_of_row w bp o _ _ h
section
variable {ns : List Nat} {bp : Nat} {uv fv rv0 rv v4 : Value} {w0 w w1 w3 w4 : World} {R : List Row} {xs cs : List Value} {r : Row}
theorem PSt.later (h : PSt ns bp uv fv rv0 w0 w rv R xs) (hb : Below w.heap.size w w1) : PSt ns bp uv fv rv0 w0 w1 rv R xs :=
 ⟨h.box.keep (hb.block bp h.lt), h.own.later hb, h.fr.trans (.of_below hb (Nat.le_of_lt h.lt) rv), Nat.lt_of_lt_of_le h.lt hb.size, h.idx⟩
theorem PSt.ne (h : PSt ns bp uv fv rv0 w0 w rv R xs) : rv.ownBlock ≠ some bp := fun e => by have := (h.own.own.lt bp e).1; omega
theorem PSt.grown (h : PSt ns bp uv fv rv0 w0 w rv R xs) (hb : Below w.heap.size w w3) (hg : w3.grownBy w4 rv.ownBlock) : PBox w4 bp uv fv rv :=
 ((h.box.keep (hb.block bp h.lt)).keep (hg.block bp (Nat.lt_of_lt_of_le h.lt hb.size) (fun e => h.ne e.symm)))
theorem PSt.push (h : PSt ns bp uv fv rv0 w0 w rv R xs) (hb : Below w.heap.size w w3) (hl : cs.length = 5) (hx : (qs4 ns).rd w (CF bp rv w) cs r)
  (hown : w4.ownsRow (bp + 1) 49 5 v4 (R.length + 1) (xs ++ cs)) (hg : w3.grownBy w4 rv.ownBlock) (hn : v4.ownBlock = rv.ownBlock ∨ v4.ownBlock = some w3.heap.size) (hix : r.kind = 5 → (0 ≤ r.a ∧ r.a < R.length) ∧ 0 ≤ r.b ∧ r.b < R.length) :
  PSt ns bp uv fv rv0 w0 (w4.setCell ⟨bp, 2, none⟩ v4) v4 (R ++ [r]) (xs ++ cs) := by
 have h3 := h.later hb
 have hx3 : (qs4 ns).rd w3 (fun b => b ≠ bp ∧ b < w3.heap.size ∧ rv.ownBlock ≠ some b) cs r := (qs4 ns).more (fun b hb' => ⟨hb'.1, Nat.lt_of_lt_of_le hb'.2.1 hb.size, hb'.2.2⟩) ((qs4 ns).keep (fun b hb' => hb.block b hb'.2.1) hx)
 have h4 := OwnG.snoc (t := qs4 ns) h3.own hl hx3 hown hg hn
 have hbp : bp ≤ w3.heap.size := Nat.le_of_lt h3.lt
 refine ⟨(h.grown hb hg).set, h4.setBox rfl _, (h3.fr.trans (.grown hg hbp (fun k hk => (h3.own.own.lt k hk).1) hn)).trans (.setBox (p := ⟨bp, 2, none⟩) _ _ rfl _), ?_, h.idx.snoc hix⟩
 have := hg.size
 have := h3.lt
 simp
 omega
theorem PSt.push_fr (h : PSt ns bp uv fv rv0 w0 w rv R xs) (hb : Below w.heap.size w w3) (hg : w3.grownBy w4 rv.ownBlock) (hn : v4.ownBlock = rv.ownBlock ∨ v4.ownBlock = some w3.heap.size) : PFrame bp rv w (w4.setCell ⟨bp, 2, none⟩ v4) v4 :=
 ((PFrame.of_below hb (Nat.le_of_lt h.lt) rv).trans (.grown hg (Nat.le_of_lt (h.later hb).lt) (fun k hk => (h.own.own.lt k hk).1) hn)).trans (.setBox (p := ⟨bp, 2, none⟩) _ _ rfl _)
theorem PSt.out (h : PSt ns bp uv fv rv0 w0 w rv R xs) {n d : Nat} {q : Int} (h1 : -1 ≤ q) (h2 : q < R.length) (h3 : n ≤ R.length) (h4 : R.length ≤ capR n d) : NonePost ns bp uv fv rv0 n d w0 (.returned (.int .i64 q)) w :=
 ⟨q, rv, R, xs, rfl, h1, h2, h.box, h.own, h.fr, h3, h4, h.idx⟩
theorem zf3 {F : Nat → Prop} {v : Value} (h : SliceRd (qs4 ns) w F v R) {k : Nat} (hk : k < R.length) : ∃ A cap g o tv, v = .slice A R.length cap ∧ A = some ⟨g, o, none⟩ ∧ F g ∧ w.cell? ⟨g, o + k * 5, none⟩ = some (.int .i64 R[k].kind) ∧ w.cell? ⟨g, o + k * 5 + 1, none⟩ = some (.int .i64 R[k].unit) ∧
  w.cell? ⟨g, o + k * 5 + 2, none⟩ = some (.int .i64 R[k].a) ∧ w.cell? ⟨g, o + k * 5 + 3, none⟩ = some (.int .i64 R[k].b) ∧ w.cell? ⟨g, o + k * 5 + 4, none⟩ = some tv ∧ (qs4 ns).rd w F [.int .i64 R[k].kind, .int .i64 R[k].unit, .int .i64 R[k].a, .int .i64 R[k].b, tv] R[k] := by
 obtain ⟨A, cap, hv, h1, h2, h3⟩ := h.shape
 obtain ⟨g, o, cs, hA, hF, hc, hcell, hr⟩ := h3 k hk
 obtain ⟨⟨tv, rfl, i0⟩, hr2⟩ := hr
 exact ⟨A, cap, g, o, tv, hv, hA, hF, hcell 0 (by show 0 < 5; omega), hcell 1 (by show 1 < 5; omega), hcell 2 (by show 2 < 5; omega), hcell 3 (by show 3 < 5; omega), hcell 4 (by show 4 < 5; omega), ⟨tv, rfl, i0⟩, hr2⟩
theorem zo6 {F : Nat → Prop} {a b c d tv : Value} (h : (qs4 ns).rd w F [a, b, c, d, tv] r) : ∃ A n cap, tv = .slice A n cap := by
 obtain ⟨⟨tv', h0, -, -, -, -, ht⟩, -⟩ := h
 obtain ⟨A, cap, hv, -⟩ := ht.terms
 injection h0 with _ h0
 injection h0 with _ h0
 injection h0 with _ h0
 injection h0 with _ h0
 injection h0 with h0 _
 exact ⟨A, _, cap, h0.trans hv⟩
theorem pre_snoc {c : List Int} (hc : PreOk ns c) {j : Int} (hu : c.length < ns.length) (h1 : -1 ≤ j) (h2 : j < ns[c.length]) : PreOk ns (c ++ [j]) := by
 refine ⟨by rw [List.length_append]; simp; omega, fun u hu' => ?_⟩
 rw [List.length_append, List.length_singleton] at hu'
 by_cases h : u < c.length
 ·have := hc.val u h
  rw [List.getD_eq_getElem?_getD, List.getElem?_append_left h, ← List.getD_eq_getElem?_getD]
  exact this
 ·obtain rfl : u = c.length := by omega
  rw [List.getD_eq_getElem?_getD, List.getElem?_append_right (Nat.le_refl _), Nat.sub_self, List.getD_eq_getElem?_getD (l := ns), List.getElem?_eq_getElem hu]
  exact ⟨h1, h2⟩
theorem own_cf (h : PSt ns bp uv fv rv0 w0 w rv R xs) {c : List Int} {e : TypeId} {v : Value} (ho : OwnF fInt e w.heap.size w1 v c) (_hb : Below w.heap.size w w1) : SliceRd tInt w1 (CF bp rv w1) v c :=
 qf8 (f := fInt) ho.1 ho.2 fun g hg => ⟨by have := (ho.lt g hg).1; have := h.lt; omega, (ho.lt g hg).2, fun e => by have := (ho.lt g hg).1; have := (h.own.own.lt g e).2; omega⟩
theorem join_canR {Ma Mb : Nat → Nat} (ha : IncOk ns Ma) (hb : IncOk ns Mb) (u : Int) : ∃ M, IncOk ns M ∧ (joinR ns Ma Mb u).getD [] = canon ns M := by
 have hf : IncOk ns (qb8 ns) ∧ ([] : List Term) = canon ns (qb8 ns) := ⟨full_ok, canon_full.symm⟩
 unfold joinR
 split
 ·exact ⟨_, hf⟩
 ·unfold zi1
  cases h : okN ns (qo2 Ma Mb u.toNat) with
  | false => exact ⟨_, hf⟩
  | true => exact ⟨_, join_ok ha hb h, rfl⟩
theorem cf_below (h : PSt ns bp uv fv rv0 w0 w rv R xs) {b : Nat} (hb : b < bp) : CF bp rv w b := ⟨by omega, by have := h.lt; omega, fun e => by have := (h.own.own.lt b e).1; omega⟩
end

set_option maxRecDepth 100000 in
set_option maxHeartbeats 4000000 in
theorem none_any (bp g cap0 : Nat) (fv : Value) (ns : List Nat) (fs : List Row) (ho : NsOk ns) (hl : fs.length ≤ 100000) (h5 : ∀ r ∈ fs, r.kind ≠ 5) : ∀ (d : Nat) (rv cv : Value) (R : List Row) (xs : List Value) (c : List Int) (w : World), c.length + d = ns.length → PBox w bp (.slice (some ⟨g, 0, none⟩) ns.length cap0) fv rv →
  qi7 w (Lt bp) (.agg #[.slice (some ⟨g, 0, none⟩) ns.length cap0]) ns → SliceRd (qs4 ns) w (Lt bp) fv fs → OwnG (qs4 ns) 49 w bp rv R xs → R.length ≤ 10000 → SliceRd tInt w (CF bp rv w) cv c → PreOk ns c → IdxR R →
  Calls Tryz.prog 44 #[.pointer (some ⟨bp, 0, none⟩), cv] w (NonePost ns bp (.slice (some ⟨g, 0, none⟩) ns.length cap0) fv rv R.length d w) := by
 intro d
 induction d using Nat.strongRecOn with
 | ind d ih =>
 intro rv cv R xs c w hcd hbox hU hf hown hRl hcv hc hidx
 obtain ⟨ir, hir⟩ := info_parts za3
 obtain ⟨ii, hii⟩ := info_parts ze9
 have HIR := hid hir
 have HII := hid hii
 have HIH := hid ih
 have HO := hid ho
 have HU := hid hU
 have HF := hid hf
 have HCV := hid hcv
 have HC := hid hc
 have HCD := hid hcd
 have HST : Hid (PSt ns bp (.slice (some ⟨g, 0, none⟩) ns.length cap0) fv rv w w rv R xs) := hid ⟨hbox, hown, .refl _ _ _, hbox.lt, hidx⟩
 have H5 := hid h5
 have hbp := hbox.lt
 have hclo := closed_any bp g cap0 fv rv cv ns fs c w hbox (hU.more fun _ h => Nat.lt_trans h hbp) ho (hf.more fun _ h => Nat.lt_trans h hbp) hl (cf_lt hcv) hc
 have HCLO := hid hclo
 obtain ⟨AC, capc, rfl, hcapc, hmaxc, -⟩ := hcv.ints
 have h11 := ho.hi
 clear hir hii ih ho hU hf hcv hc hcd hbox hclo hown h5 hidx
 go_enter Tryz.func44, Tryz.ntmps44
 go_wp2_with fail
 refine HCLO.out.mono ?_
 rintro e w1 ⟨r, rfl, hr1, hr2, hb1⟩
 have HB1 := hid hb1
 have HS1 := hid (HST.out.later hb1)
 obtain ⟨p0, p1, p2⟩ := HS1.out.box.cells
 have hbp1 := HS1.out.lt
 clear hb1 HCLO
 by_cases hr0 : 0 ≤ r
 ·obtain ⟨k, rfl⟩ : ∃ k : Nat, r = k := ⟨r.toNat, by omega⟩
  have hk : k < fs.length := by omega
  have HF1 := hid (HF.out.below (HB1.out.mono (Nat.le_of_lt hbp)))
  obtain ⟨AF, capf, gf, of_, tvf, rfl, rfl, hFf, f0, f1, f2, f3, f4, hrd⟩ := zf3 HF1.out hk
  obtain ⟨TF, tn, tc, rfl⟩ := zo6 hrd
  have HRD := hid ((qs4 ns).more (fun _ h => cf_below HS1.out h) hrd)
  obtain ⟨A, cap, hv⟩ := qb1 HS1.out.own.own
  subst hv
  have i2 : (↑k : Int) < ↑fs.length := by omega
  have i1 : (0 : Int) ≤ ↑k := by omega
  have HB10 := hid (b0 w1)
  have HK5 := hid (H5.out _ (List.getElem_mem hk))
  obtain ⟨fk, hfk⟩ : ∃ fk, fk = fs[k] := ⟨_, rfl⟩
  rw [← hfk] at f0 f1 f2 f3 HRD HK5
  clear hrd hfk hr1 hr2
  go_wp2_with fail
  go_region_law ((first
   | (refine qc9 (.tmp 21) (.tmp 29) 28 rfl ?_
      refine qa9 _ rfl (.tmp 21) (.tmp 29) 28 rfl (bp + 1) 49 ir _ 5 56 Tryz.underlying28 HIR.out.1 HIR.out.2.1 HIR.out.2.2.1 HIR.out.2.2.2 rfl (by omega) (.slice A R.length cap) R.length xs (by rfl) (by first | exact HS1.out.own.own.alloc _ | exact qe4 HS1.out.own.own _) _ 1 1 [.int .i64 fk.kind, .int .i64 fk.unit, .int .i64 fk.a, .int .i64 fk.b, .slice TF tn tc] (by rfl) (by first | exact qe1 _ _ (by simp) 5 _ rfl rfl | exact qh8 _ _ (by simp) 5 _ rfl rfl) (by simp [Value.oneCell']) (by unfold maxLen; omega) (by omega) (by simp; omega) ?_
      intro v4 w4 hown4 hg4 hat4
      have hbx4 := HS1.out.grown (by first | exact (qa0 HB10.out _).drew | exact qa0 HB10.out _ | exact qa0 HB10.out.drew _) hg4
      have fz4 := hbx4.free
      obtain ⟨-, -, c4⟩ := hbx4.cells
      obtain ⟨A4, cc4, rfl⟩ := qb1 hown4)))
  all_goals
   have hp4 := HS1.out.push (by first | exact (qa0 HB10.out _).drew | exact qa0 HB10.out _ | exact qa0 HB10.out.drew _) rfl HRD.out hown4 hg4 (by simpa using hat4) (fun h => absurd h HK5.out)
   have HP4 := hid hp4
   obtain ⟨-, -, d4⟩ := hp4.box.cells
   clear hp4 hown4 hat4 hg4 hbx4 c4 fz4
   go_wp2_with fail
   go_ret
   exact HP4.out.out (by simp <;> omega) (by simp; omega) (by simp) (by simp; exact capR_leaf _ _)
 ·have hrm : r = -1 := by omega
  subst hrm
  obtain ⟨A, cap, hv⟩ := qb1 HS1.out.own.own
  subst hv
  clear hr0 hr1 hr2
  by_cases hcn : c.length = ns.length
  ·have hcn' : ((c.length : Int) == (ns.length : Int)) = true := by rw [hcn]; exact beq_self_eq_true _
   clear hcn
   go_wp2_with fail
   go_ret
   exact HS1.out.out (by omega) (by omega) (Nat.le_refl _) (capR_self _ _)
  ·have hcn' : ((c.length : Int) == (ns.length : Int)) = false := by rw [beq_eq_false_iff_ne]; omega
   have hclt : c.length < ns.length := by have := HC.out.len; omega
   clear hcn
   by_cases hbig : 3000 < R.length
   ·have hbig' : (3000 : Int) < ↑R.length := by omega
    go_wp2_with fail
    go_ret
    exact HS1.out.out (by omega) (by omega) (Nat.le_refl _) (capR_self _ _)
   ·have hbig' : ¬ ((3000 : Int) < ↑R.length) := by omega
    obtain ⟨u, hu⟩ : ∃ u, c.length = u := ⟨_, rfl⟩
    have HUL := hid hu
    rw [hu] at hcn' hclt hcapc ⊢
    obtain ⟨Au, cu, hcu⟩ : ∃ A cu, w.cell? ⟨g, u * 3 + 2, none⟩ = some (.slice A ns[u] cu) := by
     obtain ⟨g', cap', hv, hFg, hcs⟩ := HU.out
     injection hv with hv
     have hv := congrArg (fun a : Array Value => a.toList) hv
     simp at hv
     obtain ⟨⟨rfl⟩, -⟩ := hv
     exact hcs u hclt
    have hgb : g < bp := by
     obtain ⟨g', cap', hv, hFg, hcs⟩ := HU.out
     injection hv with hv
     have hv := congrArg (fun a : Array Value => a.toList) hv
     simp at hv
     obtain ⟨⟨rfl⟩, -⟩ := hv
     exact hFg
    have h4 := HO.out.le u hclt
    obtain ⟨n, hn⟩ : ∃ n, ns[u] = n := ⟨_, rfl⟩
    have HN := hid hn
    rw [hn] at hcu h4
    have HCU := hid hcu
    have u1 : (0 : Int) ≤ ↑u := by omega
    have u2 : (↑u : Int) < ↑ns.length := by omega
    clear hu hn hcu
    go_wp2_with fail
    have hd1 : 1 ≤ d := by have := HCD.out; have := HUL.out; omega
    have hRs : R.length ≤ 3000 := by omega
    clear hbig hbig' hcn' p0 p1 p2
    go_loopw [7, 8] (fun nv iv wr => ∃ (j now : Int) (rv2 : Value) (R2 : List Row) (xs2 : List Value), -1 ≤ j ∧ j ≤ n ∧ nv = .int .i64 now ∧ iv = .int .i64 j ∧ -1 ≤ now ∧ now < R2.length ∧ Hid (PSt ns bp (.slice (some ⟨g, 0, none⟩) ns.length cap0) fv (.slice A R.length cap) w wr rv2 R2 xs2) ∧ R.length ≤ R2.length ∧ Hid (R2.length ≤ 3000 + 10 * (d - 1) + 2 * (j + 1).toNat)) (fun _ iv _ => n + 1 - (intOf iv + 1).toNat)
    case atStart => exact ⟨-1, -1, _, R, xs, by omega, by omega, rfl, rfl, by omega, by omega, HS1, Nat.le_refl _, hid (by omega)⟩
    case round =>
     clear HS1 HB1 HST
     obtain ⟨j, now, rv2, R2, xs2, hj1, hj2, rfl, rfl, hn1, hn2, hs, hle, hR2⟩ := hrel
     obtain ⟨p0, p1, p2⟩ := hs.out.box.cells
     have hbp2 := hs.out.lt
     have qu := cell_below hs.out.fr.below hgb HCU.out
     obtain ⟨A2, cap2, hv⟩ := qb1 hs.out.own.own
     subst hv
     by_cases hlt : j < n
     ·have HCV2 := hid (hs.out.fr.cf HCV.out)
      have HSRC := hid (show Src wr AC u 1 (fInt.all c) by have h := (SliceRd.srcF (f := fInt) HCV2.out).2.1; rw [HUL.out] at h; exact h)
      have HOKC := hid (show ∀ x ∈ c, fInt.ok x from (SliceRd.srcF (f := fInt) HCV2.out).2.2)
      have HIJ := hid (show I64 j from ⟨by omega, by omega⟩)
      have HJ := hid (show -1 ≤ j ∧ j < n from ⟨hj1, hlt⟩)
      have HNW := hid (show -1 ≤ now ∧ now < R2.length from ⟨hn1, hn2⟩)
      have tok := hid True.intro
      go_wp2_with (first
       | (at_builtin; clear tok; go_must (refine qa5 _ rfl (.const (.slice none 0 0)) (.tmp 72) _ rfl wr.heap.size 3 ii _ 1 8 Tryz.underlying22 HII.out.1 HII.out.2.1 HII.out.2.2.1 HII.out.2.2.2 rfl (by omega) (.slice none 0 0) 0 [] (by rfl) (own_noneF _ _ _ _) AC u capc (fInt.all c) (by rfl) HSRC.out (fInt.all_one c) (by unfold maxLen; omega) (by omega) (by simp) ?_; intro v3 w3 hown3 hg3 hat3; have HB3 := hid ((b0 wr).grown hg3 (Nat.le_refl _) (fun k h => by cases h)); simp only [Nat.zero_add, List.nil_append] at hown3; obtain ⟨A3, c3, rfl⟩ := qb1 hown3; have HO3 := hid hown3; clear hown3 hg3 hat3))
       | (at_builtin; go_must (refine qa5 _ rfl (.tmp 73) (.tmp 75) _ rfl wr.heap.size 3 ii _ 1 8 Tryz.underlying22 HII.out.1 HII.out.2.1 HII.out.2.2.1 HII.out.2.2.2 rfl (by omega) (.slice A3 u c3) u (fInt.all c) (by rfl) (HO3.out.alloc _) (some ⟨w3.heap.size, 0, none⟩) 1 1 (fInt.cells j) (by rfl) (by exact qm2 (f := fInt) rfl) (by simp [fInt, Value.oneCell']) (by unfold maxLen; omega) (by omega) (by have := HB3.out.size; simp; omega) ?_; intro v4 w4 hown4 hg4 hat4; have HB4 := hid ((HB3.out.alloc HB3.out.size _).grown hg4 (by have := HB3.out.size; simp; omega) (fun k h => (HO3.out.lt k h).1)); have HO4 := hid hown4; clear hown4 hg4 hat4)))
      have HS4 := hid (hs.out.later HB4.out)
      have HOI := hid (za0 (f := fInt) (x := j) HUL.out HOKC.out HIJ.out HO4.out)
      have HCI := hid (own_cf hs.out HOI.out HB4.out)
      have HPRE := hid (pre_snoc (j := j) HC.out (by rw [HUL.out]; exact hclt) HJ.out.1 (by have h := HJ.out.2; rw [← HN.out] at h; have e := HUL.out; subst e; exact h))
      refine (HIH.out (d - 1) (by omega) (.slice A2 R2.length cap2) v4 R2 xs2 (c ++ [j]) w4 (by have := HCD.out; rw [List.length_append]; simp; omega) HS4.out.box (HU.out.below HS4.out.fr.below) (HF.out.below HS4.out.fr.below) HS4.out.own (by have := hR2.out; have := HCD.out; have := HJ.out; omega) HCI.out HPRE.out HS4.out.idx).mono ?_
      rintro e w5 ⟨r5, rv5, R5, xs5, rfl, hr1, hr2, hbox5, hown5, hfr5, hle5, hcap5, hidx5⟩
      have HS5 : Hid (PSt ns bp (.slice (some ⟨g, 0, none⟩) ns.length cap0) fv (.slice A R.length cap) w w5 rv5 R5 xs5) := hid ⟨hbox5, hown5, HS4.out.fr.trans hfr5, Nat.lt_of_lt_of_le HS4.out.lt hfr5.below.size, hidx5⟩
      have HR5 : Hid (R5.length ≤ 3000 + 10 * (d - 1) + 2 * (j + 1).toNat + 1) := hid (by
       unfold capR at hcap5
       have := hR2.out
       split at hcap5 <;> omega)
      have HLE : Hid (R.length ≤ R5.length) := hid (by omega)
      have HNW5 : Hid (-1 ≤ now ∧ now < R5.length) := hid ⟨HNW.out.1, by have := HNW.out.2; omega⟩
      have HCAP : Hid (R5.length ≤ capR R.length d) := hid (by have := HR5.out; unfold capR; rw [if_neg (by omega)]; omega)
      clear hbox5 hown5 hfr5 hle5 hcap5 hidx5 HS4 HOI HCI HPRE HO4 HB4 HO3 HB3 HSRC HOKC HCV2 p0 p1 p2 qu hs hle hn1 hn2
      by_cases hneg : r5 < 0
      ·go_wp2_with fail
       go_ret
       exact HS5.out.out (by omega) (by omega) HLE.out HCAP.out
      ·obtain ⟨x, rfl⟩ : ∃ x : Nat, r5 = x := ⟨r5.toNat, by omega⟩
       have hx5 : x < R5.length := by omega
       obtain ⟨p0, p1, p2⟩ := HS5.out.box.cells
       have hbp5 := HS5.out.lt
       obtain ⟨A5, cap5, g5, o5, tv5, hve, rfl, hg5, z0, z1, z2, z3, z4, hrd5⟩ := zf3 HS5.out.own.rd hx5
       subst hve
       obtain ⟨⟨tvx, hcs5, -, -, -, -, htv5⟩, ⟨⟨M5, hM5, hT5⟩, -⟩⟩ := hrd5
       obtain rfl : tv5 = tvx := by injection hcs5 with _ h; injection h with _ h; injection h with _ h; injection h with _ h; injection h
       rw [hT5] at htv5
       have HTV5 := hid htv5
       have HM5 := hid hM5
       have HU5 := hid (HU.out.below HS5.out.fr.below)
       have hi1 : (0 : Int) ≤ ↑x := by omega
       have hi2 : (↑x : Int) < ↑R5.length := by omega
       have HMA := hid (fun e : Later w5 => qn6 (.agg #[.slice (some ⟨g, 0, none⟩) ns.length cap0]) tv5 ns (canon ns M5) u e.w (qn9 (HU5.out.more fun _ h => Nat.lt_trans h hbp5) e) HO.out (HTV5.out.lift e.below e.below.size) ⟨by omega, by omega⟩)
       have HFA := hid (fun e : Later w5 => qj8 (.agg #[.slice (some ⟨g, 0, none⟩) ns.length cap0]) ns u e.w _ (qn9 (HU5.out.more fun _ h => Nat.lt_trans h hbp5) e) HO.out ⟨by omega, by omega⟩ (fun _ h => h))
       generalize qk3 ns (canon ns M5) u = mk at HMA
       generalize qj5 ns u = fu at HFA
       have l0 := qa2 hbp5 p0
       have l2 := qa2 hbp5 p2
       have l4 := qa2 hg5 z4
       clear hcs5 htv5 hM5 hT5 z0 z1 z2 z3 hneg hr1 hr2 p1
       obtain ⟨ANY, hany⟩ : ∃ b, (mk == fu) = b := ⟨_, rfl⟩
       cases ANY with
       | true =>
        go_wp2_with fail
        (refine qa3 (by kernel_rfl) (by kernel_rfl) ?_; (repeat (go_big_quiet_step ((first | (go_at_call 87; exact Calls.later (HMA.out _) rfl) | (go_at_call 22; exact Calls.later (HFA.out _) rfl))))); refine wpQuiet_nil ?_; rintro _ ⟨e1, rfl⟩)
        have HS6 := hid (HS5.out.later e1.below)
        clear l0 l2 l4
        go_wp2_with fail
        go_ret
        exact HS6.out.out (by omega) (by omega) HLE.out HCAP.out
       | false =>
        go_wp2_with fail
        (refine qa3 (by kernel_rfl) (by kernel_rfl) ?_; (repeat (go_big_quiet_step ((first | (go_at_call 87; exact Calls.later (HMA.out _) rfl) | (go_at_call 22; exact Calls.later (HFA.out _) rfl))))); refine wpQuiet_nil ?_; rintro _ ⟨e1, rfl⟩)
        obtain ⟨w6, hw6⟩ : ∃ w6 : World, w6 = e1.w := ⟨_, rfl⟩
        have HB6 := hid (show Below w5.heap.size w5 w6 from hw6 ▸ e1.below)
        have HS6 := hid (HS5.out.later HB6.out)
        rw [← hw6]
        clear hw6 l0 l2 l4 HMA HFA hany
        obtain ⟨q0, q1, q2⟩ := HS6.out.box.cells
        have hbp6 := HS6.out.lt
        by_cases hnow : now < 0
        ·go_wp2_with fail
         exact ⟨⟨j + 1, x, _, R5, xs5, by omega, by omega, rfl, rfl, by omega, by omega, HS6, HLE.out, hid (by have := HR5.out; have := HJ.out; omega)⟩, by simp only [intOf]; have := HJ.out; omega⟩
        ·obtain ⟨y, rfl⟩ : ∃ y : Nat, now = y := ⟨now.toNat, by omega⟩
         have hy5 : y < R5.length := by have := HNW5.out; omega
         have hy1 : (0 : Int) ≤ ↑y := by omega
         have hy2 : (↑y : Int) < ↑R5.length := by omega
         obtain ⟨A5', cap5', g5', o5', tvy, hve, hga, -, -, -, -, -, zy, hrdy⟩ := zf3 HS5.out.own.rd hy5
         injection hve with hv1 _ hv3
         subst hv3
         rw [hga] at hv1
         injection hv1 with hv1
         injection hv1 with hv1 hv2 _
         subst hv1 hv2
         clear hga
         obtain ⟨⟨tvx, hcs5, -, -, -, -, htv5⟩, ⟨⟨My, hMy, hTy⟩, -⟩⟩ := hrdy
         obtain rfl : tvy = tvx := by injection hcs5 with _ h; injection h with _ h; injection h with _ h; injection h with _ h; injection h
         rw [hTy] at htv5
         have s4 := cell_below HB6.out hg5 z4
         have sy := cell_below HB6.out hg5 zy
         have HJO := hid (fun (W : World) (hb : Below w6.heap.size w6 W) => rjoin_new (.agg #[.slice (some ⟨g, 0, none⟩) ns.length cap0]) tvy tv5 ns My M5 u W (qc0 (HU5.out.more fun _ h => Nat.lt_trans h hbp5) (qa1 HB6.out hb)) HO.out (htv5.lift (qa1 HB6.out hb) (qa1 HB6.out hb).size) (HTV5.out.lift (qa1 HB6.out hb) (qa1 HB6.out hb).size) hMy HM5.out)
         have HJC := hid (join_canR (u := (u : Int)) hMy HM5.out)
         generalize joinR ns My M5 (u : Int) = jr at HJO HJC
         clear hcs5 htv5 hMy hTy zy z4 p0 p2 q1 hnow
         go_wp2_with fail
         go_region_held3 (fun w' => w'.cell? ⟨bp, 0, none⟩ = some (.slice (some ⟨g, 0, none⟩) ns.length cap0) ∧ w'.cell? ⟨bp, 2, none⟩ = some (.slice (some ⟨g5, o5, none⟩) R5.length cap5) ∧ w'.cell? ⟨g5, o5 + x * 5 + 4, none⟩ = some tv5 ∧ w'.cell? ⟨g5, o5 + y * 5 + 4, none⟩ = some tvy) (first | exact ⟨by assumption, by assumption, by assumption, by assumption⟩ | go_keep) (first | (go_at_call 88; refine (HJO.out _ (b0 w6).drew).mono ?_; rintro e w7 ⟨sv, rfl, hsv, hb7⟩; obtain ⟨As, cs7, hse, -⟩ := hsv.terms; generalize (jr.getD []).length = ln at hse; subst hse; have HB7 := hid ((b0 w6).drew.trans (hb7.mono (Nat.le_refl _))); have HSV := hid hsv; have f0 := cell_below HB7.out hbp6 q0; have f1 := cell_below HB7.out hbp6 q2; have f2 := cell_below HB7.out (Nat.lt_of_lt_of_le hg5 HB6.out.size) s4; have f3 := cell_below HB7.out (Nat.lt_of_lt_of_le hg5 HB6.out.size) sy; clear hsv hb7))
         have HS7 := hid (HS6.out.later HB7.out)
         have HB70 := hid (qa1 HB6.out HB7.out)
         obtain ⟨MJ, hMJ, hTJ⟩ := HJC.out
         have hsv : SliceRd qg1 w7 (CF bp (.slice (some ⟨g5, o5, none⟩) R5.length cap5) w7) (.slice As ln cs7) (canon ns MJ) := by
          rw [← hTJ]
          exact HSV.out.more fun b hb => ⟨by have h1 : w6.heap.size ≤ b := hb.1; have := HS6.out.lt; omega, hb.2, fun e => by have := (HS6.out.own.own.lt b e).2; have h1 : w6.heap.size ≤ b := hb.1; omega⟩
         have HSVC := hid hsv
         have hln : ln = (canon ns MJ).length := by
          obtain ⟨A9, c9, h9, -⟩ := hsv.terms
          injection h9
         have hrow : (qs4 ns).rd w7 (CF bp (.slice (some ⟨g5, o5, none⟩) R5.length cap5) w7) [.int .i64 5, .int .i64 u, .int .i64 y, .int .i64 x, .slice As ln cs7] (⟨5, u, y, x, canon ns MJ⟩ : Row) :=
          ⟨⟨_, rfl, ⟨by show (-9223372036854775808 : Int) ≤ 5; decide, by show (5 : Int) ≤ 9223372036854775807; decide⟩, ⟨by show (-9223372036854775808 : Int) ≤ u; omega, by show (u : Int) ≤ 9223372036854775807; omega⟩, ⟨by show (-9223372036854775808 : Int) ≤ y; omega, by show (y : Int) ≤ 9223372036854775807; have := HR5.out; have := HJ.out; have := HCD.out; omega⟩, ⟨by show (-9223372036854775808 : Int) ≤ x; omega, by show (x : Int) ≤ 9223372036854775807; have := HR5.out; have := HJ.out; have := HCD.out; omega⟩, hsv⟩, ⟨MJ, hMJ, rfl⟩, ⟨by show (1 : Int) ≤ 5; decide, by show (5 : Int) ≤ 5; decide⟩, ⟨by show (0 : Int) ≤ u; omega, by show (u : Int) < ns.length; exact u2⟩, fun h => absurd rfl h, fun h => absurd h (by show ¬ (5 : Int) = 1; decide)⟩
         have HROW := hid hrow
         have HMJ := hid hMJ
         have hR5b : R5.length ≤ 20000 := by have := HR5.out; have := HJ.out; have := HCD.out; omega
         obtain ⟨t0, t1, t2⟩ := HS7.out.box.cells
         have hbp7 := HS7.out.lt
         clear hsv hln hrow hMJ hTJ f0 f1 f2 f3 q0 q2 s4 sy HJO HJC HSV t1 t0
         go_wp2_with (at_builtin; go_must (refine qa5 _ rfl (.tmp 134) (.tmp 140) _ rfl (bp + 1) 49 ir _ 5 56 Tryz.underlying28 HIR.out.1 HIR.out.2.1 HIR.out.2.2.1 HIR.out.2.2.2 rfl (by omega) (.slice (some ⟨g5, o5, none⟩) R5.length cap5) R5.length xs5 (by rfl) (HS7.out.own.own.alloc _) (some ⟨w7.heap.size, 0, none⟩) 1 1 [.int .i64 5, .int .i64 u, .int .i64 y, .int .i64 x, .slice As ln cs7] (by rfl) (by exact qe1 _ _ rfl 5 _ rfl rfl) (by simp [Value.oneCell']) (by unfold maxLen; omega) (by omega) (by simp; omega) ?_; intro v8 w8 hown8 hg8 hat8; have hbx8 := HS7.out.grown (qa0 (b0 w7) _) hg8; have fz8 := hbx8.free; obtain ⟨-, -, c8⟩ := hbx8.cells; obtain ⟨A8, cc8, rfl⟩ := qb1 hown8))
         have hp8 := HS7.out.push (qa0 (b0 w7) _) rfl HROW.out hown8 hg8 (by simpa using hat8) (fun _ => ⟨⟨by show (0 : Int) ≤ y; omega, by show (y : Int) < R5.length; omega⟩, by show (0 : Int) ≤ x; omega, by show (x : Int) < R5.length; omega⟩)
         obtain ⟨w9, hw9⟩ : ∃ w9 : World, w9 = w8.setCell ⟨bp, 2, none⟩ (.slice A8 (R5.length + 1) cc8) := ⟨_, rfl⟩
         rw [← hw9] at hp8 ⊢
         have HP8 := hid hp8
         obtain ⟨t0, -, t2⟩ := hp8.box.cells
         have hbp9 := hp8.lt
         have HSVL9 : Hid (SliceRd qg1 w9 (Lt w9.heap.size) (.slice As ln cs7) (canon ns MJ)) := hid (by rw [hw9]; exact cf_lt ((HS7.out.push_fr (qa0 (b0 w7) _) hg8 (by simpa using hat8)).cf HSVC.out))
         have hl8 : (R5 ++ [(⟨5, u, y, x, canon ns MJ⟩ : Row)]).length = R5.length + 1 := by simp
         have HL8 := hid hl8
         have HU9 := hid (HU.out.below hp8.fr.below)
         have HMA := hid (fun e : Later w9 => qn6 (.agg #[.slice (some ⟨g, 0, none⟩) ns.length cap0]) (.slice As ln cs7) ns (canon ns MJ) u e.w (qn9 (HU9.out.more fun _ h => Nat.lt_trans h hbp9) e) HO.out (HSVL9.out.lift e.below e.below.size) ⟨by omega, by omega⟩)
         have HFA := hid (fun e : Later w9 => qj8 (.agg #[.slice (some ⟨g, 0, none⟩) ns.length cap0]) ns u e.w _ (qn9 (HU9.out.more fun _ h => Nat.lt_trans h hbp9) e) HO.out ⟨by omega, by omega⟩ (fun _ h => h))
         generalize qk3 ns (canon ns MJ) u = mk9 at HMA
         generalize qj5 ns u = fu9 at HFA
         have l0 := qa2 hbp9 t0
         clear hp8 hown8 hg8 hat8 hbx8 c8 fz8 hw9 t0 t2 hl8
         rcases Bool.eq_false_or_eq_true (mk9 == fu9) with hany | hany
         ·(refine qa3 (by kernel_rfl) (by kernel_rfl) ?_; (repeat (go_big_quiet_step ((first | (go_at_call 87; exact Calls.later (HMA.out _) rfl) | (go_at_call 22; exact Calls.later (HFA.out _) rfl))))); refine wpQuiet_nil ?_; rintro _ ⟨e1, rfl⟩)
          have HS10 := hid (HP8.out.later e1.below)
          clear l0
          go_wp2_with fail
          go_ret
          exact HS10.out.out (by omega) (by rw [HL8.out]; omega) (by rw [HL8.out]; have := HLE.out; omega) (by rw [HL8.out]; have := HR5.out; have := HJ.out; unfold capR; rw [if_neg (by omega)]; omega)
         ·(refine qa3 (by kernel_rfl) (by kernel_rfl) ?_; (repeat (go_big_quiet_step ((first | (go_at_call 87; exact Calls.later (HMA.out _) rfl) | (go_at_call 22; exact Calls.later (HFA.out _) rfl))))); refine wpQuiet_nil ?_; rintro _ ⟨e1, rfl⟩)
          have HS10 := hid (HP8.out.later e1.below)
          clear l0
          go_wp2_with fail
          exact ⟨⟨j + 1, R5.length, _, _, _, by omega, by omega, rfl, rfl, by omega, by rw [HL8.out]; omega, HS10, by rw [HL8.out]; have := HLE.out; omega, hid (by rw [HL8.out]; have := HR5.out; have := HJ.out; omega)⟩, by simp only [intOf]; have := HJ.out; omega⟩
     ·go_wp2_with fail
      go_ret
      exact hs.out.out hn1 hn2 hle (by have := hR2.out; unfold capR; rw [if_neg (by omega)]; omega)
end Go.Proofs.YtbfbppjccbppiaaGreatDoor
