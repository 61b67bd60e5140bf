import Derived.Test.YthneiolcljnbeaaGreatDoorzZ5
import Derived.BigRegion
import Derived.Outline
import Derived.Test.YthneiolcljnbeaaGreatDoorzA0
import Derived.Test.YthneiolcljnbeaaGreatDoorzN4
import Derived.Deep.RegionWith
import Derived.Test.YthneiolcljnbeaaGreatDoorRows
import Derived.Test.YthneiolcljnbeaaGreatDoorzMem
import Derived.Laws.StructEq
import Derived.Deep.RegionHeld3
import Derived.Deep.DeepCutAuto
import Derived.Deep.DrawnRows
namespace Go.Proofs.YthneiolcljnbeaaGreatDoor
open Go Go.RowKit
section
theorem ok_wants {us : List UnitW} (ho : UnitsOk us) {u p : Nat} (hu : u < us.length) (hp : p < us[u].cands.length) : (us[u].cands[p].needs.length ≤ 8 ∧ ∀ l ∈ us[u].cands[p].needs, WantsIn us.length l) ∧ WantsIn us.length us[u].cands[p].bars := by
 have h := ho.cands _ (List.getElem_mem hu) _ (List.getElem_mem hp)
 exact ⟨⟨h.1, fun l hl => ⟨Nat.le_trans (h.2.1 l hl).1 (by decide), fun x hx => ⟨((h.2.1 l hl).2 x hx).1, ((h.2.1 l hl).2 x hx).2.1⟩⟩⟩, Nat.le_trans h.2.2.1 (by decide), fun x hx => ⟨(h.2.2.2 x hx).1, (h.2.2.2 x hx).2.1⟩⟩
set_option maxRecDepth 100000 in
set_option maxHeartbeats 4000000 in
theorem broken3_any (us : List UnitW) (M : Nat → Nat) (u p g cap0 : Nat) (At : Option Addr) (n3 ct : Nat) (w : World) (h : RowCand us (.agg #[.slice (some ⟨g, 0, none⟩) us.length cap0]) (.slice At n3 ct) M p w) (hu : u < us.length) (hp : p < us[u].cands.length) :
  Calls Tryz.prog 27 #[.agg #[.slice (some ⟨g, 0, none⟩) us.length cap0], .agg #[.int .i64 3, .int .i64 u, .int .i64 0, .int .i64 0, .slice At n3 ct], .int .i64 p] w fun e w' => e = .returned (.bool (brokenN us true M u p us[u].cands[p])) ∧ Below w.heap.size w w' := by
 have HH := hid h
 have HWI := hid (ok_wants h.ok hu hp)
 have h11 : us.length ≤ 11 := by have := h.ok.ns.hi; simpa [nsOf] using this
 have h4 : us[u].cands.length ≤ 4 := by
  have := h.ok.ns.le u (by simpa [nsOf] using hu)
  simpa [nsOf] using this
 obtain ⟨g', cap0', hv, hg, hun⟩ := h.wd.opened
 injection hv with hv
 have hv2 := congrArg Array.toList hv
 simp only [List.cons.injEq, and_true] at hv2
 injection hv2 with e1 e2 e3
 injection e1 with e1
 injection e1 with e1
 subst e1 e3
 obtain ⟨Ac, cc, hcu, hcd⟩ := hun u hu
 obtain ⟨gc, oc, nv, bv, hAc, hFc, hat, hvB, hnd, hbr⟩ := hcd p hp
 subst hAc
 obtain ⟨cd, hcdd⟩ : ∃ cd, us[u].cands[p] = cd := ⟨_, rfl⟩
 rw [hcdd] at hat hnd hbr HWI ⊢
 obtain ⟨c0, c1, c2, c3, c4, c5, c6, c7⟩ := hat
 have HND := hid hnd
 have HBR := hid hbr
 obtain ⟨An, cn, rfl, hcn, hcnm, hnl⟩ := hnd.lists
 obtain ⟨Ab, cb, rfl, hcb, hcbm, hbl⟩ := hbr.wants
 have HNL := hid hnl
 obtain ⟨n, hn⟩ : ∃ n, us[u].cands.length = n := ⟨_, rfl⟩
 rw [hn] at hcu h4
 have hp' : p < n := by rw [← hn]; exact hp
 have hgl : g < w.heap.size := hg
 have hgcl : gc < w.heap.size := hFc
 have i0 : (0 : Int) ≤ ↑u := by omega
 have i1 : (↑u : Int) < ↑us.length := by omega
 have i2 : (0 : Int) ≤ ↑p := by omega
 have i3 : (↑p : Int) < ↑n := by omega
 have HBN : Hid (brokenN us true M u p cd = cd.bars.any (sureN us M u p)) := hid rfl
 clear h hun hcd hvB hnd hbr hnl hbl hcdd hn hp hv e2
 obtain ⟨nn, hnn⟩ : ∃ nn, cd.needs.length = nn := ⟨_, rfl⟩
 obtain ⟨nb, hnb⟩ : ∃ nb, cd.bars.length = nb := ⟨_, rfl⟩
 have HNN := hid hnn
 have HNB := hid hnb
 rw [hnn] at c6 HND
 rw [hnb] at c7 HBR
 clear hnn hnb hcn hcb
 go_enter Tryz.func27, Tryz.ntmps27
 go_wp2_with fail
 obtain ⟨w0, hw0⟩ : ∃ w0 : World, w0 = ((w.alloc (.cells #[.slice (some ⟨g, 0, none⟩) us.length cap0] 25)).alloc (.cells #[.int .i64 3, .int .i64 u, .int .i64 0, .int .i64 0, .slice At n3 ct] 32)).alloc (.cells #[.int .i64 p] 3) := ⟨_, rfl⟩
 have hb0 : Below w.heap.size w w0 := hw0 ▸ balloc (balloc (balloc (b0 w) _) _) _
 have hs0 : w0.heap.size = w.heap.size + 3 := by rw [hw0]; simp
 have q0 : w0.cell? ⟨w.heap.size, 0, none⟩ = some (.slice (some ⟨g, 0, none⟩) us.length cap0) := by rw [hw0]; exact cell_below (balloc (b0 _) _) (by simp only [World.size_alloc]; omega) (alloc2_old rfl)
 have r0 : w0.cell? ⟨w.heap.size + 1, 0, none⟩ = some (.int .i64 3) := by rw [hw0]; exact cell_below (balloc (b0 _) _) (by simp only [World.size_alloc]; omega) (alloc2_new rfl)
 have r1 : w0.cell? ⟨w.heap.size + 1, 1, none⟩ = some (.int .i64 u) := by rw [hw0]; exact cell_below (balloc (b0 _) _) (by simp only [World.size_alloc]; omega) (alloc2_new rfl)
 have r2 : w0.cell? ⟨w.heap.size + 1, 2, none⟩ = some (.int .i64 0) := by rw [hw0]; exact cell_below (balloc (b0 _) _) (by simp only [World.size_alloc]; omega) (alloc2_new rfl)
 have r3 : w0.cell? ⟨w.heap.size + 1, 3, none⟩ = some (.int .i64 0) := by rw [hw0]; exact cell_below (balloc (b0 _) _) (by simp only [World.size_alloc]; omega) (alloc2_new rfl)
 have r4 : w0.cell? ⟨w.heap.size + 1, 4, none⟩ = some (.slice At n3 ct) := by rw [hw0]; exact cell_below (balloc (b0 _) _) (by simp only [World.size_alloc]; omega) (alloc2_new rfl)
 have p0 : w0.cell? ⟨w.heap.size + 1 + 1, 0, none⟩ = some (.int .i64 p) := by rw [hw0]; exact alloc3_new rfl
 have HB0 := hid hb0
 have HT0 : Hid (Trio g cap0 us.length (.slice At n3 ct) 3 u p w.heap.size (w.heap.size + 1) (w.heap.size + 1 + 1) w0) := hid ⟨by omega, by omega, by omega, q0, r0, r1, r2, r3, r4, p0⟩
 have z0 := cell_below hb0 hgl hcu
 have y0 := cell_below hb0 hgcl c0
 have y1 := cell_below hb0 hgcl c1
 have y2 := cell_below hb0 hgcl c2
 have y3 := cell_below hb0 hgcl c3
 have y4 := cell_below hb0 hgcl c4
 have y5 := cell_below hb0 hgcl c5
 have y6 := cell_below hb0 hgcl c6
 have y7 := cell_below hb0 hgcl c7
 have n0 : w.heap.size < w0.heap.size := by omega
 have n1 : w.heap.size + 1 < w0.heap.size := by omega
 have n2 : w.heap.size + 1 + 1 < w0.heap.size := by omega
 have n4 : g < w0.heap.size := by omega
 have n5 : gc < w0.heap.size := by omega
 have HS0 := hid hs0
 rw [← hw0]
 clear hw0 hb0 c0 c1 c2 c3 c4 c5 c6 c7 hcu hs0
 go_region
 obtain ⟨w1, hw1⟩ : ∃ w1 : World, w1 = (w0.alloc (.cells #[.int .i64 cd.v.major, .int .i64 cd.v.minor, .int .i64 cd.v.patch, .string cd.v.pre, .string cd.v.build, .int .i64 cd.sh, .slice An nn cn, .slice Ab nb cb] 55)).drew := ⟨_, rfl⟩
 have hb1 : Below w0.heap.size w0 w1 := hw1 ▸ bdrew (balloc (b0 w0) _)
 have k6 : w1.cell? ⟨w0.heap.size, 6, none⟩ = some (.slice An nn cn) := by rw [hw1]; exact (alloc_cell w0 _ _ 6).trans rfl
 have k7 : w1.cell? ⟨w0.heap.size, 7, none⟩ = some (.slice Ab nb cb) := by rw [hw1]; exact (alloc_cell w0 _ _ 7).trans rfl
 have k0 := cell_below hb1 n1 r0
 have HT1 := hid (HT0.out.later hb1)
 have HBW := hid (bstep HB0.out hb1)
 have HC1 := hid (HH.out.later HBW.out)
 rw [← hw1]
 clear hw1 hb1 z0 y0 y1 y2 y3 y4 y5 y6 y7 q0 r0 r1 r2 r3 r4 p0 n4 n5
 have HBR1 := hid (HBR.out.lift HBW.out HBW.out.size)
 have HCALL := hid (anyWant_any 56 (sureN us M u p) (enters_of (P := Tryz.prog) Tryz.func56 (by kernel_rfl) rfl) us M 3 u p g cap0 w.heap.size (w.heap.size + 1) (w.heap.size + 1 + 1) At n3 ct _ cd.bars w1 (fun a b x W h1 h2 => sureC_any a b us M 3 u p g cap0 w.heap.size (w.heap.size + 1) (w.heap.size + 1 + 1) At n3 ct x W h1 h2) HT1.out HC1.out HBR1.out HWI.out.2)
 unfold trioV at HCALL
 obtain ⟨bb, hbb⟩ : ∃ bb, cd.bars.any (sureN us M u p) = bb := ⟨_, rfl⟩
 rw [hbb] at HCALL HBN
 clear hbb
 go_wp2_with (go_at_call 55; refine HCALL.out.mono ?_; rintro e w2 ⟨rfl, hb2⟩)
 go_ret
 exact ⟨ret_bool HBN.out.symm, bstep HBW.out hb2⟩
set_option maxRecDepth 100000 in
set_option maxHeartbeats 4000000 in
theorem broken2_any (us : List UnitW) (M : Nat → Nat) (u p g cap0 : Nat) (At : Option Addr) (n3 ct : Nat) (w : World) (h : RowCand us (.agg #[.slice (some ⟨g, 0, none⟩) us.length cap0]) (.slice At n3 ct) M p w) (hu : u < us.length) (hp : p < us[u].cands.length) :
  Calls Tryz.prog 27 #[.agg #[.slice (some ⟨g, 0, none⟩) us.length cap0], .agg #[.int .i64 2, .int .i64 u, .int .i64 0, .int .i64 0, .slice At n3 ct], .int .i64 p] w fun e w' => e = .returned (.bool (brokenN us false M u p us[u].cands[p])) ∧ Below w.heap.size w w' := by
 have HH := hid h
 have HWI := hid (ok_wants h.ok hu hp)
 have h11 : us.length ≤ 11 := by have := h.ok.ns.hi; simpa [nsOf] using this
 have h4 : us[u].cands.length ≤ 4 := by
  have := h.ok.ns.le u (by simpa [nsOf] using hu)
  simpa [nsOf] using this
 obtain ⟨g', cap0', hv, hg, hun⟩ := h.wd.opened
 injection hv with hv
 have hv2 := congrArg Array.toList hv
 simp only [List.cons.injEq, and_true] at hv2
 injection hv2 with e1 e2 e3
 injection e1 with e1
 injection e1 with e1
 subst e1 e3
 obtain ⟨Ac, cc, hcu, hcd⟩ := hun u hu
 obtain ⟨gc, oc, nv, bv, hAc, hFc, hat, hvB, hnd, hbr⟩ := hcd p hp
 subst hAc
 obtain ⟨cd, hcdd⟩ : ∃ cd, us[u].cands[p] = cd := ⟨_, rfl⟩
 rw [hcdd] at hat hnd hbr HWI ⊢
 obtain ⟨c0, c1, c2, c3, c4, c5, c6, c7⟩ := hat
 have HND := hid hnd
 have HBR := hid hbr
 obtain ⟨An, cn, rfl, hcn, hcnm, hnl⟩ := hnd.lists
 obtain ⟨Ab, cb, rfl, hcb, hcbm, hbl⟩ := hbr.wants
 have HNL := hid hnl
 obtain ⟨n, hn⟩ : ∃ n, us[u].cands.length = n := ⟨_, rfl⟩
 rw [hn] at hcu h4
 have hp' : p < n := by rw [← hn]; exact hp
 have hgl : g < w.heap.size := hg
 have hgcl : gc < w.heap.size := hFc
 have i0 : (0 : Int) ≤ ↑u := by omega
 have i1 : (↑u : Int) < ↑us.length := by omega
 have i2 : (0 : Int) ≤ ↑p := by omega
 have i3 : (↑p : Int) < ↑n := by omega
 have HBN : Hid (brokenN us false M u p cd = cd.needs.any fun r => r.all (lostN us M u p)) := hid rfl
 clear h hun hcd hvB hnd hbr hnl hbl hcdd hn hp hv e2
 obtain ⟨nn, hnn⟩ : ∃ nn, cd.needs.length = nn := ⟨_, rfl⟩
 obtain ⟨nb, hnb⟩ : ∃ nb, cd.bars.length = nb := ⟨_, rfl⟩
 have HNN := hid hnn
 have HNB := hid hnb
 rw [hnn] at c6 HND
 rw [hnb] at c7 HBR
 clear hnn hnb hcn hcb
 go_enter Tryz.func27, Tryz.ntmps27
 go_wp2_with fail
 obtain ⟨w0, hw0⟩ : ∃ w0 : World, w0 = ((w.alloc (.cells #[.slice (some ⟨g, 0, none⟩) us.length cap0] 25)).alloc (.cells #[.int .i64 2, .int .i64 u, .int .i64 0, .int .i64 0, .slice At n3 ct] 32)).alloc (.cells #[.int .i64 p] 3) := ⟨_, rfl⟩
 have hb0 : Below w.heap.size w w0 := hw0 ▸ balloc (balloc (balloc (b0 w) _) _) _
 have hs0 : w0.heap.size = w.heap.size + 3 := by rw [hw0]; simp
 have q0 : w0.cell? ⟨w.heap.size, 0, none⟩ = some (.slice (some ⟨g, 0, none⟩) us.length cap0) := by rw [hw0]; exact cell_below (balloc (b0 _) _) (by simp only [World.size_alloc]; omega) (alloc2_old rfl)
 have r0 : w0.cell? ⟨w.heap.size + 1, 0, none⟩ = some (.int .i64 2) := by rw [hw0]; exact cell_below (balloc (b0 _) _) (by simp only [World.size_alloc]; omega) (alloc2_new rfl)
 have r1 : w0.cell? ⟨w.heap.size + 1, 1, none⟩ = some (.int .i64 u) := by rw [hw0]; exact cell_below (balloc (b0 _) _) (by simp only [World.size_alloc]; omega) (alloc2_new rfl)
 have r2 : w0.cell? ⟨w.heap.size + 1, 2, none⟩ = some (.int .i64 0) := by rw [hw0]; exact cell_below (balloc (b0 _) _) (by simp only [World.size_alloc]; omega) (alloc2_new rfl)
 have r3 : w0.cell? ⟨w.heap.size + 1, 3, none⟩ = some (.int .i64 0) := by rw [hw0]; exact cell_below (balloc (b0 _) _) (by simp only [World.size_alloc]; omega) (alloc2_new rfl)
 have r4 : w0.cell? ⟨w.heap.size + 1, 4, none⟩ = some (.slice At n3 ct) := by rw [hw0]; exact cell_below (balloc (b0 _) _) (by simp only [World.size_alloc]; omega) (alloc2_new rfl)
 have p0 : w0.cell? ⟨w.heap.size + 1 + 1, 0, none⟩ = some (.int .i64 p) := by rw [hw0]; exact alloc3_new rfl
 have HB0 := hid hb0
 have HT0 : Hid (Trio g cap0 us.length (.slice At n3 ct) 2 u p w.heap.size (w.heap.size + 1) (w.heap.size + 1 + 1) w0) := hid ⟨by omega, by omega, by omega, q0, r0, r1, r2, r3, r4, p0⟩
 have z0 := cell_below hb0 hgl hcu
 have y0 := cell_below hb0 hgcl c0
 have y1 := cell_below hb0 hgcl c1
 have y2 := cell_below hb0 hgcl c2
 have y3 := cell_below hb0 hgcl c3
 have y4 := cell_below hb0 hgcl c4
 have y5 := cell_below hb0 hgcl c5
 have y6 := cell_below hb0 hgcl c6
 have y7 := cell_below hb0 hgcl c7
 have n0 : w.heap.size < w0.heap.size := by omega
 have n1 : w.heap.size + 1 < w0.heap.size := by omega
 have n2 : w.heap.size + 1 + 1 < w0.heap.size := by omega
 have n4 : g < w0.heap.size := by omega
 have n5 : gc < w0.heap.size := by omega
 have HS0 := hid hs0
 rw [← hw0]
 clear hw0 hb0 c0 c1 c2 c3 c4 c5 c6 c7 hcu hs0
 go_region
 obtain ⟨w1, hw1⟩ : ∃ w1 : World, w1 = (w0.alloc (.cells #[.int .i64 cd.v.major, .int .i64 cd.v.minor, .int .i64 cd.v.patch, .string cd.v.pre, .string cd.v.build, .int .i64 cd.sh, .slice An nn cn, .slice Ab nb cb] 55)).drew := ⟨_, rfl⟩
 have hb1 : Below w0.heap.size w0 w1 := hw1 ▸ bdrew (balloc (b0 w0) _)
 have k6 : w1.cell? ⟨w0.heap.size, 6, none⟩ = some (.slice An nn cn) := by rw [hw1]; exact (alloc_cell w0 _ _ 6).trans rfl
 have k7 : w1.cell? ⟨w0.heap.size, 7, none⟩ = some (.slice Ab nb cb) := by rw [hw1]; exact (alloc_cell w0 _ _ 7).trans rfl
 have k0 := cell_below hb1 n1 r0
 have HT1 := hid (HT0.out.later hb1)
 have HBW := hid (bstep HB0.out hb1)
 have HC1 := hid (HH.out.later HBW.out)
 rw [← hw1]
 clear hw1 hb1 z0 y0 y1 y2 y3 y4 y5 y6 y7 q0 r0 r1 r2 r3 r4 p0 n4 n5
 have HND1 := hid (HND.out.lift HBW.out HBW.out.size)
 obtain ⟨An', cn', hAn, -, -, hnl1⟩ := HND1.out.lists
 injection hAn with e1 e2 e3
 subst e1 e3
 have hx : ∀ k, ∃ lv : Value, ∀ hk : k < cd.needs.length, ∃ g o, An = some ⟨g, o, none⟩ ∧ g < w1.heap.size ∧ w1.cell? ⟨g, o + k, none⟩ = some lv ∧ SliceRd tWant w1 (Lt w1.heap.size) lv cd.needs[k] := fun k => by
  by_cases hk : k < cd.needs.length
  ·obtain ⟨g, o, lv, h1, h2, h3, h4⟩ := hnl1 k hk
   exact ⟨lv, fun _ => ⟨g, o, h1, h2, h3, h4⟩⟩
  ·exact ⟨default, fun h => absurd h hk⟩
 obtain ⟨lv, hlv⟩ := Classical.axiomOfChoice hx
 have hcall := containsL_any An nn cn lv (fun k => (cd.needs[k]?.map fun r => r.all (lostN us M u p)).getD false) 59 (trioV w.heap.size (w.heap.size + 1) (w.heap.size + 1 + 1)) (enters_of (P := Tryz.prog) Tryz.func59 (by kernel_rfl) rfl) w1 (by have := HWI.out.1.1; have := HNN.out; omega) (fun k hk => by
  obtain ⟨g, o, h1, h2, h3, -⟩ := hlv k (by rw [HNN.out]; exact hk)
  exact ⟨g, o, h1, h2, h3⟩) (fun W k hk hb => by
  have hk2 : k < cd.needs.length := by rw [HNN.out]; exact hk
  obtain ⟨-, -, -, -, -, h4⟩ := hlv k hk2
  rw [List.getElem?_eq_getElem hk2]
  refine (needC_any us M 2 u p g cap0 w.heap.size (w.heap.size + 1) (w.heap.size + 1 + 1) At n3 ct (lv k) cd.needs[k] W (HT1.out.later hb) (HC1.out.later hb) (h4.lift hb hb.size) (HWI.out.1.2 _ (List.getElem_mem hk2))).mono ?_
  rintro e w' ⟨rfl, hb2⟩
  exact ⟨rfl, bstep hb hb2⟩)
 rw [← HNN.out, range_any cd.needs (fun r => r.all (lostN us M u p)) false, HNN.out] at hcall
 have HCALL := hid hcall
 unfold trioV at HCALL
 obtain ⟨bb, hbb⟩ : ∃ bb, (cd.needs.any fun r => r.all (lostN us M u p)) = bb := ⟨_, rfl⟩
 rw [hbb] at HCALL HBN
 clear hbb hcall hlv hx hnl1 e2
 go_wp2_with (go_at_call 58; refine HCALL.out.mono ?_; rintro e w2 ⟨rfl, hb2⟩)
 go_ret
 exact ⟨ret_bool HBN.out.symm, bstep HBW.out hb2⟩
end
section
theorem full_form {ns : List Nat} (ho : NsOk ns) (u : Int) : ∃ f : Nat, fullF ns u = (f : Int) ∧ f ≤ 31 ∧ ∀ m, m ≤ f → m &&& f = m := by
 by_cases h : 0 ≤ u
 ·refine ⟨fullN ns u.toNat, fullF_eq _ h, fullN_le ho _, fun m hm => ?_⟩
  by_cases h2 : u.toNat < ns.length
  ·exact full_and h2 hm
  ·rw [fullN_out h2] at hm ⊢
   have : m = 0 := by omega
   subst this; rfl
 ·refine ⟨0, fullF_neg u (by omega), by omega, fun m hm => ?_⟩
  have : m = 0 := by omega
  subst this; rfl
theorem nm_int (m : Int) (h : I64 m) : (0 ≤ m ∧ (nm m : Int) = m) ∨ (m < 0 ∧ 9223372036854775808 ≤ nm m) := by
 unfold nm
 rw [BitVec.toNat_ofInt]
 obtain ⟨h1, h2⟩ := h
 by_cases h0 : 0 ≤ m
 ·exact .inl ⟨h0, by omega⟩
 ·exact .inr ⟨by omega, by omega⟩
theorem andnot_may {m : Int} {f : Nat} (hm : I64 m) (hf : f ≤ 31) (hs : ∀ m, m ≤ f → m &&& f = m) : (bits .andNot .i64 m (f : Int) == 0) = decide (0 ≤ m ∧ m ≤ f) := by
 rw [bandn, nm_nat (by omega)]
 apply decide_eq_decide.2
 have h1 : nm m &&& f ≤ f := Nat.and_le_right
 constructor
 ·intro h
  rw [h] at h1
  rcases nm_int m hm with ⟨h2, h3⟩ | ⟨h2, h3⟩
  ·omega
  ·omega
 ·rintro ⟨h2, h3⟩
  rcases nm_int m hm with ⟨h4, h5⟩ | ⟨h4, h5⟩
  ·exact hs _ (by omega)
  ·omega
theorem mayT_parts {ns : List Nat} {u m : Int} {f : Nat} (hf : fullF ns u = (f : Int)) : mayT ns ⟨u, m⟩ = (decide (m ≠ 0) && (decide (0 ≤ m ∧ m ≤ f) && decide (m ≠ f))) := by
 unfold mayT
 dsimp only
 rw [hf, Bool.eq_iff_iff]
 simp only [Bool.and_eq_true, decide_eq_true_eq]
 omega
set_option maxHeartbeats 2000000 in
theorem tmayB_any (v : Value) (ns : List Nat) (t : Term) (w : World) (h : UniRd w (Lt w.heap.size) v ns) (ho : NsOk ns) (hi : I64 t.mask) :
  Calls Tryz.prog 51 #[v, .agg #[.int .i64 t.unit, .int .i64 t.mask]] w fun e w' => e = .returned (.bool (mayT ns t)) ∧ Below w.heap.size w w' := by
 obtain ⟨u, m⟩ := t
 dsimp only at hi ⊢
 obtain ⟨f, hf, hf31, hfs⟩ := full_form ho u
 have HR := hid (mayT_parts (m := m) hf)
 have hz := andnot_may hi hf31 hfs
 have HH := hid h
 obtain ⟨g, cap0, rfl, hg, -⟩ := h
 obtain ⟨w0, hw0⟩ : ∃ w0 : World, w0 = (w.alloc (.cells #[.slice (some ⟨g, 0, none⟩) ns.length cap0] 25)).alloc (.cells #[.int .i64 u, .int .i64 m] 69) := ⟨_, rfl⟩
 obtain ⟨hb0, hs0, q0, q1, q2⟩ := two_boxes hw0
 have HCALL := hid (full_any _ ns u w0 _ (uni_later HH.out hb0) ho (fun _ h => h))
 have HQ1 := hid q1
 have HQ2 := hid q2
 have HS0 := hid hs0
 have HB0 := hid hb0
 have HW0 := hid hw0
 rw [hf] at HCALL
 clear hw0 hb0 q0 q1 q2 hs0 ho hf hf31 hfs
 go_enter Tryz.func51, Tryz.ntmps51
 by_cases c1 : m = 0
 ·subst c1
  rw [decide_eq_false (fun h => h rfl), Bool.false_and] at HR
  go_wp2_with (go_at_call 47; rw [← HW0.out]; refine HCALL.out.mono ?_; rintro e w1 ⟨rfl, hb1⟩; have c1 := cell_below hb1 (by have := HS0.out; omega) HQ1.out; have c2 := cell_below hb1 (by have := HS0.out; omega) HQ2.out; have HB1 := hid hb1; clear hb1)
  go_ret
  exact ⟨ret_bool HR.out.symm, bstep HB0.out HB1.out⟩
 ·have n1 : (m == 0) = false := beq_false_of_ne c1
  have n3 : (m != 0) = true := bne_iff_ne.2 c1
  rw [decide_eq_true c1, Bool.true_and] at HR
  cases hq : decide (0 ≤ m ∧ m ≤ f) with
  | false =>
   rw [hq] at hz HR
   rw [Bool.false_and] at HR
   clear hq
   go_wp2_with (go_at_call 47; rw [← HW0.out]; refine HCALL.out.mono ?_; rintro e w1 ⟨rfl, hb1⟩; have c1 := cell_below hb1 (by have := HS0.out; omega) HQ1.out; have c2 := cell_below hb1 (by have := HS0.out; omega) HQ2.out; have HB1 := hid hb1; clear hb1)
   go_ret
   exact ⟨ret_bool HR.out.symm, bstep HB0.out HB1.out⟩
  | true =>
   rw [hq] at hz HR
   rw [Bool.true_and] at HR
   clear hq
   obtain ⟨b, hb⟩ : ∃ b, decide (m ≠ (f : Int)) = b := ⟨_, rfl⟩
   have n5 : (m != (f : Int)) = b := by rw [← hb, bne, Bool.eq_iff_iff]; simp
   rw [hb] at HR
   clear hb
   go_wp2_with (go_at_call 47; rw [← HW0.out]; refine HCALL.out.mono ?_; rintro e w1 ⟨rfl, hb1⟩; have c1 := cell_below hb1 (by have := HS0.out; omega) HQ1.out; have c2 := cell_below hb1 (by have := HS0.out; omega) HQ2.out; have HB1 := hid hb1; clear hb1)
   go_ret
   exact ⟨ret_bool HR.out.symm, bstep HB0.out HB1.out⟩
set_option maxRecDepth 100000 in
set_option maxHeartbeats 2000000 in
theorem incMayB_any (v lv : Value) (ns : List Nat) (l : List Term) (w : World) (h : UniRd w (Lt w.heap.size) v ns) (ho : NsOk ns) (hl : SliceRd tTerm w (Lt w.heap.size) lv l) :
  Calls Tryz.prog 22 #[v, lv] w fun e w' => e = .returned (.bool (mayL ns l)) ∧ Below w.heap.size w w' := by
 have HH := hid h
 have HO := hid ho
 obtain ⟨g, cap0, rfl, hg, -⟩ := h
 obtain ⟨A, cap, rfl, hcap, hmax, hcc⟩ := hl.terms
 unfold maxLen at hmax
 have HC := hid hcc
 clear hcc hl ho
 go_enter Tryz.func22, Tryz.ntmps22
 go_wp2_with fail
 obtain ⟨w0, hw0⟩ : ∃ w0 : World, w0 = w.alloc (.cells #[.slice (some ⟨g, 0, none⟩) ns.length cap0] 25) := ⟨_, rfl⟩
 have hb0 : Below w.heap.size w w0 := hw0 ▸ balloc (b0 w) _
 have hl0 : w.heap.size < w0.heap.size := by rw [hw0]; simp
 have q0 : w0.cell? ⟨w.heap.size, 0, none⟩ = some (.slice (some ⟨g, 0, none⟩) ns.length cap0) := by rw [hw0, alloc_cell]; rfl
 have HB0 := hid hb0
 have HQ := hid q0
 have HU0 := hid (uni_later HH.out hb0)
 rw [← hw0]
 clear hw0 hb0 q0
 go_loopw [5, 6, 9] (fun _ _ iv wr => ∃ k : Nat, k ≤ l.length ∧ iv = .int .i64 k ∧ Hid (Below w0.heap.size w0 wr) ∧ Hid (∀ j, j < k → okAt ns l j = true)) (fun _ _ iv _ => l.length - (intOf iv).toNat)
 case atStart => exact ⟨0, Nat.zero_le _, rfl, hid (b0 w0), hid (fun j hj => absurd hj (by omega))⟩
 case round =>
  obtain ⟨k, hk, rfl, hb, hall⟩ := hrel
  by_cases hlt : k < l.length
  ·obtain ⟨gg, o, hA, hF, g0, g1, hi0, hi1⟩ := HC.out k hlt
   subst hA
   have HKA := hid (okAt_lt (ns := ns) hlt)
   have HBAD := hid (fun (e : okAt ns l k = false) => mayL_bad hlt e)
   have HGO := hid (fun (e : okAt ns l k = true) j (hj : j < k + 1) => if e2 : j = k then e2 ▸ e else hall.out j (by omega))
   obtain ⟨t, ht⟩ : ∃ t, l[k] = t := ⟨_, rfl⟩
   rw [ht] at g0 g1 hi1 HKA
   obtain ⟨u, m⟩ := t
   dsimp only at g0 g1 hi1
   have c0 := cell_below hb.out (Nat.lt_of_lt_of_le hF HB0.out.size) (cell_below HB0.out hF g0)
   have c1 := cell_below hb.out (Nat.lt_of_lt_of_le hF HB0.out.size) (cell_below HB0.out hF g1)
   have i1 : (0 : Int) ≤ ↑k := by omega
   have i2 : (↑k : Int) < ↑l.length := by omega
   clear g0 g1 ht
   go_wp2_with fail
   obtain ⟨wb, hwb⟩ : ∃ wb : World, wb = wr.alloc (.cells #[.int .i64 u, .int .i64 m] 69) := ⟨_, rfl⟩
   have hbb : Below wr.heap.size wr wb := hwb ▸ balloc (b0 wr) _
   have hlb : wr.heap.size < wb.heap.size := by rw [hwb]; simp
   have y0 : wb.cell? ⟨wr.heap.size, 0, none⟩ = some (.int .i64 u) := by rw [hwb, alloc_cell]; rfl
   have y1 : wb.cell? ⟨wr.heap.size, 1, none⟩ = some (.int .i64 m) := by rw [hwb, alloc_cell]; rfl
   have hb2 := bstep hb.out hbb
   have HB2 := hid hb2
   have hFb : gg < wb.heap.size := Nat.lt_of_lt_of_le hF (Nat.le_trans HB0.out.size hb2.size)
   have l0 := later_cell (Nat.lt_of_lt_of_le hl0 hb2.size) (cell_below hb2 hl0 HQ.out)
   have l1 := later_cell hlb y0
   have l2 := later_cell hlb y1
   have HUB := hid (uni_later HU0.out hb2)
   have HTM := hid (fun e : Later wb => tmayB_any _ ns ⟨u, m⟩ e.w (uni_lat HUB.out e) HO.out hi1)
   rw [← hwb]
   clear hwb hbb y0 y1 hb2 c0 c1
   cases hmt : mayT ns ⟨u, m⟩ with
   | false =>
    rw [hmt] at HKA HTM
    have HR := hid (HBAD.out (by rw [HKA.out]; rfl))
    clear hmt
    by_cases h0 : k = 0
    ·have z1 : decide (0 < k) = false := decide_eq_false (by omega)
     have z2 : decide ((0 : Int) < ↑k) = false := decide_eq_false (by omega)
     clear h0
     (refine wp_region_later (by kernel_rfl) (by kernel_rfl) ?_; (repeat (go_big_quiet_step ((go_at_call 51; exact Calls.later (HTM.out _) rfl)))); refine wpQuiet_nil ?_; rintro _ ⟨⟨w1, hb1⟩, rfl⟩)
     go_wp2
     go_ret
     exact ⟨ret_bool HR.out.symm, bstep HB0.out (bstep HB2.out hb1)⟩
    ·obtain ⟨gg2, o2, hA2, hF2, e0, -, -, -⟩ := HC.out (k - 1) (by omega)
     cases hA2
     obtain ⟨a, ha⟩ : ∃ a, (l[k-1]'(by omega)).unit = a := ⟨_, rfl⟩
     rw [ha] at e0
     have l3 := later_cell hFb (cell_below HB2.out (Nat.lt_of_lt_of_le hF2 HB0.out.size) (cell_below HB0.out hF2 e0))
     have i3 : (0 : Int) ≤ ↑k - 1 := by omega
     have i4 : (↑k : Int) - 1 < ↑l.length := by omega
     have i5 : ((↑k : Int) - 1).toNat = k - 1 := by omega
     have i6 : IntKind.i64.wrap (↑k - 1) = (↑k : Int) - 1 := IntWalk.i64_in _ (by omega)
     have z1 : decide (0 < k) = true := decide_eq_true (by omega)
     clear h0 ha e0
     (refine wp_region_later (by kernel_rfl) (by kernel_rfl) ?_; (repeat (go_big_quiet_step ((go_at_call 51; exact Calls.later (HTM.out _) rfl)))); refine wpQuiet_nil ?_; rintro _ ⟨⟨w1, hb1⟩, rfl⟩)
     go_wp2
     go_ret
     exact ⟨ret_bool HR.out.symm, bstep HB0.out (bstep HB2.out hb1)⟩
   | true =>
    rw [hmt, Bool.true_and] at HKA
    rw [hmt] at HTM
    clear hmt
    by_cases h0 : k = 0
    ·have z1 : decide (0 < k) = false := decide_eq_false (by omega)
     have z2 : decide ((0 : Int) < ↑k) = false := decide_eq_false (by omega)
     have HG := hid (HGO.out (by rw [HKA.out, decide_eq_true h0]; rfl))
     clear h0
     (refine wp_region_later (by kernel_rfl) (by kernel_rfl) ?_; (repeat (go_big_quiet_step ((go_at_call 51; exact Calls.later (HTM.out _) rfl)))); refine wpQuiet_nil ?_; rintro _ ⟨⟨w1, hb1⟩, rfl⟩)
     go_wp2
     exact ⟨⟨k + 1, by omega, by go_num, hid (bstep HB2.out hb1), HG⟩, by simp [intOf]; omega⟩
    ·obtain ⟨gg2, o2, hA2, hF2, e0, -, -, -⟩ := HC.out (k - 1) (by omega)
     cases hA2
     obtain ⟨a, ha⟩ : ∃ a, (l[k-1]'(by omega)).unit = a := ⟨_, rfl⟩
     rw [ha] at e0
     rw [decide_eq_false h0, Bool.false_or, ha] at HKA
     have l3 := later_cell hFb (cell_below HB2.out (Nat.lt_of_lt_of_le hF2 HB0.out.size) (cell_below HB0.out hF2 e0))
     have i3 : (0 : Int) ≤ ↑k - 1 := by omega
     have i4 : (↑k : Int) - 1 < ↑l.length := by omega
     have i5 : ((↑k : Int) - 1).toNat = k - 1 := by omega
     have i6 : IntKind.i64.wrap (↑k - 1) = (↑k : Int) - 1 := IntWalk.i64_in _ (by omega)
     have z1 : decide (0 < k) = true := decide_eq_true (by omega)
     clear h0 ha e0
     by_cases hau : a < u
     ·have z2 : decide (u ≤ a) = false := decide_eq_false (by omega)
      have HG := hid (HGO.out (by rw [HKA.out]; exact decide_eq_true hau))
      clear hau
      (refine wp_region_later (by kernel_rfl) (by kernel_rfl) ?_; (repeat (go_big_quiet_step ((go_at_call 51; exact Calls.later (HTM.out _) rfl)))); refine wpQuiet_nil ?_; rintro _ ⟨⟨w1, hb1⟩, rfl⟩)
      go_wp2
      exact ⟨⟨k + 1, by omega, by go_num, hid (bstep HB2.out hb1), HG⟩, by simp [intOf]; omega⟩
     ·have z2 : decide (u ≤ a) = true := decide_eq_true (by omega)
      have HR := hid (HBAD.out (by rw [HKA.out]; exact decide_eq_false hau))
      clear hau
      (refine wp_region_later (by kernel_rfl) (by kernel_rfl) ?_; (repeat (go_big_quiet_step ((go_at_call 51; exact Calls.later (HTM.out _) rfl)))); refine wpQuiet_nil ?_; rintro _ ⟨⟨w1, hb1⟩, rfl⟩)
      go_wp2
      go_ret
      exact ⟨ret_bool HR.out.symm, bstep HB0.out (bstep HB2.out hb1)⟩
  ·have HR := hid (show mayL ns l = true from mayL_iff.2 fun j hj => hall.out j (by omega))
   go_wp2
   go_ret
   exact ⟨ret_bool HR.out.symm, bstep HB0.out hb.out⟩
end
section
attribute [local go_sem ↓] Go.wp_at_zero Go.wp_at_succ
theorem term_neq (s t : Term) (W : World) : (binOp .neq 69 (.agg #[.int .i64 s.unit, .int .i64 s.mask]) (.agg #[.int .i64 t.unit, .int .i64 t.mask])).run Tryz.prog W = .ok (.bool (!decide (s = t))) W := by
 have u3 := Tryz.underlying3
 have a3 := Tryz.isAgg3
 have z3 := Tryz.sizeOf3
 have hS : Tryz.prog.underlying 69 = some (.struct (Tryz.prog.fieldsOf 69)) := by kernel_rfl
 have hp : Tryz.prog.stoodInHeld 69 = false := by kernel_rfl
 rw [run_neq_struct, show (10000 : Nat) = 9999 + 1 from rfl, run_equalIn_agg W 9999 69 _ _ hS hp]
 simp only [Program.fieldsOf, Tryz.underlying69]
 go_simp
 obtain ⟨a, b⟩ := s
 obtain ⟨c, d⟩ := t
 by_cases h1 : a = c <;> by_cases h2 : b = d <;> simp [h1, h2]
theorem term_guard (op : BinOp) (a b : Operand) (s t : Term) (W : World) : (eqGuard op 69 a b (.agg #[.int .i64 s.unit, .int .i64 s.mask]) (.agg #[.int .i64 t.unit, .int .i64 t.mask])).run Tryz.prog W = .ok () W :=
 run_eqGuard_agg W op 69 a b _ _ (by kernel_rfl)
end
section
attribute [local go_sem ↓] Go.wp_at_zero Go.wp_at_succ
set_option maxRecDepth 100000 in
set_option maxHeartbeats 400000 in
theorem equal_any (v v' : Value) (l l' : List Term) (w : World) (h : SliceRd tTerm w (Lt w.heap.size) v l) (h' : SliceRd tTerm w (Lt w.heap.size) v' l') :
  Calls Tryz.prog 52 #[v, v'] w fun e w' => e = .returned (.bool (decide (l = l'))) ∧ Below w.heap.size w w' := by
 obtain ⟨A, cap, rfl, hcap, hmax, hc⟩ := h.terms
 obtain ⟨A', cap', rfl, hcap', hmax', hc'⟩ := h'.terms
 unfold maxLen at hmax hmax'
 have HC := hid hc
 have HC' := hid hc'
 clear hc hc' h h'
 by_cases hl : l.length = l'.length
 ·have hb1 : ((l.length : Int) != (l'.length : Int)) = false := by simp [hl]
  have HL := hid hl
  clear hl
  go_enter Tryz.func52, Tryz.ntmps52
  go_wp2
  go_loopw [5, 13] (fun _ iv wr => ∃ k : Nat, k ≤ l.length ∧ iv = .int .i64 k ∧ Hid (l.take k = l'.take k) ∧ Below w.heap.size w wr) (fun _ iv _ => l.length - (intOf iv).toNat)
  case atStart => exact ⟨0, Nat.zero_le _, rfl, hid rfl, Below.refl _ _⟩
  case round =>
   obtain ⟨k, hk, rfl, ht, hb⟩ := hrel
   by_cases hlt : k < l.length
   ·have hlt' : k < l'.length := by have := HL.out; omega
    obtain ⟨g, o, hA, hF, g0, g1, -, -⟩ := HC.out k hlt
    obtain ⟨g', o', hA', hF', g0', g1', -, -⟩ := HC'.out k hlt'
    subst hA hA'
    have c0 := cell_below hb hF g0
    have c1 := cell_below hb hF g1
    have d0 := cell_below hb hF' g0'
    have d1 := cell_below hb hF' g1'
    clear g0 g1 g0' g1'
    have i1 : (0 : Int) ≤ ↑k := by omega
    have i2 : (↑k : Int) < ↑l.length := by omega
    have i3 : (↑k : Int) < ↑l'.length := by omega
    have hn := fun W => term_neq l[k] l'[k] W
    have hgd := fun op a b W => term_guard op a b l[k] l'[k] W
    by_cases he : l[k] = l'[k]
    ·have hd : decide (l[k] = l'[k]) = true := decide_eq_true he
     have HE := hid he
     clear he
     go_wp2
     go_quiet (fail)
     go_wp2
     exact ⟨⟨k + 1, by omega, by go_num, hid (by rw [List.take_succ_eq_append_getElem hlt, List.take_succ_eq_append_getElem hlt', ht.out, HE.out]), below_drewN hb _⟩, by simp [intOf]; omega⟩
    ·have hd : decide (l[k] = l'[k]) = false := decide_eq_false he
     have HE := hid he
     clear he
     go_wp2
     go_quiet (fail)
     go_wp2
     go_ret
     exact ⟨by rw [decide_eq_false (p := l = l') (fun e => HE.out (by subst e; rfl))]; rfl, below_drewN hb _⟩
   ·have HE : Hid (l = l') := hid (by
     have := ht.out
     rwa [List.take_of_length_le (by omega), List.take_of_length_le (by have := HL.out; omega)] at this)
    clear ht
    go_wp2
    go_ret
    exact ⟨by rw [decide_eq_true HE.out]; rfl, hb⟩
 ·have hb1 : ((l.length : Int) != (l'.length : Int)) = true := by simp; omega
  have HL := hid hl
  clear hl
  go_enter Tryz.func52, Tryz.ntmps52
  go_wp2
  go_ret
  exact ⟨by rw [decide_eq_false (p := l = l') (fun e => HL.out (by rw [e]))]; rfl, Below.refl _ _⟩
theorem isame_any (v v' : Value) (l l' : List Term) (w : World) (h : SliceRd tTerm w (Lt w.heap.size) v l) (h' : SliceRd tTerm w (Lt w.heap.size) v' l') :
  Calls Tryz.prog 23 #[v, v'] w fun e w' => e = .returned (.bool (decide (l = l'))) ∧ Below w.heap.size w w' := by
 have hcall := equal_any v v' l l' w h h'
 obtain ⟨A, cap, rfl, -⟩ := h.terms
 obtain ⟨A', cap', rfl, -⟩ := h'.terms
 clear h h'
 generalize decide (l = l') = q at hcall ⊢
 go_enter Tryz.func23, Tryz.ntmps23
 go_wp2_with (go_at_call 52; refine hcall.mono ?_; rintro e w1 ⟨rfl, hb1⟩)
 go_ret
 exact ⟨rfl, hb1⟩
end
end Go.Proofs.YthneiolcljnbeaaGreatDoor
