import Derived.Test.YtmghlakedaigpaaGreatDoorG2
section
/- Contracts: linchpinmade.want, needs. -/
namespace Go.Proofs.YtmghlakedaigpaaGreatDoor
open Go Go.RowKit

/-- Units: their candidates' versions. -/
def UnitsRd (w : World) (F : Nat → Prop) (v : Value) (m : Nat) : Prop := ∃ A cap, v = .slice A m cap ∧ 2 ≤ m ∧ m ≤ 20 ∧ ∀ k, k < m → ∃ g, A = some ⟨g, 0, none⟩ ∧ F g ∧ ∃ C n c, w.cell? ⟨g, k * 3 + 2, none⟩ = some (.slice C n c) ∧ CandsRd w F (.slice C n c) n
theorem UnitsRd.keep {w w' : World} {F : Nat → Prop} {v : Value} {m : Nat} (hk : ∀ k, F k → w'.heap[k]? = w.heap[k]?) (h : UnitsRd w F v m) : UnitsRd w' F v m := by
  obtain ⟨A, cap, hv, h1, h2, hc⟩ := h
  refine ⟨A, cap, hv, h1, h2, fun k hk' => ?_⟩
  obtain ⟨g, hA, hF, C, n, c, hcell, hcd⟩ := hc k hk'
  exact ⟨g, hA, hF, C, n, c, (World.cell?_of_block (hk g hF)).trans hcell, hcd.keep hk⟩
theorem UnitsRd.more {w : World} {F F' : Nat → Prop} {v : Value} {m : Nat} (hF : ∀ k, F k → F' k) (h : UnitsRd w F v m) : UnitsRd w F' v m := by
  obtain ⟨A, cap, hv, h1, h2, hc⟩ := h
  refine ⟨A, cap, hv, h1, h2, fun k hk' => ?_⟩
  obtain ⟨g, hA, hFF, C, n, c, hcell, hcd⟩ := hc k hk'
  exact ⟨g, hA, hF _ hFF, C, n, c, hcell, hcd.more hF⟩
def Not1 (bG : Nat) (w : World) : Nat → Prop := fun k => k ≠ bG ∧ k < w.heap.size
theorem UnitsRd.gb {w w' : World} {bG : Nat} {v : Value} {m : Nat} (h : UnitsRd w (Not1 bG w) v m) (hg : w.grownBy w' (some bG)) : UnitsRd w' (Not1 bG w') v m :=
  (h.keep fun _ hk => gb_block hg hk.1 hk.2).more fun _ hk => ⟨hk.1, Nat.lt_of_lt_of_le hk.2 hg.size⟩
def WantPost (m bG : Nat) (lv : Value) (xs : List Int) (i : Int) (w : World) (e : Ending) (w' : World) : Prop :=
  ∃ (u : Int) (A : Option Addr) (n c : Nat) (A' : Option Addr) (n' c' : Nat), e = .returned (.agg #[.int .i64 u, .slice A n c, .slice A' n' c']) ∧ GAt w' bG lv xs (i + 3) ∧ w.grownBy w' (some bG) ∧ ∃ x : WantD, tWant.rd w' (Btw w.heap.size w') [.int .i64 u, .slice A n c, .slice A' n' c'] x ∧ x.ok m
/-- A want as it is answered. -/
theorem want_fin {w2 : World} {b B : Nat} {u : Int} {x y p q r : Value} {s : SetD} (h : tSet.rd w2 (Btw B w2) [x, y] s) (hB : b ≤ B) (hu : I64 u) :
    tWant.rd (((w2.setCell ⟨b, 0, none⟩ p).setCell ⟨b, 1, none⟩ q).setCell ⟨b, 2, none⟩ r) (Btw b (((w2.setCell ⟨b, 0, none⟩ p).setCell ⟨b, 1, none⟩ q).setCell ⟨b, 2, none⟩ r)) [.int .i64 u, x, y] ⟨u, s⟩ := by
  have hsz : (((w2.setCell ⟨b, 0, none⟩ p).setCell ⟨b, 1, none⟩ q).setCell ⟨b, 2, none⟩ r).heap.size = w2.heap.size := by simp
  refine ⟨x, y, rfl, hu, tSet.more (fun k hk => ⟨by have := hk.1; omega, by rw [hsz]; exact hk.2⟩) (tSet.keep (fun k hk => ?_) h)⟩
  have hne : k ≠ b := by have := hk.1; omega
  rw [heap_setCell_other _ _ _ _ hne, heap_setCell_other _ _ _ _ hne, heap_setCell_other _ _ _ _ hne]
theorem three_steps {w : World} {bG : Nat} {lv : Value} {xs : List Int} {i : Int} (h : GAt w bG lv xs (i + 1 + 2)) : GAt w bG lv xs (i + 3) := by
  have e : i + 3 = i + 1 + 2 := by omega
  rw [e]; exact h
theorem blk3_cells {w : World} {g : Nat} {T : TypeId} {x y z : Value} (h : w.heap[g]? = some (.cells #[x, y, z] T (0, 0))) : w.cell? ⟨g, 0, none⟩ = some x ∧ w.cell? ⟨g, 1, none⟩ = some y ∧ w.cell? ⟨g, 2, none⟩ = some z ∧ ∀ o, w.frozen? ⟨g, o, none⟩ = false := by
  refine ⟨?_, ?_, ?_, fun o => frozen_of_row w g o _ T h⟩ <;> (rw [cell_of_row _ _ _ _ T (0, 0) h]; rfl)

set_option maxRecDepth 100000 in
set_option maxHeartbeats 2000000 in
theorem want_g (bG : Nat) (lv : Value) (xs : List Int) (i : Int) (v : Value) (m : Nat) (w : World) (hG : GAt w bG lv xs i) (hi : i + 3 < 1000000) (hu : UnitsRd w (Not1 bG w) v m) :
    Calls Tryz.prog 16 #[.pointer (some ⟨bG, 0, none⟩), v] w (WantPost m bG lv xs i w) := by
  obtain ⟨A, cap, rfl, hm1, hm2, hcs⟩ := hu
  have HU := hid hcs
  have hi0 := hG.bd.1
  have hGl := hG.lt
  have HG := hid hG
  clear hcs hG
  go_enter Tryz.func16, Tryz.ntmps16
  go_wp2_with fail
  obtain ⟨w0, hw0⟩ : ∃ w0 : World, w0 = w.alloc (.cells #[.int .i64 0, .slice none 0 0, .slice none 0 0] 62) := ⟨_, rfl⟩
  have HR0 : Hid (w0.heap[w.heap.size]? = some (.cells #[.int .i64 0, .slice none 0 0, .slice none 0 0] 62 (0, 0))) := hid (by rw [hw0]; exact heap_alloc_new w _)
  have hbw : Below w.heap.size w w0 := by rw [hw0]; exact balloc (b0 w) _
  have HG0 : Hid (GAt w0 bG lv xs i) := hid (HG.out.below hbw hGl)
  have HB0 : Hid (w.grownBy w0 (some bG)) := hid (gb_below (gb_refl w _) hbw (Nat.le_refl _))
  have hlt0 : w.heap.size < w0.heap.size := by rw [hw0]; simp
  rw [← hw0]
  clear hw0 hbw
  refine (next_g bG lv xs i _ _ HG0.out (by omega) ⟨by omega, by omega⟩).mono ?_
  rintro e w1 ⟨r, rfl, hr0, hr1, -, hg1, hgb1⟩
  have hr2 : r < (m : Int) - 1 := hr1 (by omega)
  have HG1 := hid hg1
  have HGB1 := hid (gb_gb HB0.out hgb1)
  have HR1 := hid ((gb_block hgb1 (by omega) hlt0).trans HR0.out)
  have hlt1 : w.heap.size < w1.heap.size := Nat.lt_of_lt_of_le hlt0 hgb1.size
  clear hg1 hgb1 hr1
  obtain ⟨p, rfl⟩ := Int.eq_ofNat_of_zero_le hr0
  obtain ⟨g, hA, hF, C, n, c, hcell, hcd⟩ := HU.out (p + 1) (by omega)
  cases hA
  have hcell1 : w1.cell? ⟨g, (p + 1) * 3 + 2, none⟩ = some (.slice C n c) := gb_cell HGB1.out hF.1 hcell
  have HCD : Hid (CandsRd w1 (fun k => k ≠ bG ∧ k < w1.heap.size) (.slice C n c) n) := hid ((hcd.keep fun k hk => gb_block HGB1.out hk.1 hk.2).more fun k hk => ⟨hk.1, Nat.lt_of_lt_of_le hk.2 HGB1.out.size⟩)
  clear hcell hcd
  have j1 : (1 : Int) + ↑p = ↑(p + 1) := by omega
  have j2 : (0 : Int) ≤ ↑(p + 1) := by omega
  have j3 : ((p + 1 : Nat) : Int) < ↑m := by omega
  go_wp2_with (first
    | (go_at_call 33; go_must (refine (set_g bG lv xs (i + 1) _ n _ HG1.out (by omega) HCD.out).mono ?_; rintro e w2 ⟨A2, n2, c2, A3, n3, c3, rfl, hg2, hgb2, sd, hsd, hsok⟩; have HSD := hid hsd; clear hsd; have HG2 := hid (three_steps hg2); have HGB2 := hid (gb_gb HGB1.out hgb2); have HR2 := hid ((gb_block hgb2 (by omega) hlt1).trans HR1.out); obtain ⟨x0, x1, x2, xf⟩ := blk3_cells HR2.out; clear hg2 hgb2)))
  have hfin := (((b0 w2).mono (B' := w.heap.size) HGB2.out.size).setCell (p := ⟨w.heap.size, 0, none⟩) (Nat.le_refl _) (.int .i64 (↑p + 1))).setCell (p := ⟨w.heap.size, 1, none⟩) (Nat.le_refl _) (.slice A2 n2 c2)
  have hfin2 := hfin.setCell (p := ⟨w.heap.size, 2, none⟩) (Nat.le_refl _) (.slice A3 n3 c3)
  exact bodyPost_ret (v := .agg #[.int .i64 (↑p + 1), .slice A2 n2 c2, .slice A3 n3 c3]) (by simp [results, Tryz.results16, go_sem, x0, x1, x2]) rfl ⟨↑p + 1, A2, n2, c2, A3, n3, c3, rfl, HG2.out.below hfin2 hGl, gb_below HGB2.out hfin2 (Nat.le_refl _), ⟨↑p + 1, sd⟩, want_fin HSD.out (Nat.le_of_lt hlt1) ⟨by omega, by omega⟩, by show (0 : Int) ≤ ↑p + 1; omega, by show ↑p + 1 < (m : Int); omega, hsok⟩

theorem want_info : (Tryz.prog.info? 62).map (fun i => (i.zero, i.size, i.bytes)) = some (some (.agg #[.int .i64 0, .slice none 0 0, .slice none 0 0]), 3, 56) := by kernel_rfl
theorem wants_info : (Tryz.prog.info? 50).map (fun i => (i.zero, i.size, i.bytes)) = some (some (.slice none 0 0), 1, 24) := by kernel_rfl
/-- Blocks from a up to b lie as they did. -/
def Sm (a b : Nat) (w w' : World) : Prop := (∀ k, a ≤ k → k < b → w'.heap[k]? = w.heap[k]?) ∧ w.heap.size ≤ w'.heap.size ∧ b ≤ w.heap.size
section
variable {a b bG : Nat} {w w1 w2 : World}
theorem Sm.refl (a : Nat) (w : World) : Sm a w.heap.size w w := ⟨fun _ _ _ => rfl, Nat.le_refl _, Nat.le_refl _⟩
theorem Sm.gb (h : Sm a b w w1) (hg : w1.grownBy w2 (some bG)) (hB : bG < a) : Sm a b w w2 :=
  ⟨fun k h1 h2 => (gb_block hg (by omega) (by have := h.2.1; have := h.2.2; omega)).trans (h.1 k h1 h2), Nat.le_trans h.2.1 hg.size, h.2.2⟩
theorem Sm.alloc (h : Sm a b w w1) (o : Obj) : Sm a b w (w1.alloc o) :=
  ⟨fun k h1 h2 => (Below.heap_alloc _ _ _ (by have := h.2.1; have := h.2.2; omega)).trans (h.1 k h1 h2), by have := h.2.1; simp; omega, h.2.2⟩
theorem Sm.app {ob : Option Nat} (h : Sm a b w w1) (hg : w1.grownBy w2 ob) (hB : ∀ g, ob = some g → b ≤ g) : Sm a b w w2 :=
  ⟨fun k h1 h2 => (hg.block k (by have := h.2.1; have := h.2.2; omega) (fun e => by have := hB k e.symm; omega)).trans (h.1 k h1 h2), Nat.le_trans h.2.1 hg.size, h.2.2⟩
theorem Sm.own {α : Type} {t : Ty α} {e : TypeId} {v : Value} {l : List α} {xs : List Value} (h : Sm a w.heap.size w w1) (ho : OwnT t e w a v l xs) : OwnT t e w1 a v l xs := ho.keepB h.1 h.2.1
theorem OwnT.gb {α : Type} {t : Ty α} {e : TypeId} {v : Value} {l : List α} {xs : List Value} (ho : OwnT t e w a v l xs) (hg : w.grownBy w1 (some bG)) (hB : bG < a) : OwnT t e w1 a v l xs :=
  ho.keepB (fun _ h1 h2 => gb_block hg (by omega) h2) hg.size
end
/-- A want behind another one, in its row. -/
theorem row_two {w4 w6 : World} {B g b3 : Nat} {T : TypeId} {v6 : Value} {x1 x2 : WantD} {cs1 cs2 : List Value} {o : Obj} (h : OwnT tWant T w4 B (.slice (some ⟨g, 0, none⟩) 1 1) [x1] cs1) (hx : tWant.rd w4 (Btw b3 w4) cs2 x2) (hg : g < b3) (hB : B ≤ b3) (hl : cs2.length = 3)
    (ho : w6.ownsRow B T 3 v6 2 (cs1 ++ cs2)) (hgr : (w4.alloc o).grownBy w6 (Value.slice (some ⟨g, 0, none⟩) 1 1).ownBlock) (hn : v6.ownBlock = (Value.slice (some ⟨g, 0, none⟩) 1 1).ownBlock ∨ v6.ownBlock = some (w4.alloc o).heap.size) :
    OwnT tWant T w6 B v6 [x1, x2] (cs1 ++ cs2) :=
  (h.later (balloc (b0 w4) o)).snoc hl (tWant.more (fun b hb => ⟨by have := hb.1; omega, by have := hb.2; simp; omega, fun e => by have e2 : g = b := Option.some.inj e; have := hb.1; omega⟩) (tWant.keep (fun b hb => Below.heap_alloc _ _ _ hb.2) hx)) ho hgr hn
/-- A row behind others. -/
theorem rows_more {w0 wr w6 w7 : World} {B : Nat} {T T' : TypeId} {ov v6 v7 : Value} {ns : List (List WantD)} {r : List WantD} {cs cr : List Value} {o : Obj} (h : OwnT (tSlice tWant) T wr B ov ns cs) (hs : Sm B wr.heap.size wr w6) (hr : OwnT tWant T' w6 wr.heap.size v6 r cr) (hB : B ≤ wr.heap.size)
    (ho : w7.ownsRow B T 1 v7 (ns.length + 1) (cs ++ [v6])) (hg : (w6.alloc o).grownBy w7 ov.ownBlock) (hn : v7.ownBlock = ov.ownBlock ∨ v7.ownBlock = some (w6.alloc o).heap.size) (_ : w0 = w0) :
    OwnT (tSlice tWant) T w7 B v7 (ns ++ [r]) (cs ++ [v6]) :=
  ((hs.own h).later (balloc (b0 w6) o)).snoc rfl ⟨v6, rfl, (hr.rdF.keep (fun b hb => Below.heap_alloc _ _ _ hb.2)).more fun b hb => ⟨Nat.le_trans hB hb.1, by have := hb.2; simp; omega, fun e => by have := (h.own.lt b e).2; have := hb.1; omega⟩⟩ ho hg hn
def RowOk (m : Nat) (r : List WantD) : Prop := r.length ≤ 2 ∧ ∀ x ∈ r, x.ok m
theorem RowOk.snoc {m : Nat} {ns : List (List WantD)} {r : List WantD} (h : ∀ r ∈ ns, RowOk m r) (hr : RowOk m r) : ∀ r' ∈ ns ++ [r], RowOk m r' := by
  intro r' h'
  rcases List.mem_append.1 h' with h1 | h1
  · exact h r' h1
  · have : r' = r := by simpa using h1
    subst this
    exact hr
def NeedsPost (m bG : Nat) (lv : Value) (xs : List Int) (i most : Int) (w : World) (e : Ending) (w' : World) : Prop :=
  ∃ (A : Option Addr) (c : Nat) (ns : List (List WantD)) (cs : List Value) (i' : Int), e = .returned (.slice A ns.length c) ∧ OwnT (tSlice tWant) 50 w' w.heap.size (.slice A ns.length c) ns cs ∧ (ns.length : Int) ≤ most ∧ (∀ u ∈ cs, u.oneCell' = true) ∧ (∀ r ∈ ns, RowOk m r) ∧ GAt w' bG lv xs i' ∧ i ≤ i' ∧ i' ≤ i + 1 + 7 * most ∧ w.grownBy w' (some bG)
theorem gb_own {w w1 : World} {bG B : Nat} {e : TypeId} {s n : Nat} {v : Value} {xs : List Value} (h : w.ownsRow B e s v n xs) (hg : w.grownBy w1 (some bG)) (hB : bG < B) : w1.ownsRow B e s v n xs :=
  ownsRow_keep h fun g hgg => gb_block hg (by have := (h.lt g hgg).1; omega) (h.lt g hgg).2
/-- An append of the call's own, seen from the beginning. -/
theorem gb_append {w w1 w2 : World} {bG : Nat} {e : TypeId} {s n : Nat} {v : Value} {xs : List Value} (h : w.grownBy w1 (some bG)) (ho : w1.ownsRow w.heap.size e s v n xs) (o : Obj) (hg : (w1.alloc o).grownBy w2 v.ownBlock) : w.grownBy w2 (some bG) :=
  gb_below h (Below.grown ((Below.refl w.heap.size w1).alloc h.size o) hg (by simp; have := h.size; omega) (fun k hk => (ho.lt k hk).1)) (Nat.le_refl _)
theorem GAt.append {w0 w w1 : World} {bG : Nat} {lv : Value} {xs : List Int} {i : Int} {e : TypeId} {s n : Nat} {v : Value} {ys : List Value} (h : GAt w bG lv xs i) (hb : bG < w0.heap.size) (hs : w0.heap.size ≤ w.heap.size) (ho : w.ownsRow w0.heap.size e s v n ys) (o : Obj) (hg : (w.alloc o).grownBy w1 v.ownBlock) : GAt w1 bG lv xs i :=
  h.below (Below.grown ((Below.refl w0.heap.size w).alloc hs o) hg (by simp; omega) (fun k hk => (ho.lt k hk).1)) hb

theorem own_made1 {w : World} {B : Nat} (hB : B ≤ w.heap.size) (x y z : Value) (e : TypeId) : (w.alloc (.cells #[x, y, z] e)).ownsRow B e 3 (.slice (some ⟨w.heap.size, 0, none⟩) 1 1) 1 [x, y, z] :=
  ⟨rfl, .inr ⟨_, 1, _, rfl, hB, heap_alloc_new w _, Nat.le_refl _, by unfold maxLen; omega, rfl, rfl⟩⟩
/-- Behind an append onto a row above B: below B nothing has turned. -/
theorem app_below {w w1 : World} {B B' : Nat} {e : TypeId} {s n : Nat} {v : Value} {ys : List Value} (hs : B ≤ w.heap.size) (ho : w.ownsRow B' e s v n ys) (hB : B ≤ B') (o : Obj) (hg : (w.alloc o).grownBy w1 v.ownBlock) : Below B w w1 :=
  Below.grown ((Below.refl B w).alloc hs o) hg (by simp; omega) (fun k hk => Nat.le_trans hB (ho.lt k hk).1)
theorem own_apart {w w1 : World} {B B' : Nat} {e e' : TypeId} {s n s' n' : Nat} {v v' : Value} {ys ys' : List Value} (h : w.ownsRow B e s v n ys) (ho : w.ownsRow B' e' s' v' n' ys') (hne : e ≠ e') (o : Obj) (hg : (w.alloc o).grownBy w1 v'.ownBlock) : w1.ownsRow B e s v n ys :=
  ownsRow_keep h fun g hgg => by
    have hl := (h.lt g hgg).2
    rw [hg.block g (by simp; omega) (fun e => own_ne h ho hne g hgg e.symm), Below.heap_alloc _ _ _ hl]

set_option maxRecDepth 100000 in
set_option maxHeartbeats 2000000 in
theorem needs_g (bG : Nat) (lv : Value) (xs : List Int) (i most : Int) (v : Value) (m : Nat) (w : World) (hG : GAt w bG lv xs i) (hi : i + 100 < 1000000) (hm : 0 ≤ most) (hm3 : most ≤ 5) (hu : UnitsRd w (Not1 bG w) v m) :
    Calls Tryz.prog 13 #[.pointer (some ⟨bG, 0, none⟩), v, .int .i64 most] w (NeedsPost m bG lv xs i most w) := by
  have HU := hid hu
  obtain ⟨A, cap, rfl, -, -, -⟩ := hu
  obtain ⟨iw, hiw⟩ := info_parts want_info
  have HIW := hid hiw
  obtain ⟨iv, hiv⟩ := info_parts wants_info
  have HIV := hid hiv
  have hi0 := hG.bd.1
  have hGl := hG.lt
  have HG := hid hG
  clear hG hiw hiv
  go_enter Tryz.func13, Tryz.ntmps13
  go_wp2_with (go_at_call 15; go_must (refine (next_g bG lv xs i _ _ HG.out (by omega) ⟨by omega, by omega⟩).mono ?_; rintro e w1 ⟨r, rfl, hr0, hr1, -, hg1, hgb1⟩; have hr2 : r < most + 1 := hr1 (by omega); have HG1 := hid hg1; have HGB1 := hid hgb1; clear hg1 hgb1 hr1))
  go_loopw [7, 8] (fun ov kv wr => ∃ (k i' : Int) (ns : List (List WantD)) (cs : List Value), 0 ≤ k ∧ kv = .int .i64 k ∧ (ns.length : Int) = r - k ∧ i + 1 ≤ i' ∧ i' ≤ i + 1 + 7 * (r - k) ∧ Hid (OwnT (tSlice tWant) 50 wr w.heap.size ov ns cs ∧ (∀ u ∈ cs, u.oneCell' = true) ∧ ∀ r ∈ ns, RowOk m r) ∧ Hid (GAt wr bG lv xs i') ∧ Hid (w.grownBy wr (some bG))) (fun _ kv _ => (intOf kv).toNat)
  case atStart => exact ⟨r, i + 1, [], [], hr0, rfl, by simp, by omega, by omega, hid ⟨OwnT.nil _ _ _ _, fun u hu => by (cases hu), fun u hu => by (cases hu)⟩, HG1, HGB1⟩
  case round =>
    obtain ⟨k, i', ns, cs, hk, rfl, hn, hi1, hi2, hown, hg, hgb⟩ := hrel
    obtain ⟨Ao, co, rfl⟩ := own_form hown.out.1.own
    have hsw := hgb.out.size
    have hGr : bG < wr.heap.size := Nat.lt_of_lt_of_le hGl hsw
    by_cases hlt : 0 < k
    · have tok := hid True.intro
      have tok2 := hid True.intro
      have tok3 := hid True.intro
      have HURR := hid ((show UnitsRd w (Not1 bG w) _ m from HU.out).gb hgb.out)
      go_wp2_with (first
        | (go_at_call 16; clear tok; go_must (refine (want_g bG lv xs i' _ m _ hg.out (by omega) HURR.out).mono ?_; rintro e w2 ⟨u, A2, n2, c2, A3, n3, c3, rfl, hg2, hgb2, x1, hx1, hok1⟩; have HGB2 := hid (gb_gb hgb.out hgb2); have HX1 := hid hx1; have hr2 : wr.heap.size ≤ w2.heap.size := hgb2.size; have HS2 := hid ((Sm.refl w.heap.size wr).gb hgb2 hGl); have HG2 := hid hg2; have hs2 := HGB2.out.size; clear hg2 hgb2 hx1))
        | (go_at_call 15; go_must (refine (next_g bG lv xs (i' + 3) 3 _ (HG2.out.below (balloc (b0 w2) _) HG2.out.lt) (by omega) ⟨by decide, by decide⟩).mono ?_; rintro e w3 ⟨r3, rfl, -, -, -, hg3, hgb3⟩; have HGB3 := hid (gb_gb (gb_below HGB2.out (balloc (b0 w2) _) HGB2.out.size) hgb3); have HS3 := hid ((HS2.out.alloc _).gb hgb3 hGl); have HT3 := hid ((OwnT.one (e := 62) (ca := #[.int .i64 u, .slice A2 n2 c2, .slice A3 n3 c3]) (tWant.more (fun _ hb => ⟨Nat.le_of_lt hb.1, hb.2⟩) HX1.out) hr2 rfl).gb hgb3 hGr); have HG3 := hid hg3; have hs3 := HGB3.out.size; have hr3 : w2.heap.size < w3.heap.size := Nat.lt_of_lt_of_le (by simp) hgb3.size; clear hg3 hgb3))
        | (go_at_call 16; clear tok2; go_must (refine (want_g bG lv xs (i' + 3 + 1) _ m _ HG3.out (by omega) ((show UnitsRd w (Not1 bG w) _ m from HU.out).gb HGB3.out)).mono ?_; rintro e w4 ⟨u4, A4, n4, c4, A5, n5, c5, rfl, hg4, hgb4, x2, hx2, hok2⟩; have HGB4 := hid (gb_gb HGB3.out hgb4); have HX2 := hid hx2; have HS4 := hid (HS3.out.gb hgb4 hGl); have HT4 := hid (HT3.out.gb hgb4 hGr); have HG4 := hid hg4; have hs4 := HGB4.out.size; have hr4 : w3.heap.size ≤ w4.heap.size := hgb4.size; clear hg4 hgb4 hx2))
        | (at_builtin
           clear tok3
           (refine wpList_append_src _ rfl (.tmp 25) (.tmp 29) _ rfl wr.heap.size 62 iw _ 3 56 Tryz.underlying50 HIW.out.1 HIW.out.2.1 HIW.out.2.2.1 HIW.out.2.2.2 rfl (by omega) (.slice (some ⟨w2.heap.size, 0, none⟩) 1 1) 1 [.int .i64 u, .slice A2 n2 c2, .slice A3 n3 c3] (by rfl) (by exact HT4.out.own.alloc _) (some ⟨w4.heap.size, 0, none⟩) 1 1 [.int .i64 u4, .slice A4 n4 c4, .slice A5 n5 c5] (by rfl) (by exact src_new _ _ rfl 3 _ rfl rfl) (by simp [Value.oneCell']) (by unfold maxLen; omega) (by omega) (by simp; omega) ?_)
           intro v6 w6 hown6 hg6 hat6
           obtain ⟨A6, c6, rfl⟩ := own_form hown6
           have HBL6 := hid (app_below hs4 HT4.out.own hsw _ hg6)
           have HT6 := hid (row_two HT4.out HX2.out hr3 (by omega) rfl hown6 hg6 hat6)
           have HS6 := hid ((HS4.out.alloc _).app hg6 (fun g e => by have e2 : w2.heap.size = g := Option.some.inj e; omega))
           have HG6 := hid (HG4.out.below HBL6.out hGl)
           have HGB6 := hid (gb_below HGB4.out HBL6.out (Nat.le_refl _))
           have hs6 := HGB6.out.size
           clear hown6 hg6 hat6)
        | (at_builtin
           go_must (first
             | (refine wpList_append_src _ rfl (.tmp 31) (.tmp 33) _ rfl w.heap.size 50 iv _ 1 24 Tryz.underlying46 HIV.out.1 HIV.out.2.1 HIV.out.2.2.1 HIV.out.2.2.2 rfl (by omega) (.slice Ao ns.length co) ns.length cs (by rfl) (by exact (HS6.out.own hown.out.1).own.alloc _) (some ⟨w6.heap.size, 0, none⟩) 1 1 [.slice A6 2 c6] (by rfl) (by exact src_new _ _ rfl 1 _ rfl rfl) (by simp [Value.oneCell']) (by unfold maxLen; omega) (by omega) (by simp; omega) ?_)
             | (refine wpList_append_src _ rfl (.tmp 31) (.tmp 33) _ rfl w.heap.size 50 iv _ 1 24 Tryz.underlying46 HIV.out.1 HIV.out.2.1 HIV.out.2.2.1 HIV.out.2.2.2 rfl (by omega) (.slice Ao ns.length co) ns.length cs (by rfl) (by exact (HS3.out.own hown.out.1).own.alloc _) (some ⟨w3.heap.size, 0, none⟩) 1 1 [.slice (some ⟨w2.heap.size, 0, none⟩) 1 1] (by rfl) (by exact src_new _ _ rfl 1 _ rfl rfl) (by simp [Value.oneCell']) (by unfold maxLen; omega) (by omega) (by simp; omega) ?_))
           intro v7 w7 hown7 hg7 hat7
           first
             | have HO7 := hid (rows_more (w0 := w) hown.out.1 HS6.out HT6.out hsw hown7 hg7 hat7 rfl)
             | have HO7 := hid (rows_more (w0 := w) hown.out.1 HS3.out HT3.out hsw hown7 hg7 hat7 rfl)
           have HBL7 := hid (show Below w.heap.size _ w7 from app_below (by first | exact hs6 | exact hs3) (by first | exact (HS6.out.own hown.out.1).own | exact (HS3.out.own hown.out.1).own) (Nat.le_refl _) _ hg7)
           clear hown7 hg7 hat7))
      · refine ⟨⟨k - 1, i' + 3 + 1 + 3, ns ++ [[x1, x2]], cs ++ [.slice A6 2 c6], by omega, by go_num, by simp; omega, by omega, by omega, hid ⟨HO7.out, ?_, RowOk.snoc hown.out.2.2 ⟨Nat.le_refl _, ?_⟩⟩, hid (HG6.out.below HBL7.out hGl), hid (gb_below HGB6.out HBL7.out (Nat.le_refl _))⟩, by simp [intOf]; omega⟩
        · intro x hx
          rcases List.mem_append.1 hx with hx | hx
          · exact hown.out.2.1 x hx
          · have : x = .slice A6 2 c6 := by simpa using hx
            subst this
            rfl
        · intro x hx
          simp only [List.mem_cons, List.not_mem_nil, or_false] at hx
          rcases hx with rfl | rfl
          · exact hok1
          · exact hok2
      · refine ⟨⟨k - 1, i' + 3 + 1, ns ++ [[x1]], cs ++ [.slice (some ⟨w2.heap.size, 0, none⟩) 1 1], by omega, by go_num, by simp; omega, by omega, by omega, hid ⟨HO7.out, ?_, RowOk.snoc hown.out.2.2 ⟨by show 1 ≤ 2; omega, ?_⟩⟩, hid (HG3.out.below HBL7.out hGl), hid (gb_below HGB3.out HBL7.out (Nat.le_refl _))⟩, by simp [intOf]; omega⟩
        · intro x hx
          rcases List.mem_append.1 hx with hx | hx
          · exact hown.out.2.1 x hx
          · have : x = .slice (some ⟨w2.heap.size, 0, none⟩) 1 1 := by simpa using hx
            subst this
            rfl
        · intro x hx
          have : x = x1 := by simpa using hx
          subst this
          exact hok1
    · have hk0 : k = 0 := by omega
      go_wp2
      go_ret
      exact ⟨Ao, co, ns, cs, i', rfl, hown.out.1, by omega, hown.out.2.1, hown.out.2.2, hg.out, by omega, by omega, hgb.out⟩
end Go.Proofs.YtmghlakedaigpaaGreatDoor
end
section
/- Units that the call makes: words for memory. -/
namespace Go.Proofs.YtmghlakedaigpaaGreatDoor
open Go Go.RowKit

structure UnitD where
  nm : ByteArray
  ft : ByteArray
  A : Option Addr
  n : Nat
  c : Nat
def fUnit : Flat UnitD := ⟨3, fun d => [.string d.nm, .string d.ft, .slice d.A d.n d.c], fun _ => True, fun _ => rfl, fun _ u h => by simp at h; rcases h with rfl | rfl | rfl <;> rfl, by decide⟩
structure CandD where
  v : Ver
  sh : Int
def candCells (d : CandD) : List Value := [.int .i64 d.v.major, .int .i64 d.v.minor, .int .i64 d.v.patch, .string d.v.pre, .string d.v.build, .int .i64 d.sh, .slice none 0 0, .slice none 0 0]
def fCand : Flat CandD := ⟨8, candCells, fun d => d.v.B, fun _ => rfl, fun _ u h => by simp [candCells] at h; rcases h with rfl | rfl | rfl | rfl | rfl | rfl | rfl | rfl <;> rfl, by decide⟩
theorem unit_info : (Tryz.prog.info? 55).map (fun i => (i.zero, i.size, i.bytes)) = some (some (.agg #[.string ⟨#[]⟩, .string ⟨#[]⟩, .slice none 0 0]), 3, 56) := by kernel_rfl
theorem cand_info : (Tryz.prog.info? 52).map (fun i => (i.zero, i.size, i.bytes)) = some (some (.agg #[.int .i64 0, .int .i64 0, .int .i64 0, .string ⟨#[]⟩, .string ⟨#[]⟩, .int .i64 0, .slice none 0 0, .slice none 0 0]), 8, 112) := by kernel_rfl

/-- A block of candidates; from number nf on none has needs yet. -/
def CandBlk (w : World) (b n nf : Nat) : Prop := ∃ cur : Array Value, w.heap[b]? = some (.cells cur 52 (0, 0)) ∧ n * 8 ≤ cur.size ∧
  ∀ j, j < n → ∃ (u : Ver) (sh : Int) (nv bv : Value), u.B ∧ cur[j * 8]? = some (.int .i64 u.major) ∧ cur[j * 8 + 1]? = some (.int .i64 u.minor) ∧ cur[j * 8 + 2]? = some (.int .i64 u.patch) ∧ cur[j * 8 + 3]? = some (.string u.pre) ∧ cur[j * 8 + 4]? = some (.string u.build) ∧
    cur[j * 8 + 5]? = some (.int .i64 sh) ∧ cur[j * 8 + 6]? = some nv ∧ cur[j * 8 + 7]? = some bv ∧ (nf ≤ j → nv = .slice none 0 0 ∧ bv = .slice none 0 0)
theorem CandBlk.keep {w w' : World} {b n nf : Nat} (h : CandBlk w b n nf) (hk : w'.heap[b]? = w.heap[b]?) : CandBlk w' b n nf := by
  obtain ⟨cur, h1, h2⟩ := h
  exact ⟨cur, hk.trans h1, h2⟩
theorem CandBlk.lt {w : World} {b n nf : Nat} (h : CandBlk w b n nf) : b < w.heap.size := by
  obtain ⟨cur, h1, _⟩ := h
  exact (Array.getElem?_eq_some_iff.1 h1).1
theorem CandBlk.mono {w : World} {b n nf nf' : Nat} (h : CandBlk w b n nf) (hn : nf ≤ nf') : CandBlk w b n nf' := by
  obtain ⟨cur, h1, h2, h3⟩ := h
  refine ⟨cur, h1, h2, fun j hj => ?_⟩
  obtain ⟨u, sh, nv, bv, g0, g1, g2, g3, g4, g5, g6, g7, g8, g9⟩ := h3 j hj
  exact ⟨u, sh, nv, bv, g0, g1, g2, g3, g4, g5, g6, g7, g8, fun hh => g9 (by omega)⟩
/-- Needs, or bars, written. -/
theorem CandBlk.set {w : World} {b n nf k : Nat} (h : CandBlk w b n nf) (hk : k < n) (x : Value) : CandBlk (w.setCell ⟨b, k * 8 + 6, none⟩ x) b n (max nf (k + 1)) ∧ (k < nf → CandBlk (w.setCell ⟨b, k * 8 + 7, none⟩ x) b n nf) := by
  obtain ⟨cur, h1, h2, h3⟩ := h
  have hb : ∀ o, (w.setCell ⟨b, o, none⟩ x).heap[b]? = some (.cells (cur.setIfInBounds o x) 52 (0, 0)) := fun o => heap_setCell_same w b o _ _ _ h1
  have hne : ∀ {o i : Nat}, o ≠ i → (cur.setIfInBounds o x)[i]? = cur[i]? := fun hoi => Array.getElem?_setIfInBounds_ne hoi
  refine ⟨⟨_, hb _, by simpa using h2, fun j hj => ?_⟩, fun hkn => ⟨_, hb _, by simpa using h2, fun j hj => ?_⟩⟩
  · obtain ⟨u, sh, nv, bv, g0, g1, g2, g3, g4, g5, g6, g7, g8, g9⟩ := h3 j hj
    by_cases hjk : j = k
    · subst hjk
      refine ⟨u, sh, x, bv, g0, by rw [hne (by omega)]; exact g1, by rw [hne (by omega)]; exact g2, by rw [hne (by omega)]; exact g3, by rw [hne (by omega)]; exact g4, by rw [hne (by omega)]; exact g5, by rw [hne (by omega)]; exact g6, ?_, by rw [hne (by omega)]; exact g8, fun hh => absurd hh (by omega)⟩
      rw [Array.getElem?_setIfInBounds_self_of_lt (by omega)]
    · exact ⟨u, sh, nv, bv, g0, by rw [hne (by omega)]; exact g1, by rw [hne (by omega)]; exact g2, by rw [hne (by omega)]; exact g3, by rw [hne (by omega)]; exact g4, by rw [hne (by omega)]; exact g5, by rw [hne (by omega)]; exact g6, by rw [hne (by omega)]; exact g7, by rw [hne (by omega)]; exact g8, fun hh => g9 (by omega)⟩
  · obtain ⟨u, sh, nv, bv, g0, g1, g2, g3, g4, g5, g6, g7, g8, g9⟩ := h3 j hj
    by_cases hjk : j = k
    · subst hjk
      refine ⟨u, sh, nv, x, g0, by rw [hne (by omega)]; exact g1, by rw [hne (by omega)]; exact g2, by rw [hne (by omega)]; exact g3, by rw [hne (by omega)]; exact g4, by rw [hne (by omega)]; exact g5, by rw [hne (by omega)]; exact g6, by rw [hne (by omega)]; exact g7, ?_, fun hh => absurd hh (by omega)⟩
      rw [Array.getElem?_setIfInBounds_self_of_lt (by omega)]
    · exact ⟨u, sh, nv, bv, g0, by rw [hne (by omega)]; exact g1, by rw [hne (by omega)]; exact g2, by rw [hne (by omega)]; exact g3, by rw [hne (by omega)]; exact g4, by rw [hne (by omega)]; exact g5, by rw [hne (by omega)]; exact g6, by rw [hne (by omega)]; exact g7, by rw [hne (by omega)]; exact g8, g9⟩
/-- An own row of candidates. -/
theorem own_candBlk {w : World} {B : Nat} {v : Value} {cs : List CandD} (h : w.ownsRow B 52 8 v cs.length (fCand.all cs)) (hB : ∀ d ∈ cs, d.v.B) : ∃ A c, v = .slice A cs.length c ∧ (0 < cs.length → ∃ b, A = some ⟨b, 0, none⟩ ∧ B ≤ b ∧ CandBlk w b cs.length 0) := by
  rcases h.2 with ⟨rfl, h0⟩ | ⟨g, cap, cur, rfl, hb, hg, h1, h2, h3, h4⟩
  · exact ⟨none, 0, by rw [h0], fun hp => by omega⟩
  · refine ⟨_, cap, rfl, fun hp => ⟨g, rfl, hb, cur, hg, by rw [h3]; exact Nat.mul_le_mul_right _ h1, fun j hj => ?_⟩⟩
    have hget : ∀ i, i < 8 → cur[j * 8 + i]? = (candCells cs[j])[i]? := by
      intro i hi
      have hlt : j * 8 + i < cs.length * 8 := by omega
      have e := fCand.all_get hj (j := i) hi
      rw [← Array.getElem?_toList, ← List.getElem?_take_of_lt hlt, h4]
      exact e
    exact ⟨cs[j].v, cs[j].sh, .slice none 0 0, .slice none 0 0, hB _ (List.getElem_mem hj), hget 0 (by omega), hget 1 (by omega), hget 2 (by omega), hget 3 (by omega), hget 4 (by omega), hget 5 (by omega), hget 6 (by omega), hget 7 (by omega), fun _ => ⟨rfl, rfl⟩⟩
theorem CandBlk.verAt {w : World} {b n nf k : Nat} (h : CandBlk w b n nf) (hk : k < n) : ∃ u : Ver, u.B ∧ VerAt w b (k * 8) u := by
  obtain ⟨cur, h1, h2, h3⟩ := h
  obtain ⟨u, sh, nv, bv, g0, g1, g2, g3, g4, g5, g6, g7, g8, g9⟩ := h3 k hk
  have e : ∀ o, w.cell? ⟨b, o, none⟩ = cur[o]? := fun o => cell_of_row w b o cur _ (0, 0) h1
  exact ⟨u, g0, (e _).trans g1, (e _).trans g2, (e _).trans g3, (e _).trans g4, (e _).trans g5⟩
theorem CandBlk.needsAt {w : World} {b n nf k : Nat} (h : CandBlk w b n nf) (hk : k < n) : (∃ nv bv, w.cell? ⟨b, k * 8 + 6, none⟩ = some nv ∧ w.cell? ⟨b, k * 8 + 7, none⟩ = some bv ∧ (nf ≤ k → nv = .slice none 0 0)) ∧ ∀ o, w.frozen? ⟨b, o, none⟩ = false := by
  obtain ⟨cur, h1, h2, h3⟩ := h
  obtain ⟨u, sh, nv, bv, g0, g1, g2, g3, g4, g5, g6, g7, g8, g9⟩ := h3 k hk
  have e : ∀ o, w.cell? ⟨b, o, none⟩ = cur[o]? := fun o => cell_of_row w b o cur _ (0, 0) h1
  exact ⟨⟨nv, bv, (e _).trans g7, (e _).trans g8, fun hh => (g9 hh).1⟩, fun o => frozen_of_row w b o cur _ h1⟩

/-- What is not told yet is none. -/
theorem CandBlk.nilAt {w : World} {b n nf k : Nat} (h : CandBlk w b n nf) (hk : k < n) (hn : nf ≤ k) : w.cell? ⟨b, k * 8 + 6, none⟩ = some (.slice none 0 0) ∧ w.cell? ⟨b, k * 8 + 7, none⟩ = some (.slice none 0 0) := by
  obtain ⟨cur, h1, h2, h3⟩ := h
  obtain ⟨u, sh, nv, bv, g0, g1, g2, g3, g4, g5, g6, g7, g8, g9⟩ := h3 k hk
  have e : ∀ o, w.cell? ⟨b, o, none⟩ = cur[o]? := fun o => cell_of_row w b o cur _ (0, 0) h1
  obtain ⟨rfl, rfl⟩ := g9 hn
  exact ⟨(e _).trans g7, (e _).trans g8⟩
/-- A unit's candidates lie in a block from B on; of the first nf its needs are told. -/
def CandU (w : World) (B : Nat) (d : UnitD) (nf : Nat) : Prop := d.n ≤ 4 ∧ (0 < d.n → ∃ b, d.A = some ⟨b, 0, none⟩ ∧ B ≤ b ∧ CandBlk w b d.n nf)
/-- Units under way: nf tells of each one up to where its candidates' needs are told. -/
structure Built (B : Nat) (w : World) (lv : Value) (us : List UnitD) (nf : Nat → Nat) : Prop where
  own : w.ownsRow B 55 3 lv us.length (fUnit.all us)
  cands : ∀ k, (h : k < us.length) → CandU w B us[k] (nf k)
  incr : ∀ j k, (h : j < k) → (h' : k < us.length) → ∀ b b', 0 < (us[j]'(by omega)).n → 0 < us[k].n → (us[j]'(by omega)).A = some ⟨b, 0, none⟩ → us[k].A = some ⟨b', 0, none⟩ → b < b'
section
variable {B : Nat} {w w' : World} {lv : Value} {us : List UnitD} {nf : Nat → Nat}
theorem Built.keep (h : Built B w lv us nf) (hk : ∀ k, B ≤ k → k < w.heap.size → w'.heap[k]? = w.heap[k]?) : Built B w' lv us nf := by
  refine ⟨ownsRow_keep h.own fun g hg => hk g (h.own.lt g hg).1 (h.own.lt g hg).2, fun k hk' => ⟨(h.cands k hk').1, fun hp => ?_⟩, h.incr⟩
  obtain ⟨b, hA, hb, hc⟩ := (h.cands k hk').2 hp
  exact ⟨b, hA, hb, hc.keep (hk b hb hc.lt)⟩
theorem Built.gb {bG : Nat} (h : Built B w lv us nf) (hg : w.grownBy w' (some bG)) (hB : bG < B) : Built B w' lv us nf := h.keep fun k hk hl => gb_block hg (by omega) hl
theorem Built.below {M : Nat} (h : Built B w lv us nf) (hb : Below M w w') (hM : w.heap.size ≤ M) : Built B w' lv us nf := h.keep fun k _ hl => hb.block k (by omega)
theorem Built.form (h : Built B w lv us nf) : ∃ A c, lv = .slice A us.length c := own_form h.own
/-- To be read. -/
theorem Built.rd {bG : Nat} (h : Built B w lv us nf) (hB : bG < B) (h2 : 2 ≤ us.length) (h20 : us.length ≤ 20) : UnitsRd w (Not1 bG w) lv us.length := by
  obtain ⟨A, c, hv⟩ := h.form
  refine ⟨A, c, hv, h2, h20, fun k hk => ?_⟩
  rcases h.own.2 with ⟨_, hn⟩ | ⟨g, cap, cur, hv2, hb, hg, h3, h4, h5, h6⟩
  · omega
  · rw [hv] at hv2
    injection hv2 with e1 e2 e3
    have hgl : g < w.heap.size := (Array.getElem?_eq_some_iff.1 hg).1
    refine ⟨g, e1, ⟨by omega, hgl⟩, us[k].A, us[k].n, us[k].c, ?_, ?_⟩
    · rw [cell_of_row w g _ cur _ (0, 0) hg]
      have hlt : k * 3 + 2 < us.length * 3 := by omega
      rw [← Array.getElem?_toList, ← List.getElem?_take_of_lt hlt, h6]
      exact fUnit.all_get hk (j := 2) (by decide)
    · obtain ⟨hn4, hc⟩ := h.cands k hk
      refine ⟨us[k].A, us[k].c, rfl, hn4, fun j hj => ?_⟩
      obtain ⟨b, hA, hbb, hblk⟩ := hc (by omega)
      obtain ⟨u, hu, hat⟩ := hblk.verAt hj
      exact ⟨b, hA, ⟨by omega, hblk.lt⟩, u, hu, hat⟩
theorem Built.snoc {v' : Value} {d : UnitD} {M : Nat} {o : Obj} (h : Built B w lv us (fun _ => 0)) (hM : ∀ k, (hk : k < us.length) → ∀ b, 0 < us[k].n → us[k].A = some ⟨b, 0, none⟩ → b < M)
    (hd : CandU w M d 0) (hMB : B ≤ M) (hg : (w.alloc o).grownBy w' lv.ownBlock) (ho : w'.ownsRow B 55 3 v' (us.length + 1) (fUnit.all us ++ fUnit.cells d)) : Built B w' v' (us ++ [d]) (fun _ => 0) := by
  have hkeep : ∀ {b n nf : Nat}, CandBlk w b n nf → CandBlk w' b n nf := fun hc => by
    have hl := hc.lt
    refine hc.keep ?_
    rw [hg.block _ (by simp; omega) ?_, Below.heap_alloc _ _ _ hl]
    intro e
    obtain ⟨cur, h1, _⟩ := hc
    rcases h.own.2 with ⟨rfl, _⟩ | ⟨g, cap, cur', rfl, _, hgg, _⟩
    · cases e
    · have : g = _ := (Option.some.inj e).symm
      subst this
      rw [hgg] at h1
      injection h1 with h1
      injection h1 with _ h2
      exact absurd h2 (by decide)
  refine ⟨?_, ?_, ?_⟩
  · rw [fUnit.all_snoc, List.length_append]
    exact ho
  · intro k hk
    by_cases hkl : k < us.length
    · rw [List.getElem_append_left hkl]
      refine ⟨(h.cands k hkl).1, fun hp => ?_⟩
      obtain ⟨b, hA, hb, hc⟩ := (h.cands k hkl).2 hp
      exact ⟨b, hA, hb, hkeep hc⟩
    · have e : k = us.length := by simp at hk; omega
      subst e
      have e3 : (us ++ [d])[us.length] = d := by simp
      rw [e3]
      refine ⟨hd.1, fun hp => ?_⟩
      obtain ⟨b, hA, hb, hc⟩ := hd.2 hp
      exact ⟨b, hA, by omega, hkeep hc⟩
  · intro j k hjk hk b b' hj0 hk0 hAj hAk
    by_cases hkl : k < us.length
    · rw [List.getElem_append_left hkl] at hAk hk0
      rw [List.getElem_append_left (by omega)] at hAj hj0
      exact h.incr j k hjk hkl b b' hj0 hk0 hAj hAk
    · have e : k = us.length := by simp at hk; omega
      subst e
      rw [List.getElem_append_left hjk] at hAj hj0
      have e3 : (us ++ [d])[us.length] = d := by simp
      rw [e3] at hAk hk0
      obtain ⟨b2, hA2, hb2, _⟩ := hd.2 hk0
      rw [hAk] at hA2
      injection hA2 with hA2
      injection hA2 with hA2
      subst hA2
      have := hM j hjk b hj0 hAj
      omega
end
end Go.Proofs.YtmghlakedaigpaaGreatDoor
end
