import Derived.Test.YtbfbppjccbppiaaGreatDoorG2
import Derived.Test.YtbfbppjccbppiaaGreatDoorzV17
namespace Go.Proofs.YtbfbppjccbppiaaGreatDoor
open Go Go.RowKit
section
def qi8 (w : World) (F : Nat → Prop) (v : Value) (m : Nat) : Prop := ∃ A cap, v = .slice A m cap ∧ 2 ≤ m ∧ m ≤ 20 ∧ ∀ k, k < m → ∃ g, A = some ⟨g, 0, none⟩ ∧ F g ∧ ∃ C n c, w.cell? ⟨g, k * 3 + 2, none⟩ = some (.slice C n c) ∧ qq7 w F (.slice C n c) n
theorem qi8.keep {w w' : World} {F : Nat → Prop} {v : Value} {m : Nat} (hk : ∀ k, F k → w'.heap[k]? = w.heap[k]?) (h : qi8 w F v m) : qi8 w' F v m := by
  obtain ⟨A, cap, hv, h1, h2, hc⟩ := h
  refine ⟨A, cap, hv, h1, h2, fun k hk' => ?_⟩
  obtain ⟨g, hA, hF, C, n, c, hcell, hcd⟩ := hc k hk'
  exact ⟨g, hA, hF, C, n, c, (World.cell?_of_block (hk g hF)).trans hcell, hcd.keep hk⟩
theorem qi8.more {w : World} {F F' : Nat → Prop} {v : Value} {m : Nat} (hF : ∀ k, F k → F' k) (h : qi8 w F v m) : qi8 w F' v m := by
  obtain ⟨A, cap, hv, h1, h2, hc⟩ := h
  refine ⟨A, cap, hv, h1, h2, fun k hk' => ?_⟩
  obtain ⟨g, hA, hFF, C, n, c, hcell, hcd⟩ := hc k hk'
  exact ⟨g, hA, hF _ hFF, C, n, c, hcell, hcd.more hF⟩
def Not1 (bG : Nat) (w : World) : Nat → Prop := fun k => k ≠ bG ∧ k < w.heap.size
theorem qi8.gb {w w' : World} {bG : Nat} {v : Value} {m : Nat} (h : qi8 w (Not1 bG w) v m) (hg : w.grownBy w' (some bG)) : qi8 w' (Not1 bG w') v m :=
  (h.keep fun _ hk => qf6 hg hk.1 hk.2).more fun _ hk => ⟨hk.1, Nat.lt_of_lt_of_le hk.2 hg.size⟩
def WantPost (m bG : Nat) (lv : Value) (xs : List Int) (i : Int) (w : World) (e : Ending) (w' : World) : Prop :=
  ∃ (u : Int) (A : Option Addr) (n c : Nat) (A' : Option Addr) (n' c' : Nat), e = .returned (.agg #[.int .i64 u, .slice A n c, .slice A' n' c']) ∧ GAt w' bG lv xs (i + 3) ∧ w.grownBy w' (some bG) ∧ ∃ x : WantD, qh5.rd w' (Btw w.heap.size w') [.int .i64 u, .slice A n c, .slice A' n' c'] x ∧ x.ok m ∧ 1 ≤ x.u
theorem want_fin {w2 : World} {b B : Nat} {u : Int} {x y p q r : Value} {s : SetD} (h : tSet.rd w2 (Btw B w2) [x, y] s) (hB : b ≤ B) (hu : I64 u) :
    qh5.rd (((w2.setCell ⟨b, 0, none⟩ p).setCell ⟨b, 1, none⟩ q).setCell ⟨b, 2, none⟩ r) (Btw b (((w2.setCell ⟨b, 0, none⟩ p).setCell ⟨b, 1, none⟩ q).setCell ⟨b, 2, none⟩ r)) [.int .i64 u, x, y] ⟨u, s⟩ := by
  have hsz : (((w2.setCell ⟨b, 0, none⟩ p).setCell ⟨b, 1, none⟩ q).setCell ⟨b, 2, none⟩ r).heap.size = w2.heap.size := by simp
  refine ⟨x, y, rfl, hu, tSet.more (fun k hk => ⟨by have := hk.1; omega, by rw [hsz]; exact hk.2⟩) (tSet.keep (fun k hk => ?_) h)⟩
  have hne : k ≠ b := by have := hk.1; omega
  rw [heap_setCell_other _ _ _ _ hne, heap_setCell_other _ _ _ _ hne, heap_setCell_other _ _ _ _ hne]
theorem three_steps {w : World} {bG : Nat} {lv : Value} {xs : List Int} {i : Int} (h : GAt w bG lv xs (i + 1 + 2)) : GAt w bG lv xs (i + 3) := by
  have e : i + 3 = i + 1 + 2 := by omega
  rw [e]; exact h
theorem blk3_cells {w : World} {g : Nat} {T : TypeId} {x y z : Value} (h : w.heap[g]? = some (.cells #[x, y, z] T (0, 0))) : w.cell? ⟨g, 0, none⟩ = some x ∧ w.cell? ⟨g, 1, none⟩ = some y ∧ w.cell? ⟨g, 2, none⟩ = some z ∧ ∀ o, w.frozen? ⟨g, o, none⟩ = false := by
  refine ⟨?_, ?_, ?_, fun o => frozen_of_row w g o _ T h⟩ <;> (rw [cell_of_row _ _ _ _ T (0, 0) h]; rfl)
set_option maxRecDepth 100000 in
set_option maxHeartbeats 2000000 in
theorem want_g (bG : Nat) (lv : Value) (xs : List Int) (i : Int) (v : Value) (m : Nat) (w : World) (hG : GAt w bG lv xs i) (hi : i + 3 < 1000000) (hu : qi8 w (Not1 bG w) v m) :
    Calls Tryz.prog 30 #[.pointer (some ⟨bG, 0, none⟩), v] w (WantPost m bG lv xs i w) := by
  obtain ⟨A, cap, rfl, hm1, hm2, hcs⟩ := hu
  have HU := hid hcs
  have hi0 := hG.bd.1
  have hGl := hG.lt
  have HG := hid hG
  clear hcs hG
  go_enter Tryz.func30, Tryz.ntmps30
  go_wp2_with fail
  obtain ⟨w0, hw0⟩ : ∃ w0 : World, w0 = w.alloc (.cells #[.int .i64 0, .slice none 0 0, .slice none 0 0] 79) := ⟨_, rfl⟩
  have HR0 : Hid (w0.heap[w.heap.size]? = some (.cells #[.int .i64 0, .slice none 0 0, .slice none 0 0] 79 (0, 0))) := hid (by rw [hw0]; exact heap_alloc_new w _)
  have hbw : Below w.heap.size w w0 := by rw [hw0]; exact qa0 (b0 w) _
  have HG0 : Hid (GAt w0 bG lv xs i) := hid (HG.out.below hbw hGl)
  have HB0 : Hid (w.grownBy w0 (some bG)) := hid (qd5 (zb9 w _) hbw (Nat.le_refl _))
  have hlt0 : w.heap.size < w0.heap.size := by rw [hw0]; simp
  rw [← hw0]
  clear hw0 hbw
  refine (qr9 bG lv xs i _ _ HG0.out (by omega) ⟨by omega, by omega⟩).mono ?_
  rintro e w1 ⟨r, rfl, hr0, hr1, -, hg1, hgb1⟩
  have hr2 : r < (m : Int) - 1 := hr1 (by omega)
  have HG1 := hid hg1
  have HGB1 := hid (qo1 HB0.out hgb1)
  have HR1 := hid ((qf6 hgb1 (by omega) hlt0).trans HR0.out)
  have hlt1 : w.heap.size < w1.heap.size := Nat.lt_of_lt_of_le hlt0 hgb1.size
  clear hg1 hgb1 hr1
  obtain ⟨p, rfl⟩ := Int.eq_ofNat_of_zero_le hr0
  obtain ⟨g, hA, hF, C, n, c, hcell, hcd⟩ := HU.out (p + 1) (by omega)
  cases hA
  have hcell1 : w1.cell? ⟨g, (p + 1) * 3 + 2, none⟩ = some (.slice C n c) := zq9 HGB1.out hF.1 hcell
  have HCD : Hid (qq7 w1 (fun k => k ≠ bG ∧ k < w1.heap.size) (.slice C n c) n) := hid ((hcd.keep fun k hk => qf6 HGB1.out hk.1 hk.2).more fun k hk => ⟨hk.1, Nat.lt_of_lt_of_le hk.2 HGB1.out.size⟩)
  clear hcell hcd
  have j1 : (1 : Int) + ↑p = ↑(p + 1) := by omega
  have j2 : (0 : Int) ≤ ↑(p + 1) := by omega
  have j3 : ((p + 1 : Nat) : Int) < ↑m := by omega
  go_wp2_with (first
    | (go_at_call 63; go_must (refine (set_g bG lv xs (i + 1) _ n _ HG1.out (by omega) HCD.out).mono ?_; rintro e w2 ⟨A2, n2, c2, A3, n3, c3, rfl, hg2, hgb2, sd, hsd, hsok⟩; have HSD := hid hsd; clear hsd; have HG2 := hid (three_steps hg2); have HGB2 := hid (qo1 HGB1.out hgb2); have HR2 := hid ((qf6 hgb2 (by omega) hlt1).trans HR1.out); obtain ⟨x0, x1, x2, xf⟩ := blk3_cells HR2.out; clear hg2 hgb2)))
  have hfin := (((b0 w2).mono (B' := w.heap.size) HGB2.out.size).setCell (p := ⟨w.heap.size, 0, none⟩) (Nat.le_refl _) (.int .i64 (↑p + 1))).setCell (p := ⟨w.heap.size, 1, none⟩) (Nat.le_refl _) (.slice A2 n2 c2)
  have hfin2 := hfin.setCell (p := ⟨w.heap.size, 2, none⟩) (Nat.le_refl _) (.slice A3 n3 c3)
  exact bodyPost_ret (v := .agg #[.int .i64 (↑p + 1), .slice A2 n2 c2, .slice A3 n3 c3]) (by simp [results, Tryz.results30, go_sem, x0, x1, x2]) rfl ⟨↑p + 1, A2, n2, c2, A3, n3, c3, rfl, HG2.out.below hfin2 hGl, qd5 HGB2.out hfin2 (Nat.le_refl _), ⟨↑p + 1, sd⟩, want_fin HSD.out (Nat.le_of_lt hlt1) ⟨by omega, by omega⟩, ⟨by show (0 : Int) ≤ ↑p + 1; omega, by show ↑p + 1 < (m : Int); omega, hsok⟩, by show (1 : Int) ≤ ↑p + 1; omega⟩
theorem want_info : (Tryz.prog.info? 79).map (fun i => (i.zero, i.size, i.bytes)) = some (some (.agg #[.int .i64 0, .slice none 0 0, .slice none 0 0]), 3, 56) := by kernel_rfl
theorem wants_info : (Tryz.prog.info? 61).map (fun i => (i.zero, i.size, i.bytes)) = some (some (.slice none 0 0), 1, 24) := by kernel_rfl
def Sm (a b : Nat) (w w' : World) : Prop := (∀ k, a ≤ k → k < b → w'.heap[k]? = w.heap[k]?) ∧ w.heap.size ≤ w'.heap.size ∧ b ≤ w.heap.size
section
variable {a b bG : Nat} {w w1 w2 : World}
theorem Sm.refl (a : Nat) (w : World) : Sm a w.heap.size w w := ⟨fun _ _ _ => rfl, Nat.le_refl _, Nat.le_refl _⟩
theorem Sm.gb (h : Sm a b w w1) (hg : w1.grownBy w2 (some bG)) (hB : bG < a) : Sm a b w w2 :=
  ⟨fun k h1 h2 => (qf6 hg (by omega) (by have := h.2.1; have := h.2.2; omega)).trans (h.1 k h1 h2), Nat.le_trans h.2.1 hg.size, h.2.2⟩
theorem Sm.alloc (h : Sm a b w w1) (o : Obj) : Sm a b w (w1.alloc o) :=
  ⟨fun k h1 h2 => (Below.heap_alloc _ _ _ (by have := h.2.1; have := h.2.2; omega)).trans (h.1 k h1 h2), by have := h.2.1; simp; omega, h.2.2⟩
theorem Sm.app {ob : Option Nat} (h : Sm a b w w1) (hg : w1.grownBy w2 ob) (hB : ∀ g, ob = some g → b ≤ g) : Sm a b w w2 :=
  ⟨fun k h1 h2 => (hg.block k (by have := h.2.1; have := h.2.2; omega) (fun e => by have := hB k e.symm; omega)).trans (h.1 k h1 h2), Nat.le_trans h.2.1 hg.size, h.2.2⟩
theorem Sm.own {α : Type} {t : Ty α} {e : TypeId} {v : Value} {l : List α} {xs : List Value} (h : Sm a w.heap.size w w1) (ho : OwnT t e w a v l xs) : OwnT t e w1 a v l xs := ho.keepB h.1 h.2.1
theorem OwnT.gb {α : Type} {t : Ty α} {e : TypeId} {v : Value} {l : List α} {xs : List Value} (ho : OwnT t e w a v l xs) (hg : w.grownBy w1 (some bG)) (hB : bG < a) : OwnT t e w1 a v l xs :=
  ho.keepB (fun _ h1 h2 => qf6 hg (by omega) h2) hg.size
end
theorem row_two {w4 w6 : World} {B g b3 : Nat} {T : TypeId} {v6 : Value} {x1 x2 : WantD} {cs1 cs2 : List Value} {o : Obj} (h : OwnT qh5 T w4 B (.slice (some ⟨g, 0, none⟩) 1 1) [x1] cs1) (hx : qh5.rd w4 (Btw b3 w4) cs2 x2) (hg : g < b3) (hB : B ≤ b3) (hl : cs2.length = 3)
    (ho : w6.ownsRow B T 3 v6 2 (cs1 ++ cs2)) (hgr : (w4.alloc o).grownBy w6 (Value.slice (some ⟨g, 0, none⟩) 1 1).ownBlock) (hn : v6.ownBlock = (Value.slice (some ⟨g, 0, none⟩) 1 1).ownBlock ∨ v6.ownBlock = some (w4.alloc o).heap.size) :
    OwnT qh5 T w6 B v6 [x1, x2] (cs1 ++ cs2) :=
  (h.later (qa0 (b0 w4) o)).snoc hl (qh5.more (fun b hb => ⟨by have := hb.1; omega, by have := hb.2; simp; omega, fun e => by have e2 : g = b := Option.some.inj e; have := hb.1; omega⟩) (qh5.keep (fun b hb => Below.heap_alloc _ _ _ hb.2) hx)) ho hgr hn
theorem rows_more {w0 wr w6 w7 : World} {B : Nat} {T T' : TypeId} {ov v6 v7 : Value} {ns : List (List WantD)} {r : List WantD} {cs cr : List Value} {o : Obj} (h : OwnT (qk2 qh5) T wr B ov ns cs) (hs : Sm B wr.heap.size wr w6) (hr : OwnT qh5 T' w6 wr.heap.size v6 r cr) (hB : B ≤ wr.heap.size)
    (ho : w7.ownsRow B T 1 v7 (ns.length + 1) (cs ++ [v6])) (hg : (w6.alloc o).grownBy w7 ov.ownBlock) (hn : v7.ownBlock = ov.ownBlock ∨ v7.ownBlock = some (w6.alloc o).heap.size) (_ : w0 = w0) :
    OwnT (qk2 qh5) T w7 B v7 (ns ++ [r]) (cs ++ [v6]) :=
  ((hs.own h).later (qa0 (b0 w6) o)).snoc rfl ⟨v6, rfl, (hr.rdF.keep (fun b hb => Below.heap_alloc _ _ _ hb.2)).more fun b hb => ⟨Nat.le_trans hB hb.1, by have := hb.2; simp; omega, fun e => by have := (h.own.lt b e).2; have := hb.1; omega⟩⟩ ho hg hn
def zf7 (m : Nat) (r : List WantD) : Prop := r.length ≤ 2 ∧ ∀ x ∈ r, x.ok m
def RowT (m : Nat) (r : List WantD) : Prop := zf7 m r ∧ 1 ≤ r.length ∧ ∀ x ∈ r, 1 ≤ x.u
theorem zf7.snoc {m : Nat} {ns : List (List WantD)} {r : List WantD} (h : ∀ r ∈ ns, RowT m r) (hr : RowT m r) : ∀ r' ∈ ns ++ [r], RowT m r' := by
  intro r' h'
  rcases List.mem_append.1 h' with h1 | h1
  · exact h r' h1
  · have : r' = r := by simpa using h1
    subst this
    exact hr
def NeedsPost (m bG : Nat) (lv : Value) (xs : List Int) (i most : Int) (w : World) (e : Ending) (w' : World) : Prop :=
  ∃ (A : Option Addr) (c : Nat) (ns : List (List WantD)) (cs : List Value) (i' : Int), e = .returned (.slice A ns.length c) ∧ OwnT (qk2 qh5) 61 w' w.heap.size (.slice A ns.length c) ns cs ∧ (ns.length : Int) ≤ most ∧ (∀ u ∈ cs, u.oneCell' = true) ∧ (∀ r ∈ ns, RowT m r) ∧ GAt w' bG lv xs i' ∧ i ≤ i' ∧ i' ≤ i + 1 + 7 * most ∧ w.grownBy w' (some bG)
theorem gb_own {w w1 : World} {bG B : Nat} {e : TypeId} {s n : Nat} {v : Value} {xs : List Value} (h : w.ownsRow B e s v n xs) (hg : w.grownBy w1 (some bG)) (hB : bG < B) : w1.ownsRow B e s v n xs :=
  qb3 h fun g hgg => qf6 hg (by have := (h.lt g hgg).1; omega) (h.lt g hgg).2
theorem GAt.append {w0 w w1 : World} {bG : Nat} {lv : Value} {xs : List Int} {i : Int} {e : TypeId} {s n : Nat} {v : Value} {ys : List Value} (h : GAt w bG lv xs i) (hb : bG < w0.heap.size) (hs : w0.heap.size ≤ w.heap.size) (ho : w.ownsRow w0.heap.size e s v n ys) (o : Obj) (hg : (w.alloc o).grownBy w1 v.ownBlock) : GAt w1 bG lv xs i :=
  h.below (Below.grown ((Below.refl w0.heap.size w).alloc hs o) hg (by simp; omega) (fun k hk => (ho.lt k hk).1)) hb
theorem qp6 {w w1 : World} {B B' : Nat} {e : TypeId} {s n : Nat} {v : Value} {ys : List Value} (hs : B ≤ w.heap.size) (ho : w.ownsRow B' e s v n ys) (hB : B ≤ B') (o : Obj) (hg : (w.alloc o).grownBy w1 v.ownBlock) : Below B w w1 :=
  Below.grown ((Below.refl B w).alloc hs o) hg (by simp; omega) (fun k hk => Nat.le_trans hB (ho.lt k hk).1)
set_option maxRecDepth 100000 in
set_option maxHeartbeats 2000000 in
theorem needs_g (bG : Nat) (lv : Value) (xs : List Int) (i most : Int) (v : Value) (m : Nat) (w : World) (hG : GAt w bG lv xs i) (hi : i + 100 < 1000000) (hm : 0 ≤ most) (hm3 : most ≤ 5) (hu : qi8 w (Not1 bG w) v m) :
    Calls Tryz.prog 27 #[.pointer (some ⟨bG, 0, none⟩), v, .int .i64 most] w (NeedsPost m bG lv xs i most w) := by
  have HU := hid hu
  obtain ⟨A, cap, rfl, -, -, -⟩ := hu
  obtain ⟨iw, hiw⟩ := info_parts want_info
  have HIW := hid hiw
  obtain ⟨iv, hiv⟩ := info_parts wants_info
  have HIV := hid hiv
  have hi0 := hG.bd.1
  have hGl := hG.lt
  have HG := hid hG
  clear hG hiw hiv
  go_enter Tryz.func27, Tryz.ntmps27
  go_wp2_with (go_at_call 29; go_must (refine (qr9 bG lv xs i _ _ HG.out (by omega) ⟨by omega, by omega⟩).mono ?_; rintro e w1 ⟨r, rfl, hr0, hr1, -, hg1, hgb1⟩; have hr2 : r < most + 1 := hr1 (by omega); have HG1 := hid hg1; have HGB1 := hid hgb1; clear hg1 hgb1 hr1))
  go_loopw [7, 8] (fun ov kv wr => ∃ (k i' : Int) (ns : List (List WantD)) (cs : List Value), 0 ≤ k ∧ kv = .int .i64 k ∧ (ns.length : Int) = r - k ∧ i + 1 ≤ i' ∧ i' ≤ i + 1 + 7 * (r - k) ∧ Hid (OwnT (qk2 qh5) 61 wr w.heap.size ov ns cs ∧ (∀ u ∈ cs, u.oneCell' = true) ∧ ∀ r ∈ ns, RowT m r) ∧ Hid (GAt wr bG lv xs i') ∧ Hid (w.grownBy wr (some bG))) (fun _ kv _ => (intOf kv).toNat)
  case atStart => exact ⟨r, i + 1, [], [], hr0, rfl, by simp, by omega, by omega, hid ⟨OwnT.nil _ _ _ _, fun u hu => by (cases hu), fun u hu => by (cases hu)⟩, HG1, HGB1⟩
  case round =>
    obtain ⟨k, i', ns, cs, hk, rfl, hn, hi1, hi2, hown, hg, hgb⟩ := hrel
    obtain ⟨Ao, co, rfl⟩ := qb1 hown.out.1.own
    have hsw := hgb.out.size
    have hGr : bG < wr.heap.size := Nat.lt_of_lt_of_le hGl hsw
    by_cases hlt : 0 < k
    · have tok := hid True.intro
      have tok2 := hid True.intro
      have tok3 := hid True.intro
      have HURR := hid ((show qi8 w (Not1 bG w) _ m from HU.out).gb hgb.out)
      go_wp2_with (first
        | (go_at_call 30; clear tok; go_must (refine (want_g bG lv xs i' _ m _ hg.out (by omega) HURR.out).mono ?_; rintro e w2 ⟨u, A2, n2, c2, A3, n3, c3, rfl, hg2, hgb2, x1, hx1, hok1⟩; have HGB2 := hid (qo1 hgb.out hgb2); have HX1 := hid hx1; have hr2 : wr.heap.size ≤ w2.heap.size := hgb2.size; have HS2 := hid ((Sm.refl w.heap.size wr).gb hgb2 hGl); have HG2 := hid hg2; have hs2 := HGB2.out.size; clear hg2 hgb2 hx1))
        | (go_at_call 29; go_must (refine (qr9 bG lv xs (i' + 3) 3 _ (HG2.out.below (qa0 (b0 w2) _) HG2.out.lt) (by omega) ⟨by decide, by decide⟩).mono ?_; rintro e w3 ⟨r3, rfl, -, -, -, hg3, hgb3⟩; have HGB3 := hid (qo1 (qd5 HGB2.out (qa0 (b0 w2) _) HGB2.out.size) hgb3); have HS3 := hid ((HS2.out.alloc _).gb hgb3 hGl); have HT3 := hid ((OwnT.one (e := 79) (ca := #[.int .i64 u, .slice A2 n2 c2, .slice A3 n3 c3]) (qh5.more (fun _ hb => ⟨Nat.le_of_lt hb.1, hb.2⟩) HX1.out) hr2 rfl).gb hgb3 hGr); have HG3 := hid hg3; have hs3 := HGB3.out.size; have hr3 : w2.heap.size < w3.heap.size := Nat.lt_of_lt_of_le (by simp) hgb3.size; clear hg3 hgb3))
        | (go_at_call 30; clear tok2; go_must (refine (want_g bG lv xs (i' + 3 + 1) _ m _ HG3.out (by omega) ((show qi8 w (Not1 bG w) _ m from HU.out).gb HGB3.out)).mono ?_; rintro e w4 ⟨u4, A4, n4, c4, A5, n5, c5, rfl, hg4, hgb4, x2, hx2, hok2⟩; have HGB4 := hid (qo1 HGB3.out hgb4); have HX2 := hid hx2; have HS4 := hid (HS3.out.gb hgb4 hGl); have HT4 := hid (HT3.out.gb hgb4 hGr); have HG4 := hid hg4; have hs4 := HGB4.out.size; have hr4 : w3.heap.size ≤ w4.heap.size := hgb4.size; clear hg4 hgb4 hx2))
        | (at_builtin
           clear tok3
           (refine qa5 _ rfl (.tmp 25) (.tmp 29) _ rfl wr.heap.size 79 iw _ 3 56 Tryz.underlying61 HIW.out.1 HIW.out.2.1 HIW.out.2.2.1 HIW.out.2.2.2 rfl (by omega) (.slice (some ⟨w2.heap.size, 0, none⟩) 1 1) 1 [.int .i64 u, .slice A2 n2 c2, .slice A3 n3 c3] (by rfl) (by exact HT4.out.own.alloc _) (some ⟨w4.heap.size, 0, none⟩) 1 1 [.int .i64 u4, .slice A4 n4 c4, .slice A5 n5 c5] (by rfl) (by exact qe1 _ _ rfl 3 _ rfl rfl) (by simp [Value.oneCell']) (by unfold maxLen; omega) (by omega) (by simp; omega) ?_)
           intro v6 w6 hown6 hg6 hat6
           obtain ⟨A6, c6, rfl⟩ := qb1 hown6
           have HBL6 := hid (qp6 hs4 HT4.out.own hsw _ hg6)
           have HT6 := hid (row_two HT4.out HX2.out hr3 (by omega) rfl hown6 hg6 hat6)
           have HS6 := hid ((HS4.out.alloc _).app hg6 (fun g e => by have e2 : w2.heap.size = g := Option.some.inj e; omega))
           have HG6 := hid (HG4.out.below HBL6.out hGl)
           have HGB6 := hid (qd5 HGB4.out HBL6.out (Nat.le_refl _))
           have hs6 := HGB6.out.size
           clear hown6 hg6 hat6)
        | (at_builtin
           go_must (first
             | (refine qa5 _ rfl (.tmp 31) (.tmp 33) _ rfl w.heap.size 61 iv _ 1 24 Tryz.underlying60 HIV.out.1 HIV.out.2.1 HIV.out.2.2.1 HIV.out.2.2.2 rfl (by omega) (.slice Ao ns.length co) ns.length cs (by rfl) (by exact (HS6.out.own hown.out.1).own.alloc _) (some ⟨w6.heap.size, 0, none⟩) 1 1 [.slice A6 2 c6] (by rfl) (by exact qe1 _ _ rfl 1 _ rfl rfl) (by simp [Value.oneCell']) (by unfold maxLen; omega) (by omega) (by simp; omega) ?_)
             | (refine qa5 _ rfl (.tmp 31) (.tmp 33) _ rfl w.heap.size 61 iv _ 1 24 Tryz.underlying60 HIV.out.1 HIV.out.2.1 HIV.out.2.2.1 HIV.out.2.2.2 rfl (by omega) (.slice Ao ns.length co) ns.length cs (by rfl) (by exact (HS3.out.own hown.out.1).own.alloc _) (some ⟨w3.heap.size, 0, none⟩) 1 1 [.slice (some ⟨w2.heap.size, 0, none⟩) 1 1] (by rfl) (by exact qe1 _ _ rfl 1 _ rfl rfl) (by simp [Value.oneCell']) (by unfold maxLen; omega) (by omega) (by simp; omega) ?_))
           intro v7 w7 hown7 hg7 hat7
           first
             | have HO7 := hid (rows_more (w0 := w) hown.out.1 HS6.out HT6.out hsw hown7 hg7 hat7 rfl)
             | have HO7 := hid (rows_more (w0 := w) hown.out.1 HS3.out HT3.out hsw hown7 hg7 hat7 rfl)
           have HBL7 := hid (show Below w.heap.size _ w7 from qp6 (by first | exact hs6 | exact hs3) (by first | exact (HS6.out.own hown.out.1).own | exact (HS3.out.own hown.out.1).own) (Nat.le_refl _) _ hg7)
           clear hown7 hg7 hat7))
      · refine ⟨⟨k - 1, i' + 3 + 1 + 3, ns ++ [[x1, x2]], cs ++ [.slice A6 2 c6], by omega, by go_num, by simp; omega, by omega, by omega, hid ⟨HO7.out, ?_, zf7.snoc hown.out.2.2 ⟨⟨Nat.le_refl _, ?_⟩, by show 1 ≤ 2; omega, ?_⟩⟩, hid (HG6.out.below HBL7.out hGl), hid (qd5 HGB6.out HBL7.out (Nat.le_refl _))⟩, by simp [intOf]; omega⟩
        · intro x hx
          rcases List.mem_append.1 hx with hx | hx
          · exact hown.out.2.1 x hx
          · have : x = .slice A6 2 c6 := by simpa using hx
            subst this
            rfl
        · intro x hx
          simp only [List.mem_cons, List.not_mem_nil, or_false] at hx
          rcases hx with rfl | rfl
          · exact hok1.1
          · exact hok2.1
        · intro x hx
          simp only [List.mem_cons, List.not_mem_nil, or_false] at hx
          rcases hx with rfl | rfl
          · exact hok1.2
          · exact hok2.2
      · refine ⟨⟨k - 1, i' + 3 + 1, ns ++ [[x1]], cs ++ [.slice (some ⟨w2.heap.size, 0, none⟩) 1 1], by omega, by go_num, by simp; omega, by omega, by omega, hid ⟨HO7.out, ?_, zf7.snoc hown.out.2.2 ⟨⟨by show 1 ≤ 2; omega, ?_⟩, Nat.le_refl _, ?_⟩⟩, hid (HG3.out.below HBL7.out hGl), hid (qd5 HGB3.out HBL7.out (Nat.le_refl _))⟩, by simp [intOf]; omega⟩
        · intro x hx
          rcases List.mem_append.1 hx with hx | hx
          · exact hown.out.2.1 x hx
          · have : x = .slice (some ⟨w2.heap.size, 0, none⟩) 1 1 := by simpa using hx
            subst this
            rfl
        · intro x hx
          have : x = x1 := by simpa using hx
          subst this
          exact hok1.1
        · intro x hx
          have : x = x1 := by simpa using hx
          subst this
          exact hok1.2
    · have hk0 : k = 0 := by omega
      go_wp2
      go_ret
      exact ⟨Ao, co, ns, cs, i', rfl, hown.out.1, by omega, hown.out.2.1, hown.out.2.2, hg.out, by omega, by omega, hgb.out⟩
end
section
theorem versL_may : ∀ v ∈ qm4, mayV v = true := by decide +kernel
def Vers (l : List Ver) : Prop := l.Sublist qm4
theorem Vers.may {l : List Ver} (h : Vers l) : ∀ v ∈ l, mayV v = true := fun v hv => versL_may v (h.subset hv)
theorem Vers.len {l : List Ver} (h : Vers l) : l.length ≤ 4 := h.length_le
theorem Vers.take {l : List Ver} {k : Nat} (h : l.Sublist (qm4.take k)) : Vers l := h.trans (List.take_sublist _ _)
theorem take_more {l : List Ver} {k : Nat} (h : l.Sublist (qm4.take k)) (hk : k < qm4.length) : (l ++ [qm4[k]]).Sublist (qm4.take (k + 1)) := by
 rw [List.take_succ_eq_append_getElem hk]
 exact h.append (List.Sublist.refl _)
theorem take_skip {l : List Ver} {k : Nat} (h : l.Sublist (qm4.take k)) : l.Sublist (qm4.take (k + 1)) := h.trans (List.take_sublist_take_left (by omega))
def nameL : List ByteArray := [⟨#[97, 110, 116]⟩, ⟨#[98, 101, 101]⟩, ⟨#[99, 111, 119]⟩, ⟨#[100, 111, 103]⟩, ⟨#[101, 108, 107]⟩]
def qj7 : List ByteArray → List Bool → List (ByteArray × ByteArray)
 | n :: ns, b :: bs => (n, ⟨#[]⟩) :: ((if b then [(n, ⟨#[102]⟩)] else []) ++ qj7 ns bs)
 | _, _ => []
def qw5 (fs : List Bool) : List (ByteArray × ByteArray) := (⟨#[]⟩, ⟨#[]⟩) :: qj7 nameL fs
theorem zn7 : ∀ (ns : List ByteArray) (fs : List Bool) (n : ByteArray) (b : Bool), ns[fs.length]? = some n → qj7 ns (fs ++ [b]) = qj7 ns fs ++ ((n, ⟨#[]⟩) :: (if b then [(n, ⟨#[102]⟩)] else []))
 | [], _, _, _, h => by cases h
 | m :: ns, [], n, b, h => by
  have : m = n := by simpa using h
  subst this
  cases ns <;> simp [qj7]
 | m :: ns, c :: fs, n, b, h => by
  have := zn7 ns fs n b (by simpa using h)
  simp only [List.cons_append, qj7, this, List.append_assoc]
theorem zi6 (fs : List Bool) (n : ByteArray) (b : Bool) (h : nameL[fs.length]? = some n) : qw5 (fs ++ [b]) = qw5 fs ++ ((n, ⟨#[]⟩) :: (if b then [(n, ⟨#[102]⟩)] else [])) := by
 unfold qw5
 rw [zn7 _ _ _ _ h]
 rfl
end
section
structure UnitD where
 nm : ByteArray
 ft : ByteArray
 A : Option Addr
 n : Nat
 c : Nat
def qx5 : Flat UnitD := ⟨3, fun d => [.string d.nm, .string d.ft, .slice d.A d.n d.c], fun _ => True, fun _ => rfl, fun _ u h => by simp at h; rcases h with rfl | rfl | rfl <;> rfl, by decide⟩
structure CandD where
 v : Ver
 sh : Int
def qs9 (d : CandD) : List Value := [.int .i64 d.v.major, .int .i64 d.v.minor, .int .i64 d.v.patch, .string d.v.pre, .string d.v.build, .int .i64 d.sh, .slice none 0 0, .slice none 0 0]
def zg9 : Flat CandD := ⟨8, qs9, fun d => d.v.B, fun _ => rfl, fun _ u h => by simp [qs9] at h; rcases h with rfl | rfl | rfl | rfl | rfl | rfl | rfl | rfl <;> rfl, by decide⟩
theorem unit_info : (Tryz.prog.info? 55).map (fun i => (i.zero, i.size, i.bytes)) = some (some (.agg #[.string ⟨#[]⟩, .string ⟨#[]⟩, .slice none 0 0]), 3, 56) := by kernel_rfl
theorem cand_info : (Tryz.prog.info? 63).map (fun i => (i.zero, i.size, i.bytes)) = some (some (.agg #[.int .i64 0, .int .i64 0, .int .i64 0, .string ⟨#[]⟩, .string ⟨#[]⟩, .int .i64 0, .slice none 0 0, .slice none 0 0]), 8, 112) := by kernel_rfl
def NmAt (k : Nat) (us : List UnitD) : Prop := us.head?.map (·.n) = some 1 ∧ ∃ fs : List Bool, fs.length = k ∧ us.map (fun d => (d.nm, d.ft)) = qw5 fs
def Named (us : List UnitD) : Prop := us.head?.map (·.n) = some 1 ∧ ∃ fs : List Bool, fs.length ≤ 5 ∧ us.map (fun d => (d.nm, d.ft)) = qw5 fs
theorem NmAt.named {k : Nat} {us : List UnitD} (h : NmAt k us) (hk : k ≤ 5) : Named us := ⟨h.1, by obtain ⟨fs, h1, h2⟩ := h.2; exact ⟨fs, by omega, h2⟩⟩
theorem NmAt.one {k : Nat} {us : List UnitD} (h : NmAt k us) {d : UnitD} (hn : nameL[k]? = some d.nm) (hf : d.ft = ⟨#[]⟩) : NmAt (k + 1) (us ++ [d]) := by
 obtain ⟨h0, fs, h1, h2⟩ := h
 refine ⟨?_, fs ++ [false], by simp [h1], ?_⟩
 ·cases us with
  | nil => cases h0
  | cons x us => exact h0
 ·rw [zi6 fs d.nm false (by rw [h1]; exact hn), List.map_append, h2, List.map_cons, List.map_nil, hf]
  rfl
theorem NmAt.two {k : Nat} {us : List UnitD} (h : NmAt k us) {d e : UnitD} (hn : nameL[k]? = some d.nm) (hf : d.ft = ⟨#[]⟩) (hn2 : e.nm = d.nm) (hf2 : e.ft = ⟨#[102]⟩) : NmAt (k + 1) (us ++ [d] ++ [e]) := by
 obtain ⟨h0, fs, h1, h2⟩ := h
 refine ⟨?_, fs ++ [true], by simp [h1], ?_⟩
 ·cases us with
  | nil => cases h0
  | cons x us => exact h0
 ·rw [zi6 fs d.nm true (by rw [h1]; exact hn), List.map_append, List.map_append, h2, List.map_cons, List.map_nil, List.map_cons, List.map_nil, hf, hf2, hn2, List.append_assoc]
  rfl
theorem Named.first {us : List UnitD} (h : Named us) (h1 : 1 < us.length) : us[1].ft = ⟨#[]⟩ := by
 obtain ⟨-, fs, -, h2⟩ := h
 have e : (us.map fun d => (d.nm, d.ft))[1]? = some (us[1].nm, us[1].ft) := by rw [List.getElem?_map, List.getElem?_eq_getElem h1]; rfl
 rw [h2] at e
 match fs, e with
 | [], e => cases e
 | b :: fs, e => exact (congrArg Prod.snd (Option.some.inj e)).symm
def qx2 (vs : List Ver) : Prop := Vers vs ∨ vs = [⟨0, 0, 0, ⟨#[]⟩, ⟨#[]⟩⟩]
def qd8 (w : World) (b n nf : Nat) : Prop := ∃ cur : Array Value, w.heap[b]? = some (.cells cur 63 (0, 0)) ∧ n * 8 ≤ cur.size ∧
 ∃ vs : List Ver, (vs.length = n ∧ qx2 vs) ∧ ∀ j, j < n → ∃ (u : Ver) (sh : Int) (nv bv : Value), (u.B ∧ vs[j]? = some u) ∧ cur[j * 8]? = some (.int .i64 u.major) ∧ cur[j * 8 + 1]? = some (.int .i64 u.minor) ∧ cur[j * 8 + 2]? = some (.int .i64 u.patch) ∧ cur[j * 8 + 3]? = some (.string u.pre) ∧ cur[j * 8 + 4]? = some (.string u.build) ∧
  cur[j * 8 + 5]? = some (.int .i64 sh) ∧ cur[j * 8 + 6]? = some nv ∧ cur[j * 8 + 7]? = some bv ∧ (nf ≤ j → nv = .slice none 0 0 ∧ bv = .slice none 0 0)
theorem qd8.keep {w w' : World} {b n nf : Nat} (h : qd8 w b n nf) (hk : w'.heap[b]? = w.heap[b]?) : qd8 w' b n nf := by
 obtain ⟨cur, h1, h2⟩ := h
 exact ⟨cur, hk.trans h1, h2⟩
theorem qd8.lt {w : World} {b n nf : Nat} (h : qd8 w b n nf) : b < w.heap.size := by
 obtain ⟨cur, h1, _⟩ := h
 exact (Array.getElem?_eq_some_iff.1 h1).1
theorem qd8.mono {w : World} {b n nf nf' : Nat} (h : qd8 w b n nf) (hn : nf ≤ nf') : qd8 w b n nf' := by
 obtain ⟨cur, h1, h2, vs, hvs, h3⟩ := h
 refine ⟨cur, h1, h2, vs, hvs, fun j hj => ?_⟩
 obtain ⟨u, sh, nv, bv, g0, g1, g2, g3, g4, g5, g6, g7, g8, g9⟩ := h3 j hj
 exact ⟨u, sh, nv, bv, g0, g1, g2, g3, g4, g5, g6, g7, g8, fun hh => g9 (by omega)⟩
theorem qd8.set {w : World} {b n nf k : Nat} (h : qd8 w b n nf) (hk : k < n) (x : Value) : qd8 (w.setCell ⟨b, k * 8 + 6, none⟩ x) b n (max nf (k + 1)) ∧ (k < nf → qd8 (w.setCell ⟨b, k * 8 + 7, none⟩ x) b n nf) := by
 obtain ⟨cur, h1, h2, vs, hvs, h3⟩ := h
 have hb : ∀ o, (w.setCell ⟨b, o, none⟩ x).heap[b]? = some (.cells (cur.setIfInBounds o x) 63 (0, 0)) := fun o => heap_setCell_same w b o _ _ _ h1
 have hne : ∀ {o i : Nat}, o ≠ i → (cur.setIfInBounds o x)[i]? = cur[i]? := fun hoi => Array.getElem?_setIfInBounds_ne hoi
 refine ⟨⟨_, hb _, by simpa using h2, vs, hvs, fun j hj => ?_⟩, fun hkn => ⟨_, hb _, by simpa using h2, vs, hvs, fun j hj => ?_⟩⟩
 ·obtain ⟨u, sh, nv, bv, g0, g1, g2, g3, g4, g5, g6, g7, g8, g9⟩ := h3 j hj
  by_cases hjk : j = k
  ·subst hjk
   refine ⟨u, sh, x, bv, g0, by rw [hne (by omega)]; exact g1, by rw [hne (by omega)]; exact g2, by rw [hne (by omega)]; exact g3, by rw [hne (by omega)]; exact g4, by rw [hne (by omega)]; exact g5, by rw [hne (by omega)]; exact g6, ?_, by rw [hne (by omega)]; exact g8, fun hh => absurd hh (by omega)⟩
   rw [Array.getElem?_setIfInBounds_self_of_lt (by omega)]
  ·exact ⟨u, sh, nv, bv, g0, by rw [hne (by omega)]; exact g1, by rw [hne (by omega)]; exact g2, by rw [hne (by omega)]; exact g3, by rw [hne (by omega)]; exact g4, by rw [hne (by omega)]; exact g5, by rw [hne (by omega)]; exact g6, by rw [hne (by omega)]; exact g7, by rw [hne (by omega)]; exact g8, fun hh => g9 (by omega)⟩
 ·obtain ⟨u, sh, nv, bv, g0, g1, g2, g3, g4, g5, g6, g7, g8, g9⟩ := h3 j hj
  by_cases hjk : j = k
  ·subst hjk
   refine ⟨u, sh, nv, x, g0, by rw [hne (by omega)]; exact g1, by rw [hne (by omega)]; exact g2, by rw [hne (by omega)]; exact g3, by rw [hne (by omega)]; exact g4, by rw [hne (by omega)]; exact g5, by rw [hne (by omega)]; exact g6, by rw [hne (by omega)]; exact g7, ?_, fun hh => absurd hh (by omega)⟩
   rw [Array.getElem?_setIfInBounds_self_of_lt (by omega)]
  ·exact ⟨u, sh, nv, bv, g0, by rw [hne (by omega)]; exact g1, by rw [hne (by omega)]; exact g2, by rw [hne (by omega)]; exact g3, by rw [hne (by omega)]; exact g4, by rw [hne (by omega)]; exact g5, by rw [hne (by omega)]; exact g6, by rw [hne (by omega)]; exact g7, by rw [hne (by omega)]; exact g8, g9⟩
theorem qx9 {w : World} {B : Nat} {v : Value} {cs : List CandD} (h : w.ownsRow B 63 8 v cs.length (zg9.all cs)) (hB : ∀ d ∈ cs, d.v.B) (hV : qx2 (cs.map (·.v))) : ∃ A c, v = .slice A cs.length c ∧ (0 < cs.length → ∃ b, A = some ⟨b, 0, none⟩ ∧ B ≤ b ∧ qd8 w b cs.length 0) := by
 rcases h.2 with ⟨rfl, h0⟩ | ⟨g, cap, cur, rfl, hb, hg, h1, h2, h3, h4⟩
 ·exact ⟨none, 0, by rw [h0], fun hp => by omega⟩
 ·refine ⟨_, cap, rfl, fun hp => ⟨g, rfl, hb, cur, hg, by rw [h3]; exact Nat.mul_le_mul_right _ h1, cs.map (·.v), ⟨by rw [List.length_map], hV⟩, fun j hj => ?_⟩⟩
  have hget : ∀ i, i < 8 → cur[j * 8 + i]? = (qs9 cs[j])[i]? := by
   intro i hi
   have hlt : j * 8 + i < cs.length * 8 := by omega
   have e := zg9.all_get hj (j := i) hi
   rw [← Array.getElem?_toList, ← List.getElem?_take_of_lt hlt, h4]
   exact e
  exact ⟨cs[j].v, cs[j].sh, .slice none 0 0, .slice none 0 0, ⟨hB _ (List.getElem_mem hj), by rw [List.getElem?_map, List.getElem?_eq_getElem hj]; rfl⟩, hget 0 (by omega), hget 1 (by omega), hget 2 (by omega), hget 3 (by omega), hget 4 (by omega), hget 5 (by omega), hget 6 (by omega), hget 7 (by omega), fun _ => ⟨rfl, rfl⟩⟩
theorem qd8.verAt {w : World} {b n nf k : Nat} (h : qd8 w b n nf) (hk : k < n) : ∃ u : Ver, u.B ∧ zq0 w b (k * 8) u := by
 obtain ⟨cur, h1, h2, vs, hvs, h3⟩ := h
 obtain ⟨u, sh, nv, bv, g0, g1, g2, g3, g4, g5, g6, g7, g8, g9⟩ := h3 k hk
 have e : ∀ o, w.cell? ⟨b, o, none⟩ = cur[o]? := fun o => cell_of_row w b o cur _ (0, 0) h1
 exact ⟨u, g0.1, (e _).trans g1, (e _).trans g2, (e _).trans g3, (e _).trans g4, (e _).trans g5⟩
theorem qd8.fix {w : World} {b n nf : Nat} (h : qd8 w b n nf) : ∃ vs : List Ver, (vs.length = n ∧ qx2 vs) ∧ ∀ w' : World, w'.heap[b]? = w.heap[b]? → ∀ k, k < n → ∃ u : Ver, (u.B ∧ vs[k]? = some u) ∧ zq0 w' b (k * 8) u := by
 obtain ⟨cur, h1, h2, vs, hvs, h3⟩ := h
 refine ⟨vs, hvs, fun w' hw k hk => ?_⟩
 obtain ⟨u, sh, nv, bv, g0, g1, g2, g3, g4, g5, g6, g7, g8, g9⟩ := h3 k hk
 have e : ∀ o, w'.cell? ⟨b, o, none⟩ = cur[o]? := fun o => cell_of_row w' b o cur _ (0, 0) (hw.trans h1)
 exact ⟨u, g0, (e _).trans g1, (e _).trans g2, (e _).trans g3, (e _).trans g4, (e _).trans g5⟩
theorem qx2.sub {l vs : List Ver} {k : Nat} (h : qx2 vs) (hs : l.Sublist (vs.take k)) : qx2 l := by
 have h2 := hs.trans (List.take_sublist k vs)
 rcases h with h | rfl
 ·exact .inl (h2.trans h)
 ·match l, h2 with
  | [], _ => exact .inl (List.nil_sublist _)
  | [a], h2 => exact .inr (by rw [List.mem_singleton.1 (h2.subset (List.mem_singleton.2 rfl))])
  | _ :: _ :: _, h2 => exact absurd h2.length_le (by simp)
theorem sub_more {l vs : List Ver} {k : Nat} {u : Ver} (h : l.Sublist (vs.take k)) (hu : vs[k]? = some u) : (l ++ [u]).Sublist (vs.take (k + 1)) := by
 obtain ⟨hk, rfl⟩ := List.getElem?_eq_some_iff.1 hu
 rw [List.take_succ_eq_append_getElem hk]
 exact h.append (List.Sublist.refl _)
theorem qd8.needsAt {w : World} {b n nf k : Nat} (h : qd8 w b n nf) (hk : k < n) : (∃ nv bv, w.cell? ⟨b, k * 8 + 6, none⟩ = some nv ∧ w.cell? ⟨b, k * 8 + 7, none⟩ = some bv ∧ (nf ≤ k → nv = .slice none 0 0)) ∧ ∀ o, w.frozen? ⟨b, o, none⟩ = false := by
 obtain ⟨cur, h1, h2, vs, hvs, h3⟩ := h
 obtain ⟨u, sh, nv, bv, g0, g1, g2, g3, g4, g5, g6, g7, g8, g9⟩ := h3 k hk
 have e : ∀ o, w.cell? ⟨b, o, none⟩ = cur[o]? := fun o => cell_of_row w b o cur _ (0, 0) h1
 exact ⟨⟨nv, bv, (e _).trans g7, (e _).trans g8, fun hh => (g9 hh).1⟩, fun o => frozen_of_row w b o cur _ h1⟩
theorem qd8.nilAt {w : World} {b n nf k : Nat} (h : qd8 w b n nf) (hk : k < n) (hn : nf ≤ k) : w.cell? ⟨b, k * 8 + 6, none⟩ = some (.slice none 0 0) ∧ w.cell? ⟨b, k * 8 + 7, none⟩ = some (.slice none 0 0) := by
 obtain ⟨cur, h1, h2, vs, hvs, h3⟩ := h
 obtain ⟨u, sh, nv, bv, g0, g1, g2, g3, g4, g5, g6, g7, g8, g9⟩ := h3 k hk
 have e : ∀ o, w.cell? ⟨b, o, none⟩ = cur[o]? := fun o => cell_of_row w b o cur _ (0, 0) h1
 obtain ⟨rfl, rfl⟩ := g9 hn
 exact ⟨(e _).trans g7, (e _).trans g8⟩
def CandU (w : World) (B : Nat) (d : UnitD) (nf : Nat) : Prop := d.n ≤ 4 ∧ (0 < d.n → ∃ b, d.A = some ⟨b, 0, none⟩ ∧ B ≤ b ∧ qd8 w b d.n nf)
structure Built (B : Nat) (w : World) (lv : Value) (us : List UnitD) (nf : Nat → Nat) : Prop where
 own : w.ownsRow B 55 3 lv us.length (qx5.all us)
 cands : ∀ k, (h : k < us.length) → CandU w B us[k] (nf k)
 incr : ∀ j k, (h : j < k) → (h' : k < us.length) → ∀ b b', 0 < (us[j]'(by omega)).n → 0 < us[k].n → (us[j]'(by omega)).A = some ⟨b, 0, none⟩ → us[k].A = some ⟨b', 0, none⟩ → b < b'
section
variable {B : Nat} {w w' : World} {lv : Value} {us : List UnitD} {nf : Nat → Nat}
theorem Built.keep (h : Built B w lv us nf) (hk : ∀ k, B ≤ k → k < w.heap.size → w'.heap[k]? = w.heap[k]?) : Built B w' lv us nf := by
 refine ⟨qb3 h.own fun g hg => hk g (h.own.lt g hg).1 (h.own.lt g hg).2, fun k hk' => ⟨(h.cands k hk').1, fun hp => ?_⟩, h.incr⟩
 obtain ⟨b, hA, hb, hc⟩ := (h.cands k hk').2 hp
 exact ⟨b, hA, hb, hc.keep (hk b hb hc.lt)⟩
theorem Built.gb {bG : Nat} (h : Built B w lv us nf) (hg : w.grownBy w' (some bG)) (hB : bG < B) : Built B w' lv us nf := h.keep fun k hk hl => qf6 hg (by omega) hl
theorem Built.below {M : Nat} (h : Built B w lv us nf) (hb : Below M w w') (hM : w.heap.size ≤ M) : Built B w' lv us nf := h.keep fun k _ hl => hb.block k (by omega)
theorem Built.form (h : Built B w lv us nf) : ∃ A c, lv = .slice A us.length c := qb1 h.own
theorem Built.rd {bG : Nat} (h : Built B w lv us nf) (hB : bG < B) (h2 : 2 ≤ us.length) (h20 : us.length ≤ 20) : qi8 w (Not1 bG w) lv us.length := by
 obtain ⟨A, c, hv⟩ := h.form
 refine ⟨A, c, hv, h2, h20, fun k hk => ?_⟩
 rcases h.own.2 with ⟨_, hn⟩ | ⟨g, cap, cur, hv2, hb, hg, h3, h4, h5, h6⟩
 ·omega
 ·rw [hv] at hv2
  injection hv2 with e1 e2 e3
  have hgl : g < w.heap.size := (Array.getElem?_eq_some_iff.1 hg).1
  refine ⟨g, e1, ⟨by omega, hgl⟩, us[k].A, us[k].n, us[k].c, ?_, ?_⟩
  ·rw [cell_of_row w g _ cur _ (0, 0) hg]
   have hlt : k * 3 + 2 < us.length * 3 := by omega
   rw [← Array.getElem?_toList, ← List.getElem?_take_of_lt hlt, h6]
   exact qx5.all_get hk (j := 2) (by decide)
  ·obtain ⟨hn4, hc⟩ := h.cands k hk
   refine ⟨us[k].A, us[k].c, rfl, hn4, fun j hj => ?_⟩
   obtain ⟨b, hA, hbb, hblk⟩ := hc (by omega)
   obtain ⟨u, hu, hat⟩ := hblk.verAt hj
   exact ⟨b, hA, ⟨by omega, hblk.lt⟩, u, hu, hat⟩
theorem Built.snoc {v' : Value} {d : UnitD} {M : Nat} {o : Obj} (h : Built B w lv us (fun _ => 0)) (hM : ∀ k, (hk : k < us.length) → ∀ b, 0 < us[k].n → us[k].A = some ⟨b, 0, none⟩ → b < M)
  (hd : CandU w M d 0) (hMB : B ≤ M) (hg : (w.alloc o).grownBy w' lv.ownBlock) (ho : w'.ownsRow B 55 3 v' (us.length + 1) (qx5.all us ++ qx5.cells d)) : Built B w' v' (us ++ [d]) (fun _ => 0) := by
 have hkeep : ∀ {b n nf : Nat}, qd8 w b n nf → qd8 w' b n nf := fun hc => by
  have hl := hc.lt
  refine hc.keep ?_
  rw [hg.block _ (by simp; omega) ?_, Below.heap_alloc _ _ _ hl]
  intro e
  obtain ⟨cur, h1, _⟩ := hc
  rcases h.own.2 with ⟨rfl, _⟩ | ⟨g, cap, cur', rfl, _, hgg, _⟩
  ·cases e
  ·have : g = _ := (Option.some.inj e).symm
   subst this
   rw [hgg] at h1
   injection h1 with h1
   injection h1 with _ h2
   exact absurd h2 (by decide)
 refine ⟨?_, ?_, ?_⟩
 ·rw [qx5.all_snoc, List.length_append]
  exact ho
 ·intro k hk
  by_cases hkl : k < us.length
  ·rw [List.getElem_append_left hkl]
   refine ⟨(h.cands k hkl).1, fun hp => ?_⟩
   obtain ⟨b, hA, hb, hc⟩ := (h.cands k hkl).2 hp
   exact ⟨b, hA, hb, hkeep hc⟩
  ·have e : k = us.length := by simp at hk; omega
   subst e
   have e3 : (us ++ [d])[us.length] = d := by simp
   rw [e3]
   refine ⟨hd.1, fun hp => ?_⟩
   obtain ⟨b, hA, hb, hc⟩ := hd.2 hp
   exact ⟨b, hA, by omega, hkeep hc⟩
 ·intro j k hjk hk b b' hj0 hk0 hAj hAk
  by_cases hkl : k < us.length
  ·rw [List.getElem_append_left hkl] at hAk hk0
   rw [List.getElem_append_left (by omega)] at hAj hj0
   exact h.incr j k hjk hkl b b' hj0 hk0 hAj hAk
  ·have e : k = us.length := by simp at hk; omega
   subst e
   rw [List.getElem_append_left hjk] at hAj hj0
   have e3 : (us ++ [d])[us.length] = d := by simp
   rw [e3] at hAk hk0
   obtain ⟨b2, hA2, hb2, _⟩ := hd.2 hk0
   rw [hAk] at hA2
   injection hA2 with hA2
   injection hA2 with hA2
   subst hA2
   have := hM j hjk b hj0 hAj
   omega
end
end
end Go.Proofs.YtbfbppjccbppiaaGreatDoor
