import Derived.Test.YthneiolcljnbeaaGreatDoorzG4
import Derived.Outline
namespace Go.Proofs.YthneiolcljnbeaaGreatDoor
open Go Go.RowKit
theorem src_own {w : World} {B s n c : Nat} {e : TypeId} {A : Option Addr} {xs : List Value} (h : w.ownsRow B e s (.slice A n c) n xs) : Src w A n s xs := by
 refine ⟨h.1, fun hp => ?_⟩
 rcases h.2 with ⟨_, h0⟩ | ⟨g, cap, cur, hv, hb, hg, h3, h4, h5, h6⟩
 ·omega
 ·injection hv with e1 e2 e3
  refine ⟨⟨g, 0, none⟩, e1, fun j u hu => ?_⟩
  rw [add_mk, Nat.zero_add, cell_of_row w g j cur _ (0, 0) hg, ← Array.getElem?_toList]
  have hj : j < xs.length := (List.getElem?_eq_some_iff.1 hu).1
  rw [← h6] at hu
  rw [List.getElem?_take_of_lt (by rw [← h.1]; exact hj)] at hu
  exact hu
section
variable {B : Nat} {w w' : World} {us : List UnitD} {nf nf' : Nat → Nat}
theorem Built.addr {lv : Value} (h : Built B w lv us nf) (h2 : 0 < us.length) : ∃ g c, lv = .slice (some ⟨g, 0, none⟩) us.length c ∧ B ≤ g ∧ g < w.heap.size := by
 rcases h.own.2 with ⟨_, h0⟩ | ⟨g, cap, cur, hv, hb, hg, h3, h4, h5, h6⟩
 ·omega
 ·exact ⟨g, cap, hv, hb, (Array.getElem?_eq_some_iff.1 hg).1⟩
theorem Built.unitAt {g c : Nat} (h : Built B w (.slice (some ⟨g, 0, none⟩) us.length c) us nf) {k : Nat} (hk : k < us.length) {d : UnitD} (hd : us[k] = d) : w.cell? ⟨g, k * 3, none⟩ = some (.string d.nm) ∧ w.cell? ⟨g, k * 3 + 1, none⟩ = some (.string d.ft) ∧ w.cell? ⟨g, k * 3 + 2, none⟩ = some (.slice d.A d.n d.c) := by
 subst hd
 rcases h.own.2 with ⟨_, h0⟩ | ⟨g', cap, cur, hv, hb, hg, h3, h4, h5, h6⟩
 ·omega
 ·injection hv with e1 e2 e3
  injection e1 with e1
  injection e1 with e1
  subst e1
  have hget : ∀ i, i < 3 → w.cell? ⟨g, k * 3 + i, none⟩ = (fUnit.cells us[k])[i]? := by
   intro i hi
   rw [cell_of_row w g _ cur _ (0, 0) hg]
   have hlt : k * 3 + i < us.length * 3 := by omega
   rw [← Array.getElem?_toList, ← List.getElem?_take_of_lt hlt, h6]
   exact fUnit.all_get hk (j := i) hi
  exact ⟨hget 0 (by decide), hget 1 (by decide), hget 2 (by decide)⟩
theorem Built.ne {lv : Value} (h : Built B w lv us nf) {b n m : Nat} (hc : CandBlk w b n m) : ∀ g, lv.ownBlock = some g → g ≠ b := by
 intro g hg e
 subst e
 obtain ⟨cur, h1, _⟩ := hc
 rcases h.own.2 with ⟨rfl, _⟩ | ⟨g', cap, cur', rfl, _, hgg, _⟩
 ·cases hg
 ·have : g' = g := Option.some.inj hg
  subst this
  rw [hgg] at h1
  injection h1 with h1
  injection h1 with _ h2
  exact absurd h2 (by decide)
theorem Built.setAt {lv : Value} {k j b : Nat} (h : Built B w lv us nf) (hk : k < us.length) {d : UnitD} (hd : us[k] = d) (hA : d.A = some ⟨b, 0, none⟩) (hj : j < d.n) (x : Value) (o : Nat) (ho : o = j * 8 + 6 ∨ o = j * 8 + 7) (h1 : nf k ≤ nf' k) (h1' : o = j * 8 + 6 → j + 1 ≤ nf' k) (h2 : ∀ i, i ≠ k → nf i ≤ nf' i) (h7 : o = j * 8 + 7 → j < nf k) : Built B (w.setCell ⟨b, o, none⟩ x) lv us nf' := by
 subst hd
 obtain ⟨b2, hA2, hb2, hblk⟩ := (h.cands k hk).2 (by omega)
 have hbb : b2 = b := by
  rw [hA] at hA2
  injection hA2 with hA2
  injection hA2 with hA2
  exact hA2.symm
 subst hbb
 have hoth : ∀ g, g ≠ b2 → (w.setCell ⟨b2, o, none⟩ x).heap[g]? = w.heap[g]? := fun g hg => heap_setCell_other _ _ _ _ hg
 refine ⟨ownsRow_keep h.own fun g hg => hoth g (h.ne hblk g hg), fun i hi => ⟨(h.cands i hi).1, fun hp => ?_⟩, h.incr⟩
 by_cases hik : i = k
 ·subst hik
  refine ⟨b2, hA, hb2, ?_⟩
  rcases ho with rfl | rfl
  ·exact (hblk.set hj x).1.mono (by have := h1' rfl; omega)
  ·exact ((hblk.set hj x).2 (h7 rfl)).mono h1
 ·obtain ⟨b', hA', hb', hc'⟩ := (h.cands i hi).2 hp
  have hne : b' ≠ b2 := by
   intro e
   subst e
   rcases Nat.lt_or_gt_of_ne hik with hlt | hlt
   ·have := h.incr i k hlt hk b' b' hp (by omega) hA' hA
    omega
   ·have := h.incr k i hlt hi b' b' (by omega) hp hA hA'
    omega
  exact ⟨b', hA', hb', (hc'.keep (hoth _ hne)).mono (h2 i hik)⟩
theorem Built.mono {lv : Value} (h : Built B w lv us nf) (hn : ∀ i, nf i ≤ nf' i) : Built B w lv us nf' :=
 ⟨h.own, fun k hk => ⟨(h.cands k hk).1, fun hp => by obtain ⟨b, h1, h2, h3⟩ := (h.cands k hk).2 hp; exact ⟨b, h1, h2, h3.mono (hn k)⟩⟩, h.incr⟩
theorem blk_apart0 {B' : Nat} {T e' : TypeId} {s' n' g : Nat} {v' : Value} {ys' : List Value} {cs : Array Value} (h : w.heap[g]? = some (.cells cs T (0, 0))) (ho : w.ownsRow B' e' s' v' n' ys') (hne : T ≠ e') (hg : w.grownBy w' v'.ownBlock) : w'.heap[g]? = some (.cells cs T (0, 0)) := by
 have hl : g < w.heap.size := (Array.getElem?_eq_some_iff.1 h).1
 rw [hg.block g hl ?_]
 ·exact h
 ·intro e
  rcases ho.2 with ⟨rfl, _⟩ | ⟨g', cap, cur', rfl, _, hgg, _⟩
  ·cases e
  ·have : g' = g := (Option.some.inj e).symm
   subst this
   rw [hgg] at h
   injection h with h
   injection h with _ h2
   exact hne h2.symm
theorem Built.apart {lv : Value} {B' s' n' : Nat} {e' : TypeId} {v' : Value} {ys' : List Value} (h : Built B w lv us nf) (ho : w.ownsRow B' e' s' v' n' ys') (h1 : 55 ≠ e') (h2 : 58 ≠ e') (hg : w.grownBy w' v'.ownBlock) : Built B w' lv us nf := by
 refine ⟨ownsRow_keep h.own fun g hg' => ?_, fun k hk => ⟨(h.cands k hk).1, fun hp => ?_⟩, h.incr⟩
 ·rcases h.own.2 with ⟨hv, _⟩ | ⟨g', cap, cur, hv, hb, hgg, _⟩
  ·rw [hv] at hg'
   cases hg'
  ·rw [hv] at hg'
   have : g' = g := Option.some.inj hg'
   subst this
   rw [blk_apart0 hgg ho h2 hg, hgg]
 ·obtain ⟨b, hA, hb, cur, hc1, hc2⟩ := (h.cands k hk).2 hp
  exact ⟨b, hA, hb, cur, blk_apart0 hc1 ho h1 hg, hc2⟩
theorem app_below0 {B' s n : Nat} {e : TypeId} {v : Value} {ys : List Value} (hs : B ≤ w.heap.size) (ho : w.ownsRow B' e s v n ys) (hB : B ≤ B') (hg : w.grownBy w' v.ownBlock) : Below B w w' :=
 Below.grown (Below.refl B w) hg hs (fun k hk => Nat.le_trans hB (ho.lt k hk).1)
theorem Built.cell {lv : Value} {k b j : Nat} (h : Built B w lv us nf) (hk : k < us.length) {d : UnitD} (hd : us[k] = d) (hA : d.A = some ⟨b, 0, none⟩) (hj : j < d.n) : (∃ nv bv, w.cell? ⟨b, j * 8 + 6, none⟩ = some nv ∧ w.cell? ⟨b, j * 8 + 7, none⟩ = some bv) ∧ (∀ o, w.frozen? ⟨b, o, none⟩ = false) ∧ b < w.heap.size := by
 subst hd
 obtain ⟨b2, hA2, hb2, hblk⟩ := (h.cands k hk).2 (by omega)
 rw [hA] at hA2
 injection hA2 with hA2
 injection hA2 with hA2
 subst hA2
 obtain ⟨⟨nv, bv, h1, h2, _⟩, h3⟩ := hblk.needsAt hj
 exact ⟨⟨nv, bv, h1, h2⟩, h3, hblk.lt⟩
end
def nfK (k j : Nat) : Nat → Nat := fun i => if i < k then 4 else if i = k then j else 0
def Frm (R : Nat) (w : World) : Nat → Prop := fun k => R ≤ k ∧ k < w.heap.size
def NeedsIn (R m : Nat) (w : World) (v : Value) : Prop := ∃ ns : List (List WantD), SliceRd (tSlice tWant) w (Frm R w) v ns ∧ ns.length ≤ 4 ∧ ∀ r ∈ ns, RowT m r
def BarsIn (R m : Nat) (w : World) (v : Value) : Prop := ∃ bs : List WantD, SliceRd tWant w (Frm R w) v bs ∧ RowOk m bs ∧ ∀ x ∈ bs, 1 ≤ x.u
def Dat (B R m : Nat) (w : World) (us : List UnitD) : Prop := R ≤ w.heap.size ∧ ∀ k, (hk : k < us.length) → ∀ b, 0 < us[k].n → us[k].A = some ⟨b, 0, none⟩ → B ≤ b ∧ b < R ∧ b < w.heap.size ∧
 ∀ j, j < us[k].n → ∃ nv bv, w.cell? ⟨b, j * 8 + 6, none⟩ = some nv ∧ w.cell? ⟨b, j * 8 + 7, none⟩ = some bv ∧ NeedsIn R m w nv ∧ BarsIn R m w bv
theorem cell_far {w : World} {b o o' : Nat} {x : Value} (ho : o' ≠ o) : (w.setCell ⟨b, o, none⟩ x).cell? ⟨b, o', none⟩ = w.cell? ⟨b, o', none⟩ := by simp [go_sem]
theorem cell_here {w : World} {b o : Nat} {x y : Value} (h : w.cell? ⟨b, o, none⟩ = some y) : (w.setCell ⟨b, o, none⟩ x).cell? ⟨b, o, none⟩ = some x := by simp [go_sem, h]
structure But (B M b o : Nat) (w w' : World) : Prop where
 blocks : ∀ g, B ≤ g → g < M → g ≠ b → w'.heap[g]? = w.heap[g]?
 cells : ∀ o', o' ≠ o → w'.cell? ⟨b, o', none⟩ = w.cell? ⟨b, o', none⟩
 size : w.heap.size ≤ w'.heap.size
 top : M ≤ w.heap.size
section
variable {B R m M b o bG : Nat} {w w1 w2 : World} {us : List UnitD} {v : Value}
theorem NeedsIn.keep (h : NeedsIn R m w v) (hk : ∀ k, R ≤ k → k < w.heap.size → w1.heap[k]? = w.heap[k]?) (hs : w.heap.size ≤ w1.heap.size) : NeedsIn R m w1 v := by
 obtain ⟨ns, h1, h2⟩ := h
 exact ⟨ns, (h1.keep fun k hk' => hk k hk'.1 hk'.2).more fun k hk' => ⟨hk'.1, Nat.lt_of_lt_of_le hk'.2 hs⟩, h2⟩
theorem BarsIn.keep (h : BarsIn R m w v) (hk : ∀ k, R ≤ k → k < w.heap.size → w1.heap[k]? = w.heap[k]?) (hs : w.heap.size ≤ w1.heap.size) : BarsIn R m w1 v := by
 obtain ⟨ns, h1, h2⟩ := h
 exact ⟨ns, (h1.keep fun k hk' => hk k hk'.1 hk'.2).more fun k hk' => ⟨hk'.1, Nat.lt_of_lt_of_le hk'.2 hs⟩, h2⟩
theorem Dat.keep (h : Dat B R m w us) (hB : B ≤ R) (hk : ∀ k, B ≤ k → k < w.heap.size → w1.heap[k]? = w.heap[k]?) (hs : w.heap.size ≤ w1.heap.size) : Dat B R m w1 us := by
 refine ⟨Nat.le_trans h.1 hs, fun k hk' b hn hA => ?_⟩
 obtain ⟨h1, h2, h3, h4⟩ := h.2 k hk' b hn hA
 refine ⟨h1, h2, by omega, fun j hj => ?_⟩
 obtain ⟨nv, bv, e1, e2, e3, e4⟩ := h4 j hj
 exact ⟨nv, bv, (World.cell?_of_block (hk b h1 h3)).trans e1, (World.cell?_of_block (hk b h1 h3)).trans e2, e3.keep (fun k hk' => hk k (Nat.le_trans hB hk')) hs, e4.keep (fun k hk' => hk k (Nat.le_trans hB hk')) hs⟩
theorem Dat.gb (h : Dat B R m w us) (hB : B ≤ R) (hg : w.grownBy w1 (some bG)) (hG : bG < B) : Dat B R m w1 us := h.keep hB (fun _ h1 h2 => gb_block hg (by omega) h2) hg.size
theorem Dat.below (h : Dat B R m w us) (hB : B ≤ R) (hb : Below M w w1) (hM : w.heap.size ≤ M) : Dat B R m w1 us := h.keep hB (fun _ _ h2 => hb.block _ (by omega)) hb.size
theorem But.refl (B b o : Nat) (w : World) : But B w.heap.size b o w w := ⟨fun _ _ _ _ => rfl, fun _ _ => rfl, Nat.le_refl _, Nat.le_refl _⟩
theorem But.below (h : But B M b o w w1) (hb : Below w1.heap.size w1 w2) (hl : b < M) : But B M b o w w2 :=
 ⟨fun g h1 h2 h3 => (hb.block g (by have := h.size; have := h.top; omega)).trans (h.blocks g h1 h2 h3), fun o' ho => (World.cell?_of_block (hb.block b (by have := h.size; have := h.top; omega))).trans (h.cells o' ho), Nat.le_trans h.size hb.size, h.top⟩
theorem But.gb (h : But B M b o w w1) (hg : w1.grownBy w2 (some bG)) (hl : b < M) (hB : B ≤ b) (hG : bG < B) : But B M b o w w2 :=
 ⟨fun g h1 h2 h3 => (gb_block hg (by omega) (by have := h.size; have := h.top; omega)).trans (h.blocks g h1 h2 h3), fun o' ho => (World.cell?_of_block (gb_block (g := b) hg (by omega) (by have := h.size; have := h.top; omega))).trans (h.cells o' ho), Nat.le_trans h.size hg.size, h.top⟩
theorem But.app {ob : Option Nat} (h : But B M b o w w1) (hg : w1.grownBy w2 ob) (hl : b < M) (hM : ∀ g, ob = some g → M ≤ g) : But B M b o w w2 :=
 ⟨fun g h1 h2 h3 => (hg.block g (by have := h.size; have := h.top; omega) (fun e => by have := hM g e.symm; omega)).trans (h.blocks g h1 h2 h3), fun o' ho => (World.cell?_of_block (hg.block b (by have := h.size; have := h.top; omega) (fun e => by have := hM b e.symm; omega))).trans (h.cells o' ho), Nat.le_trans h.size hg.size, h.top⟩
theorem But.set (h : But B M b o w w1) (x : Value) : But B M b o w (w1.setCell ⟨b, o, none⟩ x) :=
 ⟨fun g h1 h2 h3 => (heap_setCell_other _ _ _ _ h3).trans (h.blocks g h1 h2 h3), fun o' ho => (cell_far ho).trans (h.cells o' ho), by have := h.size; simpa using this, h.top⟩
theorem Dat.fill {k j : Nat} {lv : Value} {nf : Nat → Nat} (h : Dat B R m w us) (hB : B ≤ R) (hbt : Built B w lv us nf) (hk : k < us.length) {d : UnitD} (hd : us[k] = d) (hA : d.A = some ⟨b, 0, none⟩) (hj : j < d.n) (hw : But B w.heap.size b o w w1)
  (ho : (o = j * 8 + 6 ∧ ∃ nv, w1.cell? ⟨b, o, none⟩ = some nv ∧ NeedsIn R m w1 nv) ∨ (o = j * 8 + 7 ∧ ∃ bv, w1.cell? ⟨b, o, none⟩ = some bv ∧ BarsIn R m w1 bv)) : Dat B R m w1 us := by
 subst hd
 have hn0 : 0 < us[k].n := by omega
 have hbR := (h.2 k hk b hn0 hA).2.1
 have hkR : ∀ g, R ≤ g → g < w.heap.size → w1.heap[g]? = w.heap[g]? := fun g h1 h2 => hw.blocks g (by omega) h2 (by omega)
 refine ⟨Nat.le_trans h.1 hw.size, fun k2 hk2 b2 hn hA2 => ?_⟩
 obtain ⟨h1, h2, h3, h4⟩ := h.2 k2 hk2 b2 hn hA2
 refine ⟨h1, h2, by have := hw.size; omega, fun i hi => ?_⟩
 obtain ⟨nv, bv, e1, e2, e3, e4⟩ := h4 i hi
 by_cases hkk : k2 = k
 ·subst hkk
  have hbb : b2 = b := by
   rw [hA] at hA2
   injection hA2 with hA2
   injection hA2 with hA2
   exact hA2.symm
  subst hbb
  have c6 : i * 8 + 6 ≠ o → w1.cell? ⟨b2, i * 8 + 6, none⟩ = some nv := fun hh => (hw.cells _ hh).trans e1
  have c7 : i * 8 + 7 ≠ o → w1.cell? ⟨b2, i * 8 + 7, none⟩ = some bv := fun hh => (hw.cells _ hh).trans e2
  have n3 := e3.keep hkR hw.size
  have n4 := e4.keep hkR hw.size
  rcases ho with ⟨rfl, nv', f1, f2⟩ | ⟨rfl, bv', f1, f2⟩
  ·by_cases hij : i = j
   ·subst hij
    exact ⟨nv', bv, f1, c7 (by omega), f2, n4⟩
   ·exact ⟨nv, bv, c6 (by omega), c7 (by omega), n3, n4⟩
  ·by_cases hij : i = j
   ·subst hij
    exact ⟨nv, bv', c6 (by omega), f1, n3, f2⟩
   ·exact ⟨nv, bv, c6 (by omega), c7 (by omega), n3, n4⟩
 ·have hne : b2 ≠ b := by
   intro e
   subst e
   rcases Nat.lt_or_gt_of_ne hkk with hlt | hlt
   ·have := hbt.incr k2 k hlt hk b2 b2 hn hn0 hA2 hA
    omega
   ·have := hbt.incr k k2 hlt hk2 b2 b2 hn0 hn hA hA2
    omega
  have eb := hw.blocks b2 h1 h3 hne
  exact ⟨nv, bv, (World.cell?_of_block eb).trans e1, (World.cell?_of_block eb).trans e2, e3.keep hkR hw.size, e4.keep hkR hw.size⟩
theorem Built.dat {lv : Value} (h : Built B w lv us (fun _ => 0)) : Dat B w.heap.size m w us := by
 refine ⟨Nat.le_refl _, fun k hk b hn hA => ?_⟩
 obtain ⟨b2, hA2, hb2, hblk⟩ := (h.cands k hk).2 hn
 have hbb : b2 = b := by
  rw [hA] at hA2
  injection hA2 with hA2
  injection hA2 with hA2
  exact hA2.symm
 subst hbb
 refine ⟨hb2, hblk.lt, hblk.lt, fun j hj => ?_⟩
 obtain ⟨e1, e2⟩ := hblk.nilAt hj (Nat.zero_le _)
 exact ⟨_, _, e1, e2, ⟨[], SliceRd.nil _ _ _, by simp, fun r hr => by cases hr⟩, ⟨[], SliceRd.nil _ _ _, ⟨by simp, fun r hr => by cases hr⟩, fun r hr => by cases hr⟩⟩
theorem RowOk.app {l l5 : List (List WantD)} (h : ∀ r ∈ l, RowT m r) (h5 : ∀ r ∈ l5, RowT m r) : ∀ r ∈ l ++ l5, RowT m r := fun r hr => (List.mem_append.1 hr).elim (h r) (h5 r)
theorem OwnT.needsIn {T : TypeId} {l : List (List WantD)} {xs : List Value} {x : Value} (h : OwnT (tSlice tWant) T w M v l xs) (hR : R ≤ M) (hb : b < M) (hl : l.length ≤ 4) (hok : ∀ r ∈ l, RowT m r) : NeedsIn R m (w.setCell ⟨b, o, none⟩ x) v :=
 ⟨l, (h.rdF.keep (fun k hk => heap_setCell_other _ _ _ _ (by have := hk.1; show k ≠ b; omega))).more fun k hk => ⟨Nat.le_trans hR hk.1, by have := hk.2; simpa using this⟩, hl, hok⟩
theorem want_row {T : TypeId} {x : WantD} {cs : List Value} {ca : Array Value} (hx : tWant.rd w (Btw M w) cs x) (hM : M ≤ w.heap.size) (hc : ca.toList = cs) : OwnT tWant T (w.alloc (.cells ca T)) M (.slice (some ⟨w.heap.size, 0, none⟩) 1 1) [x] cs :=
 OwnT.one (tWant.more (fun _ hb => ⟨Nat.le_of_lt hb.1, hb.2⟩) hx) hM hc
theorem barsIn {T : TypeId} {x : WantD} {cs : List Value} {ca : Array Value} (hx : tWant.rd w (Btw M w) cs x) (hM : M ≤ w.heap.size) (hc : ca.toList = cs) (hR : R ≤ M) (hb : b ≤ M) (hok : x.ok m ∧ 1 ≤ x.u) (y : Value) : BarsIn R m ((w.setCell ⟨b, o, none⟩ y).alloc (.cells ca T)) (.slice (some ⟨w.heap.size, 0, none⟩) 1 1) := by
 have hx2 : tWant.rd (w.setCell ⟨b, o, none⟩ y) (Btw M (w.setCell ⟨b, o, none⟩ y)) cs x := tWant.more (fun k hk => ⟨hk.1, by have := hk.2; simpa using this⟩) (tWant.keep (fun k hk => heap_setCell_other _ _ _ _ (by have := hk.1; show k ≠ b; omega)) hx)
 have h := (want_row (T := T) hx2 (by simpa using hM) hc).rdF
 rw [World.size_setCell] at h
 refine ⟨[x], h.more fun k hk => ⟨Nat.le_trans hR hk.1, hk.2⟩, ⟨by show 1 ≤ 2; omega, fun z hz => ?_⟩, fun z hz => ?_⟩
 ·have : z = x := by simpa using hz
  subst this
  exact hok.1
 ·have : z = x := by simpa using hz
  subst this
  exact hok.2
theorem feat_row {M : Nat} {T T' : TypeId} {u : Int} {va va' : Value} {La Ma : List Span} {ca ca2 : Array Value} (h1 : OwnSpans M w va La) (h2 : OwnSpans M w va' Ma) (hb : b < M) (hM : M ≤ w.heap.size) (hu : I64 u) (hc : ca.toList = [.int .i64 u, va, va']) (y : Value) (hc2 : ca2.toList = [.slice (some ⟨w.heap.size, 0, none⟩) 1 1]) :
  OwnT (tSlice tWant) T' (((w.setCell ⟨b, o, none⟩ y).alloc (.cells ca T)).alloc (.cells ca2 T')) M (.slice (some ⟨w.heap.size + 1, 0, none⟩) 1 1) [[⟨u, ⟨La, Ma⟩⟩]] [.slice (some ⟨w.heap.size, 0, none⟩) 1 1] := by
 have hrd : ∀ {z : Value} {K : List Span}, OwnSpans M w z K → SliceRd fSpan.ty (w.setCell ⟨b, o, none⟩ y) (fun k => M ≤ k ∧ k < (w.setCell ⟨b, o, none⟩ y).heap.size) z K := fun hz => by
  have h0 : SliceRd fSpan.ty w (fun k => M ≤ k ∧ k < w.heap.size) _ _ := rd_of_ownF (f := fSpan) hz.1 hz.2 (fun g hg => hz.1.lt g hg)
  exact (h0.keep (fun k hk => heap_setCell_other _ _ _ _ (by have := hk.1; show k ≠ b; omega))).more fun k hk => ⟨hk.1, by have := hk.2; simpa using this⟩
 have hi : OwnT tWant T ((w.setCell ⟨b, o, none⟩ y).alloc (.cells ca T)) M (.slice (some ⟨(w.setCell ⟨b, o, none⟩ y).heap.size, 0, none⟩) 1 1) [⟨u, ⟨La, Ma⟩⟩] [.int .i64 u, va, va'] :=
  OwnT.one (t := tWant) (x := (⟨u, ⟨La, Ma⟩⟩ : WantD)) ⟨va, va', rfl, hu, va, va', rfl, hrd h1, hrd h2⟩ (by simpa using hM) hc
 have hs : (w.setCell ⟨b, o, none⟩ y).heap.size = w.heap.size := by simp
 rw [hs] at hi
 have hj := OwnT.one (e := T') (t := tSlice tWant) (B := M) (x := [(⟨u, ⟨La, Ma⟩⟩ : WantD)]) (cs := [.slice (some ⟨w.heap.size, 0, none⟩) 1 1]) (ca := ca2) (w := (w.setCell ⟨b, o, none⟩ y).alloc (.cells ca T)) ⟨_, rfl, hi.rdF⟩ (by simp; omega) hc2
 have hs2 : ((w.setCell ⟨b, o, none⟩ y).alloc (.cells ca T)).heap.size = w.heap.size + 1 := by simp
 rw [hs2] at hj
 exact hj
theorem OwnT.joined {B5 n5 c5 : Nat} {A5 : Option Addr} {T : TypeId} {v v' : Value} {l l5 : List (List WantD)} {xs ys : List Value} (h : OwnT (tSlice tWant) T w B v l xs) (h5 : OwnT (tSlice tWant) T w B5 (.slice A5 n5 c5) l5 ys) (hB : B ≤ B5) (hv : ∀ g, v.ownBlock = some g → g < B5)
  (ho : w1.ownsRow B T 1 v' (l.length + l5.length) (xs ++ ys)) (hg : w.grownBy w1 v.ownBlock) (hnew : v'.ownBlock = v.ownBlock ∨ v'.ownBlock = some w.heap.size) : OwnT (tSlice tWant) T w1 B v' (l ++ l5) (xs ++ ys) :=
 h.append (fun k hk => by
  obtain ⟨cs, h1, h2, h3⟩ := h5.el k hk
  exact ⟨cs, h1, h2, (tSlice tWant).more (fun b hb => ⟨Nat.le_trans hB hb.1, hb.2.1, fun e => by have := hv b e; omega⟩) h3⟩) ho hg hnew
end
def WorldPost (w : World) (e : Ending) (w' : World) : Prop :=
 ∃ (g c : Nat) (us : List UnitD) (nf : Nat → Nat), e = .returned (.agg #[.slice (some ⟨g, 0, none⟩) us.length c]) ∧ Built (w.heap.size + 2) w' (.slice (some ⟨g, 0, none⟩) us.length c) us nf ∧ 2 ≤ us.length ∧ us.length ≤ 11 ∧ Named us ∧ Below w.heap.size w w' ∧ ∃ R, Dat (w.heap.size + 2) R us.length w' us
end Go.Proofs.YthneiolcljnbeaaGreatDoor
