/- A copied world whose needs and bars are doubled in place, candidate by candidate. No program stands here. -/
import Derived.Test.YtilgijmokjekgaaGreatDoorF2
import Derived.Test.YtilgijmokjekgaaGreatDoorZh
import Derived.Outline
namespace Go.Proofs.YtilgijmokjekgaaGreatDoor
open Go Go.RowKit

/-- An own row as the source of an append. -/
theorem own_src {w : World} {B : Nat} {e : TypeId} {s n : Nat} {A : Option Addr} {m c : Nat} {xs : List Value} (h : w.ownsRow B e s (.slice A m c) n xs) : m = n ∧ Src w A n s xs := by
  have hl := h.1
  rcases h.2 with ⟨hv, h0⟩ | ⟨g, cap, cur, hv, hb, hg, h1, h2, h3, h4⟩
  · injection hv with e1 e2 e3
    subst h0
    subst e2
    exact ⟨rfl, hl, fun h => absurd h (by omega)⟩
  · injection hv with e1 e2 e3
    subst e1 e2
    refine ⟨rfl, hl, fun _ => ⟨⟨g, 0, none⟩, rfl, fun j u hu => ?_⟩⟩
    have hj := (List.getElem?_eq_some_iff.1 hu).1
    rw [add_mk, Nat.zero_add, cell_of_row w g j cur e (0, 0) hg, ← hu, ← h4, List.getElem?_take_of_lt (by omega), Array.getElem?_toList]
/-- Rows that are held, by their elements. -/
theorem rd_own {α : Type} {t : Ty α} {e : TypeId} {w : World} {B : Nat} {v : Value} {l : List α} {xs : List Value} {F : Nat → Prop} (h : w.ownsRow B e t.size v l.length xs) (hF : ∀ g, v.ownBlock = some g → F g) (el : ∀ k, (hk : k < l.length) → ∃ cs, cs.length = t.size ∧ (∀ j, j < t.size → xs[k * t.size + j]? = cs[j]?) ∧ t.rd w F cs l[k]) : SliceRd t w F v l := by
  rcases h.2 with ⟨rfl, h0⟩ | ⟨g, cap, cur, rfl, hbase, hg, q1, q2, q3, q4⟩
  · have : l = [] := List.length_eq_zero_iff.1 h0
    subst this
    exact SliceRd.nil _ _ _
  · refine ⟨_, cap, rfl, q1, q2, fun k hk => ?_⟩
    obtain ⟨cs, h1, h2, h3⟩ := el k hk
    refine ⟨g, 0, cs, rfl, hF g rfl, h1, fun j hj => ?_, h3⟩
    rw [cell_of_row _ _ _ _ _ _ hg, ← h2 j hj]
    show cur[0 + k * t.size + j]? = _
    have : (k + 1) * t.size ≤ l.length * t.size := Nat.mul_le_mul_right _ hk
    rw [Nat.add_mul, Nat.one_mul] at this
    rw [Nat.zero_add, ← Array.getElem?_toList, ← q4, List.getElem?_take_of_lt (by omega)]
/-- A row behind itself. -/
theorem el_twice {α : Type} {t : Ty α} {w : World} {l : List α} {xs : List Value} {F : Nat → Prop} (hlen : xs.length = l.length * t.size) (el : ∀ k, (hk : k < l.length) → ∃ cs, cs.length = t.size ∧ (∀ j, j < t.size → xs[k * t.size + j]? = cs[j]?) ∧ t.rd w F cs l[k]) :
    ∀ k, (hk : k < (l ++ l).length) → ∃ cs, cs.length = t.size ∧ (∀ j, j < t.size → (xs ++ xs)[k * t.size + j]? = cs[j]?) ∧ t.rd w F cs (l ++ l)[k] := by
  intro k hk
  rw [List.length_append] at hk
  by_cases hlt : k < l.length
  · obtain ⟨cs, h1, h2, h3⟩ := el k hlt
    refine ⟨cs, h1, fun j hj => ?_, by rw [List.getElem_append_left hlt]; exact h3⟩
    have : (k + 1) * t.size ≤ l.length * t.size := Nat.mul_le_mul_right _ hlt
    rw [Nat.add_mul, Nat.one_mul] at this
    rw [List.getElem?_append_left (by omega)]
    exact h2 j hj
  · obtain ⟨i, rfl⟩ : ∃ i, k = l.length + i := ⟨k - l.length, by omega⟩
    obtain ⟨cs, h1, h2, h3⟩ := el i (by omega)
    refine ⟨cs, h1, fun j hj => ?_, ?_⟩
    · have e : (l.length + i) * t.size + j = l.length * t.size + (i * t.size + j) := by rw [Nat.add_mul]; omega
      rw [e, List.getElem?_append_right (by omega), hlen, Nat.add_sub_cancel_left]
      exact h2 j hj
    · rw [List.getElem_append_right (by omega)]
      simp only [Nat.add_sub_cancel_left]
      exact h3
def candL (c : CandW) (nv bv : Value) : List Value := [.int .i64 c.v.major, .int .i64 c.v.minor, .int .i64 c.v.patch, .string c.v.pre, .string c.v.build, .int .i64 c.sh, nv, bv]
/-- The copy with some candidates doubled: what each holds, and what is as it was. -/
structure TwSt (wS : World) (us : List UnitW) (vcs : Nat → Value) (nvs bvs : Nat → Nat → Value) (L H : Nat → Nat → Nat) (B : Nat) (done : Nat → Nat → Prop) (w : World) : Prop where
  below : Below B wS w
  same : ∀ b, b < wS.heap.size → (∀ u g, u < us.length → (vcs u).ownBlock = some g → b ≠ g) → (∀ u j, (hu : u < us.length) → j < us[u].cands.length → done u j → L u j ≤ b → b < H u j → False) → w.heap[b]? = wS.heap[b]?
  arr : ∀ u, (hu : u < us.length) → ∀ g, (vcs u).ownBlock = some g → (∀ o, w.frozen? ⟨g, o, none⟩ = false) ∧ ∀ j, (hj : j < us[u].cands.length) → ∃ nv bv, (∀ r, r < 8 → w.cell? ⟨g, j * 8 + r, none⟩ = (candL us[u].cands[j] nv bv)[r]?) ∧ (¬ done u j → nv = nvs u j ∧ bv = bvs u j) ∧
    (done u j → SliceRd (tSlice tWant) w (fun b => (L u j ≤ b ∧ b < H u j) ∨ (wS.heap.size ≤ b ∧ b < w.heap.size)) nv (us[u].cands[j].needs ++ us[u].cands[j].needs) ∧ SliceRd tWant w (fun b => (L u j ≤ b ∧ b < H u j) ∨ (wS.heap.size ≤ b ∧ b < w.heap.size)) bv (us[u].cands[j].bars ++ us[u].cands[j].bars))
theorem setCell_frozen {w : World} {p : Addr} {x : Value} {g o : Nat} (h : ∀ o, w.frozen? ⟨g, o, none⟩ = false) : (w.setCell p x).frozen? ⟨g, o, none⟩ = false := by
  by_cases e : g = p.block
  · subst e
    rw [← h o]
    simp [go_sem]
  · rw [← h o]
    exact World.frozen?_of_block (heap_setCell_other _ _ _ _ e)
section
variable {wS w : World} {us : List UnitW} {vu : Value} {xs : List Value} {B top : Nat} {lo hi : Nat → Nat} {vcs : Nat → Value} {yss : Nat → List Value} {nvs bvs : Nat → Nat → Value} {L H : Nat → Nat → Nat} {done : Nat → Nat → Prop}
theorem Units.disj (hU : Units wS us us.length vu xs B top lo hi vcs yss nvs bvs L H) {u j u' j' b : Nat} (hu : u < us.length) (hj : j < us[u].cands.length) (hu' : u' < us.length) (hj' : j' < us[u'].cands.length) (h1 : L u j ≤ b) (h2 : b < H u j) (h3 : L u' j' ≤ b) (h4 : b < H u' j') : u = u' ∧ j = j' := by
  have b1 := (hU.parts u hu hu).bd j hj
  have b2 := (hU.parts u' hu' hu').bd j' hj'
  have c1 := hU.bd u hu
  have c2 := hU.bd u' hu'
  rcases Nat.lt_trichotomy u u' with h | h | h
  · have := hU.apart u u' h hu'; omega
  · subst h
    refine ⟨rfl, ?_⟩
    rcases Nat.lt_trichotomy j j' with q | q | q
    · have := (hU.parts u hu hu).apart j j' q hj'; omega
    · exact q
    · have := (hU.parts u hu hu).apart j' j q hj; omega
  · have := hU.apart u' u h hu; omega
theorem Units.arrOut (hU : Units wS us us.length vu xs B top lo hi vcs yss nvs bvs L H) {u j u' g : Nat} (hu : u < us.length) (hj : j < us[u].cands.length) (hu' : u' < us.length) (hg : (vcs u').ownBlock = some g) (h1 : L u j ≤ g) (h2 : g < H u j) : False := by
  have b1 := (hU.parts u hu hu).bd j hj
  have c1 := hU.bd u hu
  have c2 := hU.bd u' hu'
  have c3 := (hU.arr u' hu' hu').lt g hg
  rcases Nat.lt_trichotomy u u' with h | h | h
  · have := hU.apart u u' h hu'; omega
  · subst h
    have := (hU.parts u hu hu).arr j g hj hg
    omega
  · have := hU.apart u' u h hu; omega
theorem Units.arrNe (hU : Units wS us us.length vu xs B top lo hi vcs yss nvs bvs L H) {u u' g g' : Nat} (hu : u < us.length) (hu' : u' < us.length) (hg : (vcs u).ownBlock = some g) (hg' : (vcs u').ownBlock = some g') (hne : u ≠ u') : g ≠ g' := by
  have c1 := (hU.arr u hu hu).lt g hg
  have c2 := (hU.arr u' hu' hu').lt g' hg'
  rcases Nat.lt_or_gt_of_ne hne with h | h
  · have := hU.apart u u' h hu'; omega
  · have := hU.apart u' u h hu; omega
/-- A candidate that is not doubled yet holds what it held. -/
theorem TwSt.now (hU : Units wS us us.length vu xs B top lo hi vcs yss nvs bvs L H) (ht : top ≤ wS.heap.size) (hst : TwSt wS us vcs nvs bvs L H B done w) {u i : Nat} (hu : u < us.length) (hi' : i < us[u].cands.length) (hnd : ¬ done u i) : CandO w us[u].cands[i] (nvs u i) (bvs u i) (L u i) (H u i) := by
  have b1 := (hU.parts u hu hu).bd i hi'
  have c1 := hU.bd u hu
  refine ((hU.parts u hu hu).cand i hi' hi').keep fun b h1 h2 => hst.same b (by omega) (fun u' g hu' hg e => hU.arrOut hu hi' hu' hg (by omega) (by omega)) fun u' j hu' hj hd h3 h4 => ?_
  obtain ⟨rfl, rfl⟩ := hU.disj hu hi' hu' hj h1 h2 h3 h4
  exact hnd hd
/-- One candidate doubled. -/
theorem TwSt.step (hU : Units wS us us.length vu xs B top lo hi vcs yss nvs bvs L H) (ht : top ≤ wS.heap.size) (hst : TwSt wS us vcs nvs bvs L H B done w) {u i g mid : Nat} (hu : u < us.length) (hi' : i < us[u].cands.length) (hnd : ¬ done u i) (hg : (vcs u).ownBlock = some g)
    {zs ws : List Value} (hm1 : L u i ≤ mid) (hm2 : mid ≤ H u i) (hN : OwnI (tSlice tWant) 67 w (L u i) mid (nvs u i) us[u].cands[i].needs zs) (hR : OwnI tWant 83 w mid (H u i) (bvs u i) us[u].cands[i].bars ws)
    {w5 w6 : World} {v5 b6 : Value} (o5 : w5.ownsRow (L u i) 67 1 v5 (us[u].cands[i].needs.length + us[u].cands[i].needs.length) (zs ++ zs)) (g5 : w.grownBy w5 (nvs u i).ownBlock) (n5 : v5.ownBlock = (nvs u i).ownBlock ∨ v5.ownBlock = some w.heap.size)
    (o6 : w6.ownsRow mid 83 3 b6 (us[u].cands[i].bars.length + us[u].cands[i].bars.length) (ws ++ ws)) (g6 : w5.grownBy w6 (bvs u i).ownBlock) (n6 : b6.ownBlock = (bvs u i).ownBlock ∨ b6.ownBlock = some w5.heap.size) :
    TwSt wS us vcs nvs bvs L H B (fun u' j => done u' j ∨ (u' = u ∧ j = i)) ((w6.setCell ⟨g, i * 8 + 6, none⟩ v5).setCell ⟨g, i * 8 + 7, none⟩ b6) := by
  have hb1 := (hU.parts u hu hu).bd i hi'
  have hc1 := hU.bd u hu
  have hgl := (hU.arr u hu hu).lt g hg
  have s0 := hst.below.size
  have s5 := g5.size
  have s6 := g6.size
  have hsF : ((w6.setCell ⟨g, i * 8 + 6, none⟩ v5).setCell ⟨g, i * 8 + 7, none⟩ b6).heap.size = w6.heap.size := by simp
  have hgO : ∀ b, L u i ≤ b → b < H u i → b ≠ g := fun b h1 h2 e => hU.arrOut hu hi' hu hg (by omega) (by omega)
  have hnb : ∀ b, (nvs u i).ownBlock = some b → L u i ≤ b ∧ b < mid := hN.lt
  have hbb : ∀ b, (bvs u i).ownBlock = some b → mid ≤ b ∧ b < H u i := hR.lt
  have hkF : ∀ b, b ≠ g → ((w6.setCell ⟨g, i * 8 + 6, none⟩ v5).setCell ⟨g, i * 8 + 7, none⟩ b6).heap[b]? = w6.heap[b]? := fun b h => by
    rw [heap_setCell_other _ _ _ _ (show b ≠ g from h), heap_setCell_other _ _ _ _ (show b ≠ g from h)]
  have hk6 : ∀ b, b < w.heap.size → (nvs u i).ownBlock ≠ some b → (bvs u i).ownBlock ≠ some b → w6.heap[b]? = w.heap[b]? := fun b h1 h2 h3 => by
    rw [g6.block b (by omega) (fun e => h3 e.symm)]
    exact g5.block b h1 (fun e => h2 e.symm)
  have hout : ∀ b, b < w.heap.size → ¬ (L u i ≤ b ∧ b < H u i) → w6.heap[b]? = w.heap[b]? := fun b h1 h2 => hk6 b h1 (fun e => by have := hnb b e; omega) (fun e => by have := hbb b e; omega)
  have hLw : ∀ b, b < H u i → b < w.heap.size := fun b h => by omega
  refine ⟨?_, fun b h1 h2 h3 => ?_, fun u' hu' g' hg' => ⟨fun o => ?_, fun j hj => ?_⟩⟩
  · have q5 : Below B w w5 := ((Below.refl _ w).mono (by omega : B ≤ w.heap.size)).grown g5 (by omega) fun k hk => by have := hnb k hk; omega
    have q6 : Below B w w6 := q5.grown g6 (by omega) fun k hk => by have := hbb k hk; omega
    exact ((hst.below.trans q6).setCell (p := ⟨g, i * 8 + 6, none⟩) (by show B ≤ g; omega) v5).setCell (p := ⟨g, i * 8 + 7, none⟩) (by show B ≤ g; omega) b6
  · rw [hkF b (h2 u g hu hg)]
    rw [hout b (by omega) (fun h => h3 u i hu hi' (.inr ⟨rfl, rfl⟩) h.1 h.2)]
    exact hst.same b h1 h2 fun u' j hu' hj hd h4 h5 => h3 u' j hu' hj (.inl hd) h4 h5
  · have hgl' := (hU.arr u' hu' hu').lt g' hg'
    have hcu := hU.bd u' hu'
    have hf := (hst.arr u' hu' g' hg').1
    refine setCell_frozen fun o => setCell_frozen fun o => ?_
    rw [World.frozen?_of_block (hout g' (by omega) (fun h => hU.arrOut hu hi' hu' hg' h.1 h.2))]
    exact hf o
  · have hgl' := (hU.arr u' hu' hu').lt g' hg'
    have hcu := hU.bd u' hu'
    have hbj := (hU.parts u' hu' hu').bd j hj
    obtain ⟨nv, bv, a1, a2, a3⟩ := (hst.arr u' hu' g' hg').2 j hj
    have hcell : ∀ r, w6.cell? ⟨g', j * 8 + r, none⟩ = w.cell? ⟨g', j * 8 + r, none⟩ := fun r => World.cell?_of_block (hout g' (by omega) (fun h => hU.arrOut hu hi' hu' hg' h.1 h.2))
    by_cases e : u' = u ∧ j = i
    · obtain ⟨rfl, rfl⟩ := e
      obtain rfl : g' = g := Option.some.inj (hg'.symm.trans hg)
      obtain ⟨rfl, rfl⟩ := a2 hnd
      refine ⟨v5, b6, fun r hr => ?_, fun h => absurd (.inr ⟨rfl, rfl⟩) h, fun _ => ⟨?_, ?_⟩⟩
      · by_cases r7 : r = 7
        · subst r7
          have h0 : (w6.setCell ⟨g', j * 8 + 6, none⟩ v5).cell? ⟨g', j * 8 + 7, none⟩ = some (bvs u' j) := by
            rw [cell_far (by omega), hcell 7, a1 7 (by decide)]; rfl
          exact cell_here h0
        · rw [cell_far (by omega)]
          by_cases r6 : r = 6
          · subst r6
            have h0 : w6.cell? ⟨g', j * 8 + 6, none⟩ = some (nvs u' j) := by rw [hcell 6, a1 6 (by decide)]; rfl
            exact cell_here h0
          · rw [cell_far (by omega), hcell r, a1 r hr]
            have : r < 6 := by omega
            match r, this with
            | 0, _ => rfl
            | 1, _ => rfl
            | 2, _ => rfl
            | 3, _ => rfl
            | 4, _ => rfl
            | 5, _ => rfl
      · have hv5 : ∀ b, v5.ownBlock = some b → ((L u' j ≤ b ∧ b < mid) ∨ b = w.heap.size) ∧ b < w5.heap.size := fun b hb => by
          refine ⟨?_, (o5.lt b hb).2⟩
          rcases n5 with e | e
          · rw [e] at hb
            exact .inl (hnb b hb)
          · rw [e] at hb
            exact .inr (Option.some.inj hb).symm
        have p5 : ((w6.setCell ⟨g', j * 8 + 6, none⟩ v5).setCell ⟨g', j * 8 + 7, none⟩ b6).ownsRow (L u' j) 67 (tSlice tWant).size v5 (us[u'].cands[j].needs ++ us[u'].cands[j].needs).length (zs ++ zs) := by
          rw [List.length_append]
          refine ownsRow_keep o5 fun b hb => ?_
          have := hv5 b hb
          rw [hkF b (fun e => by rcases this.1 with h | h; exact hgO b h.1 (by omega) e; omega)]
          exact g6.block b this.2 (fun e => by have := hbb b e.symm; omega)
        refine rd_own p5 (fun b hb => ?_) (el_twice hN.own.1 fun k hk => ?_)
        · have := hv5 b hb
          rcases this.1 with h | h
          · exact .inl ⟨h.1, by omega⟩
          · exact .inr ⟨by omega, by rw [hsF]; omega⟩
        · obtain ⟨cs, q1, q2, q3⟩ := hN.el k hk
          exact ⟨cs, q1, q2, (tSlice tWant).more (fun b hb => .inl ⟨hb.1, by have := hb.2.1; omega⟩) ((tSlice tWant).keep (fun b hb => by
            have h2 := hb.2.1
            rw [hkF b (hgO b hb.1 (by omega))]
            exact hk6 b (by omega) hb.2.2 (fun e => by have := hbb b e; omega)) q3)⟩
      · have hv6 : ∀ b, b6.ownBlock = some b → ((mid ≤ b ∧ b < H u' j) ∨ b = w5.heap.size) ∧ b < w6.heap.size := fun b hb => by
          refine ⟨?_, (o6.lt b hb).2⟩
          rcases n6 with e | e
          · rw [e] at hb
            exact .inl (hbb b hb)
          · rw [e] at hb
            exact .inr (Option.some.inj hb).symm
        have p6 : ((w6.setCell ⟨g', j * 8 + 6, none⟩ v5).setCell ⟨g', j * 8 + 7, none⟩ b6).ownsRow mid 83 tWant.size b6 (us[u'].cands[j].bars ++ us[u'].cands[j].bars).length (ws ++ ws) := by
          rw [List.length_append]
          refine ownsRow_keep o6 fun b hb => ?_
          have := hv6 b hb
          exact hkF b (fun e => by rcases this.1 with h | h; exact hgO b (by omega) h.2 e; omega)
        refine rd_own p6 (fun b hb => ?_) (el_twice hR.own.1 fun k hk => ?_)
        · have := hv6 b hb
          rcases this.1 with h | h
          · exact .inl ⟨by omega, h.2⟩
          · exact .inr ⟨by omega, by rw [hsF]; omega⟩
        · obtain ⟨cs, q1, q2, q3⟩ := hR.el k hk
          exact ⟨cs, q1, q2, tWant.more (fun b hb => .inl ⟨by have := hb.1; omega, hb.2.1⟩) (tWant.keep (fun b hb => by
            have h2 := hb.2.1
            have h1 := hb.1
            rw [hkF b (hgO b (by omega) h2)]
            exact hk6 b (by omega) (fun e => by have := hnb b e; omega) hb.2.2) q3)⟩
    · refine ⟨nv, bv, fun r hr => ?_, fun h => a2 fun h2 => h (.inl h2), fun h => ?_⟩
      · rw [← a1 r hr, ← hcell r]
        by_cases e2 : u' = u
        · subst e2
          obtain rfl : g' = g := Option.some.inj (hg'.symm.trans hg)
          have hji : j ≠ i := fun e3 => e ⟨rfl, e3⟩
          rw [cell_far (by omega), cell_far (by omega)]
        · have hne := hU.arrNe hu' hu hg' hg e2
          exact World.cell?_of_block (hkF g' hne)
      · have hd : done u' j := h.elim id (fun h => absurd h e)
        obtain ⟨r1, r2⟩ := a3 hd
        have hkk : ∀ b, ((L u' j ≤ b ∧ b < H u' j) ∨ (wS.heap.size ≤ b ∧ b < w.heap.size)) → ((w6.setCell ⟨g, i * 8 + 6, none⟩ v5).setCell ⟨g, i * 8 + 7, none⟩ b6).heap[b]? = w.heap[b]? := fun b hb => by
          rcases hb with ⟨h1, h2⟩ | ⟨h1, h2⟩
          · rw [hkF b (fun e3 => hU.arrOut hu' hj hu hg (by omega) (by omega))]
            exact hout b (by omega) (fun h => by
              obtain ⟨e4, e5⟩ := hU.disj hu' hj hu hi' h1 h2 h.1 h.2
              exact e ⟨e4, e5⟩)
          · rw [hkF b (by omega)]
            exact hout b h2 (by omega)
        exact ⟨(r1.keep hkk).more fun b hb => hb.imp id fun h => ⟨h.1, by rw [hsF]; omega⟩, (r2.keep hkk).more fun b hb => hb.imp id fun h => ⟨h.1, by rw [hsF]; omega⟩⟩
end
end Go.Proofs.YtilgijmokjekgaaGreatDoor
