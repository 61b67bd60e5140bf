/- What a copied world owns: each candidate's rows lie apart from all others. No program stands here. -/
import Derived.Test.YtilgijmokjekgaaGreatDoorE1
import Derived.Test.YtilgijmokjekgaaGreatDoorzA4
import Derived.Outline
namespace Go.Proofs.YtilgijmokjekgaaGreatDoor
open Go Go.RowKit

/-- One's own rows that lie in the blocks from lo up to hi. -/
def OwnI {α : Type} (t : Ty α) (e : TypeId) (w : World) (lo hi : Nat) (v : Value) (l : List α) (xs : List Value) : Prop :=
  ∃ wn : World, OwnT t e wn lo v l xs ∧ wn.heap.size ≤ hi ∧ ∀ b, lo ≤ b → b < wn.heap.size → w.heap[b]? = wn.heap[b]?
section
variable {α : Type} {t : Ty α} {e : TypeId} {w w' : World} {lo hi : Nat} {v : Value} {l : List α} {xs : List Value}
theorem OwnI.of (h : OwnT t e w lo v l xs) : OwnI t e w lo w.heap.size v l xs := ⟨w, h, Nat.le_refl _, fun _ _ _ => rfl⟩
theorem OwnI.keep (h : OwnI t e w lo hi v l xs) (hk : ∀ b, lo ≤ b → b < hi → w'.heap[b]? = w.heap[b]?) : OwnI t e w' lo hi v l xs := by
  obtain ⟨wn, h1, h2, h3⟩ := h
  exact ⟨wn, h1, h2, fun b h4 h5 => (hk b h4 (Nat.lt_of_lt_of_le h5 h2)).trans (h3 b h4 h5)⟩
theorem OwnI.lt (h : OwnI t e w lo hi v l xs) (g : Nat) (hg : v.ownBlock = some g) : lo ≤ g ∧ g < hi := by
  obtain ⟨wn, h1, h2, -⟩ := h
  exact ⟨(h1.own.lt g hg).1, Nat.lt_of_lt_of_le (h1.own.lt g hg).2 h2⟩
theorem OwnI.own (h : OwnI t e w lo hi v l xs) : w.ownsRow lo e t.size v l.length xs := by
  obtain ⟨wn, h1, -, h3⟩ := h
  exact ownsRow_keep h1.own fun g hg => h3 g (h1.own.lt g hg).1 (h1.own.lt g hg).2
theorem OwnI.rd (h : OwnI t e w lo hi v l xs) : SliceRd t w (fun b => lo ≤ b ∧ b < hi) v l := by
  obtain ⟨wn, h1, h2, h3⟩ := h
  exact (h1.rdF.keep fun b hb => h3 b hb.1 hb.2).more fun b hb => ⟨hb.1, Nat.lt_of_lt_of_le hb.2 h2⟩
theorem OwnI.el (h : OwnI t e w lo hi v l xs) : ∀ k, (hk : k < l.length) → ∃ cs, cs.length = t.size ∧ (∀ j, j < t.size → xs[k * t.size + j]? = cs[j]?) ∧ t.rd w (fun b => lo ≤ b ∧ b < hi ∧ v.ownBlock ≠ some b) cs l[k] := by
  obtain ⟨wn, h1, h2, h3⟩ := h
  intro k hk
  obtain ⟨cs, e1, e2, e3⟩ := h1.el k hk
  exact ⟨cs, e1, e2, t.more (fun b hb => ⟨hb.1, Nat.lt_of_lt_of_le hb.2.1 h2, hb.2.2⟩) (t.keep (fun b hb => h3 b hb.1 hb.2.1) e3)⟩
end
/-- A candidate's needs and bars, its own, in the blocks from lo up to hi. -/
def CandO (w : World) (c : CandW) (nv bv : Value) (lo hi : Nat) : Prop :=
  ∃ (mid : Nat) (zs ws : List Value), lo ≤ mid ∧ mid ≤ hi ∧ OwnI (tSlice tWant) 67 w lo mid nv c.needs zs ∧ OwnI tWant 83 w mid hi bv c.bars ws
theorem CandO.keep {w w' : World} {c : CandW} {nv bv : Value} {lo hi : Nat} (h : CandO w c nv bv lo hi) (hk : ∀ b, lo ≤ b → b < hi → w'.heap[b]? = w.heap[b]?) : CandO w' c nv bv lo hi := by
  obtain ⟨mid, zs, ws, h1, h2, h3, h4⟩ := h
  exact ⟨mid, zs, ws, h1, h2, h3.keep fun b h5 h6 => hk b h5 (by omega), h4.keep fun b h5 h6 => hk b (by omega) h6⟩
/-- A unit's first candidates: each in blocks of its own, apart from the candidates' array. -/
structure Parts (w : World) (x : UnitW) (i : Nat) (vc : Value) (ys : List Value) (lo hi : Nat) (nvs bvs : Nat → Value) (L H : Nat → Nat) : Prop where
  cand : ∀ j, (hj : j < x.cands.length) → j < i → CandO w x.cands[j] (nvs j) (bvs j) (L j) (H j)
  cells : ∀ j, (hj : j < x.cands.length) → j < i → ∀ r, r < 8 → ys[j * 8 + r]? = [Value.int .i64 x.cands[j].v.major, .int .i64 x.cands[j].v.minor, .int .i64 x.cands[j].v.patch, .string x.cands[j].v.pre, .string x.cands[j].v.build, .int .i64 x.cands[j].sh, nvs j, bvs j][r]?
  ver : ∀ j, (hj : j < x.cands.length) → j < i → x.cands[j].v.B
  bd : ∀ j, j < i → lo ≤ L j ∧ L j ≤ H j ∧ H j ≤ hi
  apart : ∀ j k, j < k → k < i → H j ≤ L k
  arr : ∀ j g, j < i → vc.ownBlock = some g → g < L j ∨ H j ≤ g
theorem Parts.keep {w w' : World} {x : UnitW} {i : Nat} {vc : Value} {ys : List Value} {lo hi : Nat} {nvs bvs : Nat → Value} {L H : Nat → Nat} (h : Parts w x i vc ys lo hi nvs bvs L H) (hk : ∀ j, j < i → ∀ b, L j ≤ b → b < H j → w'.heap[b]? = w.heap[b]?) : Parts w' x i vc ys lo hi nvs bvs L H :=
  ⟨fun j hj hji => (h.cand j hj hji).keep (hk j hji), h.cells, h.ver, h.bd, h.apart, h.arr⟩
theorem Parts.none (w : World) (x : UnitW) (vc : Value) (ys : List Value) (lo hi : Nat) (nvs bvs : Nat → Value) (L H : Nat → Nat) : Parts w x 0 vc ys lo hi nvs bvs L H :=
  ⟨fun _ _ h => absurd h (by omega), fun _ _ h => absurd h (by omega), fun _ _ h => absurd h (by omega), fun _ h => absurd h (by omega), fun _ _ _ h => absurd h (by omega), fun _ _ h => absurd h (by omega)⟩
/-- One candidate more: its rows lie above all that was there, the array below them or above them. -/
theorem Parts.more {w : World} {x : UnitW} {i : Nat} {vc vc' : Value} {ys : List Value} {lo hi hi' : Nat} {nvs bvs : Nat → Value} {L H : Nat → Nat} {nv bv : Value} {a b : Nat} (h : Parts w x i vc ys lo hi nvs bvs L H) (hi1 : i < x.cands.length) (hlen : ys.length = i * 8) (hc : CandO w x.cands[i] nv bv a b) (hv : x.cands[i].v.B)
    (h1 : hi ≤ a) (h2 : a ≤ b) (h3 : b ≤ hi') (h0 : lo ≤ a) (hg : ∀ g, vc'.ownBlock = some g → (vc.ownBlock = some g ∧ g < a) ∨ b ≤ g) :
    Parts w x (i + 1) vc' (ys ++ [.int .i64 x.cands[i].v.major, .int .i64 x.cands[i].v.minor, .int .i64 x.cands[i].v.patch, .string x.cands[i].v.pre, .string x.cands[i].v.build, .int .i64 x.cands[i].sh, nv, bv]) lo hi' (fun j => if j = i then nv else nvs j) (fun j => if j = i then bv else bvs j) (fun j => if j = i then a else L j) (fun j => if j = i then b else H j) := by
  refine ⟨fun j hj hji => ?_, fun j hj hji r hr => ?_, fun j hj hji => ?_, fun j hji => ?_, fun j k hjk hk => ?_, fun j g hji hgg => ?_⟩
  · by_cases e : j = i
    · subst e
      simp only [if_pos]
      exact hc
    · simp only [if_neg e]
      exact h.cand j hj (by omega)
  · by_cases e : j = i
    · subst e
      simp only [if_pos]
      rw [List.getElem?_append_right (by omega), hlen]
      congr 1
      omega
    · simp only [if_neg e]
      rw [List.getElem?_append_left (by omega)]
      exact h.cells j hj (by omega) r hr
  · by_cases e : j = i
    · subst e; exact hv
    · exact h.ver j hj (by omega)
  · by_cases e : j = i
    · subst e
      simp only [if_pos]
      exact ⟨h0, h2, h3⟩
    · simp only [if_neg e]
      have := h.bd j (by omega)
      exact ⟨this.1, this.2.1, by omega⟩
  · have e : j ≠ i := by omega
    simp only [if_neg e]
    by_cases e2 : k = i
    · simp only [if_pos e2]
      have := h.bd j (by omega)
      omega
    · simp only [if_neg e2]
      exact h.apart j k hjk (by omega)
  · by_cases e : j = i
    · simp only [if_pos e]
      rcases hg g hgg with ⟨-, h5⟩ | h5
      · exact .inl h5
      · exact .inr h5
    · simp only [if_neg e]
      rcases hg g hgg with ⟨h4, -⟩ | h5
      · exact h.arr j g (by omega) h4
      · have := h.bd j (by omega)
        exact .inr (by omega)
theorem Parts.mono {w : World} {x : UnitW} {i : Nat} {vc : Value} {ys : List Value} {lo hi hi' : Nat} {nvs bvs : Nat → Value} {L H : Nat → Nat} (h : Parts w x i vc ys lo hi nvs bvs L H) (hh : hi ≤ hi') : Parts w x i vc ys lo hi' nvs bvs L H :=
  ⟨h.cand, h.cells, h.ver, fun j hj => by have := h.bd j hj; omega, h.apart, h.arr⟩
/-- A world's first units: each in blocks of its own, apart from the units' array. -/
structure Units (w : World) (us : List UnitW) (n : Nat) (vu : Value) (xs : List Value) (B top : Nat) (lo hi : Nat → Nat) (vcs : Nat → Value) (yss : Nat → List Value) (nvs bvs : Nat → Nat → Value) (L H : Nat → Nat → Nat) : Prop where
  arr : ∀ u, (hu : u < us.length) → u < n → OwnI tCand 69 w (lo u) (hi u) (vcs u) us[u].cands (yss u)
  parts : ∀ u, (hu : u < us.length) → u < n → Parts w us[u] us[u].cands.length (vcs u) (yss u) (lo u) (hi u) (nvs u) (bvs u) (L u) (H u)
  cell : ∀ u, (hu : u < us.length) → u < n → ∀ r, r < 3 → xs[u * 3 + r]? = [Value.string us[u].nm, .string us[u].ft, vcs u][r]?
  bd : ∀ u, u < n → B ≤ lo u ∧ lo u ≤ hi u ∧ hi u ≤ top
  apart : ∀ u k, u < k → k < n → hi u ≤ lo k
  out : ∀ u g, u < n → vu.ownBlock = some g → g < lo u ∨ hi u ≤ g
section
variable {w w' : World} {us : List UnitW} {n : Nat} {vu vu' : Value} {xs : List Value} {B top top' : Nat} {lo hi : Nat → Nat} {vcs : Nat → Value} {yss : Nat → List Value} {nvs bvs : Nat → Nat → Value} {L H : Nat → Nat → Nat}
theorem Units.keep (h : Units w us n vu xs B top lo hi vcs yss nvs bvs L H) (hk : ∀ u, u < n → ∀ b, lo u ≤ b → b < hi u → w'.heap[b]? = w.heap[b]?) : Units w' us n vu xs B top lo hi vcs yss nvs bvs L H :=
  ⟨fun u hu hn => (h.arr u hu hn).keep (hk u hn), fun u hu hn => (h.parts u hu hn).keep fun j hj b h1 h2 => hk u hn b (by have := (h.parts u hu hn).bd j hj; omega) (by have := (h.parts u hu hn).bd j hj; omega), h.cell, h.bd, h.apart, h.out⟩
theorem Units.mono (h : Units w us n vu xs B top lo hi vcs yss nvs bvs L H) (hh : top ≤ top') : Units w us n vu xs B top' lo hi vcs yss nvs bvs L H :=
  ⟨h.arr, h.parts, h.cell, fun u hu => by have := h.bd u hu; omega, h.apart, h.out⟩
theorem Units.none (w : World) (us : List UnitW) (vu : Value) (xs : List Value) (B top : Nat) (lo hi : Nat → Nat) (vcs : Nat → Value) (yss : Nat → List Value) (nvs bvs : Nat → Nat → Value) (L H : Nat → Nat → Nat) : Units w us 0 vu xs B top lo hi vcs yss nvs bvs L H :=
  ⟨fun _ _ h => absurd h (by omega), fun _ _ h => absurd h (by omega), fun _ _ h => absurd h (by omega), fun _ h => absurd h (by omega), fun _ _ _ h => absurd h (by omega), fun _ _ h => absurd h (by omega)⟩
theorem Units.more {vc : Value} {ys : List Value} {nv1 bv1 : Nat → Value} {L1 H1 : Nat → Nat} {a b : Nat} (h : Units w us n vu xs B top lo hi vcs yss nvs bvs L H) (hn : n < us.length) (hlen : xs.length = n * 3) (hA : OwnI tCand 69 w a b vc us[n].cands ys) (hP : Parts w us[n] us[n].cands.length vc ys a b nv1 bv1 L1 H1)
    (h1 : top ≤ a) (h2 : a ≤ b) (h3 : b ≤ top') (h0 : B ≤ a) (hg : ∀ g, vu'.ownBlock = some g → (vu.ownBlock = some g ∧ g < a) ∨ b ≤ g) :
    Units w us (n + 1) vu' (xs ++ [.string us[n].nm, .string us[n].ft, vc]) B top' (fun j => if j = n then a else lo j) (fun j => if j = n then b else hi j) (fun j => if j = n then vc else vcs j) (fun j => if j = n then ys else yss j) (fun j => if j = n then nv1 else nvs j) (fun j => if j = n then bv1 else bvs j) (fun j => if j = n then L1 else L j) (fun j => if j = n then H1 else H j) := by
  refine ⟨fun j hj hji => ?_, fun j hj hji => ?_, fun j hj hji r hr => ?_, fun j hji => ?_, fun j k hjk hk => ?_, fun j g hji hgg => ?_⟩
  · by_cases e : j = n
    · subst e
      simp only [if_pos]
      exact hA
    · simp only [if_neg e]
      exact h.arr j hj (by omega)
  · by_cases e : j = n
    · subst e
      simp only [if_pos]
      exact hP
    · simp only [if_neg e]
      exact h.parts j hj (by omega)
  · by_cases e : j = n
    · subst e
      simp only [if_pos]
      rw [List.getElem?_append_right (by omega), hlen]
      congr 1
      omega
    · simp only [if_neg e]
      rw [List.getElem?_append_left (by omega)]
      exact h.cell j hj (by omega) r hr
  · by_cases e : j = n
    · simp only [if_pos e]
      exact ⟨h0, h2, h3⟩
    · simp only [if_neg e]
      have := h.bd j (by omega)
      exact ⟨this.1, this.2.1, by omega⟩
  · have e : j ≠ n := by omega
    simp only [if_neg e]
    by_cases e2 : k = n
    · simp only [if_pos e2]
      have := h.bd j (by omega)
      omega
    · simp only [if_neg e2]
      exact h.apart j k hjk (by omega)
  · by_cases e : j = n
    · simp only [if_pos e]
      rcases hg g hgg with ⟨-, h5⟩ | h5
      · exact .inl h5
      · exact .inr h5
    · simp only [if_neg e]
      rcases hg g hgg with ⟨h4, -⟩ | h5
      · exact h.out j g (by omega) h4
      · have := h.bd j (by omega)
        exact .inr (by omega)
end
/-- A world of one's own: all its parts apart. -/
def OwnW (w : World) (us : List UnitW) (vu : Value) (xs : List Value) (B : Nat) : Prop :=
  OwnT tUnit 62 w B vu us xs ∧ ∃ lo hi vcs yss nvs bvs L H, Units w us us.length vu xs B w.heap.size lo hi vcs yss nvs bvs L H
end Go.Proofs.YtilgijmokjekgaaGreatDoor
