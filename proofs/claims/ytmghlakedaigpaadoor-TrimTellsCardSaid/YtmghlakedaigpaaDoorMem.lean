/- Plain words for memory: a value read as data ('Ty'), slices as lists, rows of structs; kept over worlds. No program stands here. -/
import Derived.WalkKit
import Derived.WalkSpells
import Derived.WalkLawsBesides
import Derived.BigQuiet
import Derived.Deep.QuietTactic
import Derived.Handy
namespace Go.Proofs.YtmghlakedaigpaaDoor
open Go Go.RowKit

theorem hid {p : Prop} (h : p) : Hid p := h

/-- The walk's form of an address. -/
@[go_sem] theorem add_mk (g o n : Nat) : (⟨g, o, none⟩ : Addr).add n = ⟨g, o + n, none⟩ := by
  unfold Addr.add
  by_cases h : n = 0 <;> simp [h]

/-- Two worlds hold the same in the blocks of F. -/
def Keeps (F : Nat → Prop) (w w' : World) : Prop := ∀ k, F k → w'.heap[k]? = w.heap[k]?

theorem Keeps.of_below {B : Nat} {F : Nat → Prop} {w w' : World} (h : Below B w w') (hF : ∀ k, F k → k < B) : Keeps F w w' := fun k hk => h.block k (hF k hk)
theorem Keeps.mono {F F' : Nat → Prop} {w w' : World} (h : Keeps F w w') (hF : ∀ k, F' k → F k) : Keeps F' w w' := fun k hk => h k (hF k hk)
theorem Keeps.trans {F : Nat → Prop} {a b c : World} (h : Keeps F a b) (h' : Keeps F b c) : Keeps F a c := fun k hk => (h' k hk).trans (h k hk)

/-- How a datum reads off cells. -/
structure Ty (α : Type) where
  size : Nat
  rd : World → (Nat → Prop) → List Value → α → Prop
  len : ∀ {w F cs x}, rd w F cs x → cs.length = size
  keep : ∀ {w w' F cs x}, Keeps F w w' → rd w F cs x → rd w' F cs x
  more : ∀ {w} {F F' : Nat → Prop} {cs x}, (∀ k, F k → F' k) → rd w F cs x → rd w F' cs x

def I64 (n : Int) : Prop := -9223372036854775808 ≤ n ∧ n ≤ 9223372036854775807

def tInt : Ty Int where
  size := 1
  rd _ _ cs n := cs = [.int .i64 n] ∧ I64 n
  len h := by rw [h.1]; rfl
  keep _ h := h
  more _ h := h
def tBool : Ty Bool where
  size := 1
  rd _ _ cs b := cs = [.bool b]
  len h := by rw [h]; rfl
  keep _ h := h
  more _ h := h
def tStr : Ty ByteArray where
  size := 1
  rd _ _ cs s := cs = [.string s] ∧ s.size ≤ maxLen
  len h := by rw [h.1]; rfl
  keep _ h := h
  more _ h := h

/-- A slice of elements read by t. -/
structure SliceRd {α : Type} (t : Ty α) (w : World) (F : Nat → Prop) (v : Value) (l : List α) : Prop where
  shape : ∃ A cap, v = .slice A l.length cap ∧ l.length ≤ cap ∧ cap ≤ maxLen ∧
    ∀ k, (h : k < l.length) → ∃ g o cs, A = some ⟨g, o, none⟩ ∧ F g ∧ cs.length = t.size ∧ (∀ j, j < t.size → w.cell? ⟨g, o + k * t.size + j, none⟩ = cs[j]?) ∧ t.rd w F cs l[k]

theorem SliceRd.keep {α : Type} {t : Ty α} {w w' : World} {F : Nat → Prop} {v : Value} {l : List α} (hk : Keeps F w w') (h : SliceRd t w F v l) : SliceRd t w' F v l := by
  obtain ⟨A, cap, hv, h1, h2, h3⟩ := h.shape
  refine ⟨A, cap, hv, h1, h2, fun k hl => ?_⟩
  obtain ⟨g, o, cs, hA, hF, hc, hcell, hr⟩ := h3 k hl
  refine ⟨g, o, cs, hA, hF, hc, fun j hj => ?_, t.keep hk hr⟩
  rw [← hcell j hj]
  exact World.cell?_of_block (hk _ hF)
theorem SliceRd.more {α : Type} {t : Ty α} {w : World} {F F' : Nat → Prop} {v : Value} {l : List α} (hF : ∀ k, F k → F' k) (h : SliceRd t w F v l) : SliceRd t w F' v l := by
  obtain ⟨A, cap, hv, h1, h2, h3⟩ := h.shape
  refine ⟨A, cap, hv, h1, h2, fun k hl => ?_⟩
  obtain ⟨g, o, cs, hA, hFF, hc, hcell, hr⟩ := h3 k hl
  exact ⟨g, o, cs, hA, hF _ hFF, hc, hcell, t.more hF hr⟩
theorem SliceRd.nil {α : Type} (t : Ty α) (w : World) (F : Nat → Prop) : SliceRd t w F (.slice none 0 0) [] :=
  ⟨none, 0, rfl, Nat.le_refl _, by unfold maxLen; omega, fun k h => absurd h (by simp)⟩

def tSlice {α : Type} (t : Ty α) : Ty (List α) where
  size := 1
  rd w F cs l := ∃ v, cs = [v] ∧ SliceRd t w F v l
  len h := by obtain ⟨v, rfl, _⟩ := h; rfl
  keep hk h := by obtain ⟨v, rfl, h⟩ := h; exact ⟨v, rfl, h.keep hk⟩
  more hF h := by obtain ⟨v, rfl, h⟩ := h; exact ⟨v, rfl, h.more hF⟩

structure Term where
  unit : Int
  mask : Int
  deriving DecidableEq, Inhabited
structure Row where
  kind : Int
  unit : Int
  a : Int
  b : Int
  terms : List Term
  deriving DecidableEq, Inhabited

def tTerm : Ty Term where
  size := 2
  rd _ _ cs t := cs = [.int .i64 t.unit, .int .i64 t.mask] ∧ I64 t.unit ∧ I64 t.mask
  len h := by rw [h.1]; rfl
  keep _ h := h
  more _ h := h
def tRow : Ty Row where
  size := 5
  rd w F cs r := ∃ v, cs = [.int .i64 r.kind, .int .i64 r.unit, .int .i64 r.a, .int .i64 r.b, v] ∧ I64 r.kind ∧ I64 r.unit ∧ I64 r.a ∧ I64 r.b ∧ SliceRd tTerm w F v r.terms
  len h := by obtain ⟨v, rfl, _⟩ := h; rfl
  keep hk h := by obtain ⟨v, h0, h1, h2, h3, h4, h5⟩ := h; exact ⟨v, h0, h1, h2, h3, h4, h5.keep hk⟩
  more hF h := by obtain ⟨v, h0, h1, h2, h3, h4, h5⟩ := h; exact ⟨v, h0, h1, h2, h3, h4, h5.more hF⟩

/-- A slice of terms, opened: its address (whatever it is where there is none) and its cells. -/
theorem SliceRd.terms {w : World} {F : Nat → Prop} {v : Value} {l : List Term} (h : SliceRd tTerm w F v l) :
    ∃ A cap, v = .slice A l.length cap ∧ l.length ≤ cap ∧ cap ≤ maxLen ∧
      ∀ k, (hk : k < l.length) → ∃ g o, A = some ⟨g, o, none⟩ ∧ F g ∧ w.cell? ⟨g, o + k * 2, none⟩ = some (.int .i64 l[k].unit) ∧ w.cell? ⟨g, o + k * 2 + 1, none⟩ = some (.int .i64 l[k].mask) ∧ I64 l[k].unit ∧ I64 l[k].mask := by
  obtain ⟨A, cap, hv, h1, h2, h3⟩ := h.shape
  refine ⟨A, cap, hv, h1, h2, fun k hk => ?_⟩
  obtain ⟨g, o, cs, hA, hF, hc, hcell, rfl, hi, hj⟩ := h3 k hk
  exact ⟨g, o, hA, hF, hcell 0 (by show 0 < 2; omega), hcell 1 (by show 1 < 2; omega), hi, hj⟩

theorem SliceRd.rows {w : World} {F : Nat → Prop} {v : Value} {l : List Row} (h : SliceRd tRow w F v l) :
    ∃ A cap, v = .slice A l.length cap ∧ l.length ≤ cap ∧ cap ≤ maxLen ∧
      ∀ k, (hk : k < l.length) → ∃ g o tv, A = some ⟨g, o, none⟩ ∧ F g ∧ w.cell? ⟨g, o + k * 5, none⟩ = some (.int .i64 l[k].kind) ∧ w.cell? ⟨g, o + k * 5 + 1, none⟩ = some (.int .i64 l[k].unit) ∧
        w.cell? ⟨g, o + k * 5 + 2, none⟩ = some (.int .i64 l[k].a) ∧ w.cell? ⟨g, o + k * 5 + 3, none⟩ = some (.int .i64 l[k].b) ∧ w.cell? ⟨g, o + k * 5 + 4, none⟩ = some tv ∧
        (I64 l[k].kind ∧ I64 l[k].unit ∧ I64 l[k].a ∧ I64 l[k].b) ∧ SliceRd tTerm w F tv l[k].terms := by
  obtain ⟨A, cap, hv, h1, h2, h3⟩ := h.shape
  refine ⟨A, cap, hv, h1, h2, fun k hk => ?_⟩
  obtain ⟨g, o, cs, hA, hF, hc, hcell, tv, rfl, i0, i1, i2, i3, ht⟩ := h3 k hk
  exact ⟨g, o, tv, hA, hF, hcell 0 (by show 0 < 5; omega), hcell 1 (by show 1 < 5; omega), hcell 2 (by show 2 < 5; omega), hcell 3 (by show 3 < 5; omega), hcell 4 (by show 4 < 5; omega), ⟨i0, i1, i2, i3⟩, ht⟩

/-- Cells below B, in a later world. -/
theorem cell_below {B : Nat} {w w' : World} (hb : Below B w w') {g o : Nat} {v : Value} (hg : g < B) (h : w.cell? ⟨g, o, none⟩ = some v) : w'.cell? ⟨g, o, none⟩ = some v := (hb.cell (p := ⟨g, o, none⟩) hg).trans h

theorem not_dec_t {P : Prop} [Decidable P] (h : (!decide P) = true) : ¬ P := by simpa using h
theorem not_dec_f {P : Prop} [Decidable P] (h : (!decide P) = false) : P := by simpa using h
/-- All that lies below B. -/
def Lt (B : Nat) : Nat → Prop := fun k => k < B
theorem SliceRd.below {α : Type} {t : Ty α} {B : Nat} {w w' : World} {v : Value} {l : List α} (hb : Below B w w') (h : SliceRd t w (Lt B) v l) : SliceRd t w' (Lt B) v l :=
  h.keep (Keeps.of_below hb fun _ h => h)
theorem SliceRd.lift {α : Type} {t : Ty α} {B B' : Nat} {w w' : World} {v : Value} {l : List α} (h : SliceRd t w (Lt B) v l) (hb : Below B w w') (hB : B ≤ B') : SliceRd t w' (Lt B') v l :=
  (h.below hb).more fun _ hk => Nat.lt_of_lt_of_le hk hB
theorem bcell {W w1 : World} (hb : Below W.heap.size W w1) : (∀ b o, b < W.heap.size → w1.cell? ⟨b, o, none⟩ = W.cell? ⟨b, o, none⟩) ∧ (∀ b o, b < W.heap.size → w1.frozen? ⟨b, o, none⟩ = W.frozen? ⟨b, o, none⟩) :=
  ⟨fun b o h => hb.cell (p := ⟨b, o, none⟩) h, fun b o h => hb.frozen (p := ⟨b, o, none⟩) h⟩
theorem below_drewN {B : Nat} {a w : World} (h : Below B a w) (n : Nat) : Below B a (w.drewN n) := ⟨h.os, h.tape, h.output, h.size, h.block⟩
end Go.Proofs.YtmghlakedaigpaaDoor
