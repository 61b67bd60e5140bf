/- Versions, cuts, spans: as data, read in memory; what the reference answers of them. No program stands here. -/
import Derived.Test.YtilkhofgcgfnlaaGreatFlat
import Derived.Test.YtilkhofgcgfnlaaGreatW1
namespace Go.Proofs.YtilkhofgcgfnlaaGreat
open Go Go.RowKit

structure Ver where
  major : Int
  minor : Int
  patch : Int
  pre : ByteArray
  build : ByteArray
  deriving DecidableEq, Inhabited
structure Cut where
  en : Int
  v : Ver
  after : Bool
  deriving DecidableEq, Inhabited
structure Span where
  lo : Cut
  hi : Cut
  deriving DecidableEq, Inhabited

/-- Numbers and texts that the walks can bear. -/
def VB (a b c : Int) (p q : ByteArray) : Prop := (-100000 ≤ a ∧ a ≤ 100000) ∧ (-100000 ≤ b ∧ b ≤ 100000) ∧ (-100000 ≤ c ∧ c ≤ 100000) ∧ p.size ≤ 1000 ∧ q.size ≤ 1000
def Ver.B (v : Ver) : Prop := VB v.major v.minor v.patch v.pre v.build
def Cut.B (c : Cut) : Prop := (-100000 ≤ c.en ∧ c.en ≤ 100000) ∧ c.v.B
def Span.B (s : Span) : Prop := s.lo.B ∧ s.hi.B
def verCells (v : Ver) : List Value := [.int .i64 v.major, .int .i64 v.minor, .int .i64 v.patch, .string v.pre, .string v.build]
def cutCells (c : Cut) : List Value := [.int .i64 c.en, .int .i64 c.v.major, .int .i64 c.v.minor, .int .i64 c.v.patch, .string c.v.pre, .string c.v.build, .bool c.after]
def spanCells (s : Span) : List Value := cutCells s.lo ++ cutCells s.hi
def fVer : Flat Ver := ⟨5, verCells, Ver.B, fun _ => rfl, fun _ u h => by simp [verCells] at h; rcases h with rfl | rfl | rfl | rfl | rfl <;> rfl, by decide⟩
theorem cutCells_one (c : Cut) : ∀ u ∈ cutCells c, u.oneCell' = true := by
  intro u h
  simp [cutCells] at h
  rcases h with rfl | rfl | rfl | rfl | rfl | rfl | rfl <;> rfl
def fCut : Flat Cut := ⟨7, cutCells, Cut.B, fun _ => rfl, fun c => cutCells_one c, by decide⟩
def fSpan : Flat Span := ⟨14, spanCells, Span.B, fun _ => rfl, fun s u h => by rcases List.mem_append.1 h with h | h <;> exact cutCells_one _ u h, by decide⟩

/-! Texts. -/
def splitC (c : UInt8) : List UInt8 → List (List UInt8)
  | [] => [[]]
  | x :: s => if x = c then [] :: splitC c s else match splitC c s with | w :: ws => (x :: w) :: ws | [] => [[x]]
theorem split_ne (c : UInt8) (s : List UInt8) : splitC c s ≠ [] := by
  cases s with
  | nil => simp [splitC]
  | cons x s =>
    unfold splitC
    split
    · simp
    · split <;> simp
theorem split_no {c : UInt8} : ∀ {a : List UInt8}, c ∉ a → splitC c a = [a]
  | [], _ => rfl
  | x :: a, h => by
    have hx : x ≠ c := fun e => h (by rw [e]; simp)
    have := split_no (a := a) (fun hm => h (List.mem_cons_of_mem _ hm))
    simp only [splitC, if_neg hx, this]
theorem split_of {c : UInt8} : ∀ {a b : List UInt8}, c ∉ a → splitC c (a ++ c :: b) = a :: splitC c b
  | [], b, _ => by simp [splitC]
  | x :: a, b, h => by
    have hx : x ≠ c := fun e => h (by rw [e]; simp)
    have := split_of (a := a) (b := b) (fun hm => h (List.mem_cons_of_mem _ hm))
    simp only [List.cons_append, splitC, if_neg hx, this]
theorem split_sum (c : UInt8) : ∀ s : List UInt8, (splitC c s).length ≤ s.length + 1 ∧ ∀ x ∈ splitC c s, x.length ≤ s.length
  | [] => by simp [splitC]
  | x :: s => by
    obtain ⟨h1, h2⟩ := split_sum c s
    unfold splitC
    split
    · refine ⟨by simp; omega, fun y hy => ?_⟩
      rcases List.mem_cons.1 hy with rfl | hy
      · simp
      · have := h2 y hy; simp; omega
    · split
      · rename_i w ws hw
        rw [hw] at h1 h2
        refine ⟨by simpa using Nat.le_succ_of_le h1, fun y hy => ?_⟩
        rcases List.mem_cons.1 hy with rfl | hy
        · have := h2 w (by simp); simpa using this
        · have := h2 y (by simp [hy]); simp; omega
      · exact absurd (by assumption) (split_ne c s)

def digC (c : UInt8) : Bool := decide (48 ≤ c.toNat) && decide (c.toNat ≤ 57)
def tagC (c : UInt8) : Bool := (decide (97 ≤ c.toNat) && decide (c.toNat ≤ 122)) || digC c || c.toNat == 45
def valF (s : List UInt8) : Nat := s.foldl (fun n c => 10 * n + (c.toNat - 48)) 0
theorem val_snoc (s : List UInt8) (c : UInt8) : valF (s ++ [c]) = 10 * valF s + (c.toNat - 48) := by simp [valF]
theorem val_take {s : List UInt8} {k : Nat} (h : k < s.length) : valF (s.take (k + 1)) = 10 * valF (s.take k) + (s[k].toNat - 48) := by
  rw [List.take_succ_eq_append_getElem h, val_snoc]
theorem val_lt (s : List UInt8) : ∀ k, k ≤ s.length → (s.take k).all digC = true → valF (s.take k) < 10 ^ k
  | 0, _, _ => by simp [valF]
  | k + 1, h, ha => by
    have hk : k < s.length := h
    rw [List.take_succ_eq_append_getElem hk, List.all_append, Bool.and_eq_true] at ha
    have ih := val_lt s k (by omega) ha.1
    rw [val_take hk]
    have hd : digC s[k] = true := by simpa using ha.2
    simp only [digC, Bool.and_eq_true, decide_eq_true_eq] at hd
    rw [Nat.pow_succ]
    omega
def numericB (s : List UInt8) : Bool := !s.isEmpty && s.all digC
def tagB (s : List UInt8) : Bool := decide (1 ≤ s.length) && decide (s.length ≤ 8) && s.all tagC
def numOk (s : List UInt8) : Prop := 1 ≤ s.length ∧ s.length ≤ 9 ∧ (1 < s.length → s.head? ≠ some 48) ∧ s.all digC = true ∧ valF s ≤ 9999
instance (s : List UInt8) : Decidable (numOk s) := by unfold numOk; infer_instance
def numberF (s : List UInt8) : Option Nat := if numOk s then some (valF s) else none
theorem number_le {s : List UInt8} {n : Nat} (h : numberF s = some n) : n ≤ 9999 := by
  unfold numberF at h
  split at h
  · rename_i hk
    cases h
    exact hk.2.2.2.2
  · cases h
theorem number_no {s : List UInt8} (h : ∃ c ∈ s, digC c = false) : numberF s = none := by
  unfold numberF
  rw [if_neg]
  rintro ⟨_, _, _, h2, _⟩
  obtain ⟨c, hc, hd⟩ := h
  rw [List.all_eq_true] at h2
  rw [h2 c hc] at hd
  cases hd
def numRes (s : List UInt8) : Value := match numberF s with
  | some n => .tuple #[.int .i64 (n : Int), .bool true]
  | none => .tuple #[.int .i64 0, .bool false]

/-- One tag of a row. -/
def tagOk (pre : Bool) (s : List UInt8) : Bool := tagB s && !(pre && numericB s && (numberF s).isNone)
def tagsF (s : List UInt8) (pre : Bool) : Bool := s.isEmpty || (decide ((splitC 46 s).length ≤ 4) && (splitC 46 s).all (tagOk pre))
def fitsB (n : Int) : Bool := decide (0 ≤ n) && decide (n ≤ 9999)
def mayV (v : Ver) : Bool := fitsB v.major && fitsB v.minor && fitsB v.patch && tagsF v.pre.data.toList true && tagsF v.build.data.toList false

def intsF (a b : Int) : Int := if a < b then -1 else if b < a then 1 else 0
theorem ints_bd (a b : Int) : -1 ≤ intsF a b ∧ intsF a b ≤ 1 := by unfold intsF; split <;> (try split) <;> omega
end Go.Proofs.YtilkhofgcgfnlaaGreat
