/- What proof.Print prints; how long it is. No program stands here. -/
import Derived.Test.YtmghlakedaigpaaDoorW12
import Derived.Test.YtmghlakedaigpaaDoorWr
import Derived.Test.YtmghlakedaigpaaDoorMapw
import Derived.Lib.ItoaLen
import Derived.Lib.BufferRead
import Derived.Laws.IdiomStrings
namespace Go.Proofs.YtmghlakedaigpaaDoor
open Go Go.RowKit

def kindWord (k : Int) : List UInt8 :=
  if k = 1 then [114, 111, 111, 116] else if k = 2 then [110, 101, 101, 100] else if k = 3 then [98, 97, 114] else if k = 4 then [97, 115, 107] else [98, 111, 116, 104]
def termF (t : Term) : List UInt8 := 32 :: Lib.itoa t.unit ++ 58 :: Lib.itoa t.mask
def bothF (r : Row) : List UInt8 := if r.kind = 5 then 32 :: Lib.itoa r.a ++ 32 :: Lib.itoa r.b else []
def headF (r : Row) : List UInt8 := kindWord r.kind ++ 32 :: Lib.itoa r.unit
def lineF (r : Row) : List UInt8 := headF r ++ bothF r ++ r.terms.flatMap termF
def printF (l : List Row) : List UInt8 := l.flatMap fun r => lineF r ++ [10]

def kindEs1 : Array MapEntry := #[⟨.int .i64 1, .string ⟨#[114, 111, 111, 116]⟩, 0⟩]
def kindEs2 : Array MapEntry := #[⟨.int .i64 1, .string ⟨#[114, 111, 111, 116]⟩, 0⟩, ⟨.int .i64 2, .string ⟨#[110, 101, 101, 100]⟩, 1⟩]
def kindEs3 : Array MapEntry := #[⟨.int .i64 1, .string ⟨#[114, 111, 111, 116]⟩, 0⟩, ⟨.int .i64 2, .string ⟨#[110, 101, 101, 100]⟩, 1⟩, ⟨.int .i64 3, .string ⟨#[98, 97, 114]⟩, 2⟩]
def kindEs4 : Array MapEntry := #[⟨.int .i64 1, .string ⟨#[114, 111, 111, 116]⟩, 0⟩, ⟨.int .i64 2, .string ⟨#[110, 101, 101, 100]⟩, 1⟩, ⟨.int .i64 3, .string ⟨#[98, 97, 114]⟩, 2⟩, ⟨.int .i64 4, .string ⟨#[97, 115, 107]⟩, 3⟩]
def kindEs5 : Array MapEntry := #[⟨.int .i64 1, .string ⟨#[114, 111, 111, 116]⟩, 0⟩, ⟨.int .i64 2, .string ⟨#[110, 101, 101, 100]⟩, 1⟩, ⟨.int .i64 3, .string ⟨#[98, 97, 114]⟩, 2⟩, ⟨.int .i64 4, .string ⟨#[97, 115, 107]⟩, 3⟩, ⟨.int .i64 5, .string ⟨#[98, 111, 116, 104]⟩, 4⟩]

theorem kind_hit {k : Int} (h1 : 1 ≤ k) (h5 : k ≤ 5) : ∃ i, Instr.findNow (.int .i64) (.int .i64 k) kindEs5.toList 0 = some (some (i, .string ⟨(kindWord k).toArray⟩)) := by
  have : k = 1 ∨ k = 2 ∨ k = 3 ∨ k = 4 ∨ k = 5 := by omega
  rcases this with rfl | rfl | rfl | rfl | rfl
  · exact ⟨0, by rfl⟩
  · exact ⟨1, by rfl⟩
  · exact ⟨2, by rfl⟩
  · exact ⟨3, by rfl⟩
  · exact ⟨4, by rfl⟩

theorem strCells_of (l : List UInt8) : Lib.strCells ⟨l.toArray⟩ = Lib.byteCells l := by simp [Lib.strCells, Lib.byteCells]

theorem terms_le {l : List Term} (h : termsMayF l = true) : l.length ≤ 48 ∧ ∀ t ∈ l, 0 ≤ t.unit ∧ t.unit < 48 ∧ 1 ≤ t.mask ∧ t.mask < 131072 := by
  have hg : ∀ k, (hk : k < l.length) → ¬ (l[k].unit < 0 ∨ 48 ≤ l[k].unit ∨ l[k].mask < 1 ∨ 131072 ≤ l[k].mask ∨ (0 < k ∧ l[k].unit ≤ l[k-1].unit)) := by
    intro k hk hbad
    have := termBad_of hk hbad
    unfold termsMayF at h
    rw [List.all_eq_true] at h
    have h2 := h k (List.mem_range.2 hk)
    simp [this] at h2
  refine ⟨?_, fun t ht => ?_⟩
  · have hi : ∀ k, (hk : k < l.length) → (k : Int) ≤ l[k].unit := by
      intro k
      induction k with
      | zero => intro hk; have := hg 0 hk; omega
      | succ k ih =>
        intro hk
        have h1 := ih (by omega)
        have h2 := hg (k + 1) hk
        simp only [Nat.add_sub_cancel] at h2
        omega
    by_cases hz : l.length = 0
    · omega
    · have h1 := hi (l.length - 1) (by omega)
      have h2 := hg (l.length - 1) (by omega)
      omega
  · obtain ⟨k, hk, rfl⟩ := List.getElem_of_mem ht
    have := hg k hk
    omega

theorem kindWord_len (k : Int) : (kindWord k).length ≤ 4 := by
  unfold kindWord
  repeat' split
  all_goals decide
theorem termF_len {t : Term} (h : I64 t.unit ∧ I64 t.mask) : (termF t).length ≤ 44 := by
  have h1 := Lib.itoa_length_le t.unit h.1.1 h.1.2
  have h2 := Lib.itoa_length_le t.mask h.2.1 h.2.2
  simp [termF]
  omega
theorem flat_len {α : Type} {f : α → List UInt8} {m : Nat} {l : List α} (h : ∀ x ∈ l, (f x).length ≤ m) : (l.flatMap f).length ≤ l.length * m := by
  induction l with
  | nil => simp
  | cons x l ih =>
    have h1 := h x (by simp)
    have h2 := ih (fun y hy => h y (by simp [hy]))
    simp only [List.flatMap_cons, List.length_append, List.length_cons, Nat.add_mul]
    omega
theorem lineF_len {r : Row} (h : I64 r.unit ∧ I64 r.a ∧ I64 r.b ∧ (∀ t ∈ r.terms, I64 t.unit ∧ I64 t.mask) ∧ r.terms.length ≤ 48) : (lineF r).length ≤ 2299 := by
  obtain ⟨h1, h2, h3, h4, h5⟩ := h
  have k0 := kindWord_len r.kind
  have k1 := Lib.itoa_length_le r.unit h1.1 h1.2
  have k2 := Lib.itoa_length_le r.a h2.1 h2.2
  have k3 := Lib.itoa_length_le r.b h3.1 h3.2
  have k4 := flat_len (f := termF) (m := 44) (l := r.terms) (fun t ht => termF_len (h4 t ht))
  have k5 : (bothF r).length ≤ 44 := by
    unfold bothF
    split
    · simp; omega
    · simp
  simp only [lineF, headF, List.length_append, List.length_cons]
  omega
theorem printF_take {l : List Row} {k : Nat} (h : k < l.length) : printF (l.take (k + 1)) = printF (l.take k) ++ lineF l[k] ++ [10] := by
  unfold printF
  rw [List.take_succ_eq_append_getElem h]
  simp only [List.flatMap_append, List.flatMap_cons, List.flatMap_nil, List.append_nil, List.append_assoc]
theorem termF_take {l : List Term} {k : Nat} (h : k < l.length) : (l.take (k + 1)).flatMap termF = (l.take k).flatMap termF ++ termF l[k] := by
  rw [List.take_succ_eq_append_getElem h]
  simp only [List.flatMap_append, List.flatMap_cons, List.flatMap_nil, List.append_nil]
theorem conv_own {P : Program} {w : World} {src e dst : TypeId} {B : Nat} {v : Value} {l : List UInt8} (hs : P.underlying src = some (.slice e)) (he : P.underlying e = some (.int .u8)) (hd : P.underlying dst = some .string)
    (h : w.ownsRow B e 1 v l.length (Lib.byteCells l)) : (convert src dst v).run P w = .ok (.string ⟨l.toArray⟩) w := by
  have hc := fun g (hg : v.ownBlock = some g) => h.cells hg
  rcases h.2 with ⟨rfl, h0⟩ | ⟨g, cap, cur, rfl, _⟩
  · have : l = [] := List.eq_nil_of_length_eq_zero h0
    subst this
    exact Lib.run_convert_nil_bytes w src dst e 0 hs he hd
  · refine run_convert_bytes_back w src dst e _ cap l hs he hd fun j hj => ?_
    refine hc g rfl j _ ?_
    simp [Lib.byteCells, hj]
theorem printF_len {l : List Row} {n : Nat} (h : ∀ r ∈ l, (I64 r.unit ∧ I64 r.a ∧ I64 r.b ∧ (∀ t ∈ r.terms, I64 t.unit ∧ I64 t.mask) ∧ r.terms.length ≤ 48)) (hn : l.length ≤ n) : (printF l).length ≤ n * 2300 := by
  refine Nat.le_trans (flat_len (m := 2300) fun r hr => ?_) (Nat.mul_le_mul_right _ hn)
  have := lineF_len (h r hr)
  simp
  omega
end Go.Proofs.YtmghlakedaigpaaDoor
