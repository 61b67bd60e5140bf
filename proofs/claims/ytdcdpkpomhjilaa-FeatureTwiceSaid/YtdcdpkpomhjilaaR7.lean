/- The features of a record, in plain words. No program stands here. -/
import Derived.Test.YtdcdpkpomhjilaaR6
import Derived.Test.YtdcdpkpomhjilaaSi
namespace Go.Proofs.Ytdcdpkpomhjilaa
open Go Go.RowKit

/-- The four names. -/
def nm4 : List ByteArray := [⟨#[100, 101, 102, 97, 117, 108, 116]⟩, ⟨#[120]⟩, ⟨#[121]⟩, ⟨#[122]⟩]
theorem nm4_rise : Rise nm4 := rise_iff.1 (by kernel_rfl)
theorem nm4_word : ∀ n ∈ nm4, wordB n.data.toList = true := by
  have h : nm4.all (fun n => wordB n.data.toList) = true := by kernel_rfl
  exact List.all_eq_true.1 h
theorem nm4_size : ∀ n ∈ nm4, n.size ≤ 100 := by
  intro n hn
  simp only [nm4, List.mem_cons, List.not_mem_nil, or_false] at hn
  rcases hn with rfl | rfl | rfl | rfl <;> decide
def nmAt (j : Nat) : ByteArray := nm4.getD j ⟨#[]⟩
theorem nmAt_mem {j : Nat} (h : j < 4) : nmAt j ∈ nm4 := by
  unfold nmAt
  have h : j < nm4.length := h
  rw [List.getD_eq_getElem?_getD, List.getElem?_eq_getElem h]
  exact List.getElem_mem h
/-- Is there a feature at a place? -/
def presB (l : List Int) (i : Int) (j : Nat) : Bool := !(atF l (i + j) % 3 == 0)
/-- An item of a feature. -/
def ItemOk (l : List Int) (i : Int) (k : Nat) (x : ByteArray) : Prop := x.size ≤ 100 ∧ (kOf x = 2 ∨ kOf x = 3 ∨ ∃ j, j ≤ k ∧ j < 4 ∧ presB l i j = true ∧ x = nmAt j)
theorem ItemOk.mono {l : List Int} {i : Int} {k k' : Nat} {x : ByteArray} (h : ItemOk l i k x) (hk : k ≤ k') : ItemOk l i k' x := by
  obtain ⟨h1, h2 | h2 | ⟨j, h3, h4⟩⟩ := h
  · exact ⟨h1, .inl h2⟩
  · exact ⟨h1, .inr (.inl h2)⟩
  · exact ⟨h1, .inr (.inr ⟨j, Nat.le_trans h3 hk, h4⟩)⟩
structure OfOk (l : List Int) (i : Int) (k m : Nat) (of : List ByteArray) : Prop where
  r : Rise of
  n : of.length ≤ m
  a : ∀ x ∈ of, ItemOk l i k x
theorem OfOk.nil (l : List Int) (i : Int) (k : Nat) : OfOk l i k 0 [] := ⟨List.Pairwise.nil, Nat.le_refl _, fun x h => by cases h⟩
theorem OfOk.put {l : List Int} {i : Int} {k m : Nat} {of : List ByteArray} (h : OfOk l i k m of) {x : ByteArray} (hx : ItemOk l i k x) : OfOk l i k (m + 1) (putF of x) :=
  ⟨putF_rise h.r x, Nat.le_trans (putF_length of x) (by have := h.n; omega), fun y hy => by
    rcases (putF_mem of x y).1 hy with rfl | hy
    · exact hx
    · exact h.a y hy⟩
theorem OfOk.mono {l : List Int} {i : Int} {k k' m m' : Nat} {of : List ByteArray} (h : OfOk l i k m of) (hk : k ≤ k') (hm : m ≤ m') : OfOk l i k' m' of :=
  ⟨h.r, Nat.le_trans h.n hm, fun x hx => (h.a x hx).mono hk⟩
theorem item_opt (l : List Int) (i : Int) (k : Nat) {o : ByteArray} (h : o ∈ wordL) : ItemOk l i k (⟨#[63]⟩ ++ o) := by
  simp only [wordL, List.mem_cons, List.not_mem_nil, or_false] at h
  rcases h with rfl | rfl | rfl | rfl <;> exact ⟨by decide, .inl (by decide +kernel)⟩
theorem item_pull (l : List Int) (i : Int) (k : Nat) {n : ByteArray} (h : n ∈ nameL) : ItemOk l i k (n ++ ⟨#[47]⟩ ++ ⟨#[120]⟩) := by
  simp only [nameL, List.mem_cons, List.not_mem_nil, or_false] at h
  rcases h with rfl | rfl | rfl | rfl | rfl <;> exact ⟨by decide, .inr (.inl (by decide +kernel))⟩
theorem item_next {l : List Int} {i : Int} {j : Nat} (hj : j < 4) (h : presB l i j = true) : ItemOk l i j (nmAt j) := ⟨nm4_size _ (nmAt_mem hj), .inr (.inr ⟨j, Nat.le_refl _, hj, h, rfl⟩)⟩
/-- The features of the first k names. -/
structure FsOk (l : List Int) (i : Int) (k : Nat) (fs : List Feat) : Prop where
  nm : fs.map (·.name) = ((List.range k).filter (presB l i)).map nmAt
  of : ∀ f ∈ fs, OfOk l i k 5 f.of
theorem FsOk.nil (l : List Int) (i : Int) : FsOk l i 0 [] := ⟨rfl, fun f h => by cases h⟩
theorem FsOk.skip {l : List Int} {i : Int} {k : Nat} {fs : List Feat} (h : FsOk l i k fs) (hp : presB l i k = false) : FsOk l i (k + 1) fs :=
  ⟨by rw [h.nm, List.range_succ, List.filter_append]; simp [hp], fun f hf => (h.of f hf).mono (Nat.le_succ _) (Nat.le_refl _)⟩
theorem FsOk.snoc {l : List Int} {i : Int} {k : Nat} {fs : List Feat} (h : FsOk l i k fs) (hp : presB l i k = true) {of : List ByteArray} (ho : OfOk l i (k + 1) 5 of) : FsOk l i (k + 1) (fs ++ [⟨nmAt k, of⟩]) := by
  refine ⟨by rw [List.map_append, h.nm, List.range_succ, List.filter_append]; simp [hp], fun f hf => ?_⟩
  rcases List.mem_append.1 hf with hf | hf
  · exact (h.of f hf).mono (Nat.le_succ _) (Nat.le_refl _)
  · rw [List.mem_singleton.1 hf]; exact ho
theorem range_nm : (List.range 4).map nmAt = nm4 := by decide
theorem FsOk.sub {l : List Int} {i : Int} {fs : List Feat} (h : FsOk l i 4 fs) : (fs.map (·.name)).Sublist nm4 := by
  rw [h.nm, ← range_nm]
  exact List.filter_sublist.map _
theorem find_of_name {fs : List Feat} {n : ByteArray} (h : n ∈ fs.map (·.name)) : 0 ≤ findF fs n := by
  rcases findF_spec fs n with ⟨_, h1⟩ | ⟨k, hk, h1, _⟩
  · obtain ⟨f, hf, rfl⟩ := List.mem_map.1 h
    obtain ⟨j, hj, rfl⟩ := List.getElem_of_mem hf
    exact absurd rfl (h1 j hj)
  · omega
theorem FsOk.may {l : List Int} {i : Int} {fs : List Feat} (h : FsOk l i 4 fs) : mayF fs = true ∧ fs.length ≤ 4 ∧ FSmall fs := by
  have hsub := h.sub
  have hlen : fs.length ≤ 4 := by have := hsub.length_le; rw [List.length_map] at this; exact this
  have hrise : Rise (fs.map (·.name)) := nm4_rise.sublist hsub
  refine ⟨mayF_good (by omega) fun k hk => ?_, hlen, fun f hf s hs => by have := ((h.of f hf).a s hs).1; omega⟩
  have hm : fs[k] ∈ fs := List.getElem_mem hk
  have hn : fs[k].name ∈ nm4 := hsub.subset (List.mem_map.2 ⟨_, hm, rfl⟩)
  have hof := h.of _ hm
  rw [featOk_at hk, nm4_word _ hn, Bool.true_and, Bool.and_eq_true, Bool.or_eq_true, decide_eq_true_eq]
  constructor
  · by_cases h0 : k = 0
    · exact .inl h0
    · right
      have hk1 : k - 1 < fs.length := by omega
      rw [getD_at hk1]
      have := List.pairwise_iff_getElem.1 hrise (k - 1) k (by rw [List.length_map]; omega) (by rw [List.length_map]; exact hk) (by omega)
      simpa using this
  · unfold itemsB
    rw [Bool.and_eq_true, Bool.and_eq_true, decide_eq_true_eq, List.all_eq_true]
    refine ⟨by have := hof.n; omega, rise_iff.2 hof.r, fun x hx => ?_⟩
    obtain ⟨_, h2⟩ := hof.a x hx
    unfold itemOk
    rw [Bool.and_eq_true, Bool.or_eq_true, decide_eq_true_eq, decide_eq_true_eq]
    have hk : kOf x = (itemF x.data.toList).1 := rfl
    rcases h2 with h2 | h2 | ⟨j, hj, hj4, hp, rfl⟩
    · rw [hk] at h2; exact ⟨by omega, .inl (by omega)⟩
    · rw [hk] at h2; exact ⟨by omega, .inl (by omega)⟩
    · have h1 : kOf (nmAt j) = 1 := by
        unfold kOf itemF
        rw [if_pos (nm4_word _ (nmAt_mem hj4))]
      have hno := kOf_one h1
      rw [hk] at h1
      refine ⟨by omega, .inr ?_⟩
      unfold nOf at hno
      rw [hno]
      unfold knownB
      rw [Bool.or_eq_true, decide_eq_true_eq, decide_eq_true_eq]
      right
      refine find_of_name ?_
      rw [h.nm]
      exact List.mem_map.2 ⟨j, List.mem_filter.2 ⟨List.mem_range.2 hj4, hp⟩, rfl⟩
end Go.Proofs.Ytdcdpkpomhjilaa
