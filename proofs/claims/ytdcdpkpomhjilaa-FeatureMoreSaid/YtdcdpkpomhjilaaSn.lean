/- The plain law of the reference's Close. No program stands here. -/
import Derived.Test.YtdcdpkpomhjilaaSi
namespace Go.Proofs.Ytdcdpkpomhjilaa
open Go Go.RowKit

def putAll (S L : List ByteArray) : List ByteArray := L.foldl putF S
theorem putAll_nil (S : List ByteArray) : putAll S [] = S := rfl
theorem putAll_snoc (S L : List ByteArray) (x : ByteArray) : putAll S (L ++ [x]) = putF (putAll S L) x := by simp [putAll]
theorem putAll_append (S L M : List ByteArray) : putAll S (L ++ M) = putAll (putAll S L) M := by simp [putAll]
theorem putAll_mem {u : ByteArray} : ∀ {L S : List ByteArray}, u ∈ putAll S L ↔ u ∈ S ∨ u ∈ L
  | [], S => by simp [putAll]
  | x :: L, S => by
    show u ∈ putAll (putF S x) L ↔ _
    rw [putAll_mem, putF_mem, List.mem_cons]
    constructor
    · rintro ((h | h) | h)
      · exact .inr (.inl h)
      · exact .inl h
      · exact .inr (.inr h)
    · rintro (h | h | h)
      · exact .inl (.inr h)
      · exact .inl (.inl h)
      · exact .inr h
theorem putAll_rise : ∀ {L S : List ByteArray}, Rise S → Rise (putAll S L)
  | [], _, h => h
  | x :: L, S, h => putAll_rise (L := L) (S := putF S x) (putF_rise h x)
theorem putAll_length : ∀ {L S : List ByteArray}, (putAll S L).length ≤ S.length + L.length
  | [], S => Nat.le_refl _
  | x :: L, S => by
    have h1 := putAll_length (L := L) (S := putF S x)
    have h2 := putF_length S x
    show (putAll (putF S x) L).length ≤ _
    rw [List.length_cons]
    omega
theorem nodup_le : ∀ {L M : List ByteArray}, L.Nodup → (∀ u ∈ L, u ∈ M) → L.length ≤ M.length
  | [], _, _, _ => Nat.zero_le _
  | x :: L, M, h, hs => by
    obtain ⟨A, B, rfl⟩ := List.append_of_mem (hs x (by simp))
    obtain ⟨hx, hL⟩ := List.nodup_cons.1 h
    have := nodup_le (L := L) (M := A ++ B) hL fun u hu => by
      have := hs u (by simp [hu])
      rcases List.mem_append.1 this with h | h
      · exact List.mem_append_left _ h
      · rcases List.mem_cons.1 h with h | h
        · subst h; exact absurd hu hx
        · exact List.mem_append_right _ h
    simp only [List.length_append, List.length_cons] at *
    omega
theorem known_mem {l : List Feat} {u : ByteArray} (h : knownB l u = true) : u ∈ dflt :: l.map (·.name) := by
  unfold knownB at h
  rw [Bool.or_eq_true, decide_eq_true_eq, decide_eq_true_eq] at h
  rcases h with h | h
  · rw [h]; simp
  · rcases findF_spec l u with ⟨h1, _⟩ | ⟨k, hk, _, h1⟩
    · omega
    · rw [← h1]
      exact List.mem_cons_of_mem _ (List.mem_map.2 ⟨_, List.getElem_mem hk, rfl⟩)
theorem known_few {l : List Feat} {L : List ByteArray} (h : Rise L) (hk : ∀ u ∈ L, knownB l u = true) : L.length ≤ l.length + 1 := by
  have := nodup_le h.nodup fun u hu => known_mem (hk u hu)
  simpa using this
theorem ofF_mem {l : List Feat} {f x : ByteArray} (h : x ∈ ofF l f) : ∃ g ∈ l, x ∈ g.of := by
  induction l with
  | nil => rw [ofF_nil] at h; cases h
  | cons g l ih =>
    rw [ofF_cons] at h
    split at h
    · exact ⟨g, by simp, h⟩
    · obtain ⟨g', hg, hx⟩ := ih h
      exact ⟨g', by simp [hg], hx⟩
theorem ofF_length {l : List Feat} {n : Nat} (h : ∀ g ∈ l, g.of.length ≤ n) (f : ByteArray) : (ofF l f).length ≤ n := by
  induction l with
  | nil => rw [ofF_nil]; exact Nat.zero_le _
  | cons g l ih =>
    rw [ofF_cons]
    split
    · exact h g (by simp)
    · exact ih fun g hg => h g (by simp [hg])
/-- What texts' features name, of a kind. -/
def adds (k : ByteArray → Option ByteArray) (l : List Feat) (L : List ByteArray) : List ByteArray := L.flatMap fun f => (ofF l f).filterMap k
theorem adds_take (k : ByteArray → Option ByteArray) (l : List Feat) {L : List ByteArray} {i : Nat} (h : i < L.length) : adds k l (L.take (i + 1)) = adds k l (L.take i) ++ (ofF l L[i]).filterMap k := by
  unfold adds
  rw [List.take_succ_eq_append_getElem h]
  simp only [List.flatMap_append, List.flatMap_cons, List.flatMap_nil, List.append_nil]
theorem adds_mem {k : ByteArray → Option ByteArray} {l : List Feat} {L : List ByteArray} {s : ByteArray} : s ∈ adds k l L ↔ Named k l (· ∈ L) s := by
  unfold adds Named
  rw [List.mem_flatMap]
  constructor
  · rintro ⟨f, hf, hs⟩; exact ⟨f, hf, mem_fm.1 hs⟩
  · rintro ⟨f, hf, hs⟩; exact ⟨f, hf, mem_fm.2 hs⟩
theorem adds_length {k : ByteArray → Option ByteArray} {l : List Feat} {n : Nat} (h : ∀ g ∈ l, g.of.length ≤ n) : ∀ L : List ByteArray, (adds k l L).length ≤ n * L.length
  | [] => Nat.zero_le _
  | f :: L => by
    have h1 := adds_length (k := k) h L
    have h2 := ofF_length h f
    have h3 := List.length_filterMap_le k (ofF l f)
    unfold adds at *
    rw [List.flatMap_cons, List.length_append, List.length_cons, Nat.mul_add]
    omega
/-- How the rounds of the reference stand. -/
structure RInv (l : List Feat) (asked on : List ByteArray) (n : Nat) : Prop where
  rise : Rise on
  r : ∀ u ∈ on, Reach l asked u
  k : ∀ u ∈ on, knownB l u = true
  a : ∀ u ∈ asked, u ∈ on
  p : (∀ u ∈ adds k1 l on, u ∈ on) ∨ n + 1 ≤ on.length
theorem k1_known {l : List Feat} (hm : mayF l = true) {f x a : ByteArray} (hx : x ∈ ofF l f) (ha : k1 x = some a) : knownB l a = true := by
  obtain ⟨g, hg, hx⟩ := ofF_mem hx
  unfold k1 at ha
  split at ha
  · rename_i h1
    injection ha with ha
    rw [kOf_one h1] at ha
    subst ha
    exact (((may_of hm).2 g hg).2 x hx).2 h1
  · cases ha
theorem adds_known {l : List Feat} (hm : mayF l = true) {L : List ByteArray} {u : ByteArray} (h : u ∈ adds k1 l L) : knownB l u = true := by
  obtain ⟨f, _, x, hx, ha⟩ := adds_mem.1 h
  exact k1_known hm hx ha
theorem RInv.start {l : List Feat} {asked : List ByteArray} (hk : ∀ u ∈ asked, knownB l u = true) : RInv l asked (putAll [] asked) 0 := by
  have hm : ∀ u, u ∈ putAll [] asked ↔ u ∈ asked := fun u => by rw [putAll_mem]; simp
  refine ⟨putAll_rise List.Pairwise.nil, fun u hu => .ask ((hm u).1 hu), fun u hu => hk u ((hm u).1 hu), fun u hu => (hm u).2 hu, ?_⟩
  cases h : putAll [] asked with
  | nil => exact .inl fun u hu => hu
  | cons x L => exact .inr (by simp)
theorem RInv.round {l : List Feat} {asked on : List ByteArray} {n : Nat} (hm : mayF l = true) (h : RInv l asked on n) : RInv l asked (putAll on (adds k1 l on)) (n + 1) := by
  have hmem : ∀ u, u ∈ putAll on (adds k1 l on) ↔ u ∈ on ∨ u ∈ adds k1 l on := fun u => putAll_mem
  have hrise : Rise (putAll on (adds k1 l on)) := putAll_rise h.rise
  refine ⟨hrise, fun u hu => ?_, fun u hu => ?_, fun u hu => (hmem u).2 (.inl (h.a u hu)), ?_⟩
  · rcases (hmem u).1 hu with hu | hu
    · exact h.r u hu
    · obtain ⟨f, hf, x, hx, ha⟩ := adds_mem.1 hu
      exact .item (h.r f hf) hx ha
  · rcases (hmem u).1 hu with hu | hu
    · exact h.k u hu
    · exact adds_known hm hu
  · by_cases hc : ∀ u ∈ adds k1 l on, u ∈ on
    · left
      intro u hu
      obtain ⟨f, hf, hx⟩ := adds_mem.1 hu
      have hf' : f ∈ on := ((hmem f).1 hf).elim id (hc f)
      exact (hmem u).2 (.inr (adds_mem.2 ⟨f, hf', hx⟩))
    · right
      have hn := h.p.resolve_left hc
      obtain ⟨u, hu⟩ := Classical.not_forall.1 hc
      obtain ⟨hu1, hu2⟩ := Classical.not_imp.1 hu
      have := nodup_le (L := u :: on) (M := putAll on (adds k1 l on)) (List.nodup_cons.2 ⟨hu2, h.rise.nodup⟩) fun v hv => by
        rcases List.mem_cons.1 hv with hv | hv
        · rw [hv]; exact (hmem u).2 (.inr hu1)
        · exact (hmem v).2 (.inl hv)
      rw [List.length_cons] at this
      omega
theorem RInv.done {l : List Feat} {asked on : List ByteArray} {n : Nat} (h : RInv l asked on n) (hn : l.length < n) (u : ByteArray) : u ∈ on ↔ Reach l asked u := by
  have hc : ∀ u ∈ adds k1 l on, u ∈ on := by
    rcases h.p with h1 | h1
    · exact h1
    · have := known_few h.rise h.k
      omega
  constructor
  · exact h.r u
  · intro hu
    induction hu with
    | ask hs => exact h.a _ hs
    | item _ hx ha ih => exact hc _ (adds_mem.2 ⟨_, ih, _, hx, ha⟩)
theorem RInv.closed {l : List Feat} {asked on : List ByteArray} {n : Nat} (h : RInv l asked on n) (hn : l.length < n) : Closed l asked on (putAll [] (adds k2 l on)) (putAll [] (adds k3 l on)) := by
  have hd := h.done hn
  have hk : ∀ (k : ByteArray → Option ByteArray) (s : ByteArray), s ∈ putAll [] (adds k l on) ↔ Named k l (Reach l asked) s := fun k s => by
    rw [putAll_mem, adds_mem]
    exact ⟨fun h => h.elim (fun h => (by cases h)) (Named.congr hd s).1, fun h => .inr ((Named.congr hd s).2 h)⟩
  exact ⟨h.rise, putAll_rise List.Pairwise.nil, putAll_rise List.Pairwise.nil, hd, hk k2, hk k3⟩
end Go.Proofs.Ytdcdpkpomhjilaa
