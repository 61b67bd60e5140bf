/- Contracts: linchpinlaw11.some, within, named; the plain laws of asking more, twice, least. -/
import Derived.Test.YtdcdpkpomhjilaaR10
import Derived.Test.YtdcdpkpomhjilaaSb
import Derived.Laws.Bits128
namespace Go.Proofs.Ytdcdpkpomhjilaa
open Go Go.RowKit

theorem i64_and1 (n : Int) : bits .and .i64 n 1 = n % 2 := by
  have h1 : (BitVec.ofInt 64 1).toNat = 2 ^ 1 - 1 := by decide
  have key : (BitVec.ofInt 64 n &&& BitVec.ofInt 64 1).toNat = (n % ((2 ^ 64 : Nat) : Int)).toNat % 2 ^ 1 := by
    rw [BitVec.toNat_and, BitVec.toNat_ofInt, h1, Nat.and_two_pow_sub_one_eq_mod]
  show IntKind.i64.wrap ((BitVec.ofInt 64 n &&& BitVec.ofInt 64 1).toNat : Nat) = n % 2
  rw [key, IntKind.wrap_i64]
  omega
def bitB (b : Int) (i : Nat) : Bool := bits .and .i64 (b / 2 ^ i) 1 == 1
theorem bit_or (b m : Int) {i : Nat} (hi : i < 4) (h : bitB b i = true) : bitB (bits .or .i64 b m) i = true := by
  unfold bitB at *
  rw [i64_and1, beq_iff_eq] at *
  have ha : bits .or .i64 b m = IntKind.i64.wrap (((b % ((2 ^ 64 : Nat) : Int)).toNat ||| (m % ((2 ^ 64 : Nat) : Int)).toNat : Nat) : Int) := by
    show IntKind.i64.wrap ((BitVec.ofInt 64 b ||| BitVec.ofInt 64 m).toNat : Nat) = _
    rw [BitVec.toNat_or, BitVec.toNat_ofInt, BitVec.toNat_ofInt]
  rw [ha, IntKind.wrap_i64]
  have ht := Nat.testBit_or (b % ((2 ^ 64 : Nat) : Int)).toNat (m % ((2 ^ 64 : Nat) : Int)).toNat i
  have hb : Nat.testBit (b % ((2 ^ 64 : Nat) : Int)).toNat i = true := by
    rw [Nat.testBit_eq_decide_div_mod_eq, decide_eq_true_eq]
    rcases (by omega : i = 0 ∨ i = 1 ∨ i = 2 ∨ i = 3) with rfl | rfl | rfl | rfl <;> omega
  rw [hb, Bool.true_or, Nat.testBit_eq_decide_div_mod_eq, decide_eq_true_eq] at ht
  have hlt : ((b % ((2 ^ 64 : Nat) : Int)).toNat ||| (m % ((2 ^ 64 : Nat) : Int)).toNat) < 2 ^ 64 := Nat.or_lt_two_pow (by omega) (by omega)
  generalize ((b % ((2 ^ 64 : Nat) : Int)).toNat ||| (m % ((2 ^ 64 : Nat) : Int)).toNat) = N at *
  clear ha hb h
  rcases (by omega : i = 0 ∨ i = 1 ∨ i = 2 ∨ i = 3) with rfl | rfl | rfl | rfl <;> omega
/-- What some answers: default, and the names that the bits tell. -/
def SomeIs (l : List Feat) (b : Int) (k : Nat) (L : List ByteArray) : Prop := L.length ≤ k + 1 ∧ ∀ u, u ∈ L ↔ (u = dflt ∨ ∃ i, ∃ hi : i < l.length, i < k ∧ bitB b i = true ∧ l[i].name = u)
theorem SomeIs.start (l : List Feat) (b : Int) : SomeIs l b 0 [dflt] := ⟨by simp, fun u => by
  rw [List.mem_singleton]
  exact ⟨.inl, fun h => h.elim id fun ⟨i, _, h, _⟩ => absurd h (by omega)⟩⟩
theorem SomeIs.skip {l : List Feat} {b : Int} {k : Nat} {L : List ByteArray} (h : SomeIs l b k L) (hb : bitB b k = false) : SomeIs l b (k + 1) L := ⟨by have := h.1; omega, fun u => by
  rw [h.2]
  constructor
  · rintro (h | ⟨i, hi, h1, h2⟩)
    · exact .inl h
    · exact .inr ⟨i, hi, by omega, h2⟩
  · rintro (h | ⟨i, hi, h1, h2, h3⟩)
    · exact .inl h
    · by_cases e : i = k
      · subst e; rw [hb] at h2; cases h2
      · exact .inr ⟨i, hi, by omega, h2, h3⟩⟩
theorem SomeIs.snoc {l : List Feat} {b : Int} {k : Nat} {L : List ByteArray} (h : SomeIs l b k L) (hk : k < l.length) (hb : bitB b k = true) : SomeIs l b (k + 1) (L ++ [l[k].name]) := ⟨by have := h.1; simp; omega, fun u => by
  rw [List.mem_append, h.2, List.mem_singleton]
  constructor
  · rintro ((h | ⟨i, hi, h1, h2⟩) | h)
    · exact .inl h
    · exact .inr ⟨i, hi, by omega, h2⟩
    · exact .inr ⟨k, hk, by omega, hb, h.symm⟩
  · rintro (h | ⟨i, hi, h1, h2, h3⟩)
    · exact .inl (.inl h)
    · by_cases e : i = k
      · subst e; exact .inr h3.symm
      · exact .inl (.inr ⟨i, hi, by omega, h2, h3⟩)⟩
theorem SomeIs.known {l : List Feat} {b : Int} {k : Nat} {L : List ByteArray} (h : SomeIs l b k L) : L.all (knownB l) = true := by
  rw [List.all_eq_true]
  intro u hu
  unfold knownB
  rw [Bool.or_eq_true, decide_eq_true_eq, decide_eq_true_eq]
  rcases (h.2 u).1 hu with h | ⟨i, hi, _, _, rfl⟩
  · exact .inl h
  · exact .inr (find_of_name (List.mem_map.2 ⟨_, List.getElem_mem hi, rfl⟩))
theorem SomeIs.more {l : List Feat} {b m : Int} {k : Nat} {L M : List ByteArray} (h : SomeIs l b k L) (h' : SomeIs l (bits .or .i64 b m) k M) (hk : k ≤ 4) : ∀ u ∈ L, u ∈ M := fun u hu => by
  rcases (h.2 u).1 hu with h | ⟨i, hi, h1, h2, h3⟩
  · exact (h'.2 u).2 (.inl h)
  · exact (h'.2 u).2 (.inr ⟨i, hi, h1, bit_or b m (by omega) h2, h3⟩)

def SomePost (l : List Feat) (b : Int) (w : World) (e : Ending) (w' : World) : Prop := Below w.heap.size w w' ∧ ∃ v L, e = .returned v ∧ SliceRd tStr w' (Lt w'.heap.size) v L ∧ SomeIs l b l.length L
set_option maxRecDepth 100000 in
set_option maxHeartbeats 1000000 in
theorem some_any (v : Value) (l : List Feat) (b : Int) (w : World) (h : SliceRd tFeat w (Lt w.heap.size) v l) (hl : l.length ≤ 4) :
    Calls Try.prog 21 #[v, .int .i64 b] w (SomePost l b w) := by
  obtain ⟨A, cap, rfl, hcap, hmax, hc⟩ := h.feats
  unfold maxLen at hmax
  have HC := hid hc
  obtain ⟨ii, hii⟩ := info_parts str_info
  have HII := hid hii
  clear h hc hii
  go_enter Try.func21, Try.ntmps21
  go_wp2_with fail
  have HO0 : Hid (OwnF fStr 9 w.heap.size (w.alloc (.cells #[.string ⟨#[100, 101, 102, 97, 117, 108, 116]⟩] 9)) (.slice (some ⟨w.heap.size, 0, none⟩) 1 1) [dflt]) := hid (own_new (l := [dflt]) rfl (fun x hx => by rw [List.mem_singleton.1 hx]; show ByteArray.size dflt ≤ maxLen; unfold maxLen; decide) (by show 1 ≤ maxLen; unfold maxLen; decide))
  go_loopw [5, 6] (fun ov kv wr => ∃ (k : Nat) (L : List ByteArray), k ≤ l.length ∧ kv = .int .i64 k ∧ Hid (OwnF fStr 9 w.heap.size wr ov L) ∧ Hid (SomeIs l b k L) ∧ Hid (Below w.heap.size w wr)) (fun _ kv _ => l.length - (intOf kv).toNat)
  case atStart => exact ⟨0, [dflt], Nat.zero_le _, rfl, HO0, hid (SomeIs.start l b), hid (balloc (b0 w) _)⟩
  case round =>
    obtain ⟨k, L, hk, rfl, HO, HS, hb⟩ := hrel
    have i1 : (0 : Int) ≤ ↑k := by omega
    obtain ⟨OA, oc, rfl⟩ := HO.out.form
    by_cases hlt : k < l.length
    · obtain ⟨g, o, tA, tn, tc, hA, hF, g0, -, -, hns, -⟩ := HC.out k hlt
      subst hA
      have c0 := cell_below hb.out hF g0
      clear g0
      have i2 : (↑k : Int) < ↑l.length := by omega
      have hLl := HS.out.1
      rcases bc (bitB b k) with ⟨hq, HQ⟩ | ⟨hq, HQ⟩
      · have HN := hid (HS.out.snoc hlt hq)
        have hq' : (bits .and .i64 (b / 2 ^ k) 1 == 1) = true := hq
        generalize l[k].name = nm at *
        clear hq
        go_wp2_with (first
          | (at_builtin; go_must (refine wpList_append_own _ rfl _ _ 30 rfl w.heap.size 9 ii (.string ⟨#[]⟩) 1 16 Try.underlying30 HII.out.1 HII.out.2.1 HII.out.2.2.1 HII.out.2.2.2 rfl (by decide) _ _ _ rfl ((HO.out.alloc _).1) ⟨wr.heap.size, 0, none⟩ 1 1 [.string nm] rfl rfl (cell_one_new _ _ _) (by simp [Value.oneCell']) (by unfold maxLen; omega) (by omega) (by have := hb.out.size; simp; omega) ?_); intro v' w3 hown' hg3 hnil3; have HB3 := hid ((hb.out.alloc hb.out.size (.cells #[.string nm] 9)).grown (B := w.heap.size) hg3 (by have := hb.out.size; simp; omega) (fun j hj => (HO.out.lt j hj).1)); have HO3 := hid (HO.out.snoc (x := nm) hns hown'); clear hown' hg3 hnil3))
        exact ⟨⟨k + 1, _, by omega, by go_num, HO3, HN, HB3⟩, by simp [intOf]; omega⟩
      · have HN := hid (HS.out.skip hq)
        have hq' : (bits .and .i64 (b / 2 ^ k) 1 == 1) = false := hq
        clear hq
        go_wp2
        exact ⟨⟨k + 1, L, by omega, by go_num, HO, HN, hb⟩, by simp [intOf]; omega⟩
    · have i2 : ¬ (↑k : Int) < ↑l.length := by omega
      have hkl : k = l.length := by omega
      go_wp2
      go_ret
      exact ⟨hb.out, _, L, rfl, HO.out.rd, hkl ▸ HS.out⟩
end Go.Proofs.Ytdcdpkpomhjilaa
