/- Contracts: strings.Split and strings.Cut at one byte, in the words of ParseF. -/
import Derived.Test.YtlinabifalfddaaDoorShelf2
import Derived.Test.YtlinabifalfddaaDoorParseF
import Derived.Test.YtlinabifalfddaaDoorArr
import Derived.Test.YtlinabifalfddaaDoorSame
import Derived.Laws.IdiomStrings
namespace Go.Proofs.YtlinabifalfddaaDoor
open Go Go.RowKit

theorem count_split (c : UInt8) : ∀ (fuel : Nat) (s : List UInt8), s.length < fuel → Lib.countFrom [c] fuel s + 1 = (splitC c s).length
  | 0, s, h => absurd h (by omega)
  | fuel + 1, s, h => by
    obtain ⟨h1, h2⟩ := index_cut c s
    rw [split_cut]
    unfold Lib.countFrom
    rcases (cut_spec c s).2 with ⟨hf, e⟩ | ⟨hf, e, e2⟩
    · have hi := h1 hf
      obtain ⟨ht, hd⟩ := cut_td e
      have hb : (Lib.index s [c] == -1) = false := by rw [hi, beq_eq_false_iff_ne]; omega
      rw [hb, if_pos hf]
      simp only [Bool.false_eq_true, if_false, hi, Int.toNat_natCast, List.length_cons, List.length_nil, Nat.zero_add, hd]
      have := count_split c fuel (cutC c s).2.1 (by have := cut_len c s hf; omega)
      omega
    · have hi := h2 hf
      have hb : (Lib.index s [c] == -1) = true := by rw [hi]; rfl
      have hn : ¬ (cutC c s).2.2 = true := by rw [hf]; simp
      rw [if_pos hb, if_neg hn]
      rfl
theorem split_small (c : UInt8) : ∀ (n : Nat) (s : List UInt8), s.length < n → (splitC c s).length ≤ s.length + 1 ∧ ∀ w ∈ splitC c s, w.length ≤ s.length
  | 0, s, h => absurd h (by omega)
  | n + 1, s, h => by
    rw [split_cut]
    rcases (cut_spec c s).2 with ⟨hf, e⟩ | ⟨hf, e, e2⟩
    · have hl := cut_len c s hf
      obtain ⟨h1, h2⟩ := split_small c n (cutC c s).2.1 (by omega)
      have he := congrArg List.length e
      simp only [List.length_append, List.length_cons] at he
      rw [if_pos hf]
      refine ⟨by simp only [List.length_cons]; omega, fun w hw => ?_⟩
      rcases List.mem_cons.1 hw with rfl | hw
      · omega
      · have := h2 w hw; omega
    · rw [if_neg (by rw [hf]; simp), ← e]
      refine ⟨by simp, fun w hw => ?_⟩
      have : w = s := by simpa using hw
      rw [this]; exact Nat.le_refl _

/-- Words of a text, in a block just made. -/
def SplitPost (c : UInt8) (s : ByteArray) (w : World) (e : Ending) (w' : World) : Prop :=
  ∃ WB : List ByteArray, e = .returned (.slice (some ⟨w.heap.size, 0, none⟩) WB.length WB.length) ∧ w' = w.alloc (.cells (WB.map Value.string).toArray 9) ∧ WB.map (fun x => x.data.toList) = splitC c s.data.toList
theorem split_any (s : ByteArray) (c : UInt8) (w : World) (hs : s.size ≤ 2000000) (hm : ∃ m, w.cell? ⟨0, 0, none⟩ = some (.int .i64 m)) :
    Calls Tryd.prog 55 #[.string s, .string ⟨#[c]⟩] w (SplitPost c s w) := by
  obtain ⟨m, hm⟩ := hm
  refine (Tryd.strings_Split s ⟨#[c]⟩ m w (by omega) hm (Nat.le_refl 1)).mono ?_
  rintro e w' ⟨rfl, rfl⟩
  have hd := Lib.splitB_data ⟨#[c]⟩ 0 (Lib.countB s ⟨#[c]⟩) s
  have hk : Lib.splitK [c] 0 (Lib.countB s ⟨#[c]⟩) s.data.toList = splitC c s.data.toList := splitK_eq c (s.data.toList.length + 1) _ (by omega) _ (Nat.le_refl _)
  have hl : Lib.countB s ⟨#[c]⟩ + 1 = (splitC c s.data.toList).length := count_split c (s.data.toList.length + 1) _ (by omega)
  have hd' := hd.trans hk
  have hl2 : (Lib.splitB ⟨#[c]⟩ 0 (Lib.countB s ⟨#[c]⟩) s).length = Lib.countB s ⟨#[c]⟩ + 1 := by
    rw [hl, ← hd', List.length_map]
  exact ⟨_, by rw [hl2], rfl, hd'⟩
theorem cut_any (s : ByteArray) (c : UInt8) (w : World) (hs : s.size ≤ 2000000) (hm : ∃ m, w.cell? ⟨0, 0, none⟩ = some (.int .i64 m)) :
    Calls Tryd.prog 40 #[.string s, .string ⟨#[c]⟩] w fun e w' => e = .returned (.tuple #[.string ⟨(cutC c s.data.toList).1.toArray⟩, .string ⟨(cutC c s.data.toList).2.1.toArray⟩, .bool (cutC c s.data.toList).2.2]) ∧ ∃ n, w' = w.drewN n := by
  obtain ⟨m, hm⟩ := hm
  refine (Tryd.strings_Cut s ⟨#[c]⟩ m w (by omega) hm).mono ?_
  rintro e w' ⟨rfl, h⟩
  have e1 : Lib.cut s.data.toList (⟨#[c]⟩ : ByteArray).data.toList = cutC c s.data.toList := lib_cut c _
  rw [e1]
  exact ⟨rfl, h⟩
end Go.Proofs.YtlinabifalfddaaDoor
