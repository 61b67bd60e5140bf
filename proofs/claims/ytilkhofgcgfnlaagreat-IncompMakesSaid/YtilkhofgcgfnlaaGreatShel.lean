/- Contracts: maps.Keys, slices.Sorted of it. -/
import Derived.Test.YtilkhofgcgfnlaaGreatShelf
import Derived.Test.YtilkhofgcgfnlaaGreatMapi
import Derived.Test.YtilkhofgcgfnlaaGreatOwnF
import Derived.Test.YtilkhofgcgfnlaaGreatW1
namespace Go.Proofs.YtilkhofgcgfnlaaGreat
open Go Go.RowKit Go.Maps Go.Sort Go.Shelf

theorem keys_any (mb : Option Nat) (W : World) : Calls Tryz.prog 36 #[.map mb] W fun e w' => e = .returned (.func (.func 64) #[] #[.pointer (some ⟨W.heap.size, 0, none⟩)]) ∧ w' = W.alloc (.cells #[.map mb] 72) :=
  callsIn_wide.1 (AnyZI.keys_in Tryz.keysA Fence.wide 5 trivial rfl mb W)
theorem sorts_wide (m : Nat) : AnyZI.SortsIn Tryz.prog Tryz.sortedA_ren Fence.wide m :=
  ⟨fun blk off cap ss W hH hblk hsz => callsIn_wide.2 (AnyM.slices_Sort_int Tryz.sortA blk off cap ss W hH hblk hsz),
   fun p cap W => callsIn_wide.2 (AnyM.slices_Sort_int_none Tryz.sortA p cap W)⟩
def SortedPost (f : Int → Option Int) (nn : Nat) (w : World) (e : Ending) (w' : World) : Prop := ∃ v ks, e = .returned v ∧ OwnF fInt 3 w.heap.size w' v ks ∧ ks.Pairwise (· < ·) ∧ (∀ u, u ∈ ks ↔ I64 u ∧ (f u).isSome = true) ∧ ks.length ≤ nn ∧ Below w.heap.size w w'
set_option maxHeartbeats 1000000 in
theorem sorted_any (kb mb nn : Nat) (f : Int → Option Int) (w : World) (hcell : w.cell? ⟨kb, 0, none⟩ = some (.map (some mb))) (hkb : kb < w.heap.size) (hM : MapI Tryz.prog 3 w mb nn f) (hn : nn ≤ 10000) :
    Calls Tryz.prog 35 #[.func (.func 64) #[] #[.pointer (some ⟨kb, 0, none⟩)]] w (SortedPost f nn w) := by
  obtain ⟨D, hown, hsz, hkeys⟩ := hM.keys Tryz.underlying3
  have hseq : SeqGives Fence.wide 2 Tryz.prog 64 #[.pointer (some ⟨kb, 0, none⟩)] encZ (fun ss => ss.Perm (intKeys D)) (Maps.size D) w :=
    AnyZI.keys_gives (ρ := Tryz.keysA_ren) { Tryz.keysA with } Fence.wide _ trivial rfl (by omega) kb mb nn D _ hkb hcell hown
  have cS := AnyZI.sorted_in Tryz.sortedA Fence.wide 5 trivial trivial trivial trivial rfl (by omega) (sorts_wide _) (enters_of Tryz.func63 (by kernel_rfl) rfl) 64 #[.pointer (some ⟨kb, 0, none⟩)] trivial (enters_of Tryz.func64 (by kernel_rfl) rfl) _ _ (by unfold maxLen; omega) (by omega) _ hseq
  change CallsIn _ _ Tryz.prog 35 _ _ _ at cS
  refine (callsIn_wide.1 cS).mono ?_
  rintro e w' ⟨v, ss, rfl, hS, hrow, -, hb⟩
  obtain ⟨hnd, hmem⟩ := hkeys ss hS
  have hlen : (ss.mergeSort fun x y => decide (x ≤ y)).length = ss.length := (List.mergeSort_perm ss _).length_eq
  refine ⟨v, ss.mergeSort fun x y => decide (x ≤ y), rfl, ⟨?_, fun x hx => ?_⟩, sorted_rising hnd, fun u => ?_, ?_, hb⟩
  · rw [ints_all, hlen]
    exact hrow
  · exact ((hmem x).1 ((List.mergeSort_perm ss _).mem_iff.1 hx)).1
  · rw [(List.mergeSort_perm ss _).mem_iff]
    exact hmem u
  · rw [hlen, hS.length_eq]
    refine Nat.le_trans ?_ hsz
    cases D <;> simp [intKeys, Maps.size]
end Go.Proofs.YtilkhofgcgfnlaaGreat
