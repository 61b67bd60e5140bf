/- Contract: linchpinlaw10.full. -/
import Derived.Test.YtmdnleafpmondaaDoorU31
import Derived.Test.YtmdnleafpmondaaDoorU23
namespace Go.Proofs.YtmdnleafpmondaaDoor
open Go Go.RowKit

def EnvT.put (e : EnvT) (k : Nat) (s : ByteArray) : EnvT := match k with
  | 0 => ⟨s, e.b, e.c⟩
  | 1 => ⟨e.a, s, e.c⟩
  | _ => ⟨e.a, e.b, s⟩
theorem EnvT.put_at (e : EnvT) {k j : Nat} (s : ByteArray) (hk : k < 3) (hj : j < 3) : (e.put k s).at j = if j = k then s else e.at j := by
  rcases (by omega : k = 0 ∨ k = 1 ∨ k = 2) with rfl | rfl | rfl <;> rcases (by omega : j = 0 ∨ j = 1 ∨ j = 2) with rfl | rfl | rfl <;> rfl
def EnvT.cells (e : EnvT) : List Value := [.string e.a, .string e.b, .string e.c]
theorem EnvT.put_cells (e : EnvT) {k : Nat} (s : ByteArray) (hk : k < 3) : e.cells.set k (.string s) = (e.put k s).cells := by
  rcases (by omega : k = 0 ∨ k = 1 ∨ k = 2) with rfl | rfl | rfl <;> rfl
theorem EnvT.ext3 {e f : EnvT} (h : ∀ j, j < 3 → e.at j = f.at j) : e = f := by
  have h0 := h 0 (by decide)
  have h1 := h 1 (by decide)
  have h2 := h 2 (by decide)
  cases e; cases f
  simp only [EnvT.at] at h0 h1 h2
  subst h0; subst h1; subst h2
  rfl
theorem EnvT.cell {e : EnvT} {w : World} {b k : Nat} (h : Arr 38 w b e.cells) (hk : k < 3) : w.cell? ⟨b, k, none⟩ = some (.string (e.at k)) := by
  rcases (by omega : k = 0 ∨ k = 1 ∨ k = 2) with rfl | rfl | rfl
  · exact h.cell (i := 0) (by simp [EnvT.cells])
  · exact h.cell (i := 1) (by simp [EnvT.cells])
  · exact h.cell (i := 2) (by simp [EnvT.cells])
/-- 'full'. -/
def fullS (s : ByteArray) : ByteArray := if s.toList.isEmpty = true then ⟨#[118]⟩ else s
def fullE (e : EnvT) : EnvT := ⟨fullS e.a, fullS e.b, fullS e.c⟩
theorem fullE_at (e : EnvT) (k : Nat) : (fullE e).at k = fullS (e.at k) := by
  unfold fullE EnvT.at
  split <;> rfl
theorem full_result {wx : World} {b : Nat} {e : EnvT} {tmps : Array Value} (h : Arr 38 wx b e.cells) (h2 : tmps.getD 2 undef = .pointer (some ⟨b, 0, none⟩)) :
    (results Tryd.f18 tmps).run Tryd.prog wx = .ok e.val wx := by
  have hl := run_loadVar_row (P := Tryd.prog) wx b 38 38 _ (0, 0) _ h Tryd.underlying38 rfl (by kernel_rfl)
  exact results_cell rfl h2 hl
set_option maxRecDepth 100000 in
set_option maxHeartbeats 8000000 in
theorem full10_any (en : EnvT) (w : World) :
    Calls Tryd.prog 18 #[en.val] w (fun e w' => e = .returned (fullE en).val ∧ Below w.heap.size w w') := by
  unfold EnvT.val
  go_enter Tryd.func18, Tryd.ntmps18
  go_wp2
  go_loopw [3] (fun kv wr => ∃ (k : Nat) (e1 : EnvT), k ≤ 3 ∧ kv = .int .i64 k ∧ Hid (Arr 38 wr w.heap.size e1.cells) ∧ Hid (∀ j, j < 3 → e1.at j = if j < k then fullS (en.at j) else en.at j) ∧ Hid (Arr 38 wr (w.heap.size + 1) [.string ⟨#[]⟩, .string ⟨#[]⟩, .string ⟨#[]⟩]) ∧ Hid (Below w.heap.size w wr)) (fun kv _ => 3 - (intOf kv).toNat)
  case atStart =>
    refine ⟨0, en, by omega, rfl, hid ?_, hid (fun j hj => by rw [if_neg (by omega)]), hid ?_, hid (balloc (balloc (b0 w) _) _)⟩
    · exact (Arr.new 38 w en.cells).alloc _
    · have := Arr.new 38 (w.alloc (.cells #[.string en.a, .string en.b, .string en.c] 38)) [.string ⟨#[]⟩, .string ⟨#[]⟩, .string ⟨#[]⟩]
      rw [World.size_alloc] at this
      exact this
  case round =>
    obtain ⟨k, e1, hk, rfl, HA, HK, HC, HB⟩ := hrel
    have i1 : (0 : Int) ≤ ↑k := by omega
    by_cases hlt : k < 3
    · have i2 : (↑k : Int) < 3 := by omega
      have pc : wr.cell? ⟨w.heap.size, k, none⟩ = some (.string (e1.at k)) := EnvT.cell HA.out hlt
      have pf := HA.out.free k
      have HS := hid (show e1.at k = en.at k by rw [HK.out k hlt, if_neg (by omega)])
      have HP := hid (fun s => e1.put_cells (k := k) s hlt)
      have HPA := hid (fun s j hj => e1.put_at (k := k) (j := j) s hlt hj)
      obtain ⟨s, hs⟩ : ∃ s, s = e1.at k := ⟨_, rfl⟩
      rw [← hs] at pc HS
      clear hs
      rcases Bool.eq_false_or_eq_true s.toList.isEmpty with h0 | h0
      · go_wp2
        refine ⟨⟨k + 1, e1.put k ⟨#[118]⟩, by omega, by go_num, hid ((HA.out.set k _).congr (HP.out _)), hid (fun j hj => ?_), hid (HC.out.other (by show w.heap.size + 1 ≠ w.heap.size; omega) _), hid (HB.out.setCell (Nat.le_refl _) _)⟩, by simp [intOf]; omega⟩
        rw [HPA.out _ _ hj]
        by_cases hjk : j = k
        · subst hjk
          rw [if_pos rfl, if_pos (by omega), ← HS.out]
          unfold fullS
          rw [if_pos h0]
        · rw [if_neg hjk, HK.out j hj]
          by_cases h1 : j < k
          · rw [if_pos h1, if_pos (by omega)]
          · rw [if_neg h1, if_neg (by omega)]
      · go_wp2
        refine ⟨⟨k + 1, e1, by omega, by go_num, HA, hid (fun j hj => ?_), HC, HB⟩, by simp [intOf]; omega⟩
        rw [HK.out j hj]
        by_cases hjk : j = k
        · subst hjk
          rw [if_neg (by omega), if_pos (by omega), ← HS.out]
          unfold fullS
          rw [if_neg (by rw [h0]; decide)]
        · by_cases h1 : j < k
          · rw [if_pos h1, if_pos (by omega)]
          · rw [if_neg h1, if_neg (by omega)]
    · obtain rfl : k = 3 := by omega
      have HE := hid (show e1 = fullE en from EnvT.ext3 fun j hj => by rw [HK.out j hj, if_pos hj, fullE_at])
      have a0 : wr.cell? ⟨w.heap.size, 0, none⟩ = some (.string e1.a) := EnvT.cell HA.out (by decide)
      have a1 : wr.cell? ⟨w.heap.size, 1, none⟩ = some (.string e1.b) := EnvT.cell HA.out (by decide)
      have a2 : wr.cell? ⟨w.heap.size, 2, none⟩ = some (.string e1.c) := EnvT.cell HA.out (by decide)
      have c0 : wr.cell? ⟨w.heap.size + 1, 0, none⟩ = some (.string ⟨#[]⟩) := HC.out.cell (i := 0) (by simp)
      have c1 : wr.cell? ⟨w.heap.size + 1, 1, none⟩ = some (.string ⟨#[]⟩) := HC.out.cell (i := 1) (by simp)
      have c2 : wr.cell? ⟨w.heap.size + 1, 2, none⟩ = some (.string ⟨#[]⟩) := HC.out.cell (i := 2) (by simp)
      have f0 := HC.out.free 0
      have f1 := HC.out.free 1
      have f2 := HC.out.free 2
      go_wp2
      exact bodyPost_ret (v := e1.val) (full_result (((HC.out.set 0 _).set 1 _).set 2 _) rfl) rfl ⟨by rw [HE.out]; rfl, ((HB.out.setCell (Nat.le_succ _) _).setCell (Nat.le_succ _) _).setCell (Nat.le_succ _) _⟩
end Go.Proofs.YtmdnleafpmondaaDoor
