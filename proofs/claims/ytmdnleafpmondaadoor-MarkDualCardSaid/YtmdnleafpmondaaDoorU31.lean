/- Contract: linchpinlaw0.Env. -/
import Derived.Test.YtmdnleafpmondaaDoorR1
import Derived.Test.YtmdnleafpmondaaDoorU9
import Derived.Test.YtmdnleafpmondaaDoorU30
namespace Go.Proofs.YtmdnleafpmondaaDoor
open Go Go.RowKit

def EnvPost (w : World) (e : Ending) (w' : World) : Prop := ∃ en : EnvT, e = .returned en.val ∧ en.ok = true ∧ Below w.heap.size w w'
theorem env_result {wx : World} {b : Nat} {x y z : Value} {tmps : Array Value} (h : Arr 38 wx b [x, y, z]) (h2 : tmps.getD 4 undef = .pointer (some ⟨b, 0, none⟩)) :
    (results Tryd.f17 tmps).run Tryd.prog wx = .ok (.agg #[x, y, z]) wx := by
  have hl := run_loadVar_row (P := Tryd.prog) wx b 38 38 _ (0, 0) _ h Tryd.underlying38 rfl (by kernel_rfl)
  exact results_cell rfl h2 hl
theorem okS_word (n : Int) : okS (wordAt n) = true := by
  have h : ∀ t ∈ wordL, okS t = true := by decide +kernel
  exact h _ (wordAt_mem n)
set_option maxRecDepth 100000 in
set_option maxHeartbeats 8000000 in
theorem env0_any (v : Value) (l : List Int) (i : Int) (w : World) (h : SliceRd tInt w (Lt w.heap.size) v l) (hi0 : 0 ≤ i) (hi1 : i ≤ 100) :
    Calls Tryd.prog 17 #[v, .int .i64 i] w (EnvPost w) := by
  have H := hid h
  obtain ⟨Av, cv, rfl, -⟩ := h.shape
  clear h
  obtain ⟨lv, hlv⟩ : ∃ lv, lv = l.length := ⟨_, rfl⟩
  rw [← hlv] at H
  rw [← hlv]
  replace hlv := hid hlv
  go_enter Tryd.func17, Tryd.ntmps17
  go_wp2
  go_loopw [6] (fun kv wr => ∃ (k : Nat) (en : EnvT), k ≤ 3 ∧ kv = .int .i64 k ∧ Hid (Arr 38 wr (w.heap.size + 1) [.string en.a, .string en.b, .string en.c]) ∧ Hid (en.ok = true) ∧ Hid (Arr 38 wr w.heap.size [.string ⟨#[]⟩, .string ⟨#[]⟩, .string ⟨#[]⟩]) ∧ Hid (Below w.heap.size w wr)) (fun kv _ => 3 - (intOf kv).toNat)
  case atStart =>
    refine ⟨0, ⟨⟨#[]⟩, ⟨#[]⟩, ⟨#[]⟩⟩, by omega, rfl, hid ?_, hid (by decide +kernel), hid ?_, hid (balloc (balloc (b0 w) _) _)⟩
    · have := Arr.new 38 (w.alloc (.cells #[.string ⟨#[]⟩, .string ⟨#[]⟩, .string ⟨#[]⟩] 38)) [.string ⟨#[]⟩, .string ⟨#[]⟩, .string ⟨#[]⟩]
      rw [World.size_alloc] at this
      exact this
    · exact (Arr.new 38 w [.string ⟨#[]⟩, .string ⟨#[]⟩, .string ⟨#[]⟩]).alloc _
  case round =>
    obtain ⟨k, en, hk, rfl, HA, HK, HC, HB⟩ := hrel
    by_cases hlt : k < 3
    · have HR := hid ((H.out.below HB.out).more fun x hx => show x < wr.heap.size by have := HB.out.size; have : x < w.heap.size := hx; omega)
      have s1 : IntKind.i64.wrap (i + k) = i + k := IntWalk.i64_in _ (by omega)
      have q0 := fromF_lo l (i + k) (n := 4) (by decide)
      have q6 := fromF_hi l (i + k) (n := 4) (by decide)
      have HQ := hid (from_any _ l (i + k) 4 wr HR.out ⟨by omega, by omega⟩ (by decide) (by decide))
      obtain ⟨q, hq⟩ : ∃ q, q = fromF l (i + k) 4 := ⟨_, rfl⟩
      rw [← hq] at HQ q0 q6
      clear hq
      have HW := hid (word_any q wr ⟨by omega, by omega⟩)
      have HWO := hid (okS_word q)
      obtain ⟨wd, hwd⟩ : ∃ wd, wd = wordAt q := ⟨_, rfl⟩
      rw [← hwd] at HW HWO
      clear hwd
      have i1 : (0 : Int) ≤ ↑k := by omega
      have i2 : (↑k : Int) < 3 := by omega
      obtain ⟨old, pc⟩ : ∃ old : ByteArray, wr.cell? ⟨w.heap.size + 1, k, none⟩ = some (.string old) := by
        rcases (by omega : k = 0 ∨ k = 1 ∨ k = 2) with rfl | rfl | rfl
        · exact ⟨_, HA.out.cell (i := 0) (by simp)⟩
        · exact ⟨_, HA.out.cell (i := 1) (by simp)⟩
        · exact ⟨_, HA.out.cell (i := 2) (by simp)⟩
      have pf := HA.out.free k
      obtain ⟨en', HK2, HE2⟩ : ∃ en' : EnvT, Hid (en'.ok = true) ∧ Hid ([Value.string en.a, .string en.b, .string en.c].set k (.string wd) = [.string en'.a, .string en'.b, .string en'.c]) := by
        have h1 := HK.out
        have h2 := HWO.out
        unfold EnvT.ok at h1
        simp only [Bool.and_eq_true] at h1
        rcases (by omega : k = 0 ∨ k = 1 ∨ k = 2) with rfl | rfl | rfl
        · exact ⟨⟨wd, en.b, en.c⟩, hid (by unfold EnvT.ok; simp [h1, h2]), hid rfl⟩
        · exact ⟨⟨en.a, wd, en.c⟩, hid (by unfold EnvT.ok; simp [h1, h2]), hid rfl⟩
        · exact ⟨⟨en.a, en.b, wd⟩, hid (by unfold EnvT.ok; simp [h1, h2]), hid rfl⟩
      by_cases hq : 0 < q
      · go_wp2_with (first
          | (go_at_call 31; refine HQ.out.mono ?_; rintro e wa ⟨rfl, rfl⟩)
          | (go_at_call 34; refine HW.out.mono ?_; rintro e wa ⟨rfl, hwa⟩; obtain rfl := hwa.symm))
        exact ⟨⟨k + 1, en', by omega, by go_num, hid ((HA.out.set k (.string wd)).congr HE2.out), HK2, hid (HC.out.other (by show w.heap.size ≠ w.heap.size + 1; omega) _), hid (HB.out.setCell (by show w.heap.size ≤ w.heap.size + 1; omega) _)⟩, by simp [intOf]; omega⟩
      · go_wp2_with (first
          | (go_at_call 31; refine HQ.out.mono ?_; rintro e wa ⟨rfl, rfl⟩))
        exact ⟨⟨k + 1, en, by omega, by go_num, HA, HK, HC, HB⟩, by simp [intOf]; omega⟩
    · obtain rfl : k = 3 := by omega
      have HAL := hid HA.out.lt
      have a0 : wr.cell? ⟨w.heap.size + 1, 0, none⟩ = some (.string en.a) := HA.out.cell (i := 0) (by simp)
      have a1 : wr.cell? ⟨w.heap.size + 1, 1, none⟩ = some (.string en.b) := HA.out.cell (i := 1) (by simp)
      have a2 : wr.cell? ⟨w.heap.size + 1, 2, none⟩ = some (.string en.c) := HA.out.cell (i := 2) (by simp)
      have c0 : wr.cell? ⟨w.heap.size, 0, none⟩ = some (.string ⟨#[]⟩) := HC.out.cell (i := 0) (by simp)
      have c1 : wr.cell? ⟨w.heap.size, 1, none⟩ = some (.string ⟨#[]⟩) := HC.out.cell (i := 1) (by simp)
      have c2 : wr.cell? ⟨w.heap.size, 2, none⟩ = some (.string ⟨#[]⟩) := HC.out.cell (i := 2) (by simp)
      have f0 := HC.out.free 0
      have f1 := HC.out.free 1
      have f2 := HC.out.free 2
      go_wp2
      exact bodyPost_ret (v := en.val) (env_result (((HC.out.set 0 _).set 1 _).set 2 _) rfl) rfl ⟨en, rfl, HK.out, ((HB.out.setCell (Nat.le_refl _) _).setCell (Nat.le_refl _) _).setCell (Nat.le_refl _) _⟩
end Go.Proofs.YtmdnleafpmondaaDoor
