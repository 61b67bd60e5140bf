/- Units that the call makes: words for memory. -/
import Derived.Test.YtfdjoknklpiooaaGreatDoorzG2
namespace Go.Proofs.YtfdjoknklpiooaaGreatDoor
open Go Go.RowKit

structure UnitD where
  nm : ByteArray
  ft : ByteArray
  A : Option Addr
  n : Nat
  c : Nat
def fUnit : Flat UnitD := ⟨3, fun d => [.string d.nm, .string d.ft, .slice d.A d.n d.c], fun _ => True, fun _ => rfl, fun _ u h => by simp at h; rcases h with rfl | rfl | rfl <;> rfl, by decide⟩
structure CandD where
  v : Ver
  sh : Int
def candCells (d : CandD) : List Value := [.int .i64 d.v.major, .int .i64 d.v.minor, .int .i64 d.v.patch, .string d.v.pre, .string d.v.build, .int .i64 d.sh, .slice none 0 0, .slice none 0 0]
def fCand : Flat CandD := ⟨8, candCells, fun d => d.v.B, fun _ => rfl, fun _ u h => by simp [candCells] at h; rcases h with rfl | rfl | rfl | rfl | rfl | rfl | rfl | rfl <;> rfl, by decide⟩
theorem unit_info : (Tryz.prog.info? 60).map (fun i => (i.zero, i.size, i.bytes)) = some (some (.agg #[.string ⟨#[]⟩, .string ⟨#[]⟩, .slice none 0 0]), 3, 56) := by kernel_rfl
theorem cand_info : (Tryz.prog.info? 57).map (fun i => (i.zero, i.size, i.bytes)) = some (some (.agg #[.int .i64 0, .int .i64 0, .int .i64 0, .string ⟨#[]⟩, .string ⟨#[]⟩, .int .i64 0, .slice none 0 0, .slice none 0 0]), 8, 112) := by kernel_rfl

/-- A block of candidates; from number nf on none has needs yet. -/
def CandBlk (w : World) (b n nf : Nat) : Prop := ∃ cur : Array Value, w.heap[b]? = some (.cells cur 57 (0, 0)) ∧ n * 8 ≤ cur.size ∧
  ∀ j, j < n → ∃ (u : Ver) (sh : Int) (nv bv : Value), u.B ∧ cur[j * 8]? = some (.int .i64 u.major) ∧ cur[j * 8 + 1]? = some (.int .i64 u.minor) ∧ cur[j * 8 + 2]? = some (.int .i64 u.patch) ∧ cur[j * 8 + 3]? = some (.string u.pre) ∧ cur[j * 8 + 4]? = some (.string u.build) ∧
    cur[j * 8 + 5]? = some (.int .i64 sh) ∧ cur[j * 8 + 6]? = some nv ∧ cur[j * 8 + 7]? = some bv ∧ (nf ≤ j → nv = .slice none 0 0 ∧ bv = .slice none 0 0)
theorem CandBlk.keep {w w' : World} {b n nf : Nat} (h : CandBlk w b n nf) (hk : w'.heap[b]? = w.heap[b]?) : CandBlk w' b n nf := by
  obtain ⟨cur, h1, h2⟩ := h
  exact ⟨cur, hk.trans h1, h2⟩
theorem CandBlk.lt {w : World} {b n nf : Nat} (h : CandBlk w b n nf) : b < w.heap.size := by
  obtain ⟨cur, h1, _⟩ := h
  exact (Array.getElem?_eq_some_iff.1 h1).1
theorem CandBlk.mono {w : World} {b n nf nf' : Nat} (h : CandBlk w b n nf) (hn : nf ≤ nf') : CandBlk w b n nf' := by
  obtain ⟨cur, h1, h2, h3⟩ := h
  refine ⟨cur, h1, h2, fun j hj => ?_⟩
  obtain ⟨u, sh, nv, bv, g0, g1, g2, g3, g4, g5, g6, g7, g8, g9⟩ := h3 j hj
  exact ⟨u, sh, nv, bv, g0, g1, g2, g3, g4, g5, g6, g7, g8, fun hh => g9 (by omega)⟩
/-- Needs, or bars, written. -/
theorem CandBlk.set {w : World} {b n nf k : Nat} (h : CandBlk w b n nf) (hk : k < n) (x : Value) : CandBlk (w.setCell ⟨b, k * 8 + 6, none⟩ x) b n (max nf (k + 1)) ∧ (k < nf → CandBlk (w.setCell ⟨b, k * 8 + 7, none⟩ x) b n nf) := by
  obtain ⟨cur, h1, h2, h3⟩ := h
  have hb : ∀ o, (w.setCell ⟨b, o, none⟩ x).heap[b]? = some (.cells (cur.setIfInBounds o x) 57 (0, 0)) := fun o => heap_setCell_same w b o _ _ _ h1
  have hne : ∀ {o i : Nat}, o ≠ i → (cur.setIfInBounds o x)[i]? = cur[i]? := fun hoi => Array.getElem?_setIfInBounds_ne hoi
  refine ⟨⟨_, hb _, by simpa using h2, fun j hj => ?_⟩, fun hkn => ⟨_, hb _, by simpa using h2, fun j hj => ?_⟩⟩
  · obtain ⟨u, sh, nv, bv, g0, g1, g2, g3, g4, g5, g6, g7, g8, g9⟩ := h3 j hj
    by_cases hjk : j = k
    · subst hjk
      refine ⟨u, sh, x, bv, g0, by rw [hne (by omega)]; exact g1, by rw [hne (by omega)]; exact g2, by rw [hne (by omega)]; exact g3, by rw [hne (by omega)]; exact g4, by rw [hne (by omega)]; exact g5, by rw [hne (by omega)]; exact g6, ?_, by rw [hne (by omega)]; exact g8, fun hh => absurd hh (by omega)⟩
      rw [Array.getElem?_setIfInBounds_self_of_lt (by omega)]
    · exact ⟨u, sh, nv, bv, g0, by rw [hne (by omega)]; exact g1, by rw [hne (by omega)]; exact g2, by rw [hne (by omega)]; exact g3, by rw [hne (by omega)]; exact g4, by rw [hne (by omega)]; exact g5, by rw [hne (by omega)]; exact g6, by rw [hne (by omega)]; exact g7, by rw [hne (by omega)]; exact g8, fun hh => g9 (by omega)⟩
  · obtain ⟨u, sh, nv, bv, g0, g1, g2, g3, g4, g5, g6, g7, g8, g9⟩ := h3 j hj
    by_cases hjk : j = k
    · subst hjk
      refine ⟨u, sh, nv, x, g0, by rw [hne (by omega)]; exact g1, by rw [hne (by omega)]; exact g2, by rw [hne (by omega)]; exact g3, by rw [hne (by omega)]; exact g4, by rw [hne (by omega)]; exact g5, by rw [hne (by omega)]; exact g6, by rw [hne (by omega)]; exact g7, ?_, fun hh => absurd hh (by omega)⟩
      rw [Array.getElem?_setIfInBounds_self_of_lt (by omega)]
    · exact ⟨u, sh, nv, bv, g0, by rw [hne (by omega)]; exact g1, by rw [hne (by omega)]; exact g2, by rw [hne (by omega)]; exact g3, by rw [hne (by omega)]; exact g4, by rw [hne (by omega)]; exact g5, by rw [hne (by omega)]; exact g6, by rw [hne (by omega)]; exact g7, by rw [hne (by omega)]; exact g8, g9⟩
/-- An own row of candidates. -/
theorem own_candBlk {w : World} {B : Nat} {v : Value} {cs : List CandD} (h : w.ownsRow B 57 8 v cs.length (fCand.all cs)) (hB : ∀ d ∈ cs, d.v.B) : ∃ A c, v = .slice A cs.length c ∧ (0 < cs.length → ∃ b, A = some ⟨b, 0, none⟩ ∧ B ≤ b ∧ CandBlk w b cs.length 0) := by
  rcases h.2 with ⟨rfl, h0⟩ | ⟨g, cap, cur, rfl, hb, hg, h1, h2, h3, h4⟩
  · exact ⟨none, 0, by rw [h0], fun hp => by omega⟩
  · refine ⟨_, cap, rfl, fun hp => ⟨g, rfl, hb, cur, hg, by rw [h3]; exact Nat.mul_le_mul_right _ h1, fun j hj => ?_⟩⟩
    have hget : ∀ i, i < 8 → cur[j * 8 + i]? = (candCells cs[j])[i]? := by
      intro i hi
      have hlt : j * 8 + i < cs.length * 8 := by omega
      have e := fCand.all_get hj (j := i) hi
      rw [← Array.getElem?_toList, ← List.getElem?_take_of_lt hlt, h4]
      exact e
    exact ⟨cs[j].v, cs[j].sh, .slice none 0 0, .slice none 0 0, hB _ (List.getElem_mem hj), hget 0 (by omega), hget 1 (by omega), hget 2 (by omega), hget 3 (by omega), hget 4 (by omega), hget 5 (by omega), hget 6 (by omega), hget 7 (by omega), fun _ => ⟨rfl, rfl⟩⟩
theorem CandBlk.verAt {w : World} {b n nf k : Nat} (h : CandBlk w b n nf) (hk : k < n) : ∃ u : Ver, u.B ∧ VerAt w b (k * 8) u := by
  obtain ⟨cur, h1, h2, h3⟩ := h
  obtain ⟨u, sh, nv, bv, g0, g1, g2, g3, g4, g5, g6, g7, g8, g9⟩ := h3 k hk
  have e : ∀ o, w.cell? ⟨b, o, none⟩ = cur[o]? := fun o => cell_of_row w b o cur _ (0, 0) h1
  exact ⟨u, g0, (e _).trans g1, (e _).trans g2, (e _).trans g3, (e _).trans g4, (e _).trans g5⟩
theorem CandBlk.needsAt {w : World} {b n nf k : Nat} (h : CandBlk w b n nf) (hk : k < n) : (∃ nv bv, w.cell? ⟨b, k * 8 + 6, none⟩ = some nv ∧ w.cell? ⟨b, k * 8 + 7, none⟩ = some bv ∧ (nf ≤ k → nv = .slice none 0 0)) ∧ ∀ o, w.frozen? ⟨b, o, none⟩ = false := by
  obtain ⟨cur, h1, h2, h3⟩ := h
  obtain ⟨u, sh, nv, bv, g0, g1, g2, g3, g4, g5, g6, g7, g8, g9⟩ := h3 k hk
  have e : ∀ o, w.cell? ⟨b, o, none⟩ = cur[o]? := fun o => cell_of_row w b o cur _ (0, 0) h1
  exact ⟨⟨nv, bv, (e _).trans g7, (e _).trans g8, fun hh => (g9 hh).1⟩, fun o => frozen_of_row w b o cur _ h1⟩

/-- What is not told yet is none. -/
theorem CandBlk.nilAt {w : World} {b n nf k : Nat} (h : CandBlk w b n nf) (hk : k < n) (hn : nf ≤ k) : w.cell? ⟨b, k * 8 + 6, none⟩ = some (.slice none 0 0) ∧ w.cell? ⟨b, k * 8 + 7, none⟩ = some (.slice none 0 0) := by
  obtain ⟨cur, h1, h2, h3⟩ := h
  obtain ⟨u, sh, nv, bv, g0, g1, g2, g3, g4, g5, g6, g7, g8, g9⟩ := h3 k hk
  have e : ∀ o, w.cell? ⟨b, o, none⟩ = cur[o]? := fun o => cell_of_row w b o cur _ (0, 0) h1
  obtain ⟨rfl, rfl⟩ := g9 hn
  exact ⟨(e _).trans g7, (e _).trans g8⟩
/-- A unit's candidates lie in a block from B on; of the first nf its needs are told. -/
def CandU (w : World) (B : Nat) (d : UnitD) (nf : Nat) : Prop := d.n ≤ 4 ∧ (0 < d.n → ∃ b, d.A = some ⟨b, 0, none⟩ ∧ B ≤ b ∧ CandBlk w b d.n nf)
/-- Units under way: nf tells of each one up to where its candidates' needs are told. -/
structure Built (B : Nat) (w : World) (lv : Value) (us : List UnitD) (nf : Nat → Nat) : Prop where
  own : w.ownsRow B 60 3 lv us.length (fUnit.all us)
  cands : ∀ k, (h : k < us.length) → CandU w B us[k] (nf k)
  incr : ∀ j k, (h : j < k) → (h' : k < us.length) → ∀ b b', 0 < (us[j]'(by omega)).n → 0 < us[k].n → (us[j]'(by omega)).A = some ⟨b, 0, none⟩ → us[k].A = some ⟨b', 0, none⟩ → b < b'
section
variable {B : Nat} {w w' : World} {lv : Value} {us : List UnitD} {nf : Nat → Nat}
theorem Built.keep (h : Built B w lv us nf) (hk : ∀ k, B ≤ k → k < w.heap.size → w'.heap[k]? = w.heap[k]?) : Built B w' lv us nf := by
  refine ⟨ownsRow_keep h.own fun g hg => hk g (h.own.lt g hg).1 (h.own.lt g hg).2, fun k hk' => ⟨(h.cands k hk').1, fun hp => ?_⟩, h.incr⟩
  obtain ⟨b, hA, hb, hc⟩ := (h.cands k hk').2 hp
  exact ⟨b, hA, hb, hc.keep (hk b hb hc.lt)⟩
theorem Built.gb {bG : Nat} (h : Built B w lv us nf) (hg : w.grownBy w' (some bG)) (hB : bG < B) : Built B w' lv us nf := h.keep fun k hk hl => gb_block hg (by omega) hl
theorem Built.below {M : Nat} (h : Built B w lv us nf) (hb : Below M w w') (hM : w.heap.size ≤ M) : Built B w' lv us nf := h.keep fun k _ hl => hb.block k (by omega)
theorem Built.form (h : Built B w lv us nf) : ∃ A c, lv = .slice A us.length c := own_form h.own
/-- To be read. -/
theorem Built.rd {bG : Nat} (h : Built B w lv us nf) (hB : bG < B) (h2 : 2 ≤ us.length) (h20 : us.length ≤ 20) : UnitsRd w (Not1 bG w) lv us.length := by
  obtain ⟨A, c, hv⟩ := h.form
  refine ⟨A, c, hv, h2, h20, fun k hk => ?_⟩
  rcases h.own.2 with ⟨_, hn⟩ | ⟨g, cap, cur, hv2, hb, hg, h3, h4, h5, h6⟩
  · omega
  · rw [hv] at hv2
    injection hv2 with e1 e2 e3
    have hgl : g < w.heap.size := (Array.getElem?_eq_some_iff.1 hg).1
    refine ⟨g, e1, ⟨by omega, hgl⟩, us[k].A, us[k].n, us[k].c, ?_, ?_⟩
    · rw [cell_of_row w g _ cur _ (0, 0) hg]
      have hlt : k * 3 + 2 < us.length * 3 := by omega
      rw [← Array.getElem?_toList, ← List.getElem?_take_of_lt hlt, h6]
      exact fUnit.all_get hk (j := 2) (by decide)
    · obtain ⟨hn4, hc⟩ := h.cands k hk
      refine ⟨us[k].A, us[k].c, rfl, hn4, fun j hj => ?_⟩
      obtain ⟨b, hA, hbb, hblk⟩ := hc (by omega)
      obtain ⟨u, hu, hat⟩ := hblk.verAt hj
      exact ⟨b, hA, ⟨by omega, hblk.lt⟩, u, hu, hat⟩
theorem Built.snoc {v' : Value} {d : UnitD} {M : Nat} {o : Obj} (h : Built B w lv us (fun _ => 0)) (hM : ∀ k, (hk : k < us.length) → ∀ b, 0 < us[k].n → us[k].A = some ⟨b, 0, none⟩ → b < M)
    (hd : CandU w M d 0) (hMB : B ≤ M) (hg : (w.alloc o).grownBy w' lv.ownBlock) (ho : w'.ownsRow B 60 3 v' (us.length + 1) (fUnit.all us ++ fUnit.cells d)) : Built B w' v' (us ++ [d]) (fun _ => 0) := by
  have hkeep : ∀ {b n nf : Nat}, CandBlk w b n nf → CandBlk w' b n nf := fun hc => by
    have hl := hc.lt
    refine hc.keep ?_
    rw [hg.block _ (by simp; omega) ?_, Below.heap_alloc _ _ _ hl]
    intro e
    obtain ⟨cur, h1, _⟩ := hc
    rcases h.own.2 with ⟨rfl, _⟩ | ⟨g, cap, cur', rfl, _, hgg, _⟩
    · cases e
    · have : g = _ := (Option.some.inj e).symm
      subst this
      rw [hgg] at h1
      injection h1 with h1
      injection h1 with _ h2
      exact absurd h2 (by decide)
  refine ⟨?_, ?_, ?_⟩
  · rw [fUnit.all_snoc, List.length_append]
    exact ho
  · intro k hk
    by_cases hkl : k < us.length
    · rw [List.getElem_append_left hkl]
      refine ⟨(h.cands k hkl).1, fun hp => ?_⟩
      obtain ⟨b, hA, hb, hc⟩ := (h.cands k hkl).2 hp
      exact ⟨b, hA, hb, hkeep hc⟩
    · have e : k = us.length := by simp at hk; omega
      subst e
      have e3 : (us ++ [d])[us.length] = d := by simp
      rw [e3]
      refine ⟨hd.1, fun hp => ?_⟩
      obtain ⟨b, hA, hb, hc⟩ := hd.2 hp
      exact ⟨b, hA, by omega, hkeep hc⟩
  · intro j k hjk hk b b' hj0 hk0 hAj hAk
    by_cases hkl : k < us.length
    · rw [List.getElem_append_left hkl] at hAk hk0
      rw [List.getElem_append_left (by omega)] at hAj hj0
      exact h.incr j k hjk hkl b b' hj0 hk0 hAj hAk
    · have e : k = us.length := by simp at hk; omega
      subst e
      rw [List.getElem_append_left hjk] at hAj hj0
      have e3 : (us ++ [d])[us.length] = d := by simp
      rw [e3] at hAk hk0
      obtain ⟨b2, hA2, hb2, _⟩ := hd.2 hk0
      rw [hAk] at hA2
      injection hA2 with hA2
      injection hA2 with hA2
      subst hA2
      have := hM j hjk b hj0 hAj
      omega
end
end Go.Proofs.YtfdjoknklpiooaaGreatDoor
