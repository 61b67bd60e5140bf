import Derived.Test.YthneiolcljnbeaaGreatDoorzG2
import Derived.Outline
namespace Go.Proofs.YthneiolcljnbeaaGreatDoor
open Go Go.RowKit
section
structure UnitD where
 nm : ByteArray
 ft : ByteArray
 A : Option Addr
 n : Nat
 c : Nat
def fUnit : Flat UnitD := ⟨3, fun d => [.string d.nm, .string d.ft, .slice d.A d.n d.c], fun _ => True, fun _ => rfl, fun _ u h => by simp at h; rcases h with rfl | rfl | rfl <;> rfl, by decide⟩
structure CandD where
 v : Ver
 sh : Int
def candCells (d : CandD) : List Value := [.int .i64 d.v.major, .int .i64 d.v.minor, .int .i64 d.v.patch, .string d.v.pre, .string d.v.build, .int .i64 d.sh, .slice none 0 0, .slice none 0 0]
def fCand : Flat CandD := ⟨8, candCells, fun d => d.v.B, fun _ => rfl, fun _ u h => by simp [candCells] at h; rcases h with rfl | rfl | rfl | rfl | rfl | rfl | rfl | rfl <;> rfl, by decide⟩
theorem unit_info : (Tryz.prog.info? 58).map (fun i => (i.zero, i.size, i.bytes)) = some (some (.agg #[.string ⟨#[]⟩, .string ⟨#[]⟩, .slice none 0 0]), 3, 56) := by kernel_rfl
theorem cand_info : (Tryz.prog.info? 55).map (fun i => (i.zero, i.size, i.bytes)) = some (some (.agg #[.int .i64 0, .int .i64 0, .int .i64 0, .string ⟨#[]⟩, .string ⟨#[]⟩, .int .i64 0, .slice none 0 0, .slice none 0 0]), 8, 112) := by kernel_rfl
def NmAt (k : Nat) (us : List UnitD) : Prop := us.head?.map (·.n) = some 1 ∧ ∃ fs : List Bool, fs.length = k ∧ us.map (fun d => (d.nm, d.ft)) = namesF fs
def Named (us : List UnitD) : Prop := us.head?.map (·.n) = some 1 ∧ ∃ fs : List Bool, fs.length ≤ 5 ∧ us.map (fun d => (d.nm, d.ft)) = namesF fs
theorem NmAt.named {k : Nat} {us : List UnitD} (h : NmAt k us) (hk : k ≤ 5) : Named us := ⟨h.1, by obtain ⟨fs, h1, h2⟩ := h.2; exact ⟨fs, by omega, h2⟩⟩
theorem NmAt.one {k : Nat} {us : List UnitD} (h : NmAt k us) {d : UnitD} (hn : nameL[k]? = some d.nm) (hf : d.ft = ⟨#[]⟩) : NmAt (k + 1) (us ++ [d]) := by
 obtain ⟨h0, fs, h1, h2⟩ := h
 refine ⟨?_, fs ++ [false], by simp [h1], ?_⟩
 ·cases us with
  | nil => cases h0
  | cons x us => exact h0
 ·rw [namesF_snoc fs d.nm false (by rw [h1]; exact hn), List.map_append, h2, List.map_cons, List.map_nil, hf]
  rfl
theorem NmAt.two {k : Nat} {us : List UnitD} (h : NmAt k us) {d e : UnitD} (hn : nameL[k]? = some d.nm) (hf : d.ft = ⟨#[]⟩) (hn2 : e.nm = d.nm) (hf2 : e.ft = ⟨#[102]⟩) : NmAt (k + 1) (us ++ [d] ++ [e]) := by
 obtain ⟨h0, fs, h1, h2⟩ := h
 refine ⟨?_, fs ++ [true], by simp [h1], ?_⟩
 ·cases us with
  | nil => cases h0
  | cons x us => exact h0
 ·rw [namesF_snoc fs d.nm true (by rw [h1]; exact hn), List.map_append, List.map_append, h2, List.map_cons, List.map_nil, List.map_cons, List.map_nil, hf, hf2, hn2, List.append_assoc]
  rfl
theorem Named.first {us : List UnitD} (h : Named us) (h1 : 1 < us.length) : us[1].ft = ⟨#[]⟩ := by
 obtain ⟨-, fs, -, h2⟩ := h
 have e : (us.map fun d => (d.nm, d.ft))[1]? = some (us[1].nm, us[1].ft) := by rw [List.getElem?_map, List.getElem?_eq_getElem h1]; rfl
 rw [h2] at e
 match fs, e with
 | [], e => cases e
 | b :: fs, e => exact (congrArg Prod.snd (Option.some.inj e)).symm
def VersD (vs : List Ver) : Prop := Vers vs ∨ vs = [⟨0, 0, 0, ⟨#[]⟩, ⟨#[]⟩⟩]
def CandBlk (w : World) (b n nf : Nat) : Prop := ∃ cur : Array Value, w.heap[b]? = some (.cells cur 55 (0, 0)) ∧ n * 8 ≤ cur.size ∧
 ∃ vs : List Ver, (vs.length = n ∧ VersD vs) ∧ ∀ j, j < n → ∃ (u : Ver) (sh : Int) (nv bv : Value), (u.B ∧ vs[j]? = some u) ∧ cur[j * 8]? = some (.int .i64 u.major) ∧ cur[j * 8 + 1]? = some (.int .i64 u.minor) ∧ cur[j * 8 + 2]? = some (.int .i64 u.patch) ∧ cur[j * 8 + 3]? = some (.string u.pre) ∧ cur[j * 8 + 4]? = some (.string u.build) ∧
  cur[j * 8 + 5]? = some (.int .i64 sh) ∧ cur[j * 8 + 6]? = some nv ∧ cur[j * 8 + 7]? = some bv ∧ (nf ≤ j → nv = .slice none 0 0 ∧ bv = .slice none 0 0)
theorem CandBlk.keep {w w' : World} {b n nf : Nat} (h : CandBlk w b n nf) (hk : w'.heap[b]? = w.heap[b]?) : CandBlk w' b n nf := by
 obtain ⟨cur, h1, h2⟩ := h
 exact ⟨cur, hk.trans h1, h2⟩
theorem CandBlk.lt {w : World} {b n nf : Nat} (h : CandBlk w b n nf) : b < w.heap.size := by
 obtain ⟨cur, h1, _⟩ := h
 exact (Array.getElem?_eq_some_iff.1 h1).1
theorem CandBlk.mono {w : World} {b n nf nf' : Nat} (h : CandBlk w b n nf) (hn : nf ≤ nf') : CandBlk w b n nf' := by
 obtain ⟨cur, h1, h2, vs, hvs, h3⟩ := h
 refine ⟨cur, h1, h2, vs, hvs, fun j hj => ?_⟩
 obtain ⟨u, sh, nv, bv, g0, g1, g2, g3, g4, g5, g6, g7, g8, g9⟩ := h3 j hj
 exact ⟨u, sh, nv, bv, g0, g1, g2, g3, g4, g5, g6, g7, g8, fun hh => g9 (by omega)⟩
theorem CandBlk.set {w : World} {b n nf k : Nat} (h : CandBlk w b n nf) (hk : k < n) (x : Value) : CandBlk (w.setCell ⟨b, k * 8 + 6, none⟩ x) b n (max nf (k + 1)) ∧ (k < nf → CandBlk (w.setCell ⟨b, k * 8 + 7, none⟩ x) b n nf) := by
 obtain ⟨cur, h1, h2, vs, hvs, h3⟩ := h
 have hb : ∀ o, (w.setCell ⟨b, o, none⟩ x).heap[b]? = some (.cells (cur.setIfInBounds o x) 55 (0, 0)) := fun o => heap_setCell_same w b o _ _ _ h1
 have hne : ∀ {o i : Nat}, o ≠ i → (cur.setIfInBounds o x)[i]? = cur[i]? := fun hoi => Array.getElem?_setIfInBounds_ne hoi
 refine ⟨⟨_, hb _, by simpa using h2, vs, hvs, fun j hj => ?_⟩, fun hkn => ⟨_, hb _, by simpa using h2, vs, hvs, fun j hj => ?_⟩⟩
 ·obtain ⟨u, sh, nv, bv, g0, g1, g2, g3, g4, g5, g6, g7, g8, g9⟩ := h3 j hj
  by_cases hjk : j = k
  ·subst hjk
   refine ⟨u, sh, x, bv, g0, by rw [hne (by omega)]; exact g1, by rw [hne (by omega)]; exact g2, by rw [hne (by omega)]; exact g3, by rw [hne (by omega)]; exact g4, by rw [hne (by omega)]; exact g5, by rw [hne (by omega)]; exact g6, ?_, by rw [hne (by omega)]; exact g8, fun hh => absurd hh (by omega)⟩
   rw [Array.getElem?_setIfInBounds_self_of_lt (by omega)]
  ·exact ⟨u, sh, nv, bv, g0, by rw [hne (by omega)]; exact g1, by rw [hne (by omega)]; exact g2, by rw [hne (by omega)]; exact g3, by rw [hne (by omega)]; exact g4, by rw [hne (by omega)]; exact g5, by rw [hne (by omega)]; exact g6, by rw [hne (by omega)]; exact g7, by rw [hne (by omega)]; exact g8, fun hh => g9 (by omega)⟩
 ·obtain ⟨u, sh, nv, bv, g0, g1, g2, g3, g4, g5, g6, g7, g8, g9⟩ := h3 j hj
  by_cases hjk : j = k
  ·subst hjk
   refine ⟨u, sh, nv, x, g0, by rw [hne (by omega)]; exact g1, by rw [hne (by omega)]; exact g2, by rw [hne (by omega)]; exact g3, by rw [hne (by omega)]; exact g4, by rw [hne (by omega)]; exact g5, by rw [hne (by omega)]; exact g6, by rw [hne (by omega)]; exact g7, ?_, fun hh => absurd hh (by omega)⟩
   rw [Array.getElem?_setIfInBounds_self_of_lt (by omega)]
  ·exact ⟨u, sh, nv, bv, g0, by rw [hne (by omega)]; exact g1, by rw [hne (by omega)]; exact g2, by rw [hne (by omega)]; exact g3, by rw [hne (by omega)]; exact g4, by rw [hne (by omega)]; exact g5, by rw [hne (by omega)]; exact g6, by rw [hne (by omega)]; exact g7, by rw [hne (by omega)]; exact g8, g9⟩
theorem own_candBlk {w : World} {B : Nat} {v : Value} {cs : List CandD} (h : w.ownsRow B 55 8 v cs.length (fCand.all cs)) (hB : ∀ d ∈ cs, d.v.B) (hV : VersD (cs.map (·.v))) : ∃ A c, v = .slice A cs.length c ∧ (0 < cs.length → ∃ b, A = some ⟨b, 0, none⟩ ∧ B ≤ b ∧ CandBlk w b cs.length 0) := by
 rcases h.2 with ⟨rfl, h0⟩ | ⟨g, cap, cur, rfl, hb, hg, h1, h2, h3, h4⟩
 ·exact ⟨none, 0, by rw [h0], fun hp => by omega⟩
 ·refine ⟨_, cap, rfl, fun hp => ⟨g, rfl, hb, cur, hg, by rw [h3]; exact Nat.mul_le_mul_right _ h1, cs.map (·.v), ⟨by rw [List.length_map], hV⟩, fun j hj => ?_⟩⟩
  have hget : ∀ i, i < 8 → cur[j * 8 + i]? = (candCells cs[j])[i]? := by
   intro i hi
   have hlt : j * 8 + i < cs.length * 8 := by omega
   have e := fCand.all_get hj (j := i) hi
   rw [← Array.getElem?_toList, ← List.getElem?_take_of_lt hlt, h4]
   exact e
  exact ⟨cs[j].v, cs[j].sh, .slice none 0 0, .slice none 0 0, ⟨hB _ (List.getElem_mem hj), by rw [List.getElem?_map, List.getElem?_eq_getElem hj]; rfl⟩, hget 0 (by omega), hget 1 (by omega), hget 2 (by omega), hget 3 (by omega), hget 4 (by omega), hget 5 (by omega), hget 6 (by omega), hget 7 (by omega), fun _ => ⟨rfl, rfl⟩⟩
theorem CandBlk.verAt {w : World} {b n nf k : Nat} (h : CandBlk w b n nf) (hk : k < n) : ∃ u : Ver, u.B ∧ VerAt w b (k * 8) u := by
 obtain ⟨cur, h1, h2, vs, hvs, h3⟩ := h
 obtain ⟨u, sh, nv, bv, g0, g1, g2, g3, g4, g5, g6, g7, g8, g9⟩ := h3 k hk
 have e : ∀ o, w.cell? ⟨b, o, none⟩ = cur[o]? := fun o => cell_of_row w b o cur _ (0, 0) h1
 exact ⟨u, g0.1, (e _).trans g1, (e _).trans g2, (e _).trans g3, (e _).trans g4, (e _).trans g5⟩
theorem CandBlk.fix {w : World} {b n nf : Nat} (h : CandBlk w b n nf) : ∃ vs : List Ver, (vs.length = n ∧ VersD vs) ∧ ∀ w' : World, w'.heap[b]? = w.heap[b]? → ∀ k, k < n → ∃ u : Ver, (u.B ∧ vs[k]? = some u) ∧ VerAt w' b (k * 8) u := by
 obtain ⟨cur, h1, h2, vs, hvs, h3⟩ := h
 refine ⟨vs, hvs, fun w' hw k hk => ?_⟩
 obtain ⟨u, sh, nv, bv, g0, g1, g2, g3, g4, g5, g6, g7, g8, g9⟩ := h3 k hk
 have e : ∀ o, w'.cell? ⟨b, o, none⟩ = cur[o]? := fun o => cell_of_row w' b o cur _ (0, 0) (hw.trans h1)
 exact ⟨u, g0, (e _).trans g1, (e _).trans g2, (e _).trans g3, (e _).trans g4, (e _).trans g5⟩
theorem VersD.sub {l vs : List Ver} {k : Nat} (h : VersD vs) (hs : l.Sublist (vs.take k)) : VersD l := by
 have h2 := hs.trans (List.take_sublist k vs)
 rcases h with h | rfl
 ·exact .inl (h2.trans h)
 ·match l, h2 with
  | [], _ => exact .inl (List.nil_sublist _)
  | [a], h2 => exact .inr (by rw [List.mem_singleton.1 (h2.subset (List.mem_singleton.2 rfl))])
  | _ :: _ :: _, h2 => exact absurd h2.length_le (by simp)
theorem sub_more {l vs : List Ver} {k : Nat} {u : Ver} (h : l.Sublist (vs.take k)) (hu : vs[k]? = some u) : (l ++ [u]).Sublist (vs.take (k + 1)) := by
 obtain ⟨hk, rfl⟩ := List.getElem?_eq_some_iff.1 hu
 rw [List.take_succ_eq_append_getElem hk]
 exact h.append (List.Sublist.refl _)
theorem CandBlk.needsAt {w : World} {b n nf k : Nat} (h : CandBlk w b n nf) (hk : k < n) : (∃ nv bv, w.cell? ⟨b, k * 8 + 6, none⟩ = some nv ∧ w.cell? ⟨b, k * 8 + 7, none⟩ = some bv ∧ (nf ≤ k → nv = .slice none 0 0)) ∧ ∀ o, w.frozen? ⟨b, o, none⟩ = false := by
 obtain ⟨cur, h1, h2, vs, hvs, h3⟩ := h
 obtain ⟨u, sh, nv, bv, g0, g1, g2, g3, g4, g5, g6, g7, g8, g9⟩ := h3 k hk
 have e : ∀ o, w.cell? ⟨b, o, none⟩ = cur[o]? := fun o => cell_of_row w b o cur _ (0, 0) h1
 exact ⟨⟨nv, bv, (e _).trans g7, (e _).trans g8, fun hh => (g9 hh).1⟩, fun o => frozen_of_row w b o cur _ h1⟩
theorem CandBlk.nilAt {w : World} {b n nf k : Nat} (h : CandBlk w b n nf) (hk : k < n) (hn : nf ≤ k) : w.cell? ⟨b, k * 8 + 6, none⟩ = some (.slice none 0 0) ∧ w.cell? ⟨b, k * 8 + 7, none⟩ = some (.slice none 0 0) := by
 obtain ⟨cur, h1, h2, vs, hvs, h3⟩ := h
 obtain ⟨u, sh, nv, bv, g0, g1, g2, g3, g4, g5, g6, g7, g8, g9⟩ := h3 k hk
 have e : ∀ o, w.cell? ⟨b, o, none⟩ = cur[o]? := fun o => cell_of_row w b o cur _ (0, 0) h1
 obtain ⟨rfl, rfl⟩ := g9 hn
 exact ⟨(e _).trans g7, (e _).trans g8⟩
def CandU (w : World) (B : Nat) (d : UnitD) (nf : Nat) : Prop := d.n ≤ 4 ∧ (0 < d.n → ∃ b, d.A = some ⟨b, 0, none⟩ ∧ B ≤ b ∧ CandBlk w b d.n nf)
structure Built (B : Nat) (w : World) (lv : Value) (us : List UnitD) (nf : Nat → Nat) : Prop where
 own : w.ownsRow B 58 3 lv us.length (fUnit.all us)
 cands : ∀ k, (h : k < us.length) → CandU w B us[k] (nf k)
 incr : ∀ j k, (h : j < k) → (h' : k < us.length) → ∀ b b', 0 < (us[j]'(by omega)).n → 0 < us[k].n → (us[j]'(by omega)).A = some ⟨b, 0, none⟩ → us[k].A = some ⟨b', 0, none⟩ → b < b'
section
variable {B : Nat} {w w' : World} {lv : Value} {us : List UnitD} {nf : Nat → Nat}
theorem Built.keep (h : Built B w lv us nf) (hk : ∀ k, B ≤ k → k < w.heap.size → w'.heap[k]? = w.heap[k]?) : Built B w' lv us nf := by
 refine ⟨ownsRow_keep h.own fun g hg => hk g (h.own.lt g hg).1 (h.own.lt g hg).2, fun k hk' => ⟨(h.cands k hk').1, fun hp => ?_⟩, h.incr⟩
 obtain ⟨b, hA, hb, hc⟩ := (h.cands k hk').2 hp
 exact ⟨b, hA, hb, hc.keep (hk b hb hc.lt)⟩
theorem Built.gb {bG : Nat} (h : Built B w lv us nf) (hg : w.grownBy w' (some bG)) (hB : bG < B) : Built B w' lv us nf := h.keep fun k hk hl => gb_block hg (by omega) hl
theorem Built.below {M : Nat} (h : Built B w lv us nf) (hb : Below M w w') (hM : w.heap.size ≤ M) : Built B w' lv us nf := h.keep fun k _ hl => hb.block k (by omega)
theorem Built.form (h : Built B w lv us nf) : ∃ A c, lv = .slice A us.length c := own_form h.own
theorem Built.rd {bG : Nat} (h : Built B w lv us nf) (hB : bG < B) (h2 : 2 ≤ us.length) (h20 : us.length ≤ 20) : UnitsRd w (Not1 bG w) lv us.length := by
 obtain ⟨A, c, hv⟩ := h.form
 refine ⟨A, c, hv, h2, h20, fun k hk => ?_⟩
 rcases h.own.2 with ⟨_, hn⟩ | ⟨g, cap, cur, hv2, hb, hg, h3, h4, h5, h6⟩
 ·omega
 ·rw [hv] at hv2
  injection hv2 with e1 e2 e3
  have hgl : g < w.heap.size := (Array.getElem?_eq_some_iff.1 hg).1
  refine ⟨g, e1, ⟨by omega, hgl⟩, us[k].A, us[k].n, us[k].c, ?_, ?_⟩
  ·rw [cell_of_row w g _ cur _ (0, 0) hg]
   have hlt : k * 3 + 2 < us.length * 3 := by omega
   rw [← Array.getElem?_toList, ← List.getElem?_take_of_lt hlt, h6]
   exact fUnit.all_get hk (j := 2) (by decide)
  ·obtain ⟨hn4, hc⟩ := h.cands k hk
   refine ⟨us[k].A, us[k].c, rfl, hn4, fun j hj => ?_⟩
   obtain ⟨b, hA, hbb, hblk⟩ := hc (by omega)
   obtain ⟨u, hu, hat⟩ := hblk.verAt hj
   exact ⟨b, hA, ⟨by omega, hblk.lt⟩, u, hu, hat⟩
theorem Built.snoc {v' : Value} {d : UnitD} {M : Nat} {o : Obj} (h : Built B w lv us (fun _ => 0)) (hM : ∀ k, (hk : k < us.length) → ∀ b, 0 < us[k].n → us[k].A = some ⟨b, 0, none⟩ → b < M)
  (hd : CandU w M d 0) (hMB : B ≤ M) (hg : (w.alloc o).grownBy w' lv.ownBlock) (ho : w'.ownsRow B 58 3 v' (us.length + 1) (fUnit.all us ++ fUnit.cells d)) : Built B w' v' (us ++ [d]) (fun _ => 0) := by
 have hkeep : ∀ {b n nf : Nat}, CandBlk w b n nf → CandBlk w' b n nf := fun hc => by
  have hl := hc.lt
  refine hc.keep ?_
  rw [hg.block _ (by simp; omega) ?_, Below.heap_alloc _ _ _ hl]
  intro e
  obtain ⟨cur, h1, _⟩ := hc
  rcases h.own.2 with ⟨rfl, _⟩ | ⟨g, cap, cur', rfl, _, hgg, _⟩
  ·cases e
  ·have : g = _ := (Option.some.inj e).symm
   subst this
   rw [hgg] at h1
   injection h1 with h1
   injection h1 with _ h2
   exact absurd h2 (by decide)
 refine ⟨?_, ?_, ?_⟩
 ·rw [fUnit.all_snoc, List.length_append]
  exact ho
 ·intro k hk
  by_cases hkl : k < us.length
  ·rw [List.getElem_append_left hkl]
   refine ⟨(h.cands k hkl).1, fun hp => ?_⟩
   obtain ⟨b, hA, hb, hc⟩ := (h.cands k hkl).2 hp
   exact ⟨b, hA, hb, hkeep hc⟩
  ·have e : k = us.length := by simp at hk; omega
   subst e
   have e3 : (us ++ [d])[us.length] = d := by simp
   rw [e3]
   refine ⟨hd.1, fun hp => ?_⟩
   obtain ⟨b, hA, hb, hc⟩ := hd.2 hp
   exact ⟨b, hA, by omega, hkeep hc⟩
 ·intro j k hjk hk b b' hj0 hk0 hAj hAk
  by_cases hkl : k < us.length
  ·rw [List.getElem_append_left hkl] at hAk hk0
   rw [List.getElem_append_left (by omega)] at hAj hj0
   exact h.incr j k hjk hkl b b' hj0 hk0 hAj hAk
  ·have e : k = us.length := by simp at hk; omega
   subst e
   rw [List.getElem_append_left hjk] at hAj hj0
   have e3 : (us ++ [d])[us.length] = d := by simp
   rw [e3] at hAk hk0
   obtain ⟨b2, hA2, hb2, _⟩ := hd.2 hk0
   rw [hAk] at hA2
   injection hA2 with hA2
   injection hA2 with hA2
   subst hA2
   have := hM j hjk b hj0 hAj
   omega
end
end
section
theorem blk_apart {w w1 : World} {B' : Nat} {T e' : TypeId} {s' n' g : Nat} {v' : Value} {ys' : List Value} {cs : Array Value} (h : w.heap[g]? = some (.cells cs T (0, 0))) (ho : w.ownsRow B' e' s' v' n' ys') (hne : T ≠ e') (o : Obj) (hg : (w.alloc o).grownBy w1 v'.ownBlock) : w1.heap[g]? = some (.cells cs T (0, 0)) := by
  have hl : g < w.heap.size := (Array.getElem?_eq_some_iff.1 h).1
  rw [hg.block g (by simp; omega) ?_, Below.heap_alloc _ _ _ hl]
  · exact h
  · intro e
    rcases ho.2 with ⟨rfl, _⟩ | ⟨g', cap, cur', rfl, _, hgg, _⟩
    · cases e
    · have : g' = g := (Option.some.inj e).symm
      subst this
      rw [hgg] at h
      injection h with h
      injection h with _ h2
      exact hne h2.symm
def nmCells : Array Value := #[.string ⟨#[97, 110, 116]⟩, .string ⟨#[98, 101, 101]⟩, .string ⟨#[99, 111, 119]⟩, .string ⟨#[100, 111, 103]⟩, .string ⟨#[101, 108, 107]⟩]
theorem nm_at {w : World} {g : Nat} (h : w.heap[g]? = some (.cells nmCells 9 (0, 0))) {k : Nat} (hk : k < 5) : ∃ nm, w.cell? ⟨g, k, none⟩ = some (.string nm) ∧ nameL[k]? = some nm := by
  have e := cell_of_row w g k nmCells _ (0, 0) h
  match k, hk with
  | 0, _ => exact ⟨_, e, rfl⟩
  | 1, _ => exact ⟨_, e, rfl⟩
  | 2, _ => exact ⟨_, e, rfl⟩
  | 3, _ => exact ⟨_, e, rfl⟩
  | 4, _ => exact ⟨_, e, rfl⟩
def vsCells : Array Value := (fVer.all versL).toArray
theorem vs_at {w : World} {g : Nat} (h : w.heap[g]? = some (.cells vsCells 52 (0, 0))) {k : Nat} (hk : k < 4) : ∃ u : Ver, (u.B ∧ versL[k]? = some u) ∧ VerAt w g (k * 5) u := by
  have hB : ∀ u ∈ versL, Ver.B u := by
    intro u hu
    simp only [versL, List.mem_cons, List.not_mem_nil, or_false] at hu
    rcases hu with rfl | rfl | rfl | rfl <;> exact ⟨by decide, by decide, by decide, by decide, by decide⟩
  have e : ∀ o, w.cell? ⟨g, o, none⟩ = vsCells[o]? := fun o => cell_of_row w g o vsCells _ (0, 0) h
  have hk' : k < versL.length := hk
  have hg : ∀ i, i < 5 → vsCells[k * 5 + i]? = (verCells (versL[k]'hk'))[i]? := by
    intro i hi
    have := fVer.all_get (l := versL) (k := k) hk' (j := i) hi
    rw [← Array.getElem?_toList]
    exact this
  exact ⟨versL[k]'hk', ⟨hB _ (List.getElem_mem hk), List.getElem?_eq_getElem hk'⟩, (e _).trans (hg 0 (by omega)), (e _).trans (hg 1 (by omega)), (e _).trans (hg 2 (by omega)), (e _).trans (hg 3 (by omega)), (e _).trans (hg 4 (by omega))⟩
def Beside (w : World) (bn bv : Nat) : Prop := w.heap[bn]? = some (.cells nmCells 9 (0, 0)) ∧ w.heap[bv]? = some (.cells vsCells 52 (0, 0))
theorem Beside.gb {w w' : World} {bn bv bG : Nat} (h : Beside w bn bv) (hg : w.grownBy w' (some bG)) (h1 : bG < bn) (h2 : bG < bv) : Beside w' bn bv :=
  ⟨(gb_block hg (by omega) (Array.getElem?_eq_some_iff.1 h.1).1).trans h.1, (gb_block hg (by omega) (Array.getElem?_eq_some_iff.1 h.2).1).trans h.2⟩
theorem Beside.below {w w' : World} {bn bv M : Nat} (h : Beside w bn bv) (hb : Below M w w') (hM : w.heap.size ≤ M) : Beside w' bn bv :=
  ⟨(hb.block _ (Nat.lt_of_lt_of_le (Array.getElem?_eq_some_iff.1 h.1).1 hM)).trans h.1, (hb.block _ (Nat.lt_of_lt_of_le (Array.getElem?_eq_some_iff.1 h.2).1 hM)).trans h.2⟩
def UnitsPost (bG : Nat) (lv : Value) (xs : List Int) (i : Int) (w : World) (e : Ending) (w' : World) : Prop :=
  ∃ (A : Option Addr) (c : Nat) (us : List UnitD) (i' : Int), e = .returned (.slice A us.length c) ∧ Built w.heap.size w' (.slice A us.length c) us (fun _ => 0) ∧ 2 ≤ us.length ∧ us.length ≤ 11 ∧ Named us ∧ GAt w' bG lv xs i' ∧ i ≤ i' ∧ i' ≤ i + 100 ∧ w.grownBy w' (some bG)
theorem unit_app {B M bG bn bv : Nat} {wr w8 w0 : World} {lv' lv v8 : Value} {us : List UnitD} {d : UnitD} {xs : List Int} {i' : Int} (hbt : Built B wr lv us (fun _ => 0)) (hM : ∀ k, (hk : k < us.length) → ∀ b, 0 < us[k].n → us[k].A = some ⟨b, 0, none⟩ → b < M) (hcu : CandU wr M d 0) (hMB : B ≤ M) (hs : B ≤ wr.heap.size) (o : Obj) (hg8 : (wr.alloc o).grownBy w8 lv.ownBlock) (hown8 : w8.ownsRow B 58 3 v8 (us.length + 1) (fUnit.all us ++ fUnit.cells d)) (hbs : Beside wr bn bv) (hg : GAt wr bG lv' xs i') (hGl : bG < B) (hgb : w0.grownBy wr (some bG)) (h0 : w0.heap.size ≤ B) :
    ∃ (A8 : Option Addr) (c8 : Nat) (us8 : List UnitD), v8 = .slice A8 us8.length c8 ∧ us8.length = us.length + 1 ∧ Built B w8 v8 us8 (fun _ => 0) ∧ Below B wr w8 ∧ Beside w8 bn bv ∧ GAt w8 bG lv' xs i' ∧ w0.grownBy w8 (some bG) ∧ (∀ b n, CandBlk wr b n 0 → CandBlk w8 b n 0) ∧ us8 = us ++ [d] := by
  have hB := app_below hs hbt.own (Nat.le_refl _) _ hg8
  have hn := hbt.snoc hM hcu hMB hg8 hown8
  obtain ⟨A8, c8, hv⟩ := hn.form
  refine ⟨A8, c8, us ++ [d], hv, by simp, hn, hB, ⟨blk_apart hbs.1 hbt.own (by decide) _ hg8, blk_apart hbs.2 hbt.own (by decide) _ hg8⟩, hg.below hB hGl, gb_below hgb hB h0, ?_, rfl⟩
  rintro b n ⟨cur, h1, h2⟩
  exact ⟨cur, blk_apart h1 hbt.own (by decide) _ hg8, h2⟩
theorem built_one (w : World) : Built w.heap.size ((w.alloc (.cells #[.int .i64 0, .int .i64 0, .int .i64 0, .string ⟨#[]⟩, .string ⟨#[]⟩, .int .i64 (-1), .slice none 0 0, .slice none 0 0] 55)).alloc (.cells #[.string ⟨#[]⟩, .string ⟨#[]⟩, .slice (some ⟨w.heap.size, 0, none⟩) 1 1] 58)) (.slice (some ⟨w.heap.size + 1, 0, none⟩) 1 1) [⟨⟨#[]⟩, ⟨#[]⟩, some ⟨w.heap.size, 0, none⟩, 1, 1⟩] (fun _ => 0) := by
  refine ⟨⟨rfl, .inr ⟨w.heap.size + 1, 1, #[.string ⟨#[]⟩, .string ⟨#[]⟩, .slice (some ⟨w.heap.size, 0, none⟩) 1 1], rfl, by omega, ?_, Nat.le_refl _, by unfold maxLen; omega, rfl, rfl⟩⟩, ?_, ?_⟩
  · have := heap_alloc_new (w.alloc (.cells #[.int .i64 0, .int .i64 0, .int .i64 0, .string ⟨#[]⟩, .string ⟨#[]⟩, .int .i64 (-1), .slice none 0 0, .slice none 0 0] 55)) (.cells #[.string ⟨#[]⟩, .string ⟨#[]⟩, .slice (some ⟨w.heap.size, 0, none⟩) 1 1] 58)
    rwa [World.size_alloc] at this
  · intro k hk
    have : k = 0 := by simp at hk; exact hk
    subst this
    have hown : (w.alloc (.cells #[.int .i64 0, .int .i64 0, .int .i64 0, .string ⟨#[]⟩, .string ⟨#[]⟩, .int .i64 (-1), .slice none 0 0, .slice none 0 0] 55)).ownsRow w.heap.size 55 8 (.slice (some ⟨w.heap.size, 0, none⟩) 1 1) [(⟨⟨0, 0, 0, ⟨#[]⟩, ⟨#[]⟩⟩, -1⟩ : CandD)].length (fCand.all [⟨⟨0, 0, 0, ⟨#[]⟩, ⟨#[]⟩⟩, -1⟩]) :=
      ⟨rfl, .inr ⟨_, 1, _, rfl, Nat.le_refl _, heap_alloc_new w _, Nat.le_refl _, by unfold maxLen; omega, rfl, rfl⟩⟩
    obtain ⟨A, c, hv, hc⟩ := own_candBlk hown (fun d hd => by
      have : d = ⟨⟨0, 0, 0, ⟨#[]⟩, ⟨#[]⟩⟩, -1⟩ := by simpa using hd
      subst this
      exact vb_zero) (.inr rfl)
    injection hv with e1 e2 e3
    obtain ⟨b, hA, hb, hblk⟩ := hc (by decide)
    refine ⟨by show 1 ≤ 4; omega, fun _ => ⟨b, e1.trans hA, hb, hblk.keep (Below.heap_alloc _ _ _ hblk.lt)⟩⟩
  · intro j k hjk hk
    simp at hk
    omega
theorem one_below {w : World} {B M : Nat} {lv : Value} {us : List UnitD} {nf : Nat → Nat} (h : Built B w lv us nf) (hM : w.heap.size ≤ M) : ∀ k, (hk : k < us.length) → ∀ b, 0 < us[k].n → us[k].A = some ⟨b, 0, none⟩ → b < M := by
  intro k hk b hp hA
  obtain ⟨b2, hA2, _, hc⟩ := (h.cands k hk).2 hp
  rw [hA] at hA2
  injection hA2 with hA2
  injection hA2 with hA2
  subst hA2
  have := hc.lt
  omega
set_option maxRecDepth 100000 in
set_option maxHeartbeats 1000000 in
theorem units_g (bG : Nat) (lv : Value) (xs : List Int) (i most : Int) (w : World) (hG : GAt w bG lv xs i) (hi : i + 200 < 1000000) (hm1 : 1 ≤ most) (hm2 : most ≤ 5) :
    Calls Tryz.prog 14 #[.pointer (some ⟨bG, 0, none⟩), .int .i64 most] w (UnitsPost bG lv xs i w) := by
  obtain ⟨iu, hiu⟩ := info_parts unit_info
  have HIU := hid hiu
  obtain ⟨ic, hic⟩ := info_parts cand_info
  have HIC := hid hic
  have hi0 := hG.bd.1
  have hGl := hG.lt
  have HG := hid hG
  clear hG hiu hic
  go_enter Tryz.func14, Tryz.ntmps14
  go_wp2_with fail
  obtain ⟨w0, hw0⟩ : ∃ w0 : World, w0 = ((w.alloc (.cells nmCells 9)).alloc (.cells #[.int .i64 0, .int .i64 0, .int .i64 0, .string ⟨#[]⟩, .string ⟨#[]⟩, .int .i64 (-1), .slice none 0 0, .slice none 0 0] 55)).alloc (.cells #[.string ⟨#[]⟩, .string ⟨#[]⟩, .slice (some ⟨w.heap.size + 1, 0, none⟩) 1 1] 58) := ⟨_, rfl⟩
  have HBW0 : Hid (Below w.heap.size w w0) := hid (by rw [hw0]; exact balloc (balloc (balloc (b0 w) _) _) _)
  have HBT0 : Hid (Built w.heap.size w0 (.slice (some ⟨w.heap.size + 1 + 1, 0, none⟩) 1 1) [⟨⟨#[]⟩, ⟨#[]⟩, some ⟨w.heap.size + 1, 0, none⟩, 1, 1⟩] (fun _ => 0)) := hid (by
    rw [hw0]
    have := built_one (w.alloc (.cells nmCells 9))
    rw [World.size_alloc] at this
    exact ⟨⟨this.own.1, by rcases this.own.2 with h | ⟨g, cap, cur, h1, h2, h3⟩; exact .inl h; exact .inr ⟨g, cap, cur, h1, by omega, h3⟩⟩, fun k hk => ⟨(this.cands k hk).1, fun hp => by obtain ⟨b, hA, hb, hc⟩ := (this.cands k hk).2 hp; exact ⟨b, hA, by omega, hc⟩⟩, this.incr⟩)
  have HNM0 : Hid (w0.heap[w.heap.size]? = some (.cells nmCells 9 (0, 0))) := hid (by
    rw [hw0, Below.heap_alloc _ _ _ (by simp; omega), Below.heap_alloc _ _ _ (by simp)]
    exact heap_alloc_new w _)
  have hz0 : w.heap.size < w0.heap.size := by rw [hw0]; simp; omega
  show Calls _ _ _ (((w.alloc (.cells nmCells 9)).alloc _).alloc _) _
  rw [← hw0]
  clear hw0
  refine (versions_any _).mono ?_
  rintro e w1 ⟨bv, rfl, hbv, hvb, hb1⟩
  have HBS1 : Hid (Beside w1 w.heap.size bv) := hid ⟨(hb1.block _ hz0).trans HNM0.out, hvb⟩
  have HBT1 := hid (HBT0.out.below hb1 (Nat.le_refl _))
  have HG1 := hid (HG.out.below (HBW0.out.trans (hb1.mono HBW0.out.size)) hGl)
  have HGB1 := hid (gb_below (gb_refl w (some bG)) (HBW0.out.trans (hb1.mono HBW0.out.size)) (Nat.le_refl _))
  have hbv2 : bG < bv := by omega
  clear hb1 hvb
  go_wp2
  go_loopw [6, 8] (fun ov nv wr => ∃ (k : Nat) (us : List UnitD) (i' : Int), k ≤ 5 ∧ nv = .int .i64 k ∧ k + 1 ≤ us.length ∧ us.length ≤ 2 * k + 1 ∧ i ≤ i' ∧ i' ≤ i + 7 * k ∧ Hid (Built w.heap.size wr ov us (fun _ => 0)) ∧ Hid (NmAt k us) ∧ Hid (GAt wr bG lv xs i') ∧ Hid (w.grownBy wr (some bG)) ∧ Hid (Beside wr w.heap.size bv)) (fun _ nv _ => 5 - (intOf nv).toNat)
  case atStart => exact ⟨0, _, i, by omega, rfl, by simp, by simp, by omega, by omega, HBT1, hid ⟨rfl, [], rfl, rfl⟩, HG1, HGB1, HBS1⟩
  case round =>
    obtain ⟨k, us, i', hk, rfl, hu1, hu2, hi1, hi2, hbt, hhd, hg, hgb, hbs⟩ := hrel
    obtain ⟨Al, cl, rfl⟩ := hbt.out.form
    have hsw := hgb.out.size
    by_cases hk5 : k < 5
    · have z5 : decide (k < 5) = true := decide_eq_true hk5
      have z5' : decide ((k : Int) < 5) = true := decide_eq_true (by omega)
      have tok := hid True.intro
      have tok2 := hid True.intro
      go_wp2_with (first
        | (go_at_call 17; clear tok; go_must (refine (next_g bG lv xs i' most _ hg.out (by omega) ⟨by omega, by omega⟩).mono ?_; rintro e w2 ⟨r, rfl, hr0, hr1, -, hg2, hgb2⟩; have hr2 : r < most := hr1 (by omega); clear hr1; have HG2 := hid hg2; have HGB2 := hid (gb_gb hgb.out hgb2); have HBT2 := hid (hbt.out.gb hgb2 hGl); have HBS2 := hid (hbs.out.gb hgb2 hGl hbv2); clear hg2 hgb2))
        | (go_at_call 17; clear tok2; go_must (refine (next_g bG lv xs (i' + 1) 16 _ HG2.out (by omega) ⟨by decide, by decide⟩).mono ?_; rintro e wc ⟨m, rfl, hm0, hm16, -, hg3, hgb3⟩; have HG3 := hid hg3; have HGB3 := hid (gb_gb HGB2.out hgb3); have HBT3 := hid (HBT2.out.gb hgb3 hGl); have HBS3 := hid (HBS2.out.gb hgb3 hGl hbv2); clear hg3 hgb3)))
      · have hsc := HGB3.out.size
        obtain ⟨nm, hnm, hnl⟩ := nm_at HBS3.out.1 hk5
        have HNM := hid hnm
        have HNL := hid hnl
        have HVS := hid HBS3.out.2
        clear hnm hnl
        go_loopw [9, 11] (fun cv iv wr => ∃ (j : Nat) (cs : List CandD), j ≤ 4 ∧ iv = .int .i64 j ∧ cs.length ≤ j ∧ Hid (wr.ownsRow wc.heap.size 55 8 cv cs.length (fCand.all cs) ∧ (∀ d ∈ cs, d.v.B) ∧ (cs.map (·.v)).Sublist (versL.take j)) ∧ Hid (Below wc.heap.size wc wr)) (fun _ iv _ => 4 - (intOf iv).toNat)
        case atStart => exact ⟨0, [], by omega, rfl, by simp, hid ⟨⟨rfl, .inl ⟨rfl, rfl⟩⟩, (fun d hd => by cases hd), List.nil_sublist _⟩, hid (b0 _)⟩
        case round =>
          obtain ⟨j, cs, hj, rfl, hcl, hown, hb⟩ := hrel
          obtain ⟨Ac, cc, rfl⟩ := own_form hown.out.1
          have hsr := hb.out.size
          by_cases hj4 : j < 4
          · obtain ⟨u, ⟨hu, hvl⟩, hat⟩ := vs_at ((hb.out.block _ (Array.getElem?_eq_some_iff.1 HVS.out).1).trans HVS.out) hj4
            obtain ⟨c0, c1, c2, c3, c4⟩ := hat
            have HU := hid hu
            have HVL := hid hvl
            have HONE := hid (fCand.one ⟨u, 0⟩)
            clear hu hvl
            have i1 : (0 : Int) ≤ ↑j := by omega
            have i2 : (↑j : Int) < 4 := by omega
            go_wp2_with (first
              | (at_builtin
                 go_must (refine wpList_append_src _ rfl (.tmp 48) (.tmp 54) _ rfl wc.heap.size 55 ic _ 8 112 Tryz.underlying56 HIC.out.1 HIC.out.2.1 HIC.out.2.2.1 HIC.out.2.2.2 rfl (by omega) (.slice Ac cs.length cc) cs.length (fCand.all cs) (by rfl) (by exact hown.out.1.alloc _) (some ⟨wr.heap.size, 0, none⟩) 1 1 (candCells ⟨u, 0⟩) (by rfl) (by exact src_new _ _ rfl 8 _ rfl rfl) (by exact HONE.out) (by unfold maxLen; omega) (by omega) (by simp; omega) ?_)
                 intro v7 w7 hown7 hg7 hat7
                 have HOWN7 := hid hown7
                 have HBL7 := hid (show Below wc.heap.size wc w7 from Below.grown (hb.out.alloc hsr _) hg7 (by simp; omega) (fun k hk => (hown.out.1.lt k hk).1))
                 clear hown7 hg7 hat7))
            · refine ⟨⟨j + 1, cs ++ [⟨u, 0⟩], by omega, by go_num, by simp; omega, hid ⟨?_, ?_, ?_⟩, HBL7⟩, by simp [intOf]; omega⟩
              · rw [fCand.all_snoc, List.length_append]
                exact HOWN7.out
              · intro d hd
                rcases List.mem_append.1 hd with hd | hd
                · exact hown.out.2.1 d hd
                · have : d = ⟨u, 0⟩ := by simpa using hd
                  subst this
                  exact HU.out
              · have hj5 : j < versL.length := hj4
                have e : u = versL[j] := by have := HVL.out; rw [List.getElem?_eq_getElem hj5] at this; exact (Option.some.inj this).symm
                rw [List.map_append, e]
                exact take_more hown.out.2.2 hj5
            · exact ⟨⟨j + 1, cs, by omega, by go_num, by omega, hid ⟨hown.out.1, hown.out.2.1, take_skip hown.out.2.2⟩, hid hb.out⟩, by simp [intOf]; omega⟩
          · have HBTW := hid (HBT3.out.below hb.out (Nat.le_refl _))
            have HGW := hid (HG3.out.below hb.out HG3.out.lt)
            have HGBW := hid (gb_below HGB3.out hb.out hsc)
            have HBSW := hid (HBS3.out.below hb.out (Nat.le_refl _))
            have HCU : Hid (CandU wr wc.heap.size ⟨nm, ⟨#[]⟩, Ac, cs.length, cc⟩ 0) := hid (by
              obtain ⟨A', c', hv, hc⟩ := own_candBlk hown.out.1 hown.out.2.1 (.inl (Vers.take hown.out.2.2))
              injection hv with e1 e2 e3
              subst e1
              exact ⟨by show cs.length ≤ 4; omega, hc⟩)
            have n0 := cell_below hb.out (Array.getElem?_eq_some_iff.1 HBS3.out.1).1 HNM.out
            have k1 : (0 : Int) ≤ ↑k := by omega
            have k2 : (↑k : Int) < 5 := by omega
            have tok3 := hid True.intro
            have tok4 := hid True.intro
            have hsl : us.length ≤ 11 := by omega
            have HONE := hid (fUnit.one ⟨nm, ⟨#[]⟩, Ac, cs.length, cc⟩)
            go_wp2_with (first
              | (at_builtin
                 clear tok3
                 go_must (
                 refine wpList_append_src _ rfl (.tmp 56) (.tmp 63) _ rfl w.heap.size 58 iu _ 3 56 Tryz.underlying23 HIU.out.1 HIU.out.2.1 HIU.out.2.2.1 HIU.out.2.2.2 rfl (by omega) (.slice Al us.length cl) us.length (fUnit.all us) (by rfl) (by exact HBTW.out.own.alloc _) (some ⟨wr.heap.size, 0, none⟩) 1 1 (fUnit.cells ⟨nm, ⟨#[]⟩, Ac, cs.length, cc⟩) (by rfl) (by exact src_new _ _ rfl 3 _ rfl rfl) (by exact HONE.out) (by unfold maxLen; omega) (by omega) (by simp; omega) ?_
                 intro v8 w8 hown8 hg8 hat8
                 obtain ⟨A8, c8, us8, rfl, hl8, hbt8, hbl8, hbs8, hg8', hgb8, hco8, hhd8⟩ := unit_app HBTW.out (one_below HBT3.out (Nat.le_refl _)) HCU.out hsc (Nat.le_trans hsc hsr) _ hg8 hown8 HBSW.out HGW.out hGl HGBW.out (Nat.le_refl _)
                 have HL8 := hid hl8
                 have hl81 : us8.length ≤ 2 * k + 2 := by omega
                 have hl82 : k + 2 ≤ us8.length := by omega
                 clear hl8
                 have HBT8 := hid hbt8
                 have HBL8 := hid hbl8
                 have HBS8 := hid hbs8
                 have HG8 := hid hg8'
                 have HGB8 := hid hgb8
                 have HCO8 := hid hco8
                 have HHD8 := hid hhd8
                 clear hbt8 hbl8 hbs8 hg8' hgb8 hco8 hhd8))
              | (go_at_call 17; clear tok4; go_must (refine (next_g bG lv xs (i' + 2) 3 _ (by have := HG8.out; rwa [show i' + 1 + 1 = i' + 2 by omega] at this) (by omega) ⟨by decide, by decide⟩).mono ?_; rintro e w9 ⟨r9, rfl, hr90, hr93, -, hg9, hgb9⟩; have HG9' : Hid (GAt w9 bG lv xs (i' + 3)) := hid (by rwa [show i' + 2 + 1 = i' + 3 by omega] at hg9); have HGB9 := hid (gb_gb HGB8.out hgb9); have HBT9 := hid (HBT8.out.gb hgb9 hGl); have HBS9 := hid (HBS8.out.gb hgb9 hGl hbv2); have hs9 := hgb9.size; have HCO9 := hid (show ∀ b n, CandBlk w8 b n 0 → bG < b → CandBlk w9 b n 0 from fun b n hc hb9 => hc.keep (gb_block hgb9 (by omega) hc.lt)); clear hg9 hgb9)))
            · have hG9 : bG < w9.heap.size := Nat.lt_of_lt_of_le hGl HGB9.out.size
              have hsl8 : us8.length ≤ 11 := by omega
              have hs90 := HGB9.out.size
              rename (r9 == 0) = true => hx0
              clear hx0
              have HCU9 := hid (show 0 < cs.length → ∃ b, Ac = some ⟨b, 0, none⟩ ∧ wc.heap.size ≤ b ∧ CandBlk w9 b cs.length 0 from fun hp => by
                obtain ⟨b, h1, h2, h3⟩ := HCU.out.2 hp
                exact ⟨b, h1, h2, HCO9.out b _ (HCO8.out b _ h3) (by omega)⟩)
              have hfix : ∃ (b9 : Nat) (vs : List Ver), 0 < cs.length → Ac = some ⟨b9, 0, none⟩ ∧ wc.heap.size ≤ b9 ∧ b9 < w9.heap.size ∧ VersD vs ∧ ∀ w' : World, w'.heap[b9]? = w9.heap[b9]? → ∀ k, k < cs.length → ∃ u : Ver, (u.B ∧ vs[k]? = some u) ∧ VerAt w' b9 (k * 8) u := by
                by_cases hp : 0 < cs.length
                · obtain ⟨b, h1, h2, h3⟩ := HCU9.out hp
                  obtain ⟨vs, ⟨-, h5⟩, h6⟩ := h3.fix
                  exact ⟨b, vs, fun _ => ⟨h1, h2, h3.lt, h5, h6⟩⟩
                · exact ⟨0, [], fun h => absurd h hp⟩
              obtain ⟨b9, vs, hfx⟩ := hfix
              have HFX := hid hfx
              clear hfx
              go_loopw [12, 13] (fun sv iv wr => ∃ (j : Nat) (ds : List CandD) (i3 : Int), j ≤ cs.length ∧ iv = .int .i64 j ∧ ds.length ≤ j ∧ i' + 3 ≤ i3 ∧ i3 ≤ i' + 3 + j ∧ Hid (wr.ownsRow w9.heap.size 55 8 sv ds.length (fCand.all ds) ∧ (∀ d ∈ ds, d.v.B) ∧ (ds.map (·.v)).Sublist (vs.take j)) ∧ Hid (GAt wr bG lv xs i3) ∧ Hid (w9.grownBy wr (some bG))) (fun _ iv _ => cs.length - (intOf iv).toNat)
              case atStart => exact ⟨0, [], i' + 3, by omega, rfl, by simp, by omega, by omega, hid ⟨⟨rfl, .inl ⟨rfl, rfl⟩⟩, (fun d hd => by cases hd), List.nil_sublist _⟩, HG9', hid (gb_refl _ _)⟩
              case round =>
                obtain ⟨j3, ds, i3, hj3, rfl, hdl, hi3, hi4, hown3, hg3, hgb3⟩ := hrel
                obtain ⟨As, cS, rfl⟩ := own_form hown3.out.1
                have hs3 := hgb3.out.size
                have HBT10 := hid (HBT9.out.gb hgb3.out hGl)
                have HBS10 := hid (HBS9.out.gb hgb3.out hGl hbv2)
                have HGB10 := hid (gb_gb HGB9.out hgb3.out)
                have hs10 := HGB10.out.size
                have tok5 := hid True.intro
                have tok6 := hid True.intro
                by_cases hjm : j3 < cs.length
                · obtain ⟨rfl, hbw, hbl9, -, hvs⟩ := HFX.out (by omega)
                  have HVS := hid hvs
                  clear hvs
                  have j1 : (0 : Int) ≤ ↑j3 := by omega
                  have j2 : (↑j3 : Int) < ↑cs.length := by omega
                  go_wp2_with (first
                    | (go_at_call 17; clear tok5; go_must (refine (next_g bG lv xs i3 3 _ hg3.out (by omega) ⟨by decide, by decide⟩).mono ?_; rintro e wd ⟨rd, rfl, -, -, -, hgd, hgbd⟩; have HGD := hid hgd; have HGBD := hid (gb_gb hgb3.out hgbd); have HOWND := hid (gb_own hown3.out.1 hgbd hG9); obtain ⟨u, ⟨hu, hvu⟩, hat⟩ := HVS.out _ (gb_block HGBD.out (by omega) hbl9) j3 hjm; have HVU := hid hvu; clear hvu; obtain ⟨c0, c1, c2, c3, c4⟩ := hat; have HU := hid hu; have HONE2 := hid (fCand.one ⟨u, 0⟩); have hsd := HGBD.out.size; clear hgd hgbd hu))
                    | (at_builtin
                       clear tok6
                       go_must (
                       refine wpList_append_src _ rfl (.tmp 81) (.tmp 88) _ rfl w9.heap.size 55 ic _ 8 112 Tryz.underlying56 HIC.out.1 HIC.out.2.1 HIC.out.2.2.1 HIC.out.2.2.2 rfl (by omega) (.slice As ds.length cS) ds.length (fCand.all ds) (by rfl) (by exact HOWND.out.alloc _) (some ⟨wd.heap.size, 0, none⟩) 1 1 (candCells ⟨u, 0⟩) (by rfl) (by exact src_new _ _ rfl 8 _ rfl rfl) (by exact HONE2.out) (by unfold maxLen; omega) (by omega) (by simp; omega) ?_
                       intro v11 w11 hown11 hg11 hat11
                       have HOWN11 := hid hown11
                       have hbl11 := app_below hsd HOWND.out (Nat.le_refl _) _ hg11
                       have HG11 := hid (HGD.out.below hbl11 hG9)
                       have HGB11 := hid (gb_below HGBD.out hbl11 (Nat.le_refl _))
                       clear hown11 hg11 hat11 hbl11)))
                  · refine ⟨⟨j3 + 1, ds ++ [⟨u, 0⟩], i3 + 1, by omega, by go_num, by simp; omega, by omega, by push_cast; omega, hid ⟨?_, ?_, ?_⟩, HG11, HGB11⟩, by simp [intOf]; omega⟩
                    · rw [fCand.all_snoc, List.length_append]
                      exact HOWN11.out
                    · intro d hd
                      rcases List.mem_append.1 hd with hd | hd
                      · exact hown3.out.2.1 d hd
                      · have : d = ⟨u, 0⟩ := by simpa using hd
                        subst this
                        exact HU.out
                    · rw [List.map_append]
                      exact sub_more hown3.out.2.2 HVU.out
                  · exact ⟨⟨j3 + 1, ds, i3 + 1, by omega, by go_num, by omega, by omega, by push_cast; omega, hid ⟨HOWND.out, hown3.out.2.1, hown3.out.2.2.trans (List.take_sublist_take_left (by omega))⟩, HGD, HGBD⟩, by simp [intOf]; omega⟩
                · have HCU3 : Hid (CandU wr w9.heap.size ⟨nm, ⟨#[102]⟩, As, ds.length, cS⟩ 0) := hid (by
                    obtain ⟨A', c', hv, hc⟩ := own_candBlk hown3.out.1 hown3.out.2.1 (by
                      by_cases hp : 0 < cs.length
                      · exact (HFX.out hp).2.2.2.1.sub hown3.out.2.2
                      · have : ds = [] := List.eq_nil_of_length_eq_zero (by omega)
                        subst this
                        exact .inl (List.nil_sublist _))
                    injection hv with e1 e2 e3
                    subst e1
                    exact ⟨by show ds.length ≤ 4; omega, hc⟩)
                  have n3 := nm_at HBS10.out.1 hk5
                  have HONE3 := hid (fUnit.one ⟨nm, ⟨#[102]⟩, As, ds.length, cS⟩)
                  have nq : wr.cell? ⟨w.heap.size, k, none⟩ = some (.string nm) := by
                    rw [← n0]
                    exact (cell_of_row _ _ _ _ _ _ HBS10.out.1).trans (cell_of_row _ _ _ _ _ _ HBSW.out.1).symm
                  clear n3
                  go_wp2_with (first
                    | (at_builtin
                       clear tok6
                       go_must (
                       refine wpList_append_src _ rfl (.tmp 90) (.tmp 97) _ rfl w.heap.size 58 iu _ 3 56 Tryz.underlying23 HIU.out.1 HIU.out.2.1 HIU.out.2.2.1 HIU.out.2.2.2 rfl (by omega) (.slice A8 us8.length c8) us8.length (fUnit.all us8) (by rfl) (by exact HBT10.out.own.alloc _) (some ⟨wr.heap.size, 0, none⟩) 1 1 (fUnit.cells ⟨nm, ⟨#[102]⟩, As, ds.length, cS⟩) (by rfl) (by exact src_new _ _ rfl 3 _ rfl rfl) (by exact HONE3.out) (by unfold maxLen; omega) (by omega) (by simp; omega) ?_
                       intro v12 w12 hown12 hg12 hat12
                       obtain ⟨A12, c12, us12, rfl, hl12, hbt12, hbl12, hbs12, hg12', hgb12, hco12, hhd12⟩ := unit_app HBT10.out (one_below HBT9.out (Nat.le_refl _)) HCU3.out (by omega) (by omega) _ hg12 hown12 HBS10.out hg3.out hGl HGB10.out (Nat.le_refl _)
                       have HL12 := hid hl12
                       have hl121 : us12.length ≤ 2 * k + 3 := by omega
                       have hl122 : k + 3 ≤ us12.length := by omega
                       clear hl12
                       have HBT12 := hid hbt12
                       have HBS12 := hid hbs12
                       have HG12 := hid hg12'
                       have HGB12 := hid hgb12
                       have HHD12 := hid hhd12
                       clear hown12 hg12 hat12 hbt12 hbl12 hbs12 hg12' hgb12 hco12 hhd12)))
                  exact ⟨⟨k + 1, us12, i3, by omega, by go_num, by omega, by omega, by omega, by push_cast; omega, HBT12, hid (by rw [HHD12.out, HHD8.out]; exact hhd.out.two HNL.out rfl rfl rfl), HG12, HGB12, HBS12⟩, by simp [intOf]; omega⟩
            · exact ⟨⟨k + 1, us8, i' + 3, by omega, by go_num, by omega, by omega, by omega, by push_cast; omega, HBT9, hid (by rw [HHD8.out]; exact hhd.out.one HNL.out rfl), HG9', HGB9, HBS9⟩, by simp [intOf]; omega⟩
            · exact ⟨⟨k + 1, us8, i' + 2, by omega, by go_num, by omega, by omega, by omega, by push_cast; omega, HBT8, hid (by rw [HHD8.out]; exact hhd.out.one HNL.out rfl), hid (by have := HG8.out; rwa [show i' + 1 + 1 = i' + 2 by omega] at this), HGB8, HBS8⟩, by simp [intOf]; omega⟩
      · go_ret
        exact ⟨Al, cl, us, i' + 1, rfl, HBT2.out, by omega, by omega, hhd.out.named hk, HG2.out, by omega, by omega, HGB2.out⟩
    · have z5 : decide (k < 5) = false := decide_eq_false hk5
      have z5' : decide ((k : Int) < 5) = false := decide_eq_false (by omega)
      have tok := hid True.intro
      go_wp2_with (first
        | (go_at_call 17; clear tok; go_must (refine (next_g bG lv xs i' most _ hg.out (by omega) ⟨by omega, by omega⟩).mono ?_; rintro e w2 ⟨r, rfl, hr0, hr1, -, hg2, hgb2⟩; have hr2 : r < most := hr1 (by omega); clear hr1; have HG2 := hid hg2; have HGB2 := hid (gb_gb hgb.out hgb2); have HBT2 := hid (hbt.out.gb hgb2 hGl); clear hg2 hgb2)))
      all_goals go_ret
      all_goals exact ⟨Al, cl, us, i' + 1, rfl, HBT2.out, by omega, by omega, hhd.out.named hk, HG2.out, by omega, by omega, HGB2.out⟩
end
end Go.Proofs.YthneiolcljnbeaaGreatDoor
