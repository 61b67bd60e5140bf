import Derived.Test.YtmbjeppnamhgiaaGreatzBase
import Derived.Laws.MakeOwn
import Derived.Test.YtmbjeppnamhgiaaGreatT12
import Derived.Test.YtmbjeppnamhgiaaGreatzT1
import Derived.Outline
section
/- An array that the call makes: its block whole. No program stands here. -/
namespace Go.Proofs.YtmbjeppnamhgiaaGreat
open Go Go.RowKit

/-- Block b holds just these cells. -/
def Arr (e : TypeId) (w : World) (b : Nat) (xs : List Value) : Prop := w.heap[b]? = some (.cells xs.toArray e (0, 0))
section
variable {e : TypeId} {w w' : World} {b : Nat} {xs : List Value}
theorem Arr.cell (h : Arr e w b xs) {i : Nat} (hi : i < xs.length) : w.cell? ⟨b, i, none⟩ = some xs[i] := by
  unfold Arr at h
  rw [cell_of_row w b i _ e (0, 0) h]
  simp [hi]
theorem Arr.free (h : Arr e w b xs) (o : Nat) : w.frozen? ⟨b, o, none⟩ = false := frozen_of_row w b o _ e h
theorem Arr.lt (h : Arr e w b xs) : b < w.heap.size := (Array.getElem?_eq_some_iff.1 h).1
theorem Arr.keep (h : Arr e w b xs) (hk : w'.heap[b]? = w.heap[b]?) : Arr e w' b xs := hk.trans h
theorem Arr.below {B : Nat} (h : Arr e w b xs) (hb : Below B w w') (hB : b < B) : Arr e w' b xs := h.keep (hb.block b hB)
theorem Arr.set (h : Arr e w b xs) (i : Nat) (x : Value) : Arr e (w.setCell ⟨b, i, none⟩ x) b (xs.set i x) := by
  unfold Arr at h ⊢
  rw [heap_setCell_same w b _ _ e _ h]
  simp
theorem Arr.new (e : TypeId) (w : World) (xs : List Value) : Arr e (w.alloc (.cells xs.toArray e)) w.heap.size xs := heap_alloc_new w _
theorem Arr.alloc (h : Arr e w b xs) (o : Obj) : Arr e (w.alloc o) b xs := h.keep (Below.heap_alloc w o b h.lt)
theorem Arr.other (h : Arr e w b xs) {p : Addr} (hp : b ≠ p.block) (x : Value) : Arr e (w.setCell p x) b xs := h.keep (heap_setCell_other _ _ _ _ hp)
theorem Arr.congr {ys : List Value} (h : Arr e w b xs) (he : xs = ys) : Arr e w b ys := he ▸ h
end
/-- n zero cells. -/
def zeros (n : Nat) (z : Value) : Array Value := (List.replicate n z).toArray
theorem run_make_arr {P : Program} {t e : TypeId} {i : TypeInfo} {z : Value} {bytes : Nat} (ht : P.underlying t = some (.slice e)) (hi : P.info? e = some i) (hz : i.zero = some z) (hsize : i.size = 1) (hby : i.bytes = bytes) (hzc : z.cells = #[z])
    (n : Nat) (hb : (bytes : Int) * n ≤ 281474976710656) (hn : (n : Int) ≤ 9223372036854775807) (w : World) :
    (Instr.makeSlice t (.int .i64 n) (.int .i64 n)).run P w = .ok (.slice (some ⟨w.heap.size, 0, none⟩) n n) (w.alloc (.cells (zeros n z) e)) := by
  have hr := run_make w t e i z ht hi hz .i64 .i64 n n (by omega) (Int.le_refl _) (by rw [hby]; exact hb) hn
  rw [hr]
  have hc : madeCells z.cells ((n : Int).toNat * i.size) = zeros n z := by
    rw [hsize, hzc]
    apply Array.ext_getElem?
    intro k
    simp only [madeCells, zeros, Int.toNat_natCast, Nat.mul_one, List.getElem?_toArray, List.getElem?_replicate]
    by_cases hk : k < n <;> simp [hk, Nat.mod_one]
  rw [hc]
  simp
theorem Arr.zeros (e : TypeId) (w : World) (n : Nat) (z : Value) : Arr e (w.alloc (.cells (zeros n z) e)) w.heap.size (List.replicate n z) := heap_alloc_new w _
end Go.Proofs.YtmbjeppnamhgiaaGreat
end
section
/- Contract: trail.When. -/
namespace Go.Proofs.YtmbjeppnamhgiaaGreat
open Go Go.RowKit

theorem andn_nat {h m : Nat} (hh : h ≤ 31) (hm : m ≤ 31) : (bits .andNot .i64 (h : Int) (m : Int) == 0) = decide (h &&& m = h) := by
  rw [bandn, nm_nat (by omega), nm_nat (by omega)]
set_option maxHeartbeats 1000000 in
theorem ptells_any (h m : Nat) (w : World) (hh : h ≤ 31) (hm : m ≤ 31) :
    Calls Tryz.prog 72 #[.int .i64 h, .int .i64 m] w fun e w' => e = .returned (.int .i64 (tellsN h m)) ∧ w' = w := by
  have hb := and_nat hh hm
  have hn := andn_nat hh hm
  have HT : Hid (tellsN h m = if h &&& m = h then 2 else if h &&& m = 0 then 0 else 1) := hid rfl
  generalize h &&& m = r at hb hn HT
  go_enter Tryz.func72, Tryz.ntmps72
  by_cases h1 : r = h
  · have z1 : (bits .andNot .i64 (h : Int) (m : Int) == 0) = true := by rw [hn, decide_eq_true h1]
    have HN := hid (show tellsN h m = 2 by rw [HT.out, if_pos h1])
    clear hn h1
    go_wp2
    all_goals go_ret
    exact ⟨ret_int HN.out.symm, rfl⟩
  · have z1 : (bits .andNot .i64 (h : Int) (m : Int) == 0) = false := by rw [hn, decide_eq_false h1]
    by_cases h2 : r = 0
    · have z2 : ((r : Int) == 0) = true := by rw [beq_iff_eq]; omega
      have HN := hid (show tellsN h m = 0 by rw [HT.out, if_neg h1, if_pos h2])
      clear h1 h2 hn
      go_wp2
      all_goals go_ret
      exact ⟨ret_int HN.out.symm, rfl⟩
    · have z2 : ((r : Int) == 0) = false := by rw [beq_eq_false_iff_ne]; omega
      have HN := hid (show tellsN h m = 1 by rw [HT.out, if_neg h1, if_neg h2])
      clear h1 h2 hn
      go_wp2
      all_goals go_ret
      exact ⟨ret_int HN.out.symm, rfl⟩
/-- The unit of a term of an incompatibility. -/
def unitA (ns : List Nat) (M : Nat → Nat) (k : Nat) : Nat := (((canon ns M)[k]?.getD default).unit).toNat
section
variable {ns : List Nat} {M : Nat → Nat} {l : List StepN} {n : Nat}
theorem unitA_at {k : Nat} (hk : k < (canon ns M).length) : unitA ns M k < ns.length ∧ (canon ns M)[k] = ⟨(unitA ns M k : Int), (M (unitA ns M k) : Int)⟩ := by
  obtain ⟨u, hu, he⟩ := canon_at hk
  have : unitA ns M k = u := by unfold unitA; rw [List.getElem?_eq_getElem hk, he]; rfl
  rw [this]
  exact ⟨hu, he⟩
theorem tells_two (h m : Nat) : (tellsN h m == 2) = decide (inN h m) := by
  unfold tellsN
  by_cases e : inN h m
  · rw [if_pos (show h &&& m = h from e), decide_eq_true e]; rfl
  · rw [if_neg (show ¬ h &&& m = h from e), decide_eq_false e]
    split <;> rfl
theorem sure_units (hl : LeftOk ns l) : Sure ns l M ↔ ∀ k, k < (canon ns M).length → inN (leftN ns l (unitA ns M k)) (M (unitA ns M k)) := by
  rw [sure_canon hl]
  constructor
  · intro h k hk
    have h1 := unitA_at hk
    exact h k _ hk (by rw [h1.2]) h1.1
  · intro h k u hk he hu
    have h1 := unitA_at hk
    have : unitA ns M k = u := by rw [h1.2] at he; dsimp only at he; omega
    rw [← this]
    exact h k hk
theorem left_take (h : n < l.length) (u : Nat) : leftN ns (l.take (n + 1)) u = if l[n].u = u then l[n].m else leftN ns (l.take n) u := by rw [take_snoc h, left_snoc]
end
/-- What was kept of the units ahead of a place is behind one step more. -/
def MixIs (ns : List Nat) (l : List StepN) (M : Nat → Nat) (n j : Nat) (X : List Int) : Prop :=
  X.length = (canon ns M).length ∧ ∀ i, (h : i < X.length) → X[i] = if i < j then (leftN ns (l.take n) (unitA ns M i) : Int) else (leftN ns (l.take (n - 1)) (unitA ns M i) : Int)
theorem MixIs.next {ns : List Nat} {l : List StepN} {M : Nat → Nat} {n : Nat} {X : List Int} (h : MixIs ns l M n (canon ns M).length X) : MixIs ns l M (n + 1) 0 X :=
  ⟨h.1, fun i hi => by rw [h.2 i hi, if_pos (by rw [← h.1]; exact hi), if_neg (by omega)]; rfl⟩
theorem MixIs.keep {ns : List Nat} {l : List StepN} {M : Nat → Nat} {n j : Nat} {X : List Int} (h : MixIs ns l M n j X) (he : leftN ns (l.take n) (unitA ns M j) = leftN ns (l.take (n - 1)) (unitA ns M j)) : MixIs ns l M n (j + 1) X :=
  ⟨h.1, fun i hi => by
    rw [h.2 i hi]
    by_cases e : i = j
    · subst e; rw [if_neg (by omega), if_pos (by omega), he]
    · by_cases e2 : i < j
      · rw [if_pos e2, if_pos (by omega)]
      · rw [if_neg e2, if_neg (by omega)]⟩
theorem MixIs.set {ns : List Nat} {l : List StepN} {M : Nat → Nat} {n j : Nat} {X : List Int} {x : Int} (h : MixIs ns l M n j X) (he : x = (leftN ns (l.take n) (unitA ns M j) : Int)) : MixIs ns l M n (j + 1) (X.set j x) :=
  ⟨by rw [List.length_set]; exact h.1, fun i hi => by
    rw [List.length_set] at hi
    rw [List.getElem_set]
    by_cases e : j = i
    · subst e; rw [if_pos rfl, if_pos (by omega), he]
    · rw [if_neg e, h.2 i hi]
      by_cases e2 : i < j
      · rw [if_pos e2, if_pos (by omega)]
      · rw [if_neg e2, if_neg (by omega)]⟩
theorem cell_far2 {w : World} {b o b' o' : Nat} {x : Value} (hb : b' ≠ b) : (w.setCell ⟨b, o, none⟩ x).cell? ⟨b', o', none⟩ = w.cell? ⟨b', o', none⟩ := World.cell?_of_block (heap_setCell_other _ _ _ _ hb)
/-- Integers of the call's own, in one block. -/
theorem ints_facts {e : TypeId} {B b cl : Nat} {w : World} {X : List Int} (h : OwnF fInt e B w (.slice (some ⟨b, 0, none⟩) cl cl) X) (hX : X.length = cl) {k : Nat} (hk : k < cl) : w.cell? ⟨b, k, none⟩ = some (.int .i64 (X[k]'(by omega))) ∧ ∀ o, w.frozen? ⟨b, o, none⟩ = false := by
  subst hX
  obtain ⟨g, c, e1, _, _, e2⟩ := h.block (by omega)
  injection e1 with e1 _ _
  injection e1 with e1
  injection e1 with e1
  subst e1
  exact ⟨int_cell h hk, e2⟩
set_option maxRecDepth 100000 in
set_option maxHeartbeats 8000000 in
theorem when_any (v lv iv : Value) (ns : List Nat) (db : Nat → Nat → Nat) (D : Nat) (l : List StepN) (M : Nat → Nat) (w : World) (h : UniRd w (Lt w.heap.size) v ns) (ho : NsOk ns) (hl : SliceRd fStep.ty w (Lt w.heap.size) lv l) (hll : l.length ≤ 900) (ht : TrOk ns db D l) (hi : SliceRd tTerm w (Lt w.heap.size) iv (canon ns M)) (hM : IncOk ns M) :
    Calls Tryz.prog 45 #[v, lv, iv] w fun e w' => ∃ r : Int, e = .returned (.int .i64 r) ∧ ((r = -1 ∧ ∀ k, k ≤ l.length → ¬ Sure ns (l.take k) M) ∨ ∃ n : Nat, r = (n : Int) ∧ First ns l M n) ∧ Below w.heap.size w w' := by
  have HH := hid h
  have HO := hid ho
  have HT := hid ht
  have HM := hid hM
  have h11 := ho.hi
  obtain ⟨g, cap0, rfl, hg, -⟩ := h
  obtain ⟨Ai, ci, rfl, hci, hcim, hit⟩ := hi.terms
  obtain ⟨A, cap, rfl, hca, hcm, hst⟩ := hl.steps
  unfold maxLen at hcm hcim
  have HIT := hid hit
  have HST := hid hst
  have hcl := canon_len (ns := ns) M
  obtain ⟨cl, hcle⟩ : ∃ cl, (canon ns M).length = cl := ⟨_, rfl⟩
  have HCL := hid hcle
  obtain ⟨ln, hln⟩ : ∃ ln, l.length = ln := ⟨_, rfl⟩
  have HLN := hid hln
  rw [hcle] at hcl hci ⊢
  rw [hln] at hll hca ⊢
  obtain ⟨ii, hii⟩ := info_parts int_info
  have hmk := run_make_arr (P := Tryz.prog) Tryz.underlying22 hii.1 hii.2.1 hii.2.2.1 hii.2.2.2 rfl cl (by omega) (by omega)
  clear hii h11 ho ht hM hi hl hit hst hcle
  go_enter Tryz.func45, Tryz.ntmps45
  go_wp2_with fail
  clear hmk
  obtain ⟨w0, hw0⟩ : ∃ w0 : World, w0 = w.alloc (.cells #[.slice (some ⟨g, 0, none⟩) ns.length cap0] 26) := ⟨_, rfl⟩
  have hs0 : w0.heap.size = w.heap.size + 1 := by rw [hw0]; simp
  obtain ⟨w1, hw1⟩ : ∃ w1 : World, w1 = w0.alloc (.cells (zeros cl (.int .i64 0)) 3) := ⟨_, rfl⟩
  have hown := own_new (f := fInt) (e := 3) (w := w0) (l := List.replicate cl 0) (cs := zeros cl (.int .i64 0)) (by rw [ints_all]; simp [zeros]) (fun x hx => by rw [List.eq_of_mem_replicate hx]; exact ⟨by decide, by decide⟩) (by rw [List.length_replicate]; unfold maxLen; omega)
  rw [List.length_replicate, hs0, ← hw1] at hown
  have hb0 : Below w.heap.size w w0 := hw0 ▸ balloc (b0 w) _
  have hb1 : Below w.heap.size w w1 := hb0.trans ((hw1 ▸ balloc (b0 w0) _ : Below w0.heap.size w0 w1).mono hb0.size)
  have q0 : w1.cell? ⟨w.heap.size, 0, none⟩ = some (.slice (some ⟨g, 0, none⟩) ns.length cap0) := by rw [hw1, hw0]; exact alloc2_old rfl
  have hs1 : w1.heap.size = w.heap.size + 2 := by rw [hw1]; simp [hs0]
  have HOWN := hid hown
  have HB1 := hid hb1
  rw [hw0] at hw1
  rw [← hw1]
  clear hw1 hw0 hs0 hb0 hb1 hown
  go_loopw [19] (fun iv wr => ∃ (k : Nat) (X : List Int), k ≤ cl ∧ iv = .int .i64 k ∧ Hid (OwnF fInt 3 (w.heap.size + 1) wr (.slice (some ⟨w.heap.size + 1, 0, none⟩) cl cl) X) ∧ Hid (Below (w.heap.size + 1) w1 wr) ∧ Hid (X.length = cl ∧ ∀ j, (h : j < X.length) → j < k → X[j] = (fullN ns (unitA ns M j) : Int))) (fun iv _ => cl - (intOf iv).toNat)
  case atStart => exact ⟨0, _, Nat.zero_le _, rfl, HOWN, hid (Below.refl _ _), hid ⟨List.length_replicate, fun j _ hj => absurd hj (by omega)⟩⟩
  case round =>
    obtain ⟨k, X, hk, rfl, how, hb, hX⟩ := hrel
    have hbw : Below w.heap.size w wr := HB1.out.trans (hb.out.mono (by omega))
    have HBW := hid hbw
    have hsr : w.heap.size + 2 ≤ wr.heap.size := by rw [← hs1]; exact hb.out.size
    have q1 := cell_below hb.out (by omega) q0
    have qa := fun o => cell_below (balloc (b0 wr) o) (show w.heap.size < wr.heap.size by omega) q1
    by_cases hlt : k < cl
    · obtain ⟨gi, oi, hA, hF, c0, c1, -, -⟩ := HIT.out k (by rw [HCL.out]; exact hlt)
      obtain ⟨huk, hek⟩ := unitA_at (ns := ns) (M := M) (k := k) (by rw [HCL.out]; exact hlt)
      subst hA
      rw [hek] at c0 c1
      have d0 := cell_below hbw hF c0
      have d1 := cell_below hbw hF c1
      dsimp only at d0 d1
      have HXK := hX
      have HUK := hid huk
      have hu64 : (unitA ns M k : Int) ≤ 1000 := by have := HO.out.hi; omega
      have hfu := fullF_nat (ns := ns) (unitA ns M k)
      have HFU := hid (show fullN ns (unitA ns M k) ≤ 31 from fullN_le HO.out _)
      obtain ⟨uk, huke⟩ : ∃ uk, unitA ns M k = uk := ⟨_, rfl⟩
      rw [huke] at d0 d1 hfu HFU hu64
      have HUE := hid huke
      have i1 : (0 : Int) ≤ ↑k := by omega
      have i2 : (↑k : Int) < ↑cl := by omega
      clear c0 c1 hek huk huke
      go_wp2_with (go_at_call 71; go_must (refine (full_any _ ns uk _ _ (uni_later HH.out (balloc HBW.out _)) HO.out (fun _ h => h)).mono ?_; rintro e w2 ⟨rfl, hb2⟩; rw [hfu]; have HB2 := hid (bstep (Below.refl wr.heap.size wr |>.alloc (Nat.le_refl _) (.cells #[.int .i64 uk, .int .i64 (M uk)] 54)) hb2); have HOW2 := hid (how.out.below HB2.out (Nat.le_refl _)); obtain ⟨x0, xf⟩ := ints_facts HOW2.out hX.out.1 hlt; have hz2 := HB2.out.size; clear hb2))
      exact ⟨⟨k + 1, X.set k (fullN ns uk : Int), by omega, by go_num, hid (ints_set HOW2.out rfl (by rw [hX.out.1]; exact hlt) _ (i64_small HFU.out)), hid ((hb.out.trans (HB2.out.mono (by omega))).setCell (p := ⟨w.heap.size + 1, k, none⟩) (Nat.le_refl _) _), hid ⟨by rw [List.length_set]; exact hX.out.1, fun j hj hjk => by
        rw [List.length_set] at hj
        rw [List.getElem_set]
        by_cases e : k = j
        · subst e; rw [if_pos rfl, HUE.out]
        · rw [if_neg e]; exact hX.out.2 j hj (by omega)⟩⟩, by simp [intOf]; omega⟩
    · have hk2 : k = cl := by omega
      have HMIX : Hid (MixIs ns l M 0 0 X) := hid ⟨by rw [hX.out.1, HCL.out], fun i hi => by
        rw [hX.out.2 i hi (by rw [hX.out.1] at hi; omega), if_neg (by omega)]; rfl⟩
      have HOWX := how
      have HBX := hb
      have ln1 : IntKind.i64.wrap ((ln : Int) + 1) = (ln : Int) + 1 := IntWalk.i64_in _ (by omega)
      clear how hb hbw hX hlt
      subst hk2
      go_wp2_with fail
      go_loopw [35] (fun iv wr => ∃ (n : Nat) (X : List Int), n ≤ ln + 1 ∧ iv = .int .i64 n ∧ Hid (OwnF fInt 3 (w.heap.size + 1) wr (.slice (some ⟨w.heap.size + 1, 0, none⟩) k k) X) ∧ Hid (Below (w.heap.size + 1) w1 wr) ∧ Hid (MixIs ns l M n 0 X) ∧ Hid (∀ m, m < n → ¬ Sure ns (l.take m) M)) (fun iv _ => ln + 1 - (intOf iv).toNat)
      case atStart => exact ⟨0, X, Nat.zero_le _, rfl, HOWX, HBX, HMIX, hid (fun m hm => absurd hm (by omega))⟩
      case round =>
        obtain ⟨n, X, hn, rfl, how, hb, hX, hno⟩ := hrel
        have hbw : Below w.heap.size w wr := HB1.out.trans (hb.out.mono (by omega))
        have HBW := hid hbw
        by_cases hlt : n < ln + 1
        · have n1 : (↑n : Int) < ↑ln + 1 := by omega
          have hlo : LeftOk ns (l.take n) := (HT.out.take n).leftOk HO.out
          have HLO := hid hlo
          have HL31 := hid (fun u (hu : u < ns.length) => hlo.le HO.out hu)
          have HL31P := hid (fun u (hu : u < ns.length) => ((HT.out.take (n - 1)).leftOk HO.out).le HO.out hu)
          have HLNZ := hid (fun u (hu : u < ns.length) => ((HT.out.take (n - 1)).left HO.out u hu).1)
          clear hlo
          go_wp2_with fail
          go_loopw [11, 40] (fun sv iv wr => ∃ (j : Nat) (X : List Int) (b : Bool), j ≤ k ∧ sv = .bool b ∧ iv = .int .i64 j ∧ Hid (OwnF fInt 3 (w.heap.size + 1) wr (.slice (some ⟨w.heap.size + 1, 0, none⟩) k k) X) ∧ Hid (Below (w.heap.size + 1) w1 wr) ∧ Hid (MixIs ns l M n j X) ∧ Hid (b = true ↔ ∀ i, i < j → inN (leftN ns (l.take n) (unitA ns M i)) (M (unitA ns M i)))) (fun _ iv _ => k - (intOf iv).toNat)
          case atStart => exact ⟨0, X, true, Nat.zero_le _, rfl, rfl, how, hb, hX, hid ⟨fun _ i hi => absurd hi (by omega), fun _ => rfl⟩⟩
          case round =>
            obtain ⟨j, X, b, hj, rfl, rfl, how, hb, hX, hbb⟩ := hrel
            have hbw : Below w.heap.size w wr := HB1.out.trans (hb.out.mono (by omega))
            have HBW := hid hbw
            have hsr : w.heap.size + 2 ≤ wr.heap.size := by rw [← hs1]; exact hb.out.size
            by_cases hltj : j < k
            · obtain ⟨gi, oi, hA, hF, c0, c1, -, -⟩ := HIT.out j (by rw [HCL.out]; exact hltj)
              obtain ⟨huk, hek⟩ := unitA_at (ns := ns) (M := M) (k := j) (by rw [HCL.out]; exact hltj)
              subst hA
              rw [hek] at c0 c1
              have d0 := cell_below hbw hF c0
              have d1 := cell_below hbw hF c1
              dsimp only at d0 d1
              have hxl : X.length = k := hX.out.1.trans HCL.out
              have hxj := hX.out.2 j (by rw [hxl]; exact hltj)
              rw [if_neg (by omega)] at hxj
              have hnz := HLNZ.out _ huk
              have hl31 := HL31.out _ huk
              have hp31 := HL31P.out _ huk
              have hM31 := HM.out.le HO.out _ huk
              have HKEEP := hid (fun he => hX.out.keep (j := j) he)
              have HSETX := hid (fun (x : Int) he => hX.out.set (j := j) (x := x) he)
              have HTK := hid (fun (p : Nat) (h : p < l.length) => left_take (ns := ns) h (unitA ns M j))
              have HBB := hid (show (decide (inN (leftN ns (l.take n) (unitA ns M j)) (M (unitA ns M j))) && b) = true ↔ ∀ i, i < j + 1 → inN (leftN ns (l.take n) (unitA ns M i)) (M (unitA ns M i)) from ⟨fun h i hi => by
                rw [Bool.and_eq_true, decide_eq_true_eq] at h
                by_cases e : i = j
                · subst e; exact h.1
                · exact hbb.out.1 h.2 i (by omega), fun h => by
                rw [Bool.and_eq_true, decide_eq_true_eq]
                exact ⟨h j (by omega), hbb.out.2 fun i hi => h i (by omega)⟩⟩)
              obtain ⟨xj, hxje⟩ : ∃ xj, X[j]'(by rw [hxl]; exact hltj) = xj := ⟨_, rfl⟩
              rw [hxje] at hxj
              obtain ⟨x0, xf⟩ := ints_facts how.out hxl hltj
              rw [hxje] at x0
              generalize hun : unitA ns M j = uk at *
              generalize hLn : leftN ns (l.take n) uk = Ln at *
              generalize hLp : leftN ns (l.take (n - 1)) uk = Lp at *
              generalize hMu : M uk = mu at *
              have i1 : (0 : Int) ≤ ↑j := by omega
              have i2 : (↑j : Int) < ↑k := by omega
              have HXJ := hid (hxje.trans hxj)
              clear c0 c1 hek huk hxje
              have HOKS := HST
              have hsplit : (n = 0 ∧ Ln = Lp) ∨ (∃ p a mm : Nat, n = p + 1 ∧ p < ln ∧ Ln = Lp ∧ a ≠ uk ∧ ∃ gs os, A = some ⟨gs, os, none⟩ ∧ gs < w.heap.size ∧ w.cell? ⟨gs, os + p * 4, none⟩ = some (.int .i64 a) ∧ w.cell? ⟨gs, os + p * 4 + 1, none⟩ = some (.int .i64 mm)) ∨ (∃ p mm : Nat, n = p + 1 ∧ p < ln ∧ Ln = mm ∧ ∃ gs os, A = some ⟨gs, os, none⟩ ∧ gs < w.heap.size ∧ w.cell? ⟨gs, os + p * 4, none⟩ = some (.int .i64 uk) ∧ w.cell? ⟨gs, os + p * 4 + 1, none⟩ = some (.int .i64 mm)) := by
                by_cases h0 : n = 0
                · subst h0; exact .inl ⟨rfl, hLn.symm.trans hLp⟩
                · obtain ⟨p, rfl⟩ : ∃ p, n = p + 1 := ⟨n - 1, by omega⟩
                  have hp : p < l.length := by rw [HLN.out]; omega
                  obtain ⟨gs, os, hA, hF2, ⟨e0, e1, _, _⟩, _⟩ := HST.out p hp
                  have h2 := HTK.out p hp
                  rw [hLn] at h2
                  have h3 : leftN ns (l.take p) uk = Lp := hLp
                  by_cases hu : l[p].u = uk
                  · rw [if_pos hu] at h2
                    rw [hu] at e0
                    exact .inr (.inr ⟨p, _, rfl, by rw [← HLN.out]; exact hp, h2, gs, os, hA, hF2, e0, e1⟩)
                  · rw [if_neg hu, h3] at h2
                    exact .inr (.inl ⟨p, _, _, rfl, by rw [← HLN.out]; exact hp, h2, hu, gs, os, hA, hF2, e0, e1⟩)
              have HIN := hid (tells_two Ln mu)
              have HUNX := hid hun
              have HLNX := hid hLn
              clear HTK HOKS hLn hLp
              go_wp2_with fail
              obtain ⟨wa, hwa⟩ : ∃ wa : World, wa = wr.alloc (.cells #[.int .i64 uk, .int .i64 mu] 54) := ⟨_, rfl⟩
              have y0 : wa.cell? ⟨wr.heap.size, 0, none⟩ = some (.int .i64 uk) := by rw [hwa, alloc_cell]; rfl
              have y1 : wa.cell? ⟨wr.heap.size, 1, none⟩ = some (.int .i64 mu) := by rw [hwa, alloc_cell]; rfl
              have HOWA : Hid (OwnF fInt 3 (w.heap.size + 1) wa (.slice (some ⟨w.heap.size + 1, 0, none⟩) k k) X) := hid (hwa ▸ how.out.alloc _)
              have hba : Below (w.heap.size + 1) w1 wa := hwa ▸ hb.out.alloc (by omega) _
              have hbaw : Below w.heap.size w wa := HB1.out.trans (hba.mono (by omega))
              have hsa : wr.heap.size < wa.heap.size := by rw [hwa]; simp
              have HBA := hid hba
              obtain ⟨xa, xfa⟩ := ints_facts HOWA.out hxl hltj
              rw [HXJ.out] at xa
              rw [← hwa]
              clear hwa x0 xf
              rcases hsplit with ⟨rfl, hLL⟩ | ⟨p, a, mm, rfl, hp, hLL, hne, gs, os, rfl, hF2, e0, e1⟩ | ⟨p, mm, rfl, hp, rfl, gs, os, rfl, hF2, e0, e1⟩
              case' inl =>
                have HX2 := hid (HKEEP.out hLL)
                clear hLL
                have lx := later_cell (show w.heap.size + 1 < wa.heap.size by omega) xa
                have ly := later_cell hsa y0
                (refine wp_region_later (by kernel_rfl) (by kernel_rfl) ?_; (repeat (go_big_quiet_step ((fail)))); refine wpQuiet_nil ?_; rintro _ ⟨⟨w8, hb8⟩, rfl⟩)
                rename_i w8
                go_wp2_with fail
                obtain ⟨wb, hwb⟩ : ∃ wb : World, wb = w8 := ⟨_, rfl⟩
                obtain ⟨X2, hX2⟩ : ∃ X2, X2 = X := ⟨_, rfl⟩
                have HOWB : Hid (OwnF fInt 3 (w.heap.size + 1) wb (.slice (some ⟨w.heap.size + 1, 0, none⟩) k k) X2) := hid (by rw [hwb, hX2]; exact HOWA.out.below hb8 (Nat.le_refl _))
                have HBB2 : Hid (Below (w.heap.size + 1) w1 wb) := hid (hwb ▸ HBA.out.trans (hb8.mono (by omega)))
                have z1 : wb.cell? ⟨wr.heap.size, 1, none⟩ = some (.int .i64 mu) := by rw [hwb]; exact cell_below hb8 hsa y1
                have hsb : wr.heap.size < wb.heap.size := by rw [hwb]; exact Nat.lt_of_lt_of_le hsa hb8.size
                rw [← hX2] at HX2
                rw [← hwb]
                clear hX2 hwb hb8 lx ly
              case' inr.inl =>
                have HX2 := hid (HKEEP.out hLL)
                clear hLL
                have v0 := later_cell (show gs < wa.heap.size by omega) (cell_below hbaw hF2 e0)
                have n2 : (0 : Int) < ↑(p + 1) := by omega
                have n3 : ((p + 1 : Nat) : Int) - 1 = (p : Int) := by omega
                have n4 : (0 : Int) ≤ ↑p := by omega
                have n5 : (↑p : Int) < ↑ln := by omega
                have zz : ((a : Int) == (uk : Int)) = false := beq_eq_false_iff_ne.2 (by omega)
                have lx := later_cell (show w.heap.size + 1 < wa.heap.size by omega) xa
                have ly := later_cell hsa y0
                (refine wp_region_later (by kernel_rfl) (by kernel_rfl) ?_; (repeat (go_big_quiet_step ((fail)))); refine wpQuiet_nil ?_; rintro _ ⟨⟨w8, hb8⟩, rfl⟩)
                rename_i w8
                go_wp2_with fail
                obtain ⟨wb, hwb⟩ : ∃ wb : World, wb = w8 := ⟨_, rfl⟩
                obtain ⟨X2, hX2⟩ : ∃ X2, X2 = X := ⟨_, rfl⟩
                have HOWB : Hid (OwnF fInt 3 (w.heap.size + 1) wb (.slice (some ⟨w.heap.size + 1, 0, none⟩) k k) X2) := hid (by rw [hwb, hX2]; exact HOWA.out.below hb8 (Nat.le_refl _))
                have HBB2 : Hid (Below (w.heap.size + 1) w1 wb) := hid (hwb ▸ HBA.out.trans (hb8.mono (by omega)))
                have z1 : wb.cell? ⟨wr.heap.size, 1, none⟩ = some (.int .i64 mu) := by rw [hwb]; exact cell_below hb8 hsa y1
                have hsb : wr.heap.size < wb.heap.size := by rw [hwb]; exact Nat.lt_of_lt_of_le hsa hb8.size
                rw [← hX2] at HX2
                rw [← hwb]
                clear hX2 hwb hb8 lx ly v0
              case' inr.inr =>
                have v0 := later_cell (show gs < wa.heap.size by omega) (cell_below hbaw hF2 e0)
                have n2 : (0 : Int) < ↑(p + 1) := by omega
                have n3 : ((p + 1 : Nat) : Int) - 1 = (p : Int) := by omega
                have n4 : (0 : Int) ≤ ↑p := by omega
                have n5 : (↑p : Int) < ↑ln := by omega
                have zz : ((uk : Int) == (uk : Int)) = true := beq_self_eq_true _
                have zn : ((Lp : Int) != 0) = true := by simp; omega
                have lx := later_cell (show w.heap.size + 1 < wa.heap.size by omega) xa
                have ly := later_cell hsa y0
                (refine wp_region_later (by kernel_rfl) (by kernel_rfl) ?_; (repeat (go_big_quiet_step ((fail)))); refine wpQuiet_nil ?_; rintro _ ⟨⟨w8, hb8⟩, rfl⟩)
                rename_i w8
                have v1 := cell_below hb8 (show gs < wa.heap.size by omega) (cell_below hbaw hF2 e1)
                have HOW8 := hid (HOWA.out.below hb8 (Nat.le_refl _))
                obtain ⟨x8, xf8⟩ := ints_facts HOW8.out hxl hltj
                have hb8s := hb8.size
                go_wp2_with fail
                obtain ⟨wb, hwb⟩ : ∃ wb : World, wb = w8.setCell ⟨w.heap.size + 1, j, none⟩ (.int .i64 Ln) := ⟨_, rfl⟩
                obtain ⟨X2, hX2⟩ : ∃ X2, X2 = X.set j (Ln : Int) := ⟨_, rfl⟩
                have HX2 := hid (HSETX.out (Ln : Int) rfl)
                have HOWB : Hid (OwnF fInt 3 (w.heap.size + 1) wb (.slice (some ⟨w.heap.size + 1, 0, none⟩) k k) X2) := hid (by rw [hwb, hX2]; exact ints_set HOW8.out rfl (by rw [hxl]; exact hltj) _ (i64_small (by omega)))
                have HBB2 : Hid (Below (w.heap.size + 1) w1 wb) := hid (hwb ▸ (HBA.out.trans (hb8.mono (by omega))).setCell (p := ⟨w.heap.size + 1, j, none⟩) (Nat.le_refl _) _)
                have z1 : wb.cell? ⟨wr.heap.size, 1, none⟩ = some (.int .i64 mu) := by rw [hwb]; exact (cell_far2 (by omega)).trans (cell_below hb8 hsa y1)
                have hsb : wr.heap.size < wb.heap.size := by rw [hwb]; simp; omega
                rw [← hX2] at HX2
                rw [← hwb]
                clear hX2 hwb hb8 lx ly v0 v1 x8 xf8
              all_goals
                have hxl2 : X2.length = k := HX2.out.1.trans HCL.out
                obtain ⟨x9, xf9⟩ := ints_facts HOWB.out hxl2 hltj
                have hx9 := HX2.out.2 j (by rw [hxl2]; exact hltj)
                rw [if_pos (by omega)] at hx9
                rw [HUNX.out, HLNX.out] at hx9
                rw [hx9] at x9
                have lx := later_cell (show w.heap.size + 1 < wb.heap.size by omega) x9
                have ly := later_cell hsb z1
                have HTL := hid (fun e : Later wb => ptells_any Ln mu e.w hl31 hM31)
                have hin := HIN.out
                obtain ⟨tn, htn⟩ : ∃ tn, tellsN Ln mu = tn := ⟨_, rfl⟩
                rw [htn] at HTL hin
                cases b with
                | false =>
                  (refine wp_region_later (by kernel_rfl) (by kernel_rfl) ?_; (repeat (go_big_quiet_step ((first | (go_at_call 72; exact Calls.later_same (HTL.out _) rfl))))); refine wpQuiet_nil ?_; rintro _ ⟨⟨w9, hb9⟩, rfl⟩)
                  rename_i w9
                  go_wp2
                  exact ⟨⟨j + 1, X2, false, by omega, rfl, by go_num, hid (HOWB.out.below hb9 (Nat.le_refl _)), hid (HBB2.out.trans (hb9.mono (by omega))), HX2, hid (by have := HBB.out; rwa [Bool.and_false] at this)⟩, by simp [intOf]; omega⟩
                | true =>
                  by_cases hi2 : inN Ln mu
                  · have z2 : (tn == 2) = true := by rw [hin, decide_eq_true hi2]
                    have HB1X := hid (HBB.out.1 (by rw [decide_eq_true hi2]; rfl))
                    clear hi2 hin htn HBB
                    (refine wp_region_later (by kernel_rfl) (by kernel_rfl) ?_; (repeat (go_big_quiet_step ((first | (go_at_call 72; exact Calls.later_same (HTL.out _) rfl))))); refine wpQuiet_nil ?_; rintro _ ⟨⟨w9, hb9⟩, rfl⟩)
                    rename_i w9
                    go_wp2
                    exact ⟨⟨j + 1, X2, true, by omega, rfl, by go_num, hid (HOWB.out.below hb9 (Nat.le_refl _)), hid (HBB2.out.trans (hb9.mono (by omega))), HX2, hid ⟨fun _ => HB1X.out, fun _ => rfl⟩⟩, by simp [intOf]; omega⟩
                  · have z2 : (tn == 2) = false := by rw [hin, decide_eq_false hi2]
                    have HB1X := hid (fun h => (absurd (HBB.out.2 h) (by rw [decide_eq_false hi2]; decide) : False))
                    clear hi2 hin htn HBB
                    (refine wp_region_later (by kernel_rfl) (by kernel_rfl) ?_; (repeat (go_big_quiet_step ((first | (go_at_call 72; exact Calls.later_same (HTL.out _) rfl))))); refine wpQuiet_nil ?_; rintro _ ⟨⟨w9, hb9⟩, rfl⟩)
                    rename_i w9
                    go_wp2
                    exact ⟨⟨j + 1, X2, false, by omega, rfl, by go_num, hid (HOWB.out.below hb9 (Nat.le_refl _)), hid (HBB2.out.trans (hb9.mono (by omega))), HX2, hid ⟨fun h => (by cases h), fun h => (HB1X.out h).elim⟩⟩, by simp [intOf]; omega⟩
            · have hjk : j = k := by omega
              subst hjk
              have HX1 := hid ((show MixIs ns l M n (canon ns M).length X by rw [HCL.out]; exact hX.out).next)
              have HSU := hid (show b = true ↔ Sure ns (l.take n) M from hbb.out.trans ((sure_units HLO.out).trans ⟨fun h i hi => h i (by rw [HCL.out]; exact hi), fun h i hi => h i (by rw [HCL.out] at hi; exact hi)⟩).symm)
              clear hltj
              cases b with
              | true =>
                have HFI := hid (show First ns l M n from ⟨by rw [HLN.out]; omega, HSU.out.1 rfl, hno.out⟩)
                go_wp2
                go_ret
                exact ⟨_, rfl, .inr ⟨n, rfl, HFI.out⟩, HBW.out⟩
              | false =>
                have HNS : Hid (¬ Sure ns (l.take n) M) := hid (fun hs => by have h5 := HSU.out.2 hs; cases h5)
                go_wp2
                exact ⟨⟨n + 1, X, by omega, by go_num, how, hb, HX1, hid (fun m hm => if e : m = n then by subst e; exact HNS.out else hno.out m (by omega))⟩, by simp [intOf]; omega⟩
        · have hn2 : n = ln + 1 := by omega
          subst hn2
          have HNO := hid (fun m (hm : m ≤ l.length) => hno.out m (by rw [HLN.out] at hm; omega))
          clear hlt
          go_wp2
          go_ret
          exact ⟨_, rfl, .inl ⟨rfl, fun m hm => HNO.out m (by rw [HLN.out]; exact hm)⟩, HBW.out⟩
end Go.Proofs.YtmbjeppnamhgiaaGreat
end
