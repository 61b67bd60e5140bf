import Derived.Test.YtmbjeppnamhgiaaGreatzK
import Derived.Test.YtmbjeppnamhgiaaGreatzN
import Derived.Test.YtmbjeppnamhgiaaGreatzBase
import Derived.Outline
section
/- Steps in memory. Contracts: ref24.Left, ref24.Level. -/
namespace Go.Proofs.YtmbjeppnamhgiaaGreat
open Go Go.RowKit

def fStep : Flat StepN := ⟨4, fun s => [.int .i64 s.u, .int .i64 s.m, .int .i64 s.lv, .int .i64 s.c], fun s => s.u ≤ 1000 ∧ s.m ≤ 31 ∧ s.lv ≤ 1000 ∧ -1 ≤ s.c ∧ s.c ≤ 100000, fun _ => rfl, fun _ u h => by simp at h; rcases h with rfl | rfl | rfl | rfl <;> rfl, by decide⟩
/-- A step among cells. -/
def StepAt (w : World) (g o : Nat) (s : StepN) : Prop := w.cell? ⟨g, o, none⟩ = some (.int .i64 s.u) ∧ w.cell? ⟨g, o + 1, none⟩ = some (.int .i64 s.m) ∧ w.cell? ⟨g, o + 2, none⟩ = some (.int .i64 s.lv) ∧ w.cell? ⟨g, o + 3, none⟩ = some (.int .i64 s.c)
theorem StepAt.below {B : Nat} {w w' : World} (hb : Below B w w') {g o : Nat} (hg : g < B) {s : StepN} (h : StepAt w g o s) : StepAt w' g o s :=
  ⟨cell_below hb hg h.1, cell_below hb hg h.2.1, cell_below hb hg h.2.2.1, cell_below hb hg h.2.2.2⟩
theorem SliceRd.steps {w : World} {F : Nat → Prop} {v : Value} {l : List StepN} (h : SliceRd fStep.ty w F v l) :
    ∃ A cap, v = .slice A l.length cap ∧ l.length ≤ cap ∧ cap ≤ maxLen ∧ ∀ k, (hk : k < l.length) → ∃ g o, A = some ⟨g, o, none⟩ ∧ F g ∧ StepAt w g (o + k * 4) l[k] ∧ fStep.ok l[k] := by
  obtain ⟨A, cap, hv, h1, h2, h3⟩ := h.flat
  refine ⟨A, cap, hv, h1, h2, fun k hk => ?_⟩
  obtain ⟨g, o, hA, hF, hok, hc⟩ := h3 k hk
  exact ⟨g, o, hA, hF, ⟨hc 0 _ rfl, hc 1 _ rfl, hc 2 _ rfl, hc 3 _ rfl⟩, hok⟩
section
variable {ns : List Nat} {l m : List StepN} {u k : Nat}
theorem left_past (h : ∀ s ∈ m, s.u ≠ u) : leftN ns (l ++ m) u = leftN ns l u := by
  unfold leftN
  rw [List.foldl_append]
  generalize List.foldl (fun a (s : StepN) => if s.u = u then s.m else a) (fullN ns u) l = a
  induction m generalizing a with
  | nil => rfl
  | cons x m ih =>
    rw [List.foldl_cons, if_neg (h x List.mem_cons_self)]
    exact ih (fun s hs => h s (List.mem_cons_of_mem _ hs)) a
theorem left_hit (hk : k < l.length) (hu : l[k].u = u) (hn : ∀ j, (hj : j < l.length) → k < j → l[j].u ≠ u) : leftN ns l u = l[k].m := by
  have e : l = (l.take k ++ [l[k]]) ++ l.drop (k + 1) := by rw [← take_snoc hk, List.take_append_drop]
  have h1 : leftN ns ((l.take k ++ [l[k]]) ++ l.drop (k + 1)) u = l[k].m := by
    rw [left_past, left_snoc, if_pos hu]
    intro s hs
    obtain ⟨j, hj, rfl⟩ := List.getElem_of_mem hs
    rw [List.getElem_drop]
    rw [List.length_drop] at hj
    exact hn _ (by omega) (by omega)
  rw [← e] at h1
  exact h1
theorem left_miss (hn : ∀ j, (hj : j < l.length) → l[j].u ≠ u) : leftN ns l u = fullN ns u := by
  have h1 : leftN ns ([] ++ l) u = leftN ns [] u := left_past fun s hs => by
    obtain ⟨j, hj, rfl⟩ := List.getElem_of_mem hs
    exact hn j hj
  exact h1
end
set_option maxHeartbeats 1000000 in
theorem rleft_any (v lv : Value) (ns : List Nat) (l : List StepN) (u : Nat) (w : World) (h : UniRd w (Lt w.heap.size) v ns) (ho : NsOk ns) (hl : SliceRd fStep.ty w (Lt w.heap.size) lv l) (hu : u < ns.length) :
    Calls Tryz.prog 53 #[v, lv, .int .i64 u] w fun e w' => e = .returned (.int .i64 (leftN ns l u)) ∧ Below w.heap.size w w' := by
  have HH := hid h
  have HO := hid ho
  have hu64 : I64 (u : Int) := by have := ho.hi; exact ⟨by omega, by omega⟩
  obtain ⟨g, cap0, rfl, hg, -⟩ := h
  obtain ⟨A, cap, rfl, hcap, hmax, hc⟩ := hl.steps
  unfold maxLen at hmax
  have HC := hid hc
  clear hc hl ho
  go_enter Tryz.func53, Tryz.ntmps53
  go_wp2_with fail
  obtain ⟨w0, hw0⟩ : ∃ w0 : World, w0 = w.alloc (.cells #[.slice (some ⟨g, 0, none⟩) ns.length cap0] 26) := ⟨_, rfl⟩
  have hb0 : Below w.heap.size w w0 := hw0 ▸ balloc (b0 w) _
  have q0 : w0.cell? ⟨w.heap.size, 0, none⟩ = some (.slice (some ⟨g, 0, none⟩) ns.length cap0) := by rw [hw0, alloc_cell]; rfl
  have HB0 := hid hb0
  have HU0 := hid (uni_later HH.out hb0)
  rw [← hw0]
  clear hw0 hb0
  go_loopw [7] (fun iv wr => ∃ k : Nat, k ≤ l.length ∧ iv = .int .i64 (↑k - 1) ∧ wr = w0 ∧ Hid (∀ j, (hj : j < l.length) → k ≤ j → l[j].u ≠ u)) (fun iv _ => (intOf iv + 1).toNat)
  case atStart => exact ⟨l.length, Nat.le_refl _, rfl, rfl, hid (fun j hj hk => absurd hj (by omega))⟩
  case round =>
    obtain ⟨k, hk, rfl, rfl, hn⟩ := hrel
    by_cases hk0 : k = 0
    · have HM := hid (left_miss (ns := ns) (u := u) (fun j hj => hn.out j hj (by omega)))
      subst hk0
      go_wp2_with (go_at_call 40; refine (rfull_any _ ns u _ _ HU0.out HO.out hu64 (fun _ h => h)).mono ?_; rintro e w2 ⟨rfl, hb2⟩)
      all_goals go_ret
      exact ⟨ret_int (by rw [HM.out, fullF_nat]), HB0.out.trans (hb2.mono HB0.out.size)⟩
    · obtain ⟨i, rfl⟩ : ∃ i, k = i + 1 := ⟨k - 1, by omega⟩
      have hlt : i < l.length := hk
      obtain ⟨gg, o, hA, hF, ⟨g0, g1, g2, g3⟩, hok⟩ := HC.out i hlt
      subst hA
      have c0 := cell_below HB0.out hF g0
      have c1 := cell_below HB0.out hF g1
      have e0 : ((i + 1 : Nat) : Int) - 1 = (i : Int) := by omega
      have i1 : (0 : Int) ≤ ↑i := by omega
      have i2 : (↑i : Int) < ↑l.length := by omega
      clear g0 g1 g2 g3 hok
      rw [e0]
      obtain ⟨a, ha⟩ : ∃ a, l[i].u = a := ⟨_, rfl⟩
      rw [ha] at c0
      have HA := hid ha
      clear ha
      have u1 : (0 : Int) ≤ ↑u := by omega
      have u2 : (↑u : Int) < ↑ns.length := by omega
      by_cases he : a = u
      · subst he
        have HM := hid (left_hit (ns := ns) hlt HA.out (fun j hj hij => hn.out j hj (by omega)))
        go_wp2
        go_ret
        exact ⟨ret_int (by rw [HM.out]), HB0.out⟩
      · have HE := hid he
        have hz : ((a : Int) == (u : Int)) = false := by simp; omega
        clear he
        go_wp2
        exact ⟨⟨i, by omega, by go_num, (by first | trivial | rfl), hid (fun j hj hij => if e : j = i then by subst e; rw [HA.out]; exact HE.out else hn.out j hj (by omega))⟩, by simp [intOf]⟩
theorem level_last {l : List StepN} {n : Nat} (h : l.length = n + 1) : levelN l = (l[n]'(by omega)).lv := by
  have hn : n < l.length := by omega
  have e : l = l.take n ++ [l[n]] := by rw [← take_snoc hn, List.take_of_length_le (by omega)]
  have h1 : levelN (l.take n ++ [l[n]]) = l[n].lv := level_snoc _ _
  rw [← e] at h1
  exact h1
set_option maxHeartbeats 1000000 in
theorem rlevel_any (lv : Value) (l : List StepN) (w : World) (hl : SliceRd fStep.ty w (Lt w.heap.size) lv l) :
    Calls Tryz.prog 22 #[lv] w fun e w' => e = .returned (.int .i64 (levelN l)) ∧ w' = w := by
  obtain ⟨A, cap, rfl, hcap, hmax, hc⟩ := hl.steps
  unfold maxLen at hmax
  have HC := hid hc
  clear hc hl
  go_enter Tryz.func22, Tryz.ntmps22
  cases hll : l.length with
  | zero =>
    have : l = [] := List.length_eq_zero_iff.1 hll
    subst this
    go_wp2
    go_ret
    exact ⟨ret_int rfl, rfl⟩
  | succ n =>
    obtain ⟨gg, o, hA, hF, ⟨g0, g1, g2, g3⟩, hok⟩ := HC.out n (by omega)
    subst hA
    have HL := hid (level_last hll)
    have hz : (((n + 1 : Nat) : Int) == 0) = false := by simp; omega
    have e0 : ((n + 1 : Nat) : Int) - 1 = (n : Int) := by omega
    have i1 : (0 : Int) ≤ ↑n := by omega
    have i2 : (↑n : Int) < ((n + 1 : Nat) : Int) := by omega
    clear g0 g1 g3 hok
    go_wp2
    go_ret
    exact ⟨ret_int (by rw [HL.out]), rfl⟩
end Go.Proofs.YtmbjeppnamhgiaaGreat
end
section
/- Contracts: ref24.Sure, ref24.When. -/
namespace Go.Proofs.YtmbjeppnamhgiaaGreat
open Go Go.RowKit

/-- What is left lies within all values. -/
def LeftOk (ns : List Nat) (l : List StepN) : Prop := ∀ u, u < ns.length → inN (leftN ns l u) (fullN ns u)
theorem TrOk.leftOk {ns : List Nat} {db : Nat → Nat → Nat} {D : Nat} {l : List StepN} (ho : NsOk ns) (h : TrOk ns db D l) : LeftOk ns l := fun u hu => (h.left ho u hu).2
theorem LeftOk.le {ns : List Nat} {l : List StepN} (ho : NsOk ns) (h : LeftOk ns l) {u : Nat} (hu : u < ns.length) : leftN ns l u ≤ 31 := Nat.le_trans (in_le (h u hu)) (fullN_le ho _)
theorem canon_at {ns : List Nat} {M : Nat → Nat} {k : Nat} (hk : k < (canon ns M).length) : ∃ u, u < ns.length ∧ (canon ns M)[k] = ⟨(u : Int), (M u : Int)⟩ := by
  obtain ⟨u, hu, _, ht⟩ := canon_mem.1 (List.getElem_mem hk)
  exact ⟨u, hu, ht⟩
theorem sure_canon {ns : List Nat} {l : List StepN} {M : Nat → Nat} (hl : LeftOk ns l) : Sure ns l M ↔ ∀ (k u : Nat), (hk : k < (canon ns M).length) → (canon ns M)[k].unit = (u : Int) → u < ns.length → inN (leftN ns l u) (M u) := by
  constructor
  · intro h k u hk _ hu
    exact h u hu
  · intro h u hu
    by_cases e : M u = fullN ns u
    · rw [e]; exact hl u hu
    · have hm : (⟨(u : Int), (M u : Int)⟩ : Term) ∈ canon ns M := canon_mem.2 ⟨u, hu, e, rfl⟩
      obtain ⟨k, hk, hk2⟩ := List.getElem_of_mem hm
      exact h k u hk (by rw [hk2]) hu
set_option maxHeartbeats 1000000 in
theorem rsure_any (v lv iv : Value) (ns : List Nat) (l : List StepN) (M : Nat → Nat) (w : World) (h : UniRd w (Lt w.heap.size) v ns) (ho : NsOk ns) (hl : SliceRd fStep.ty w (Lt w.heap.size) lv l) (hlo : LeftOk ns l) (hi : SliceRd tTerm w (Lt w.heap.size) iv (canon ns M)) (hM : IncOk ns M) :
    Calls Tryz.prog 51 #[v, lv, iv] w fun e w' => e = .returned (.bool (sureB ns l M)) ∧ Below w.heap.size w w' := by
  have HH := hid h
  have HO := hid ho
  have HL := hid hl
  have HLO := hid hlo
  have HM := hid hM
  obtain ⟨g, cap0, rfl, hg, -⟩ := h
  obtain ⟨A, cap, rfl, hcap, hmax, hc⟩ := hi.terms
  obtain ⟨A', cap', rfl, -⟩ := hl.steps
  unfold maxLen at hmax
  have HC := hid hc
  clear hc hl ho hi hlo hM
  go_enter Tryz.func51, Tryz.ntmps51
  go_wp2_with fail
  obtain ⟨w0, hw0⟩ : ∃ w0 : World, w0 = w.alloc (.cells #[.slice (some ⟨g, 0, none⟩) ns.length cap0] 26) := ⟨_, rfl⟩
  have hb0 : Below w.heap.size w w0 := hw0 ▸ balloc (b0 w) _
  have q0 : w0.cell? ⟨w.heap.size, 0, none⟩ = some (.slice (some ⟨g, 0, none⟩) ns.length cap0) := by rw [hw0, alloc_cell]; rfl
  have hz0 : w.heap.size < w0.heap.size := by rw [hw0]; simp
  have HB0 := hid hb0
  have HU0 := hid (uni_later HH.out hb0)
  rw [← hw0]
  clear hw0 hb0
  go_loopw [7] (fun iv wr => ∃ k : Nat, k ≤ (canon ns M).length ∧ iv = .int .i64 k ∧ Hid (Below w0.heap.size w0 wr) ∧ Hid (∀ (j u : Nat), (hj : j < (canon ns M).length) → j < k → (canon ns M)[j].unit = (u : Int) → u < ns.length → inN (leftN ns l u) (M u))) (fun iv _ => (canon ns M).length - (intOf iv).toNat)
  case atStart => exact ⟨0, Nat.zero_le _, rfl, hid (b0 _), hid (fun j _ _ hj => absurd hj (by omega))⟩
  case round =>
    obtain ⟨k, hk, rfl, hb, hn⟩ := hrel
    have q1 := cell_below hb.out hz0 q0
    have HBR := hid (HB0.out.trans (hb.out.mono HB0.out.size))
    by_cases hlt : k < (canon ns M).length
    · obtain ⟨u, hu, ht⟩ := canon_at hlt
      obtain ⟨gg, o, hA, hF, g0, g1, -, -⟩ := HC.out k hlt
      subst hA
      rw [ht] at g0 g1
      dsimp only at g0 g1
      have hgr : gg < wr.heap.size := Nat.lt_of_lt_of_le hF HBR.out.size
      have l0 := later_cell (Nat.lt_of_lt_of_le hz0 hb.out.size) q1
      have l1 := later_cell hgr (cell_below HBR.out hF g0)
      have l2 := later_cell hgr (cell_below HBR.out hF g1)
      have i1 : (0 : Int) ≤ ↑k := by omega
      have i2 : (↑k : Int) < ↑(canon ns M).length := by omega
      have hur := uni_later HU0.out hb.out
      have hlr := HL.out.lift HBR.out HBR.out.size
      have HT := hid ht
      clear g0 g1 ht
      obtain ⟨a, ha⟩ : ∃ a, leftN ns l u = a := ⟨_, rfl⟩
      obtain ⟨m, hm⟩ : ∃ m, M u = m := ⟨_, rfl⟩
      have hm31 : m ≤ 31 := hm ▸ IncOk.le HO.out HM.out u hu
      have ha31 : a ≤ 31 := ha ▸ HLO.out.le HO.out hu
      rw [hm] at l2
      have HCL := hid (fun e : Later wr => ha ▸ rleft_any _ _ ns l u e.w (uni_lat hur e) HO.out (hlr.lift e.below e.below.size) hu)
      have HCT := hid (fun e : Later wr => tells_any a m e.w ha31 hm31)
      clear hur hlr
      by_cases hin : inN a m
      · have hz : tellsN a m = 2 := if_pos hin
        have HIN := hid hin
        have HMA := hid (And.intro ha hm)
        rw [hz] at HCT
        clear hin ha hm hz
        go_wp2_with fail
        (refine wp_region_later (by kernel_rfl) (by kernel_rfl) ?_; (repeat (go_big_quiet_step ((first | (go_at_call 56; exact Calls.later_same (HCT.out _) rfl) | (go_at_call 53; exact Calls.later (HCL.out _) rfl))))); refine wpQuiet_nil ?_; rintro _ ⟨⟨w1, hb1⟩, rfl⟩)
        go_wp2
        exact ⟨⟨k + 1, by omega, by go_num, hid (bstep hb.out hb1), hid (fun j u' hj hjk e hu' => if hjk2 : j = k then by
            subst hjk2
            rw [HT.out] at e
            have : u' = u := by have e2 : (u : Int) = (u' : Int) := e; omega
            subst this
            rw [HMA.out.1, HMA.out.2]; exact HIN.out else hn.out j u' hj (by omega) e hu')⟩, by simp [intOf]; omega⟩
      · have ht2 : tellsN a m ≠ 2 := by
          unfold tellsN
          rw [if_neg (show ¬ (a &&& m = a) from hin)]
          split <;> decide
        have hz : (tellsN a m == 2) = false := by simpa using ht2
        have hz2 : (tellsN a m != 2) = true := by simpa using ht2
        obtain ⟨r, hr⟩ : ∃ r, tellsN a m = r := ⟨_, rfl⟩
        rw [hr] at HCT hz hz2
        have HFALSE : Hid (sureB ns l M = false) := hid (by
          cases hs : sureB ns l M
          · rfl
          · have := sureB_iff.1 hs u hu
            rw [ha, hm] at this
            exact absurd this hin)
        clear hin ha hm ht2 hr
        go_wp2_with fail
        (refine wp_region_later (by kernel_rfl) (by kernel_rfl) ?_; (repeat (go_big_quiet_step ((first | (go_at_call 56; exact Calls.later_same (HCT.out _) rfl) | (go_at_call 53; exact Calls.later (HCL.out _) rfl))))); refine wpQuiet_nil ?_; rintro _ ⟨⟨w1, hb1⟩, rfl⟩)
        go_wp2
        go_ret
        exact ⟨ret_bool HFALSE.out.symm, HB0.out.trans ((bstep hb.out hb1).mono HB0.out.size)⟩
    · have HTRUE : Hid (sureB ns l M = true) := hid (sureB_iff.2 ((sure_canon HLO.out).2 fun j u hj e hu => hn.out j u hj (by omega) e hu))
      go_wp2
      go_ret
      exact ⟨ret_bool HTRUE.out.symm, HBR.out⟩
end Go.Proofs.YtmbjeppnamhgiaaGreat
end
section
/- Contracts: ref24.When. -/
namespace Go.Proofs.YtmbjeppnamhgiaaGreat
open Go Go.RowKit

/-- The first elements of a slice. -/
theorem SliceRd.takeN {α : Type} {t : Ty α} {w : World} {F : Nat → Prop} {A : Option Addr} {n cap k : Nat} {l : List α} (h : SliceRd t w F (.slice A n cap) l) (hk : k ≤ l.length) : SliceRd t w F (.slice A k cap) (l.take k) := by
  obtain ⟨A', cap', hv, h1, h2, h3⟩ := h.shape
  injection hv with e1 e2 e3
  subst e1 e3
  have hlen : (l.take k).length = k := by rw [List.length_take]; omega
  refine ⟨A, cap, by rw [hlen], by omega, h2, fun j hj => ?_⟩
  obtain ⟨g, o, cs, hA, hF, hc, hcell, hr⟩ := h3 j (by omega)
  refine ⟨g, o, cs, hA, hF, hc, hcell, ?_⟩
  rw [List.getElem_take]
  exact hr
set_option maxHeartbeats 1000000 in
theorem rwhen_any (v lv iv : Value) (ns : List Nat) (db : Nat → Nat → Nat) (D : Nat) (l : List StepN) (M : Nat → Nat) (w : World) (h : UniRd w (Lt w.heap.size) v ns) (ho : NsOk ns) (hl : SliceRd fStep.ty w (Lt w.heap.size) lv l) (hll : l.length ≤ 100000) (ht : TrOk ns db D l) (hi : SliceRd tTerm w (Lt w.heap.size) iv (canon ns M)) (hM : IncOk ns M) :
    Calls Tryz.prog 29 #[v, lv, iv] w fun e w' => ∃ r : Int, e = .returned (.int .i64 r) ∧ ((r = -1 ∧ ∀ k, k ≤ l.length → ¬ Sure ns (l.take k) M) ∨ ∃ n : Nat, r = (n : Int) ∧ First ns l M n) ∧ Below w.heap.size w w' := by
  have HH := hid h
  have HO := hid ho
  have HL := hid hl
  have HT := hid ht
  have HM := hid hM
  have HI := hid hi
  obtain ⟨g, cap0, rfl, hg, -⟩ := h
  obtain ⟨A, cap, hae, -⟩ := hi.terms
  generalize (canon ns M).length = an at hae
  subst hae
  obtain ⟨A', cap', rfl, hc1, hc2, -⟩ := hl.steps
  unfold maxLen at hc2
  clear hl ho hi ht hM
  go_enter Tryz.func29, Tryz.ntmps29
  go_wp2_with fail
  obtain ⟨w0, hw0⟩ : ∃ w0 : World, w0 = w.alloc (.cells #[.slice (some ⟨g, 0, none⟩) ns.length cap0] 26) := ⟨_, rfl⟩
  have hb0 : Below w.heap.size w w0 := hw0 ▸ balloc (b0 w) _
  have q0 : w0.cell? ⟨w.heap.size, 0, none⟩ = some (.slice (some ⟨g, 0, none⟩) ns.length cap0) := by rw [hw0, alloc_cell]; rfl
  have hz0 : w.heap.size < w0.heap.size := by rw [hw0]; simp
  have HB0 := hid hb0
  have HU0 := hid (uni_later HH.out hb0)
  rw [← hw0]
  clear hw0 hb0
  go_loopw [7] (fun iv wr => ∃ k : Nat, k ≤ l.length + 1 ∧ iv = .int .i64 k ∧ Hid (Below w0.heap.size w0 wr) ∧ Hid (∀ j, j < k → ¬ Sure ns (l.take j) M)) (fun iv _ => l.length + 1 - (intOf iv).toNat)
  case atStart => exact ⟨0, Nat.zero_le _, rfl, hid (b0 _), hid (fun j hj => absurd hj (by omega))⟩
  case round =>
    obtain ⟨k, hk, rfl, hb, hn⟩ := hrel
    have q1 := cell_below hb.out hz0 q0
    have HBR := hid (HB0.out.trans (hb.out.mono HB0.out.size))
    by_cases hlt : k ≤ l.length
    · have l0 := later_cell (Nat.lt_of_lt_of_le hz0 hb.out.size) q1
      have hur := uni_later HU0.out hb.out
      have hlr := (HL.out.lift HBR.out HBR.out.size).takeN hlt
      have hir := HI.out.lift HBR.out HBR.out.size
      have HTK := hid (HT.out.take k)
      have HCS := hid (fun e : Later wr => rsure_any _ _ _ ns (l.take k) M e.w (uni_lat hur e) HO.out (hlr.lift e.below e.below.size) (HTK.out.leftOk HO.out) (hir.lift e.below e.below.size) HM.out)
      clear hur hlr hir
      have i1 : (0 : Int) ≤ ↑k := by omega
      have i2 : (↑k : Int) ≤ ↑l.length := by omega
      have i3 : (↑k : Int) ≤ ↑cap' := by omega
      obtain ⟨b, hbb⟩ : ∃ b, sureB ns (l.take k) M = b := ⟨_, rfl⟩
      rw [hbb] at HCS
      cases b with
      | true =>
        have HF := hid (show First ns l M k from ⟨hlt, sureB_iff.1 hbb, hn.out⟩)
        clear hbb
        go_wp2_with fail
        (refine wp_region_later (by kernel_rfl) (by kernel_rfl) ?_; (repeat (go_big_quiet_step ((first | (go_at_call 51; exact Calls.later (HCS.out _) rfl))))); refine wpQuiet_nil ?_; rintro _ ⟨⟨w1, hb1⟩, rfl⟩)
        go_wp2
        go_ret
        exact ⟨k, rfl, .inr ⟨k, rfl, HF.out⟩, HB0.out.trans ((bstep hb.out hb1).mono HB0.out.size)⟩
      | false =>
        have HF := hid (show ¬ Sure ns (l.take k) M from fun hs => by rw [sureB_iff.2 hs] at hbb; cases hbb)
        clear hbb
        go_wp2_with fail
        (refine wp_region_later (by kernel_rfl) (by kernel_rfl) ?_; (repeat (go_big_quiet_step ((first | (go_at_call 51; exact Calls.later (HCS.out _) rfl))))); refine wpQuiet_nil ?_; rintro _ ⟨⟨w1, hb1⟩, rfl⟩)
        go_wp2
        exact ⟨⟨k + 1, by omega, by go_num, hid (bstep hb.out hb1), hid (fun j hj => if e : j = k then by subst e; exact HF.out else hn.out j (by omega))⟩, by simp [intOf]; omega⟩
    · go_wp2
      go_ret
      exact ⟨-1, rfl, .inl ⟨rfl, fun j hj => hn.out j (by omega)⟩, HBR.out⟩
end Go.Proofs.YtmbjeppnamhgiaaGreat
end
section
/- Contracts: ref24.open. -/
namespace Go.Proofs.YtmbjeppnamhgiaaGreat
open Go Go.RowKit

theorem canon_one {ns : List Nat} {M : Nat → Nat} {i j : Nat} (hi : i < (canon ns M).length) (hj : j < (canon ns M).length) (h : (canon ns M)[i].unit = (canon ns M)[j].unit) : i = j := by
  have hp := List.pairwise_iff_getElem.1 (canon_sorted (ns := ns) M)
  rcases Nat.lt_trichotomy i j with h1 | h1 | h1
  · have := hp i j hi hj h1; omega
  · exact h1
  · have := hp j i hj hi h1; omega
/-- What is seen of the first terms. -/
def Seen1 (ns : List Nat) (l : List StepN) (M : Nat → Nat) (k : Nat) (a : Int) : Prop :=
  (a = -1 ∧ ∀ (j u : Nat), (hj : j < (canon ns M).length) → j < k → (canon ns M)[j].unit = (u : Int) → u < ns.length → inN (leftN ns l u) (M u)) ∨
  ∃ u0 j0 : Nat, a = (u0 : Int) ∧ u0 < ns.length ∧ j0 < k ∧ (∃ h : j0 < (canon ns M).length, (canon ns M)[j0].unit = (u0 : Int)) ∧ ¬ inN (leftN ns l u0) (M u0) ∧ leftN ns l u0 &&& M u0 ≠ 0 ∧
    ∀ (j u : Nat), (hj : j < (canon ns M).length) → j < k → (canon ns M)[j].unit = (u : Int) → u < ns.length → u ≠ u0 → inN (leftN ns l u) (M u)
section
variable {ns : List Nat} {l : List StepN} {M : Nat → Nat} {k u : Nat} {a : Int}
theorem Seen1.start : Seen1 ns l M 0 (-1) := .inl ⟨rfl, fun j _ _ hj => absurd hj (by omega)⟩
theorem Seen1.past (h : Seen1 ns l M k a) (hk : k < (canon ns M).length) (hu : (canon ns M)[k].unit = (u : Int)) (hin : inN (leftN ns l u) (M u)) : Seen1 ns l M (k + 1) a := by
  have hone : ∀ (u' : Nat), (canon ns M)[k].unit = (u' : Int) → u' = u := fun u' e => by rw [hu] at e; omega
  rcases h with ⟨rfl, h⟩ | ⟨u0, j0, rfl, h1, h2, h3, h4, h5, h6⟩
  · refine .inl ⟨rfl, fun j u' hj hjk e hu' => ?_⟩
    by_cases hj2 : j = k
    · subst hj2
      rw [hone u' e]; exact hin
    · exact h j u' hj (by omega) e hu'
  · refine .inr ⟨u0, j0, rfl, h1, by omega, h3, h4, h5, fun j u' hj hjk e hu' hne => ?_⟩
    by_cases hj2 : j = k
    · subst hj2
      rw [hone u' e]; exact hin
    · exact h6 j u' hj (by omega) e hu' hne
theorem Seen1.hit (h : Seen1 ns l M k (-1)) (hk : k < (canon ns M).length) (hu : (canon ns M)[k].unit = (u : Int)) (hun : u < ns.length) (hin : ¬ inN (leftN ns l u) (M u)) (h0 : leftN ns l u &&& M u ≠ 0) : Seen1 ns l M (k + 1) (u : Int) := by
  rcases h with ⟨_, h⟩ | ⟨u0, j0, e, _⟩
  · refine .inr ⟨u, k, rfl, hun, by omega, ⟨hk, hu⟩, hin, h0, fun j u' hj hjk e hu' hne => ?_⟩
    by_cases hj2 : j = k
    · subst hj2
      rw [hu] at e
      omega
    · exact h j u' hj (by omega) e hu'
  · omega
theorem Seen1.two (h : Seen1 ns l M k a) (ha : 0 ≤ a) (hk : k < (canon ns M).length) (hu : (canon ns M)[k].unit = (u : Int)) (hun : u < ns.length) (hin : ¬ inN (leftN ns l u) (M u)) : ∀ v, ¬ OpenAt ns l M v := by
  intro v hv
  rcases h with ⟨rfl, h⟩ | ⟨u0, j0, rfl, h1, h2, ⟨h3, h3'⟩, h4, h5, h6⟩
  · omega
  · have hne : u ≠ u0 := by
      intro e
      subst e
      have := canon_one h3 hk (h3'.trans hu.symm)
      omega
    by_cases e : u = v
    · subst e
      exact h4 (hv.2.1 u0 h1 (fun e => hne e.symm))
    · exact hin (hv.2.1 u hun e)
theorem open_none (hun : u < ns.length) (h0 : leftN ns l u &&& M u = 0) (hl : leftN ns l u ≠ 0) : ∀ v, ¬ OpenAt ns l M v := by
  intro v hv
  by_cases e : u = v
  · subst e
    exact hv.2.2.2 h0
  · have := hv.2.1 u hun e
    unfold inN at this
    rw [h0] at this
    exact hl this.symm
theorem Seen1.done (h : Seen1 ns l M k a) (hl : LeftOk ns l) (hk : (canon ns M).length ≤ k) : (a = -1 ∧ ∀ v, ¬ OpenAt ns l M v) ∨ ∃ u : Nat, a = (u : Int) ∧ OpenAt ns l M u := by
  rcases h with ⟨rfl, h⟩ | ⟨u0, j0, rfl, h1, h2, ⟨h3, h3'⟩, h4, h5, h6⟩
  · refine .inl ⟨rfl, fun v hv => hv.2.2.1 ?_⟩
    exact (sure_canon hl).2 (fun j u hj e hu => h j u hj (by omega) e hu) v hv.1
  · refine .inr ⟨u0, rfl, h1, fun v hv hne => ?_, h4, h5⟩
    by_cases e : M v = fullN ns v
    · rw [e]; exact hl v hv
    · have hm : (⟨(v : Int), (M v : Int)⟩ : Term) ∈ canon ns M := canon_mem.2 ⟨v, hv, e, rfl⟩
      obtain ⟨j, hj, hj2⟩ := List.getElem_of_mem hm
      exact h6 j v hj (by omega) (by rw [hj2]) hv hne
end
set_option maxHeartbeats 2000000 in
theorem ropen_any (v lv iv : Value) (ns : List Nat) (db : Nat → Nat → Nat) (D : Nat) (l : List StepN) (M : Nat → Nat) (w : World) (h : UniRd w (Lt w.heap.size) v ns) (ho : NsOk ns) (hl : SliceRd fStep.ty w (Lt w.heap.size) lv l) (ht : TrOk ns db D l) (hi : SliceRd tTerm w (Lt w.heap.size) iv (canon ns M)) (hM : IncOk ns M) :
    Calls Tryz.prog 52 #[v, lv, iv] w fun e w' => ∃ r : Int, e = .returned (.int .i64 r) ∧ ((r = -1 ∧ ∀ u, ¬ OpenAt ns l M u) ∨ ∃ u : Nat, r = (u : Int) ∧ OpenAt ns l M u) ∧ Below w.heap.size w w' := by
  have HH := hid h
  have HO := hid ho
  have HL := hid hl
  have HT := hid ht
  have HLO := hid (ht.leftOk ho)
  have HM := hid hM
  have h11 := ho.hi
  obtain ⟨g, cap0, rfl, hg, -⟩ := h
  obtain ⟨A, cap, rfl, hcap, hmax, hc⟩ := hi.terms
  obtain ⟨A', cap', rfl, -⟩ := hl.steps
  unfold maxLen at hmax
  have HC := hid hc
  clear hc hl ho hi ht hM
  go_enter Tryz.func52, Tryz.ntmps52
  go_wp2_with fail
  obtain ⟨w0, hw0⟩ : ∃ w0 : World, w0 = w.alloc (.cells #[.slice (some ⟨g, 0, none⟩) ns.length cap0] 26) := ⟨_, rfl⟩
  have hb0 : Below w.heap.size w w0 := hw0 ▸ balloc (b0 w) _
  have q0 : w0.cell? ⟨w.heap.size, 0, none⟩ = some (.slice (some ⟨g, 0, none⟩) ns.length cap0) := by rw [hw0, alloc_cell]; rfl
  have hz0 : w.heap.size < w0.heap.size := by rw [hw0]; simp
  have HB0 := hid hb0
  have HU0 := hid (uni_later HH.out hb0)
  rw [← hw0]
  clear hw0 hb0
  go_loopw [7, 8] (fun av iv wr => ∃ (k : Nat) (a : Int), k ≤ (canon ns M).length ∧ av = .int .i64 a ∧ -1 ≤ a ∧ a ≤ 100 ∧ iv = .int .i64 k ∧ Hid (Below w0.heap.size w0 wr) ∧ Hid (Seen1 ns l M k a)) (fun _ iv _ => (canon ns M).length - (intOf iv).toNat)
  case atStart => exact ⟨0, -1, Nat.zero_le _, rfl, by omega, by omega, rfl, hid (b0 _), hid Seen1.start⟩
  case round =>
    obtain ⟨k, at_, hk, rfl, ha1, ha2, rfl, hb, hn⟩ := hrel
    have q1 := cell_below hb.out hz0 q0
    have HBR := hid (HB0.out.trans (hb.out.mono HB0.out.size))
    by_cases hlt : k < (canon ns M).length
    · obtain ⟨u, hu, ht⟩ := canon_at hlt
      obtain ⟨gg, o, hA, hF, g0, g1, -, -⟩ := HC.out k hlt
      subst hA
      have HT2 := hid (show (canon ns M)[k].unit = (u : Int) by rw [ht])
      rw [ht] at g0 g1
      dsimp only at g0 g1
      have hgr : gg < wr.heap.size := Nat.lt_of_lt_of_le hF HBR.out.size
      have l0 := later_cell (Nat.lt_of_lt_of_le hz0 hb.out.size) q1
      have l1 := later_cell hgr (cell_below HBR.out hF g0)
      have l2 := later_cell hgr (cell_below HBR.out hF g1)
      have i1 : (0 : Int) ≤ ↑k := by omega
      have i2 : (↑k : Int) < ↑(canon ns M).length := by omega
      have hur := uni_later HU0.out hb.out
      have hlr := HL.out.lift HBR.out HBR.out.size
      have HC0 := hid (cell_below HBR.out hF g0)
      clear g0 g1 ht
      obtain ⟨a, ha⟩ : ∃ a, leftN ns l u = a := ⟨_, rfl⟩
      obtain ⟨m, hm⟩ : ∃ m, M u = m := ⟨_, rfl⟩
      have hm31 : m ≤ 31 := hm ▸ IncOk.le HO.out HM.out u hu
      have ha31 : a ≤ 31 := ha ▸ HLO.out.le HO.out hu
      rw [hm] at l2
      have HCL := hid (fun e : Later wr => ha ▸ rleft_any _ _ ns l u e.w (uni_lat hur e) HO.out (hlr.lift e.below e.below.size) hu)
      have HCT := hid (fun e : Later wr => tells_any a m e.w ha31 hm31)
      clear hur hlr
      by_cases hin : inN a m
      · have hz : tellsN a m = 2 := if_pos hin
        have HS := hid (hn.out.past hlt HT2.out (by rw [ha, hm]; exact hin))
        rw [hz] at HCT
        clear hin ha hm hz
        go_wp2_with fail
        (refine wp_region_later (by kernel_rfl) (by kernel_rfl) ?_; (repeat (go_big_quiet_step ((first | (go_at_call 56; exact Calls.later_same (HCT.out _) rfl) | (go_at_call 53; exact Calls.later (HCL.out _) rfl))))); refine wpQuiet_nil ?_; rintro _ ⟨⟨w1, hb1⟩, rfl⟩)
        go_wp2
        exact ⟨⟨k + 1, at_, by omega, rfl, by omega, by omega, by go_num, hid (bstep hb.out hb1), HS⟩, by simp [intOf]; omega⟩
      · by_cases h0 : a &&& m = 0
        · have hz : tellsN a m = 0 := by
            unfold tellsN
            rw [if_neg (show ¬ (a &&& m = a) from hin), if_pos h0]
          have HN := hid (open_none (l := l) (M := M) hu (by rw [ha, hm]; exact h0) (HT.out.left HO.out u hu).1)
          rw [hz] at HCT
          clear hin ha hm hz h0
          go_wp2_with fail
          (refine wp_region_later (by kernel_rfl) (by kernel_rfl) ?_; (repeat (go_big_quiet_step ((first | (go_at_call 56; exact Calls.later_same (HCT.out _) rfl) | (go_at_call 53; exact Calls.later (HCL.out _) rfl))))); refine wpQuiet_nil ?_; rintro _ ⟨⟨w1, hb1⟩, rfl⟩)
          go_wp2
          go_ret
          exact ⟨-1, rfl, .inl ⟨rfl, HN.out⟩, HB0.out.trans ((bstep hb.out hb1).mono HB0.out.size)⟩
        · have hz : tellsN a m = 1 := by
            unfold tellsN
            rw [if_neg (show ¬ (a &&& m = a) from hin), if_neg h0]
          rw [hz] at HCT
          by_cases hat : 0 ≤ at_
          · have HN := hid (hn.out.two hat hlt HT2.out hu (by rw [ha, hm]; exact hin))
            clear hin ha hm hz h0
            go_wp2_with fail
            (refine wp_region_later (by kernel_rfl) (by kernel_rfl) ?_; (repeat (go_big_quiet_step ((first | (go_at_call 56; exact Calls.later_same (HCT.out _) rfl) | (go_at_call 53; exact Calls.later (HCL.out _) rfl))))); refine wpQuiet_nil ?_; rintro _ ⟨⟨w1, hb1⟩, rfl⟩)
            go_wp2
            go_ret
            exact ⟨-1, rfl, .inl ⟨rfl, HN.out⟩, HB0.out.trans ((bstep hb.out hb1).mono HB0.out.size)⟩
          · obtain rfl : at_ = -1 := by omega
            have HS := hid (hn.out.hit hlt HT2.out hu (by rw [ha, hm]; exact hin) (by rw [ha, hm]; exact h0))
            clear hin ha hm hz h0
            go_wp2_with fail
            (refine wp_region_later (by kernel_rfl) (by kernel_rfl) ?_; (repeat (go_big_quiet_step ((first | (go_at_call 56; exact Calls.later_same (HCT.out _) rfl) | (go_at_call 53; exact Calls.later (HCL.out _) rfl))))); refine wpQuiet_nil ?_; rintro _ ⟨⟨w1, hb1⟩, rfl⟩)
            have c1 := cell_below hb1 hgr HC0.out
            go_wp2
            exact ⟨⟨k + 1, u, by omega, rfl, by omega, by omega, by go_num, hid (bstep hb.out hb1), HS⟩, by simp [intOf]; omega⟩
    · have HD := hid (hn.out.done HLO.out (by omega))
      go_wp2
      go_ret
      exact ⟨at_, rfl, HD.out, HBR.out⟩
end Go.Proofs.YtmbjeppnamhgiaaGreat
end
section
/- Incompatibilities in memory. Contracts: ref24.Scan. -/
namespace Go.Proofs.YtmbjeppnamhgiaaGreat
open Go Go.RowKit

/-- Incompatibilities as lists of terms. -/
def dbL (ns : List Nat) (db : Nat → Nat → Nat) (D : Nat) : List (List Term) := (List.range D).map fun i => canon ns (db i)
theorem dbL_len (ns : List Nat) (db : Nat → Nat → Nat) (D : Nat) : (dbL ns db D).length = D := by simp [dbL]
theorem dbL_at {ns : List Nat} {db : Nat → Nat → Nat} {D i : Nat} (h : i < (dbL ns db D).length) : (dbL ns db D)[i] = canon ns (db i) := by simp [dbL]
/-- A slice of lists, opened. -/
theorem SliceRd.lists {α : Type} {t : Ty α} {w : World} {F : Nat → Prop} {v : Value} {l : List (List α)} (h : SliceRd (tSlice t) w F v l) :
    ∃ A cap, v = .slice A l.length cap ∧ l.length ≤ cap ∧ cap ≤ maxLen ∧ ∀ k, (hk : k < l.length) → ∃ g o u, A = some ⟨g, o, none⟩ ∧ F g ∧ w.cell? ⟨g, o + k, none⟩ = some u ∧ SliceRd t w F u l[k] := by
  obtain ⟨A, cap, hv, h1, h2, h3⟩ := h.shape
  refine ⟨A, cap, hv, h1, h2, fun k hk => ?_⟩
  obtain ⟨g, o, cs, hA, hF, hc, hcell, u, rfl, hr⟩ := h3 k hk
  refine ⟨g, o, u, hA, hF, ?_, hr⟩
  have := hcell 0 (by show 0 < 1; omega)
  simpa [tSlice] using this
theorem open_one {ns : List Nat} {l : List StepN} {M : Nat → Nat} {u v : Nat} (h : OpenAt ns l M u) (h' : OpenAt ns l M v) : u = v := by
  by_cases e : u = v
  · exact e
  · exact absurd (h'.2.1 u h.1 e) h.2.2.1
open Classical in
/-- The unit at which it is open; none: -1. -/
noncomputable def openF (ns : List Nat) (l : List StepN) (M : Nat → Nat) : Int := if h : ∃ u, OpenAt ns l M u then ((Classical.choose h : Nat) : Int) else -1
theorem openF_at {ns : List Nat} {l : List StepN} {M : Nat → Nat} {u : Nat} (h : OpenAt ns l M u) : openF ns l M = (u : Int) := by
  have hex : ∃ u, OpenAt ns l M u := ⟨u, h⟩
  unfold openF
  rw [dif_pos hex, open_one (Classical.choose_spec hex) h]
theorem openF_no {ns : List Nat} {l : List StepN} {M : Nat → Nat} (h : ∀ u, ¬ OpenAt ns l M u) : openF ns l M = -1 := by
  unfold openF
  rw [dif_neg (fun ⟨u, hu⟩ => h u hu)]
theorem openF_is (ns : List Nat) (l : List StepN) (M : Nat → Nat) : (openF ns l M = -1 ∧ ∀ u, ¬ OpenAt ns l M u) ∨ ∃ u : Nat, openF ns l M = (u : Int) ∧ OpenAt ns l M u := by
  by_cases hex : ∃ u, OpenAt ns l M u
  · obtain ⟨u, hu⟩ := hex
    exact .inr ⟨u, openF_at hu, hu⟩
  · exact .inl ⟨openF_no fun u hu => hex ⟨u, hu⟩, fun u hu => hex ⟨u, hu⟩⟩
theorem ropen_f (v lv iv : Value) (ns : List Nat) (db : Nat → Nat → Nat) (D : Nat) (l : List StepN) (M : Nat → Nat) (w : World) (h : UniRd w (Lt w.heap.size) v ns) (ho : NsOk ns) (hl : SliceRd fStep.ty w (Lt w.heap.size) lv l) (ht : TrOk ns db D l) (hi : SliceRd tTerm w (Lt w.heap.size) iv (canon ns M)) (hM : IncOk ns M) :
    Calls Tryz.prog 52 #[v, lv, iv] w fun e w' => e = .returned (.int .i64 (openF ns l M)) ∧ Below w.heap.size w w' :=
  (ropen_any v lv iv ns db D l M w h ho hl ht hi hM).mono fun e w' hp => by
    obtain ⟨r, rfl, hr, hb⟩ := hp
    rcases hr with ⟨rfl, hr⟩ | ⟨u, rfl, hr⟩
    · rw [openF_no hr]; exact ⟨rfl, hb⟩
    · rw [openF_at hr]; exact ⟨rfl, hb⟩
/-- What a look through all of them tells. -/
def ScanIs (ns : List Nat) (db : Nat → Nat → Nat) (D : Nat) (l : List StepN) (i u : Int) : Prop :=
  (i = -1 ∧ u = -1 ∧ ∀ k, k < D → ¬ Sure ns l (db k) ∧ ∀ v, ¬ OpenAt ns l (db k) v) ∨ (∃ k : Nat, i = (k : Int) ∧ k < D ∧ u = -1 ∧ Sure ns l (db k)) ∨ ∃ k v : Nat, i = (k : Int) ∧ k < D ∧ u = (v : Int) ∧ OpenAt ns l (db k) v
/-- None ahead of it is sure, none is open. -/
def Before (ns : List Nat) (db : Nat → Nat → Nat) (l : List StepN) (i : Int) : Prop := ∀ j : Nat, (j : Int) < i → ¬ Sure ns l (db j) ∧ ∀ v, ¬ OpenAt ns l (db j) v
set_option maxHeartbeats 2000000 in
theorem rscan_first (v lv dv : Value) (ns : List Nat) (db : Nat → Nat → Nat) (D : Nat) (db' : Nat → Nat → Nat) (D' : Nat) (l : List StepN) (w : World) (h : UniRd w (Lt w.heap.size) v ns) (ho : NsOk ns) (hl : SliceRd fStep.ty w (Lt w.heap.size) lv l) (ht : TrOk ns db' D' l) (hd : SliceRd (tSlice tTerm) w (Lt w.heap.size) dv (dbL ns db D)) (hok : ∀ c, c < D → IncOk ns (db c)) (hD : D ≤ 100000) :
    Calls Tryz.prog 25 #[v, dv, lv] w fun e w' => ∃ i u : Int, e = .returned (.tuple #[.int .i64 i, .int .i64 u]) ∧ ScanIs ns db D l i u ∧ Before ns db l i ∧ Below w.heap.size w w' := by
  have HH := hid h
  have HO := hid ho
  have HL := hid hl
  have HT := hid ht
  have HOK := hid hok
  have HDL := hid (dbL_len ns db D)
  obtain ⟨g, cap0, rfl, hg, -⟩ := h
  obtain ⟨A, cap, rfl, hcap, hmax, hc⟩ := hd.lists
  rw [HDL.out] at hcap
  have HC := hid (show ∀ k, k < D → ∃ g o u, A = some ⟨g, o, none⟩ ∧ g < w.heap.size ∧ w.cell? ⟨g, o + k, none⟩ = some u ∧ SliceRd tTerm w (Lt w.heap.size) u (canon ns (db k)) from fun k hk => by
    obtain ⟨g, o, u, h1, h2, h3, h4⟩ := hc k (by rw [HDL.out]; exact hk)
    rw [dbL_at] at h4
    exact ⟨g, o, u, h1, h2, h3, h4⟩)
  obtain ⟨A', cap', rfl, -⟩ := hl.steps
  clear hc hl ho ht hok hd
  rw [HDL.out]
  go_enter Tryz.func25, Tryz.ntmps25
  go_wp2_with fail
  obtain ⟨w0, hw0⟩ : ∃ w0 : World, w0 = w.alloc (.cells #[.slice (some ⟨g, 0, none⟩) ns.length cap0] 26) := ⟨_, rfl⟩
  have hb0 : Below w.heap.size w w0 := hw0 ▸ balloc (b0 w) _
  have q0 : w0.cell? ⟨w.heap.size, 0, none⟩ = some (.slice (some ⟨g, 0, none⟩) ns.length cap0) := by rw [hw0, alloc_cell]; rfl
  have hz0 : w.heap.size < w0.heap.size := by rw [hw0]; simp
  have HB0 := hid hb0
  have HU0 := hid (uni_later HH.out hb0)
  rw [← hw0]
  clear hw0 hb0
  go_loopw [8] (fun iv wr => ∃ k : Nat, k ≤ D ∧ iv = .int .i64 k ∧ Hid (Below w0.heap.size w0 wr) ∧ Hid (∀ j, j < k → ¬ Sure ns l (db j) ∧ ∀ v, ¬ OpenAt ns l (db j) v)) (fun iv _ => D - (intOf iv).toNat)
  case atStart => exact ⟨0, Nat.zero_le _, rfl, hid (b0 _), hid (fun j hj => absurd hj (by omega))⟩
  case round =>
    obtain ⟨k, hk, rfl, hb, hn⟩ := hrel
    have q1 := cell_below hb.out hz0 q0
    have HBR := hid (HB0.out.trans (hb.out.mono HB0.out.size))
    by_cases hlt : k < D
    · obtain ⟨gg, o, iv, hA, hF, g0, hiv⟩ := HC.out k hlt
      subst hA
      have hgr : gg < wr.heap.size := Nat.lt_of_lt_of_le hF HBR.out.size
      have l0 := later_cell (Nat.lt_of_lt_of_le hz0 hb.out.size) q1
      have l1 := later_cell hgr (cell_below HBR.out hF g0)
      have HQ1 := hid q1
      have HG0 := hid (cell_below HBR.out hF g0)
      have i1 : (0 : Int) ≤ ↑k := by omega
      have i2 : (↑k : Int) < ↑D := by omega
      have hur := uni_later HU0.out hb.out
      have hlr := HL.out.lift HBR.out HBR.out.size
      have hir := hiv.lift HBR.out HBR.out.size
      have HUR := hid hur
      have HLR := hid hlr
      have HIR := hid hir
      have HCS := hid (fun e : Later wr => rsure_any _ _ _ ns l (db k) e.w (uni_lat hur e) HO.out (hlr.lift e.below e.below.size) (HT.out.leftOk HO.out) (hir.lift e.below e.below.size) (HOK.out k hlt))
      clear hur hlr hir hiv g0
      obtain ⟨b, hbb⟩ : ∃ b, sureB ns l (db k) = b := ⟨_, rfl⟩
      rw [hbb] at HCS
      cases b with
      | true =>
        have HF := hid (sureB_iff.1 hbb)
        clear hbb
        go_wp2_with fail
        (refine wp_region_later (by kernel_rfl) (by kernel_rfl) ?_; (repeat (go_big_quiet_step ((first | (go_at_call 51; exact Calls.later (HCS.out _) rfl))))); refine wpQuiet_nil ?_; rintro _ ⟨⟨w1, hb1⟩, rfl⟩)
        go_wp2
        exact bodyPost_ret (v := .tuple #[.int .i64 ↑k, .int .i64 (-1)]) (by simp [results, Tryz.results25, go_sem]) rfl ⟨k, -1, rfl, .inr (.inl ⟨k, rfl, hlt, rfl, HF.out⟩), fun j hj => hn.out j (by omega), HB0.out.trans ((bstep hb.out hb1).mono HB0.out.size)⟩
      | false =>
        have HF := hid (show ¬ Sure ns l (db k) from fun hs => by rw [sureB_iff.2 hs] at hbb; cases hbb)
        clear hbb
        go_wp2_with fail
        (refine wp_region_later (by kernel_rfl) (by kernel_rfl) ?_; (repeat (go_big_quiet_step ((first | (go_at_call 51; exact Calls.later (HCS.out _) rfl))))); refine wpQuiet_nil ?_; rintro _ ⟨⟨w1, hb1⟩, rfl⟩)
        rename_i w1
        have hrz : w.heap.size < wr.heap.size := Nat.lt_of_lt_of_le hz0 hb.out.size
        have n0 := later_cell (Nat.lt_of_lt_of_le hrz hb1.size) (cell_below hb1 hrz HQ1.out)
        have n1 := later_cell (Nat.lt_of_lt_of_le hgr hb1.size) (cell_below hb1 hgr HG0.out)
        have hur1 := uni_later HUR.out hb1
        have hlr1 := HLR.out.lift hb1 hb1.size
        have hir1 := HIR.out.lift hb1 hb1.size
        have HCO := hid (fun e : Later w1 => ropen_f _ _ _ ns db' D' l (db k) e.w (uni_lat hur1 e) HO.out (hlr1.lift e.below e.below.size) HT.out (hir1.lift e.below e.below.size) (HOK.out k hlt))
        clear hur1 hlr1 hir1 l0 l1
        have hoi := openF_is ns l (db k)
        obtain ⟨r, hr⟩ : ∃ r, openF ns l (db k) = r := ⟨_, rfl⟩
        rw [hr] at HCO hoi
        have h11 := HO.out.hi
        rcases hoi with ⟨rfl, hno⟩ | ⟨u, rfl, hop⟩
        · have HNO := hid hno
          clear hno hr
          go_wp2_with fail
          (refine wp_region_later (by kernel_rfl) (by kernel_rfl) ?_; (repeat (go_big_quiet_step ((first | (go_at_call 52; exact Calls.later (HCO.out _) rfl))))); refine wpQuiet_nil ?_; rintro _ ⟨⟨w2, hb2⟩, rfl⟩)
          go_wp2
          exact ⟨⟨k + 1, by omega, by go_num, hid (bstep (bstep hb.out hb1) hb2), hid (fun j hj => if e : j = k then by subst e; exact ⟨HF.out, HNO.out⟩ else hn.out j (by omega))⟩, by simp [intOf]; omega⟩
        · have HOP := hid hop
          have u1 : (0 : Int) ≤ ↑u := by omega
          clear hop hr
          go_wp2_with fail
          (refine wp_region_later (by kernel_rfl) (by kernel_rfl) ?_; (repeat (go_big_quiet_step ((first | (go_at_call 52; exact Calls.later (HCO.out _) rfl))))); refine wpQuiet_nil ?_; rintro _ ⟨⟨w2, hb2⟩, rfl⟩)
          go_wp2
          exact bodyPost_ret (v := .tuple #[.int .i64 ↑k, .int .i64 ↑u]) (by simp [results, Tryz.results25, go_sem]) rfl ⟨k, u, rfl, .inr (.inr ⟨k, u, rfl, hlt, rfl, HOP.out⟩), fun j hj => hn.out j (by omega), HB0.out.trans ((bstep (bstep hb.out hb1) hb2).mono HB0.out.size)⟩
    · go_wp2
      exact bodyPost_ret (v := .tuple #[.int .i64 (-1), .int .i64 (-1)]) (by simp [results, Tryz.results25, go_sem]) rfl ⟨-1, -1, rfl, .inl ⟨rfl, rfl, fun j hj => hn.out j (by omega)⟩, fun j hj => absurd hj (by omega), HBR.out⟩
theorem rscan_any (v lv dv : Value) (ns : List Nat) (db : Nat → Nat → Nat) (D : Nat) (db' : Nat → Nat → Nat) (D' : Nat) (l : List StepN) (w : World) (h : UniRd w (Lt w.heap.size) v ns) (ho : NsOk ns) (hl : SliceRd fStep.ty w (Lt w.heap.size) lv l) (ht : TrOk ns db' D' l) (hd : SliceRd (tSlice tTerm) w (Lt w.heap.size) dv (dbL ns db D)) (hok : ∀ c, c < D → IncOk ns (db c)) (hD : D ≤ 100000) :
    Calls Tryz.prog 25 #[v, dv, lv] w fun e w' => ∃ i u : Int, e = .returned (.tuple #[.int .i64 i, .int .i64 u]) ∧ ScanIs ns db D l i u ∧ Below w.heap.size w w' :=
  (rscan_first v lv dv ns db D db' D' l w h ho hl ht hd hok hD).mono fun e w' hp => by
    obtain ⟨i, u, h1, h2, _, h3⟩ := hp
    exact ⟨i, u, h1, h2, h3⟩
end Go.Proofs.YtmbjeppnamhgiaaGreat
end
section
/- Contracts: trail.Level. -/
namespace Go.Proofs.YtmbjeppnamhgiaaGreat
open Go Go.RowKit

set_option maxHeartbeats 1000000 in
theorem tlevel_any (lv : Value) (l : List StepN) (w : World) (hl : SliceRd fStep.ty w (Lt w.heap.size) lv l) :
    Calls Tryz.prog 73 #[lv] w fun e w' => e = .returned (.int .i64 (levelN l)) ∧ w' = w := by
  obtain ⟨A, cap, rfl, hcap, hmax, hc⟩ := hl.steps
  unfold maxLen at hmax
  have HC := hid hc
  clear hc hl
  go_enter Tryz.func73, Tryz.ntmps73
  cases hll : l.length with
  | zero =>
    have : l = [] := List.length_eq_zero_iff.1 hll
    subst this
    go_wp2
    go_ret
    exact ⟨ret_int rfl, rfl⟩
  | succ n =>
    obtain ⟨gg, o, hA, hF, ⟨g0, g1, g2, g3⟩, hok⟩ := HC.out n (by omega)
    subst hA
    have HL := hid (level_last hll)
    have hz : (((n + 1 : Nat) : Int) == 0) = false := by simp; omega
    have e0 : ((n + 1 : Nat) : Int) - 1 = (n : Int) := by omega
    have i1 : (0 : Int) ≤ ↑n := by omega
    have i2 : (↑n : Int) < ((n + 1 : Nat) : Int) := by omega
    clear g0 g1 g3 hok
    go_wp2
    go_ret
    exact ⟨ret_int (by rw [HL.out]), rfl⟩
/-- Was a unit decided? -/
def decB (l : List StepN) (u : Nat) : Bool := l.any fun s => decide (s.u = u) && decide (s.c = -1)
set_option maxHeartbeats 1000000 in
theorem rdecided_any (lv : Value) (l : List StepN) (u : Nat) (w : World) (hl : SliceRd fStep.ty w (Lt w.heap.size) lv l) (hll : l.length ≤ 100000) :
    Calls Tryz.prog 109 #[lv, .int .i64 u] w fun e w' => e = .returned (.bool (decB l u)) ∧ w' = w := by
  obtain ⟨A, cap, rfl, hcap, hmax, hc⟩ := hl.steps
  have HC := hid hc
  clear hc hl
  go_enter Tryz.func109, Tryz.ntmps109
  go_wp2_with fail
  go_loopw [5] (fun iv wr => ∃ k : Nat, k ≤ l.length ∧ iv = .int .i64 k ∧ wr = w ∧ Hid (∀ j, (hj : j < l.length) → j < k → ¬ (l[j].u = u ∧ l[j].c = -1))) (fun iv _ => l.length - (intOf iv).toNat)
  case atStart => exact ⟨0, Nat.zero_le _, rfl, rfl, hid (fun j _ hj => absurd hj (by omega))⟩
  case round =>
    obtain ⟨k, hk, rfl, rfl, hn⟩ := hrel
    by_cases hlt : k < l.length
    · obtain ⟨gg, o, hA, hF, ⟨g0, g1, g2, g3⟩, hok⟩ := HC.out k hlt
      subst hA
      have i1 : (0 : Int) ≤ ↑k := by omega
      have i2 : (↑k : Int) < ↑l.length := by omega
      obtain ⟨a, ha⟩ : ∃ a, l[k].u = a := ⟨_, rfl⟩
      obtain ⟨c, hc⟩ : ∃ c, l[k].c = c := ⟨_, rfl⟩
      rw [ha] at g0
      rw [hc] at g3
      have HA := hid (And.intro ha hc)
      clear g1 g2 hok ha hc
      by_cases h1 : a = u
      · have z1 : ((a : Int) == (u : Int)) = true := by simp; omega
        by_cases h2 : c = -1
        · have z2 : (c == -1) = true := by simp; omega
          have HT : Hid (decB l u = true) := hid (List.any_eq_true.2 ⟨l[k], List.getElem_mem hlt, by rw [HA.out.1, HA.out.2]; simp [h1, h2]⟩)
          clear h1 h2
          go_wp2
          go_ret
          exact ⟨ret_bool HT.out.symm, rfl⟩
        · have z2 : (c == -1) = false := by simp; omega
          have HE := hid h2
          clear h1 h2
          go_wp2
          exact ⟨⟨k + 1, by omega, by go_num, (by first | trivial | rfl), hid (fun j hj hjk => if e : j = k then by subst e; rw [HA.out.2]; exact fun hh => HE.out hh.2 else hn.out j hj (by omega))⟩, by simp [intOf]; omega⟩
      · have z1 : ((a : Int) == (u : Int)) = false := by simp; omega
        have HE := hid h1
        clear h1
        go_wp2
        exact ⟨⟨k + 1, by omega, by go_num, (by first | trivial | rfl), hid (fun j hj hjk => if e : j = k then by subst e; rw [HA.out.1]; exact fun hh => HE.out hh.1 else hn.out j hj (by omega))⟩, by simp [intOf]; omega⟩
    · have HT : Hid (decB l u = false) := hid (List.any_eq_false.2 fun s hs => by
        obtain ⟨j, hj, rfl⟩ := List.getElem_of_mem hs
        have := hn.out j hj (by omega)
        simpa using this)
      go_wp2
      go_ret
      exact ⟨ret_bool HT.out.symm, rfl⟩
end Go.Proofs.YtmbjeppnamhgiaaGreat
end
