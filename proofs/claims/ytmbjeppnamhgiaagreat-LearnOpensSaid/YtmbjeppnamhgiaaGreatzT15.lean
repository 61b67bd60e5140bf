import Derived.Test.YtmbjeppnamhgiaaGreatT12
import Derived.Test.YtmbjeppnamhgiaaGreatV12
import Derived.Deep.DeepCutAuto
import Derived.Outline
import Derived.Test.YtmbjeppnamhgiaaGreatzN
section
/- Contract: ref24.Derive, at a unit at which something is open. -/
namespace Go.Proofs.YtmbjeppnamhgiaaGreat
open Go Go.RowKit

set_option maxRecDepth 100000 in
set_option maxHeartbeats 4000000 in
theorem rderive_any (v lv : Value) (ns : List Nat) (db : Nat → Nat → Nat) (D : Nat) (l : List StepN) (u m c : Nat) (w : World) (h : UniRd w (Lt w.heap.size) v ns) (ho : NsOk ns) (hl : SliceRd fStep.ty w (Lt w.heap.size) lv l) (hll : l.length ≤ 900) (ht : TrOk ns db D l) (hu : u < ns.length) (hm : m ≤ 31) (hc : c ≤ 100000) (hi : ¬ inN (leftN ns l u) m) (h0 : leftN ns l u &&& m ≠ 0) :
    Calls Tryz.prog 26 #[v, lv, .agg #[.int .i64 u, .int .i64 m], .int .i64 c] w fun e w' => ∃ tv, e = .returned (.tuple #[tv, .bool true]) ∧ OwnF fStep 98 w.heap.size w' tv (l ++ [⟨u, lessN (leftN ns l u) m, levelN l, c⟩]) ∧ Below w.heap.size w w' := by
  obtain ⟨it, hit⟩ := info_parts step_info
  have HIT := hid hit
  have HL := hid hl
  have hL31 := ht.le31 ho hu
  have hnv := ht.level_le
  have h11 := ho.hi
  have HLF := hid (fun (W : World) (hb : Below w.heap.size w W) => rleft_any _ _ ns l u W (uni_later h hb) ho (hl.lift hb hb.size) hu)
  have HLV := hid (fun (W : World) (hb : Below w.heap.size w W) => rlevel_any _ l W (hl.lift hb hb.size))
  obtain ⟨g, cap0, rfl, hg, -⟩ := h
  obtain ⟨A, cap, rfl, hca, hcm, -⟩ := hl.steps
  have hokl := hl.srcF.2.2
  have HOKL := hid hokl
  unfold maxLen at hcm
  have HSRC := hid (fun (W : World) (hb : Below w.heap.size w W) => (HL.out.lift hb hb.size).srcF.2.1)
  have hless : lessN (leftN ns l u) m = leftN ns l u - (leftN ns l u &&& m) := rfl
  have hne1 := less_ne hL31 hi
  have hne2 : lessN (leftN ns l u) m ≠ leftN ns l u := by rw [hless]; have := Nat.and_le_left (n := leftN ns l u) (m := m); omega
  have hle : lessN (leftN ns l u) m ≤ 31 := by rw [hless]; omega
  have HB := and_nat hL31 hm
  have hsub : (↑(leftN ns l u) : Int) - ((leftN ns l u &&& m : Nat) : Int) = ((lessN (leftN ns l u) m : Nat) : Int) := by rw [hless]; have := Nat.and_le_left (n := leftN ns l u) (m := m); omega
  have HOKS := hid (show fStep.ok ⟨u, lessN (leftN ns l u) m, levelN l, c⟩ from ⟨by show u ≤ 1000; omega, hle, by show levelN l ≤ 1000; omega, by show (-1 : Int) ≤ (c : Int); omega, by show (c : Int) ≤ 100000; omega⟩)
  generalize lessN (leftN ns l u) m = s at *
  generalize hLx : leftN ns l u &&& m = x at *
  generalize leftN ns l u = L at *
  generalize levelN l = nv at *
  obtain ⟨ln, hln⟩ : ∃ ln, l.length = ln := ⟨_, rfl⟩
  have HLN := hid hln
  rw [hln] at hll hca HSRC HLF HLV ⊢
  have u1 : (0 : Int) ≤ ↑u := by omega
  have u2 : (↑u : Int) < ↑ns.length := by omega
  have z1 : ((s : Int) == 0) = false := by simp; omega
  have z2 : ((s : Int) == (L : Int)) = false := by simp; omega
  have c1 : (0 : Int) ≤ ↑c := by omega
  have hw64 : IntKind.i64.wrap (s : Int) = (s : Int) := IntWalk.i64_in _ (by omega)
  clear hit ho hl ht hokl hless hi h0 hne1 hne2 hln
  go_enter Tryz.func26, Tryz.ntmps26
  go_wp2_with fail
  obtain ⟨w0, hw0⟩ : ∃ w0 : World, w0 = (w.alloc (.cells #[.slice (some ⟨g, 0, none⟩) ns.length cap0] 26)).alloc (.cells #[.int .i64 u, .int .i64 m] 54) := ⟨_, rfl⟩
  have hb0 : Below w.heap.size w w0 := hw0 ▸ balloc (balloc (b0 w) _) _
  have hz1 : w.heap.size + 1 < w0.heap.size := by rw [hw0]; simp
  have s0 : w0.cell? ⟨w.heap.size + 1, 0, none⟩ = some (.int .i64 u) := by rw [hw0]; exact alloc2_new rfl
  have s1 : w0.cell? ⟨w.heap.size + 1, 1, none⟩ = some (.int .i64 m) := by rw [hw0]; exact alloc2_new rfl
  have HB0 := hid hb0
  rw [← hw0]
  clear hw0 hb0
  refine (HLF.out w0 HB0.out).mono ?_
  rintro e w1 ⟨rfl, hb1⟩
  have r0 := cell_below hb1 hz1 s0
  have r1 := cell_below hb1 hz1 s1
  have HB1 := hid (bstep HB0.out hb1)
  have HLE := hid (HLV.out w1.drew (bstep HB0.out hb1).drew)
  have hz2 := Nat.lt_of_lt_of_le hz1 hb1.size
  have ra0 := fun o => cell_below (balloc (b0 w1) o) hz2 r0
  have ra1 := fun o => cell_below (balloc (b0 w1) o) hz2 r1
  clear s0 hb1
  go_upto_region 4 with fail
  go_cut [11] (fun s11 wx => s11 = .pointer (some ⟨w1.heap.size, 0, none⟩) ∧ wx = (w1.alloc (.cells #[.int .i64 u, .int .i64 s, .int .i64 nv, .int .i64 c] 98)).drew)
  case first =>
    go_region_law ((go_simp; go_at_call 22; (first | refine (HLV.out _ (balloc HB1.out _).drew).mono ?_ | refine (HLV.out _ HB1.out.drew).mono ?_); rintro e w2 ⟨rfl, hw2⟩; rw [hw2]; clear hw2))
    all_goals (go_wp2_with fail; go_meet; first | exact ⟨rfl, rfl⟩ | exact ⟨rfl, by rw [hw64]⟩)
  case rest =>
    obtain ⟨rfl, rfl⟩ := hcut
    obtain ⟨w2, hw2⟩ : ∃ w2 : World, w2 = (w1.alloc (.cells #[.int .i64 u, .int .i64 s, .int .i64 nv, .int .i64 c] 98)).drew := ⟨_, rfl⟩
    have hb2 : Below w1.heap.size w1 w2 := hw2 ▸ (balloc (b0 w1) _).drew
    have hz3 : w1.heap.size < w2.heap.size := by rw [hw2]; simp
    have t0 : w2.cell? ⟨w1.heap.size, 0, none⟩ = some (.int .i64 u) := by rw [hw2]; exact (alloc_cell _ _ _ _).trans rfl
    have t1 : w2.cell? ⟨w1.heap.size, 1, none⟩ = some (.int .i64 s) := by rw [hw2]; exact (alloc_cell _ _ _ _).trans rfl
    have t2 : w2.cell? ⟨w1.heap.size, 2, none⟩ = some (.int .i64 nv) := by rw [hw2]; exact (alloc_cell _ _ _ _).trans rfl
    have t3 : w2.cell? ⟨w1.heap.size, 3, none⟩ = some (.int .i64 c) := by rw [hw2]; exact (alloc_cell _ _ _ _).trans rfl
    have HBW := hid (bstep HB1.out hb2)
    rw [← hw2]
    clear hw2 hb2
    have HS1 := HSRC
    go_wp2_with fail
    go_region_law ((first | (refine step_guard (.const (.slice none 0 0)) (.tmp 53) 31 rfl ?_; refine step_append_src _ rfl (.const (.slice none 0 0)) (.tmp 53) 31 rfl w.heap.size 98 it _ 4 32 Tryz.underlying31 HIT.out.1 HIT.out.2.1 HIT.out.2.2.1 HIT.out.2.2.2 rfl (by omega) (.slice none 0 0) (0) ([]) (by rfl) (own_noneF _ _ _ _) (A) (ln) (cap) (fStep.all (l)) (by rfl) (HS1.out _ (by repeat (first | (with_reducible exact HBW.out) | (with_reducible exact HW1x.out) | (with_reducible exact HW2x.out) | (with_reducible exact b0 _) | (with_reducible refine balloc ?_ _) | (with_reducible refine bdrew ?_)))) (fStep.all_one _) (by unfold maxLen; omega) (by omega) (Below.size (B := w.heap.size) (w := w) (by repeat (first | (with_reducible exact HBW.out) | (with_reducible exact HW1x.out) | (with_reducible exact HW2x.out) | (with_reducible exact b0 _) | (with_reducible refine balloc ?_ _) | (with_reducible refine bdrew ?_)))) ?_; intro v1x w1x hown1 hg1 hat1; have HW1x := hid (own_below (w := w) HBW.out (by repeat (first | (with_reducible exact HBW.out) | (with_reducible exact HW1x.out) | (with_reducible exact HW2x.out) | (with_reducible exact b0 _) | (with_reducible refine balloc ?_ _) | (with_reducible refine bdrew ?_))) hg1); have hbc1x := own_cells (b := w2.heap.size) hg1 (by simp); simp only [Nat.zero_add, List.nil_append] at hown1; obtain ⟨A1x, c1x, rfl⟩ := own_form hown1; have HO1x := hid hown1; have HG1x := hid hg1; clear hown1 hg1 hat1) | (refine step_guard (.tmp 54) (.tmp 56) 31 rfl ?_; refine step_append_src _ rfl (.tmp 54) (.tmp 56) 31 rfl w.heap.size 98 it _ 4 32 Tryz.underlying31 HIT.out.1 HIT.out.2.1 HIT.out.2.2.1 HIT.out.2.2.2 rfl (by omega) (.slice A1x (ln) c1x) (ln) (fStep.all (l)) (by rfl) (by first | exact HO1x.out | exact own_alloc_drew HO1x.out _ | exact HO1x.out.alloc _) (some ⟨w1x.heap.size, 0, none⟩) (1) (1) (fStep.cells ⟨u, s, nv, (c : Int)⟩) (by rfl) (by first | exact src_new _ _ rfl 4 _ rfl rfl | exact src_new_drew _ _ rfl 4 _ rfl rfl) (by simp [fStep, Value.oneCell']) (by unfold maxLen; omega) (by omega) (Below.size (B := w.heap.size) (w := w) (by repeat (first | (with_reducible exact HBW.out) | (with_reducible exact HW1x.out) | (with_reducible exact HW2x.out) | (with_reducible exact b0 _) | (with_reducible refine balloc ?_ _) | (with_reducible refine bdrew ?_)))) ?_; intro v2x w2x hown2 hg2 hat2; have HW2x := hid (own_below2 HO1x.out HW1x.out (by repeat (first | (with_reducible exact HBW.out) | (with_reducible exact HW1x.out) | (with_reducible exact HW2x.out) | (with_reducible exact b0 _) | (with_reducible refine balloc ?_ _) | (with_reducible refine bdrew ?_))) hg2); obtain ⟨A2x, c2x, rfl⟩ := own_form hown2; have HO2x := hid hown2; clear hown2 hg2 hat2) | (refine step_guard (.tmp 54) (.tmp 56) 31 rfl ?_; refine step_append_src _ rfl (.tmp 54) (.tmp 56) 31 rfl w.heap.size 98 it _ 4 32 Tryz.underlying31 HIT.out.1 HIT.out.2.1 HIT.out.2.2.1 HIT.out.2.2.2 rfl (by omega) (.slice A1x (ln) c1x) (ln) (fStep.all (l)) (by rfl) (by first | exact HO1x.out | exact own_alloc_drew HO1x.out _ | exact HO1x.out.alloc _) (some ⟨w2.heap.size, 0, none⟩) (1) (1) (fStep.cells ⟨u, s, nv, (c : Int)⟩) (by rfl) (by first | exact src_grown (src_new _ _ rfl 4 _ rfl rfl) HG1x.out (by simp) | exact src_grown (src_new_drew _ _ rfl 4 _ rfl rfl) HG1x.out (by simp)) (by simp [fStep, Value.oneCell']) (by unfold maxLen; omega) (by omega) (Below.size (B := w.heap.size) (w := w) (by repeat (first | (with_reducible exact HBW.out) | (with_reducible exact HW1x.out) | (with_reducible exact HW2x.out) | (with_reducible exact b0 _) | (with_reducible refine balloc ?_ _) | (with_reducible refine bdrew ?_)))) ?_; intro v2x w2x hown2 hg2 hat2; have HW2x := hid (own_below2 HO1x.out HW1x.out (by repeat (first | (with_reducible exact HBW.out) | (with_reducible exact HW1x.out) | (with_reducible exact HW2x.out) | (with_reducible exact b0 _) | (with_reducible refine balloc ?_ _) | (with_reducible refine bdrew ?_))) hg2); obtain ⟨A2x, c2x, rfl⟩ := own_form hown2; have HO2x := hid hown2; clear hown2 hg2 hat2)))
    all_goals
      go_wp2_with fail
      exact bodyPost_ret (v := .tuple #[_, .bool true]) (by simp [results, Tryz.results26, go_sem]) rfl ⟨_, rfl, own_snocF HLN.out HOKL.out HOKS.out HO2x.out, HW2x.out⟩
end Go.Proofs.YtmbjeppnamhgiaaGreat
end
section
/- Contract: ref24.Run. -/
namespace Go.Proofs.YtmbjeppnamhgiaaGreat
open Go Go.RowKit

/-- What Run tells: a trail with what follows behind it; one that is sure, or none, and nothing follows. -/
def RunIs (ns : List Nat) (db : Nat → Nat → Nat) (D : Nat) (l m : List StepN) (r : Int) : Prop :=
  TrOk ns db D (l ++ m) ∧ m.length ≤ ns.length * 5 ∧ (∀ s ∈ m, s.c ≠ -1) ∧ ((r = -1 ∧ ∀ i, i < D → ¬ Sure ns (l ++ m) (db i) ∧ ∀ u, ¬ OpenAt ns (l ++ m) (db i) u) ∨ ∃ k : Nat, r = (k : Int) ∧ k < D ∧ Sure ns (l ++ m) (db k))
def RunPost (ns : List Nat) (db : Nat → Nat → Nat) (D : Nat) (l : List StepN) (w : World) (e : Ending) (w' : World) : Prop :=
  ∃ tv r m, e = .returned (.tuple #[tv, .int .i64 r]) ∧ RunIs ns db D l m r ∧ OwnF fStep 98 w.heap.size w' tv (l ++ m) ∧ Below w.heap.size w w'
theorem mask_of {ns : List Nat} {M : Nat → Nat} {u : Nat} (hu : u < ns.length) : maskF ns (canon ns M) (u : Int) = (M u : Int) := by rw [mask_canon, maskN_nat M hu]
/-- Each step follows from the first that is open. -/
def Firsts (ns : List Nat) (db : Nat → Nat → Nat) (l m : List StepN) (r : Int) : Prop := (∀ a s b, m = a ++ s :: b → Before ns db (l ++ a) s.c) ∧ Before ns db (l ++ m) r
def RunPost1 (ns : List Nat) (db : Nat → Nat → Nat) (D : Nat) (l : List StepN) (w : World) (e : Ending) (w' : World) : Prop :=
  ∃ tv r m, e = .returned (.tuple #[tv, .int .i64 r]) ∧ RunIs ns db D l m r ∧ Firsts ns db l m r ∧ OwnF fStep 98 w.heap.size w' tv (l ++ m) ∧ Below w.heap.size w w'
theorem firsts_snoc {ns : List Nat} {db : Nat → Nat → Nat} {l m : List StepN} {s : StepN} (h : ∀ a s b, m = a ++ s :: b → Before ns db (l ++ a) s.c) (hs : Before ns db (l ++ m) s.c) : ∀ a s' b, m ++ [s] = a ++ s' :: b → Before ns db (l ++ a) s'.c := by
  intro a s' b e
  rcases List.eq_nil_or_concat b with rfl | ⟨b', x, rfl⟩
  · obtain ⟨e1, e2⟩ := List.append_inj' e rfl
    injection e2 with e2 _
    subst e1 e2
    exact hs
  · rw [List.concat_eq_append, ← List.cons_append, ← List.append_assoc] at e
    obtain ⟨e1, _⟩ := List.append_inj' e rfl
    exact h a s' b' e1
/-- Incompatibilities, opened. -/
theorem SliceRd.dbs {ns : List Nat} {db : Nat → Nat → Nat} {D : Nat} {w : World} {F : Nat → Prop} {v : Value} (h : SliceRd (tSlice tTerm) w F v (dbL ns db D)) :
    ∃ A cap, v = .slice A D cap ∧ D ≤ cap ∧ cap ≤ maxLen ∧ ∀ k, k < D → ∃ g o u, A = some ⟨g, o, none⟩ ∧ F g ∧ w.cell? ⟨g, o + k, none⟩ = some u ∧ SliceRd tTerm w F u (canon ns (db k)) := by
  have hD := dbL_len ns db D
  obtain ⟨A, cap, hv, h1, h2, h3⟩ := h.lists
  rw [hD] at hv h1
  refine ⟨A, cap, hv, h1, h2, fun k hk => ?_⟩
  obtain ⟨g, o, u, e1, e2, e3, e4⟩ := h3 k (by rw [hD]; exact hk)
  rw [dbL_at] at e4
  exact ⟨g, o, u, e1, e2, e3, e4⟩
set_option maxRecDepth 100000 in
set_option maxHeartbeats 8000000 in
theorem rrun_first (v lv dv : Value) (ns : List Nat) (db : Nat → Nat → Nat) (D : Nat) (l : List StepN) (w : World) (h : UniRd w (Lt w.heap.size) v ns) (ho : NsOk ns) (hl : SliceRd fStep.ty w (Lt w.heap.size) lv l) (hll : l.length ≤ 800) (ht : TrOk ns db D l) (hd : SliceRd (tSlice tTerm) w (Lt w.heap.size) dv (dbL ns db D)) (hok : ∀ c, c < D → IncOk ns (db c)) (hD : D ≤ 100000) :
    Calls Tryz.prog 30 #[v, dv, lv] w (RunPost1 ns db D l w) := by
  obtain ⟨it, hit⟩ := info_parts step_info
  have HIT := hid hit
  have HH := hid h
  have HO := hid ho
  have HOK := hid hok
  have HD := hid hd
  have HT := hid ht
  have h11 := ho.hi
  have hmu := mu_le ns l
  obtain ⟨g, cap0, rfl, hg, -⟩ := h
  obtain ⟨A, cap, rfl, hca, hcm, -⟩ := hl.steps
  unfold maxLen at hcm
  have hsrc := hl.srcF
  have HOKL := hid hsrc.2.2
  have HS1 := hid (fun (W : World) (hb : Below w.heap.size w W) => (hl.lift hb hb.size).srcF.2.1)
  obtain ⟨Ad, capd, rfl, hcd, hcdm, hcs⟩ := hd.dbs
  have HC := hid hcs
  obtain ⟨ln, hln⟩ : ∃ ln, l.length = ln := ⟨_, rfl⟩
  have HLN := hid hln
  rw [hln] at hll hca HS1 ⊢
  clear hit ho hl ht hd hok hcs hsrc
  go_enter Tryz.func30, Tryz.ntmps30
  go_wp2_with (at_builtin; go_must (refine wpList_append_src _ rfl (.const (.slice none 0 0)) (.tmp 12) _ rfl w.heap.size 98 it _ 4 32 Tryz.underlying31 HIT.out.1 HIT.out.2.1 HIT.out.2.2.1 HIT.out.2.2.2 rfl (by omega) (.slice none 0 0) 0 [] (by rfl) (own_noneF _ _ _ _) A ln cap (fStep.all l) (by rfl) (HS1.out _ (balloc (b0 w) _)) (fStep.all_one l) (by unfold maxLen; omega) (by omega) (by simp) ?_; intro x1 w1 hown1 hg1 hat1))
  have HO1 := hid (own_copyF (f := fStep) (e := 98) (l := l) HOKL.out (by rw [HLN.out]; exact hown1))
  have HB1 := hid (own_app (v2 := x1) (balloc (b0 w) _) (OwnF.nil fStep 98 w.heap.size _) (by simp) hg1 rfl)
  have q0 : w1.cell? ⟨w.heap.size, 0, none⟩ = some (.slice (some ⟨g, 0, none⟩) ns.length cap0) := (own_cells (b := w.heap.size + 1) hg1 (by simp) w.heap.size 0 (by omega)).trans ((alloc_cell _ _ _ _).trans rfl)
  have hz0 : w.heap.size < w1.heap.size := Nat.lt_of_lt_of_le (by simp) hg1.size
  clear hown1 hg1 hat1
  have w18 : IntKind.i64.wrap (↑ns.length * 18) = (↑ns.length : Int) * 18 := IntWalk.i64_in _ (by omega)
  go_loopw [8, 9] (fun ov iv wr => ∃ m : List StepN, iv = .int .i64 m.length ∧ Hid (OwnF fStep 98 w.heap.size wr ov (l ++ m)) ∧ Hid (Below w1.heap.size w1 wr) ∧ Hid (TrOk ns db D (l ++ m)) ∧ Hid (muN ns (l ++ m) + m.length ≤ muN ns l) ∧ Hid (∀ s ∈ m, s.c ≠ -1) ∧ Hid (∀ a s b, m = a ++ s :: b → Before ns db (l ++ a) s.c)) (fun _ iv _ => ns.length * 18 + 1 - (intOf iv).toNat)
  case atStart => exact ⟨[], rfl, hid (by rw [List.append_nil]; exact HO1.out), hid (b0 w1), hid (by rw [List.append_nil]; exact HT.out), hid (by rw [List.append_nil]; exact Nat.le_refl _), hid (fun s hs => by cases hs), hid (fun a s b e => by cases a <;> cases e)⟩
  case round =>
    obtain ⟨m, rfl, ho, hb, ht, hm, hnc, hfi⟩ := hrel
    obtain ⟨A8, c8, hov⟩ := ho.out.form
    subst hov
    obtain ⟨LL, hLL⟩ : ∃ LL, (l ++ m).length = LL := ⟨_, rfl⟩
    rw [hLL] at ho ⊢
    have HLLE := hid hLL
    clear hLL
    have hml : m.length ≤ ns.length * 5 := by have := hm.out; omega
    have i1 : (↑m.length : Int) ≤ ↑ns.length * 18 := by omega
    have HBR := hid (HB1.out.trans (hb.out.mono HB1.out.size))
    have hlen : (l ++ m).length ≤ 900 := by rw [List.length_append, HLN.out]; omega
    have HLEN := hid hlen
    have hrz : w.heap.size < wr.heap.size := Nat.lt_of_lt_of_le hz0 hb.out.size
    have q1 := cell_below hb.out hz0 q0
    have HUR := hid (uni_later HH.out HBR.out)
    have HDR := hid (HD.out.lift HBR.out HBR.out.size)
    have HML := hid hml
    clear hlen
    go_wp2_with fail
    refine (rscan_first _ _ _ ns db D db D (l ++ m) _ HUR.out HO.out ho.out.rd ht.out HDR.out HOK.out hD).mono ?_
    rintro e w2 ⟨i, u, rfl, hsc, hbf, hb2⟩
    have HBF := hid hbf
    have HSC := hid hsc
    have HB2 := hid hb2
    clear hsc hb2 hbf
    have HIS := hid (fun (r : Int) (h : (r = -1 ∧ ∀ i, i < D → ¬ Sure ns (l ++ m) (db i) ∧ ∀ u, ¬ OpenAt ns (l ++ m) (db i) u) ∨ ∃ k : Nat, r = (k : Int) ∧ k < D ∧ Sure ns (l ++ m) (db k)) => (show RunIs ns db D l m r from ⟨ht.out, HML.out, hnc.out, h⟩))
    have HOW2 := hid (ho.out.below HB2.out (Nat.le_refl _))
    have HBW2 := hid (HBR.out.trans (HB2.out.mono HBR.out.size))
    rcases HSC.out with ⟨rfl, rfl, hno⟩ | ⟨k, rfl, hk, rfl, hsu⟩ | ⟨k, v, rfl, hk, rfl, hop⟩
    · have HI := hid (HIS.out _ (.inl ⟨rfl, hno⟩))
      clear hno
      go_wp2
      exact bodyPost_ret (v := .tuple #[.slice A8 LL c8, .int .i64 (-1)]) (by simp [results, Tryz.results30, go_sem]) rfl ⟨_, _, m, rfl, HI.out, ⟨hfi.out, HBF.out⟩, HOW2.out, HBW2.out⟩
    · have HI := hid (HIS.out _ (.inr ⟨k, rfl, hk, hsu⟩))
      clear hsu hk
      go_wp2
      exact bodyPost_ret (v := .tuple #[.slice A8 LL c8, .int .i64 k]) (by simp [results, Tryz.results30, go_sem]) rfl ⟨_, _, m, rfl, HI.out, ⟨hfi.out, HBF.out⟩, HOW2.out, HBW2.out⟩
    · have hvl := hop.1
      have hm31 : db k v ≤ 31 := (HOK.out k hk).le HO.out v hvl
      obtain ⟨gg, o, iv, hA, hF, g0, hiv⟩ := HC.out k hk
      subst hA
      have y0 := cell_below HB2.out hrz q1
      have y1 := cell_below HBW2.out hF g0
      have hrz2 := Nat.lt_of_lt_of_le hrz HB2.out.size
      have hgz2 : gg < w2.heap.size := Nat.lt_of_lt_of_le hF HBW2.out.size
      have HMK := hid (fun (W : World) (hb : Below w2.heap.size w2 W) => rmask_any (.agg #[.slice (some ⟨g, 0, none⟩) ns.length cap0]) iv ns (canon ns (db k)) v W (uni_later HH.out (bstep HBW2.out hb)) HO.out (hiv.lift (bstep HBW2.out hb) (bstep HBW2.out hb).size) ⟨by omega, by omega⟩)
      rw [mask_of hvl] at HMK
      have HDV := hid (fun (W : World) (hb : Below w2.heap.size w2 W) => rderive_any (.agg #[.slice (some ⟨g, 0, none⟩) ns.length cap0]) (.slice A8 LL c8) ns db D (l ++ m) v (db k v) k W (uni_later HH.out (bstep HBW2.out hb)) HO.out (HOW2.out.rd.lift hb hb.size) HLEN.out ht.out hvl hm31 (by omega) hop.2.2.1 hop.2.2.2)
      have htr : TrOk ns db D ((l ++ m) ++ [⟨v, lessN (leftN ns (l ++ m) v) (db k v), levelN (l ++ m), k⟩]) := .derive _ _ k ht.out rfl hk hop rfl rfl
      have HTR := hid htr
      have HBF2 : Hid (Before ns db (l ++ m) (StepN.c ⟨v, lessN (leftN ns (l ++ m) v) (db k v), levelN (l ++ m), k⟩)) := hid HBF.out
      have HMU := hid (mu_lt HO.out htr (by show (k : Int) ≠ -1; omega))
      obtain ⟨s, hs⟩ : ∃ s : StepN, s = ⟨v, lessN (leftN ns (l ++ m) v) (db k v), levelN (l ++ m), k⟩ := ⟨_, rfl⟩
      have hsc : s.c ≠ -1 := by rw [hs]; show (k : Int) ≠ -1; omega
      have HSC2 := hid hsc
      rw [← hs] at HTR HMU HDV HBF2
      have k1 : (0 : Int) ≤ ↑k := by omega
      have k2 : (↑k : Int) < ↑D := by omega
      have v1 : (0 : Int) ≤ ↑v := by omega
      have v0 : ¬ ((v : Int) < 0) := by omega
      have v2 : decide ((v : Int) < 0) = false := decide_eq_false v0
      clear hop htr hs hsc hm31 hiv q1 g0
      generalize db k v = dk at HMK HDV
      go_wp2_with fail
      go_region_law ((first
        | (go_simp; go_at_call 27; refine (HMK.out _ (bdrew (b0 w2))).mono ?_; rintro e w3 ⟨rfl, hb3⟩; have HB3 := hid ((b0 w2).drew.trans (hb3.mono (Nat.le_refl _))); have x0 := cell_below HB3.out hrz2 y0; clear hb3)
        | (go_simp; go_at_call 26; refine (HDV.out _ HB3.out).mono ?_; rintro e w4 ⟨tv, rfl, ho4, hb4⟩; have HO4 := hid (ho4.mono (Nat.le_trans HBW2.out.size HB3.out.size)); have HB4 := hid (bstep HB3.out hb4); clear ho4 hb4)))
      all_goals
        go_wp2_with fail
        exact ⟨⟨m ++ [s], by simp, hid (by rw [← List.append_assoc]; exact HO4.out), hid (bstep (bstep hb.out HB2.out) HB4.out), hid (by rw [← List.append_assoc]; exact HTR.out), hid (by rw [← List.append_assoc, List.length_append]; have := hm.out; have := HMU.out; simp only [List.length_singleton]; omega), hid (fun x hx => (List.mem_append.1 hx).elim (hnc.out x) (fun h => by rw [List.mem_singleton.1 h]; exact HSC2.out)), hid (firsts_snoc hfi.out HBF2.out)⟩, by simp [intOf]; have := HML.out; omega⟩
theorem rrun_any (v lv dv : Value) (ns : List Nat) (db : Nat → Nat → Nat) (D : Nat) (l : List StepN) (w : World) (h : UniRd w (Lt w.heap.size) v ns) (ho : NsOk ns) (hl : SliceRd fStep.ty w (Lt w.heap.size) lv l) (hll : l.length ≤ 800) (ht : TrOk ns db D l) (hd : SliceRd (tSlice tTerm) w (Lt w.heap.size) dv (dbL ns db D)) (hok : ∀ c, c < D → IncOk ns (db c)) (hD : D ≤ 100000) :
    Calls Tryz.prog 30 #[v, dv, lv] w (RunPost ns db D l w) :=
  (rrun_first v lv dv ns db D l w h ho hl hll ht hd hok hD).mono fun e w' hp => by
    obtain ⟨a, b, c, h1, h2, _, h3⟩ := hp
    exact ⟨a, b, c, h1, h2, h3⟩
end Go.Proofs.YtmbjeppnamhgiaaGreat
end
