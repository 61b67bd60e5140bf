/- Contract: ref24.step, of a decision. -/
import Derived.Test.YtmbjeppnamhgiaaGreatzT1
import Derived.Test.YtmbjeppnamhgiaaGreatzT7
import Derived.Test.YtmbjeppnamhgiaaGreatN10
import Derived.Outline
namespace Go.Proofs.YtmbjeppnamhgiaaGreat
open Go Go.RowKit

theorem TrOk.level_le {ns : List Nat} {db : Nat → Nat → Nat} {D : Nat} {l : List StepN} (h : TrOk ns db D l) : levelN l ≤ l.length := by
  induction h with
  | nil => exact Nat.le_refl _
  | derive l s c h hc hd ho hm hl ih => rw [level_snoc, hl]; simp; omega
  | decide l s h hc hu hm h0 hl hno ih => rw [level_snoc, hl]; simp; omega
theorem alloc2_new {w : World} {o1 : Obj} {cs : Array Value} {e : TypeId} {i : Nat} {v : Value} (h : cs[i]? = some v) : ((w.alloc o1).alloc (.cells cs e)).cell? ⟨w.heap.size + 1, i, none⟩ = some v := by
  have e1 : w.heap.size + 1 = (w.alloc o1).heap.size := by simp
  rw [e1, alloc_cell]
  exact h
theorem alloc2_old {w : World} {o2 : Obj} {cs : Array Value} {e : TypeId} {i : Nat} {v : Value} (h : cs[i]? = some v) : ((w.alloc (.cells cs e)).alloc o2).cell? ⟨w.heap.size, i, none⟩ = some v :=
  cell_below (w := w.alloc (.cells cs e)) (balloc (b0 _) _) (by simp) (by rw [alloc_cell]; exact h)
theorem own_copyF {α : Type} {f : Flat α} {e : TypeId} {w' : World} {B : Nat} {v' : Value} {l : List α} (hl : ∀ x ∈ l, f.ok x) (hown : w'.ownsRow B e f.size v' (0 + l.length) ([] ++ f.all l)) : OwnF f e B w' v' l :=
  by
  rw [Nat.zero_add, List.nil_append] at hown
  exact ⟨hown, hl⟩
theorem own_snocF {α : Type} {f : Flat α} {e : TypeId} {W : World} {B ln : Nat} {v2 : Value} {l : List α} {x : α} (hln : l.length = ln) (hok : ∀ y ∈ l, f.ok y) (hx : f.ok x) (hown : W.ownsRow B e f.size v2 (ln + 1) (f.all l ++ f.cells x)) : OwnF f e B W v2 (l ++ [x]) := by
  subst hln
  refine ⟨by rw [f.all_snoc, List.length_append]; exact hown, fun y hy => ?_⟩
  rcases List.mem_append.1 hy with h | h
  · exact hok y h
  · rw [List.mem_singleton.1 h]; exact hx
theorem own_noneF (w : World) (B : Nat) (e : TypeId) (s : Nat) : w.ownsRow B e s (.slice none 0 0) 0 [] := ⟨by simp, .inl ⟨rfl, rfl⟩⟩
theorem and_nat {a b : Nat} (ha : a ≤ 31) (hb : b ≤ 31) : bits .and .i64 (a : Int) (b : Int) = ((a &&& b : Nat) : Int) := by
  have := and_fact a (b : Int) ha
  rwa [nm_nat (by omega)] at this
/-- May a decision stand behind a trail? -/
def stepB (ns : List Nat) (l : List StepN) (u m : Nat) : Bool := decide (0 ≤ placeL m) && (decide (inN m (leftN ns l u)) && !decB l u)
set_option maxRecDepth 100000 in
set_option maxHeartbeats 4000000 in
theorem rstep_any (v lv : Value) (ns : List Nat) (db : Nat → Nat → Nat) (D : Nat) (l : List StepN) (u m : Nat) (w : World) (h : UniRd w (Lt w.heap.size) v ns) (ho : NsOk ns) (hl : SliceRd fStep.ty w (Lt w.heap.size) lv l) (hll : l.length ≤ 900) (ht : TrOk ns db D l) (hu : u < ns.length) (hm : m ≤ 31) :
    Calls Tryz.prog 91 #[v, lv, .agg #[.int .i64 u, .int .i64 m, .int .i64 (↑(levelN l) + 1), .int .i64 (-1)]] w fun e w' => e = .returned (.bool (stepB ns l u m)) ∧ Below w.heap.size w w' := by
  have HH := hid h
  have HL := hid hl
  have hL31 := ht.le31 ho hu
  have hnv := ht.level_le
  have h11 := ho.hi
  have hE : stepB ns l u m = (decide (0 ≤ placeL m) && (decide (m &&& leftN ns l u = m) && !decB l u)) := rfl
  have HLF := hid (fun (W : World) (hb : Below w.heap.size w W) => rleft_any _ _ ns l u W (uni_later h hb) ho (hl.lift hb hb.size) hu)
  have HPL := hid (fun W => rplace_any m W hm)
  have HDC := hid (fun (W : World) (hb : Below w.heap.size w W) => rdecided_any _ l u W (hl.lift hb hb.size) (by omega))
  have HLV := hid (fun (W : World) (hb : Below w.heap.size w W) => rlevel_any _ l W (hl.lift hb hb.size))
  obtain ⟨g, cap0, rfl, hg, -⟩ := h
  obtain ⟨A, cap, rfl, -⟩ := hl.steps
  generalize leftN ns l u = L at *
  generalize placeL m = P at *
  generalize decB l u = d at *
  generalize levelN l = nv at *
  have HE := hid hE
  have HB := and_nat hm hL31
  have u1 : (0 : Int) ≤ ↑u := by omega
  have u2 : (↑u : Int) < ↑ns.length := by omega
  clear hE ho hl ht hL31
  go_enter Tryz.func91, Tryz.ntmps91
  go_wp2_with fail
  obtain ⟨w0, hw0⟩ : ∃ w0 : World, w0 = (w.alloc (.cells #[.slice (some ⟨g, 0, none⟩) ns.length cap0] 26)).alloc (.cells #[.int .i64 u, .int .i64 m, .int .i64 (↑nv + 1), .int .i64 (-1)] 98) := ⟨_, rfl⟩
  have hb0 : Below w.heap.size w w0 := hw0 ▸ balloc (balloc (b0 w) _) _
  have hz1 : w.heap.size + 1 < w0.heap.size := by rw [hw0]; simp
  have s0 : w0.cell? ⟨w.heap.size + 1, 0, none⟩ = some (.int .i64 u) := by rw [hw0]; exact alloc2_new rfl
  have s1 : w0.cell? ⟨w.heap.size + 1, 1, none⟩ = some (.int .i64 m) := by rw [hw0]; exact alloc2_new rfl
  have s2 : w0.cell? ⟨w.heap.size + 1, 2, none⟩ = some (.int .i64 (↑nv + 1)) := by rw [hw0]; exact alloc2_new rfl
  have s3 : w0.cell? ⟨w.heap.size + 1, 3, none⟩ = some (.int .i64 (-1)) := by rw [hw0]; exact alloc2_new rfl
  have HB0 := hid hb0
  rw [← hw0]
  clear hw0 hb0
  refine (HLF.out w0 HB0.out).mono ?_
  rintro e w1 ⟨rfl, hb1⟩
  have r0 := cell_below hb1 hz1 s0
  have r1 := cell_below hb1 hz1 s1
  have r2 := cell_below hb1 hz1 s2
  have r3 := cell_below hb1 hz1 s3
  have hz2 := Nat.lt_of_lt_of_le hz1 hb1.size
  have l0 := later_cell hz2 r0
  have l1 := later_cell hz2 r1
  have l2 := later_cell hz2 r2
  have HB1 := hid (bstep HB0.out hb1)
  have HPC := hid (fun e : Later w1 => HPL.out e.w)
  have HDE := hid (fun e : Later w1 => HDC.out e.w (bstep HB1.out e.below))
  have HLE := hid (fun e : Later w1 => HLV.out e.w (bstep HB1.out e.below))
  clear s0 s1 s2 s3 hb1
  by_cases h1 : 0 ≤ P
  · have HT1 := hid h1
    by_cases h2 : m &&& L = m
    · have HT2 := hid h2
      have z2 : (((m &&& L : Nat) : Int) == (m : Int)) = true := by rw [h2]; simp
      clear h2
      cases d with
      | true =>
        go_wp2_with fail
        (refine wp_region_later (by kernel_rfl) (by kernel_rfl) ?_; (repeat (go_big_quiet_step ((first | (go_at_call 108; exact Calls.later (HPC.out _) rfl) | (go_at_call 109; exact Calls.later_same (HDE.out _) rfl) | (go_at_call 22; exact Calls.later_same (HLE.out _) rfl))))); refine wpQuiet_nil ?_; rintro _ ⟨⟨w2, hb2⟩, rfl⟩)
        go_wp2
        go_ret
        exact ⟨ret_bool (by rw [HE.out]; simp), bstep HB1.out hb2⟩
      | false =>
        go_wp2_with fail
        (refine wp_region_later (by kernel_rfl) (by kernel_rfl) ?_; (repeat (go_big_quiet_step ((first | (go_at_call 108; exact Calls.later (HPC.out _) rfl) | (go_at_call 109; exact Calls.later_same (HDE.out _) rfl) | (go_at_call 22; exact Calls.later_same (HLE.out _) rfl))))); refine wpQuiet_nil ?_; rintro _ ⟨⟨w2, hb2⟩, rfl⟩)
        go_wp2
        go_ret
        exact ⟨ret_bool (by rw [HE.out, decide_eq_true HT1.out, decide_eq_true HT2.out]; simp), bstep HB1.out hb2⟩
    · have HT2 := hid h2
      have z2 : (((m &&& L : Nat) : Int) == (m : Int)) = false := by simp; omega
      clear h2
      go_wp2_with fail
      (refine wp_region_later (by kernel_rfl) (by kernel_rfl) ?_; (repeat (go_big_quiet_step ((first | (go_at_call 108; exact Calls.later (HPC.out _) rfl) | (go_at_call 109; exact Calls.later_same (HDE.out _) rfl) | (go_at_call 22; exact Calls.later_same (HLE.out _) rfl))))); refine wpQuiet_nil ?_; rintro _ ⟨⟨w2, hb2⟩, rfl⟩)
      go_wp2
      go_ret
      exact ⟨ret_bool (by rw [HE.out, decide_eq_false HT2.out]; simp), bstep HB1.out hb2⟩
  · have HT1 := hid h1
    have z1 : ¬ (0 ≤ P) := h1
    have z1d : decide (0 ≤ P) = false := decide_eq_false h1
    clear h1
    go_wp2_with fail
    (refine wp_region_later (by kernel_rfl) (by kernel_rfl) ?_; (repeat (go_big_quiet_step ((first | (go_at_call 108; exact Calls.later (HPC.out _) rfl) | (go_at_call 109; exact Calls.later_same (HDE.out _) rfl) | (go_at_call 22; exact Calls.later_same (HLE.out _) rfl))))); refine wpQuiet_nil ?_; rintro _ ⟨⟨w2, hb2⟩, rfl⟩)
    go_wp2
    go_ret
    exact ⟨ret_bool (by rw [HE.out, show decide (0 ≤ P) = false from decide_eq_false (by have := HT1.out; omega)]; simp), bstep HB1.out hb2⟩
end Go.Proofs.YtmbjeppnamhgiaaGreat
