/- Contract: linchpinlaw32.awake. -/
import Derived.Test.YtbfbppjccbppiaaGreatDoorK1X
import Derived.Test.YtbfbppjccbppiaaGreatDoorJ6X
import Derived.Outline
namespace Go.Proofs.YtbfbppjccbppiaaGreatDoor
open Go Go.RowKit

def smallL : List Row := [⟨1, 0, 0, 0, [⟨0, 1⟩]⟩, ⟨2, 0, 0, 0, [⟨0, 2⟩]⟩, ⟨5, 0, 0, 1, []⟩]
def smallS : ByteArray := ⟨#[49, 46, 32, 84, 104, 101, 32, 112, 114, 111, 106, 101, 99, 116, 32, 105, 115, 32, 119, 97, 110, 116, 101, 100, 58, 32, 110, 101, 118, 101, 114, 32, 116, 104, 101, 32, 112, 114, 111, 106, 101, 99, 116, 32, 110, 111, 110, 101, 46, 10, 50, 46, 32, 116, 104, 101, 32, 112, 114, 111, 106, 101, 99, 116, 32, 48, 46, 48, 46, 48, 32, 110, 101, 101, 100, 115, 58, 32, 110, 101, 118, 101, 114, 32, 116, 104, 101, 32, 112, 114, 111, 106, 101, 99, 116, 32, 48, 46, 48, 46, 48, 46, 10, 51, 46, 32, 66, 121, 32, 49, 32, 97, 110, 100, 32, 50, 44, 32, 97, 115, 32, 116, 111, 32, 116, 104, 101, 32, 112, 114, 111, 106, 101, 99, 116, 58, 32, 115, 111, 32, 116, 104, 101, 114, 101, 32, 105, 115, 32, 110, 111, 110, 101, 46, 10]⟩
def projB : ByteArray := ⟨#[116, 104, 101, 32, 112, 114, 111, 106, 101, 99, 116]⟩
theorem dec_one {n : Nat} (h : n < 10) : decB n = ⟨#[dig8 n]⟩ := by unfold decB; rw [qu7 (by omega)]
theorem small_verts (s : SetD) : qh2 (smallU s) 0 = [zeroT] := by
 show [qg5 ⟨0, 0, 0, ⟨#[]⟩, ⟨#[]⟩⟩] = _
 rw [printB_0]
theorem small_values (s : SetD) {m : Nat} (h : m &&& qb8 [1, 0] 0 = m) : qf1 (smallU s) 0 m = qj3 [zeroT] m := by
 unfold qf1
 rw [small_verts]
 show qj3 [zeroT] (m &&& qb8 [1, 0] 0) = _
 rw [h]
theorem small_line1 (s : SetD) : qi4 (smallU s) ⟨1, 0, 0, 0, [⟨0, 1⟩]⟩ 1 = ⟨#[dig8 1]⟩ ++ ⟨#[46, 32]⟩ ++ wantedB ++ (⟨#[58, 32, 110, 101, 118, 101, 114, 32]⟩ ++ qf7 [projB ++ ⟨#[32]⟩ ++ qj3 [zeroT] 1] [59, 32] ++ ⟨#[46]⟩) := by
 rw [← dec_one (by omega), ← small_values s (m := 1) (by decide)]
 rfl
theorem small_line2 (s : SetD) : qi4 (smallU s) ⟨2, 0, 0, 0, [⟨0, 2⟩]⟩ 2 = ⟨#[dig8 2]⟩ ++ ⟨#[46, 32]⟩ ++ (projB ++ ⟨#[32]⟩ ++ qj3 [zeroT] 2 ++ ⟨#[32, 110, 101, 101, 100, 115]⟩) ++ (⟨#[58, 32, 110, 101, 118, 101, 114, 32]⟩ ++ qf7 [projB ++ ⟨#[32]⟩ ++ qj3 [zeroT] 2] [59, 32] ++ ⟨#[46]⟩) := by
 have h2 : qg3 (nsOf (smallU s)) [⟨0, 2⟩] 0 = 2 := by
  show qg3 [1, 0] [⟨0, 2⟩] 0 = 2
  decide +kernel
 have e : qi4 (smallU s) ⟨2, 0, 0, 0, [⟨0, 2⟩]⟩ 2 = decB 2 ++ ⟨#[46, 32]⟩ ++ (projB ++ ⟨#[32]⟩ ++ qf1 (smallU s) 0 (qg3 (nsOf (smallU s)) [⟨0, 2⟩] 0) ++ ⟨#[32, 110, 101, 101, 100, 115]⟩) ++ (⟨#[58, 32, 110, 101, 118, 101, 114, 32]⟩ ++ qf7 [projB ++ ⟨#[32]⟩ ++ qf1 (smallU s) 0 2] [59, 32] ++ ⟨#[46]⟩) := rfl
 rw [e, h2, dec_one (by omega), small_values s (m := 2) (by decide)]
theorem small_line3 (s : SetD) : qi4 (smallU s) ⟨5, 0, 0, 1, []⟩ 3 = ⟨#[dig8 3]⟩ ++ ⟨#[46, 32]⟩ ++ (⟨#[66, 121, 32]⟩ ++ ⟨#[dig8 1]⟩ ++ ⟨#[32, 97, 110, 100, 32]⟩ ++ ⟨#[dig8 2]⟩ ++ ⟨#[44, 32, 97, 115, 32, 116, 111, 32]⟩ ++ projB) ++ ⟨#[58, 32, 115, 111, 32, 116, 104, 101, 114, 101, 32, 105, 115, 32, 110, 111, 110, 101, 46]⟩ := by
 rw [← dec_one (n := 3) (by omega), ← dec_one (n := 1) (by omega), ← dec_one (n := 2) (by omega)]
 rfl
theorem small_story (s : SetD) : qe9 (smallU s) smallL 1 = smallS.data.toList := by
 show (qi4 (smallU s) ⟨1, 0, 0, 0, [⟨0, 1⟩]⟩ 1).data.toList ++ [10] ++ ((qi4 (smallU s) ⟨2, 0, 0, 0, [⟨0, 2⟩]⟩ 2).data.toList ++ [10] ++ ((qi4 (smallU s) ⟨5, 0, 0, 1, []⟩ 3).data.toList ++ [10] ++ [])) = _
 rw [small_line1, small_line2, small_line3]
 decide +kernel
theorem small_tell (s : SetD) : qm3 (smallU s) smallL = (smallS, 0) := by
 unfold qm3
 have hm : MayP smallL := by decide +kernel
 have hg : ∀ r ∈ smallL, ql3 (smallU s) r = true := by
  intro r hr
  show (mayL [1, 0] r.terms && decide (r.unit < 2)) = true
  revert r
  decide +kernel
 rw [if_pos ⟨hm, hg⟩, small_story, if_pos (by decide +kernel)]
theorem small_rows {w : World} {b1 b2 b3 : Nat} {T1 T2 T3 : TypeId} (h1 : w.heap[b1]? = some (.cells #[.int .i64 0, .int .i64 1] T1 (0, 0))) (h2 : w.heap[b2]? = some (.cells #[.int .i64 0, .int .i64 2] T2 (0, 0)))
  (h3 : w.heap[b3]? = some (.cells #[.int .i64 1, .int .i64 0, .int .i64 0, .int .i64 0, .slice (some ⟨b1, 0, none⟩) 1 1, .int .i64 2, .int .i64 0, .int .i64 0, .int .i64 0, .slice (some ⟨b2, 0, none⟩) 1 1, .int .i64 5, .int .i64 0, .int .i64 0, .int .i64 1, .slice none 0 0] T3 (0, 0))) :
  SliceRd tRow w (Lt w.heap.size) (.slice (some ⟨b3, 0, none⟩) 3 3) smallL := by
 have lt : ∀ {b : Nat} {o : Obj}, w.heap[b]? = some o → b < w.heap.size := fun h => (Array.getElem?_eq_some_iff.1 h).1
 have i1 : ∀ n : Int, 0 ≤ n → n ≤ 5 → I64 n := fun n h h' => ⟨by omega, by omega⟩
 have t1 : SliceRd qg1 w (Lt w.heap.size) (.slice (some ⟨b1, 0, none⟩) 1 1) [⟨0, 1⟩] := rd_one h1 (lt h1) ⟨rfl, i1 0 (by omega) (by omega), i1 1 (by omega) (by omega)⟩
 have t2 : SliceRd qg1 w (Lt w.heap.size) (.slice (some ⟨b2, 0, none⟩) 1 1) [⟨0, 2⟩] := rd_one h2 (lt h2) ⟨rfl, i1 0 (by omega) (by omega), i1 2 (by omega) (by omega)⟩
 refine ⟨_, 3, rfl, Nat.le_refl _, by unfold maxLen; omega, fun k hk => ?_⟩
 have key : ∀ (k : Nat) (hk : k < smallL.length) (cs : List Value), cs.length = 5 → (∀ j, j < 5 → (#[.int .i64 1, .int .i64 0, .int .i64 0, .int .i64 0, .slice (some ⟨b1, 0, none⟩) 1 1, .int .i64 2, .int .i64 0, .int .i64 0, .int .i64 0, .slice (some ⟨b2, 0, none⟩) 1 1, .int .i64 5, .int .i64 0, .int .i64 0, .int .i64 1, .slice none 0 0] : Array Value)[k * 5 + j]? = cs[j]?) → tRow.rd w (Lt w.heap.size) cs smallL[k] →
   ∃ g o cs, (some ⟨b3, 0, none⟩ : Option Addr) = some ⟨g, o, none⟩ ∧ Lt w.heap.size g ∧ cs.length = tRow.size ∧ (∀ j, j < tRow.size → w.cell? ⟨g, o + k * tRow.size + j, none⟩ = cs[j]?) ∧ tRow.rd w (Lt w.heap.size) cs smallL[k] := fun k hk cs hl hc hr => ⟨b3, 0, cs, rfl, lt h3, hl, fun j hj => by
  rw [cell_of_row _ _ _ _ _ _ h3, ← hc j hj, Nat.zero_add]
  rfl, hr⟩
 match k, hk with
 | 0, _ => exact key 0 (by decide) [.int .i64 1, .int .i64 0, .int .i64 0, .int .i64 0, .slice (some ⟨b1, 0, none⟩) 1 1] rfl (fun j hj => match j, hj with | 0, _ => rfl | 1, _ => rfl | 2, _ => rfl | 3, _ => rfl | 4, _ => rfl) ⟨_, rfl, i1 1 (by omega) (by omega), i1 0 (by omega) (by omega), i1 0 (by omega) (by omega), i1 0 (by omega) (by omega), t1⟩
 | 1, _ => exact key 1 (by decide) [.int .i64 2, .int .i64 0, .int .i64 0, .int .i64 0, .slice (some ⟨b2, 0, none⟩) 1 1] rfl (fun j hj => match j, hj with | 0, _ => rfl | 1, _ => rfl | 2, _ => rfl | 3, _ => rfl | 4, _ => rfl) ⟨_, rfl, i1 2 (by omega) (by omega), i1 0 (by omega) (by omega), i1 0 (by omega) (by omega), i1 0 (by omega) (by omega), t2⟩
 | 2, _ => exact key 2 (by decide) [.int .i64 5, .int .i64 0, .int .i64 0, .int .i64 1, .slice none 0 0] rfl (fun j hj => match j, hj with | 0, _ => rfl | 1, _ => rfl | 2, _ => rfl | 3, _ => rfl | 4, _ => rfl) ⟨_, rfl, i1 5 (by omega) (by omega), i1 0 (by omega) (by omega), i1 0 (by omega) (by omega), i1 1 (by omega) (by omega), SliceRd.nil _ _ _⟩
set_option maxRecDepth 100000 in
set_option maxHeartbeats 4000000 in
theorem awake32_any (w : World) (hG : Glob w) : Calls Tryz.prog 8 #[] w fun e w' => e = .returned (.bool true) ∧ Below w.heap.size w w' := by
 have HG := hid (fun (W : World) (hb : Below w.heap.size w W) => hG.later hb)
 clear hG
 go_enter Tryz.func8, Tryz.ntmps8
 go_upto_region 2 with fail
 obtain ⟨w2, hw2⟩ : ∃ w2 : World, w2 = ((w.alloc (.cells #[.int .i64 0, .int .i64 1] 66)).alloc (.cells #[.int .i64 0, .int .i64 2] 66)).alloc (.cells #[.int .i64 1, .int .i64 0, .int .i64 0, .int .i64 0, .slice (some ⟨w.heap.size, 0, none⟩) 1 1, .int .i64 2, .int .i64 0, .int .i64 0, .int .i64 0, .slice (some ⟨w.heap.size + 1, 0, none⟩) 1 1, .int .i64 5, .int .i64 0, .int .i64 0, .int .i64 1, .slice none 0 0] 49) := ⟨_, rfl⟩
 have HB2 := hid (show Below w.heap.size w w2 from hw2 ▸ qa0 (qa0 (qa0 (b0 w) _) _) _)
 have HR2 := hid (show SliceRd tRow w2 (Lt w2.heap.size) (.slice (some ⟨w.heap.size + 1 + 1, 0, none⟩) 3 3) smallL from by
  have s1 : (w.alloc (.cells #[.int .i64 0, .int .i64 1] 66)).heap.size = w.heap.size + 1 := by simp
  have s2 : ((w.alloc (.cells #[.int .i64 0, .int .i64 1] 66)).alloc (.cells #[.int .i64 0, .int .i64 2] 66)).heap.size = w.heap.size + 1 + 1 := by simp
  have e1 := heap_alloc_new w (.cells #[.int .i64 0, .int .i64 1] 66)
  have e2 := heap_alloc_new (w.alloc (.cells #[.int .i64 0, .int .i64 1] 66)) (.cells #[.int .i64 0, .int .i64 2] 66)
  rw [s1] at e2
  rw [hw2]
  refine small_rows (T1 := 66) (T2 := 66) (T3 := 49) (b1 := w.heap.size) (b2 := w.heap.size + 1) ?_ ?_ ?_
  rotate_left 2
  ·rw [← s2]
   exact heap_alloc_new _ _
  ·rw [Below.heap_alloc _ _ _ (by omega), Below.heap_alloc _ _ _ (by omega)]
   exact e1
  ·rw [Below.heap_alloc _ _ _ (by omega)]
   exact e2)
 rw [← hw2]
 clear hw2
 have hsb : (smallS.toList == [49, 46, 32, 84, 104, 101, 32, 112, 114, 111, 106, 101, 99, 116, 32, 105, 115, 32, 119, 97, 110, 116, 101, 100, 58, 32, 110, 101, 118, 101, 114, 32, 116, 104, 101, 32, 112, 114, 111, 106, 101, 99, 116, 32, 110, 111, 110, 101, 46, 10, 50, 46, 32, 116, 104, 101, 32, 112, 114, 111, 106, 101, 99, 116, 32, 48, 46, 48, 46, 48, 32, 110, 101, 101, 100, 115, 58, 32, 110, 101, 118, 101, 114, 32, 116, 104, 101, 32, 112, 114, 111, 106, 101, 99, 116, 32, 48, 46, 48, 46, 48, 46, 10, 51, 46, 32, 66, 121, 32, 49, 32, 97, 110, 100, 32, 50, 44, 32, 97, 115, 32, 116, 111, 32, 116, 104, 101, 32, 112, 114, 111, 106, 101, 99, 116, 58, 32, 115, 111, 32, 116, 104, 101, 114, 101, 32, 105, 115, 32, 110, 111, 110, 101, 46, 10]) = true := eqL rfl
 have HT := hid small_tell
 have HSZ := hid (show smallS.size ≤ 1048576 from by decide +kernel)
 generalize smallS = S at *
 have tok := hid True.intro
 go_wp2_with (first
  | (go_at_call 25; clear tok; refine (small_any _).mono ?_; rintro e w3 ⟨g, s, rfl, hwr, hb3⟩; have HWR := hid hwr; have HB3 := hid (qa1 HB2.out hb3); have HR3 := hid (HR2.out.lift hb3 hb3.size); clear hwr hb3)
  | (go_at_call 12; refine (ptell_any _ _ smallL _ HWR.out (small_st s) HR3.out (HG.out _ HB3.out)).mono ?_; rw [HT.out]; rintro e w4 ⟨rfl, hb4⟩; have HB4 := hid (qa1 HB3.out hb4); clear hb4)
  | (go_at_call 25; refine (small_any _).mono ?_; rintro e w5 ⟨g5, s5, rfl, hwr, hb5⟩; have HWR5 := hid hwr; have HB5 := hid (qa1 HB4.out hb5); clear hwr hb5)
  | (go_at_call 15; refine (pread_any _ S _ HWR5.out (small_st s5) (by show 0 < 2; omega) (HG.out _ HB5.out) HSZ.out).mono ?_; rintro e w6 ⟨lv, rfl, hrd, hb6⟩; have HRF := hid (readF_tell (small_st s5) (HT.out s5)); have hrd := HRF.out ▸ hrd; rw [HRF.out]; have HB6 := hid (qa1 HB5.out hb6); obtain ⟨A6, c6, e6, -⟩ := hrd.shape; replace e6 : lv = .slice A6 3 c6 := e6; subst e6; clear hb6 hrd))
 go_ret
 exact ⟨rfl, HB6.out⟩
end Go.Proofs.YtbfbppjccbppiaaGreatDoor
