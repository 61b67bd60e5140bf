import Derived.Test.YtilkhofgcgfnlaaGreatG1
import Derived.Outline
import Derived.Deep.RegionWith
section
/- Contract: linchpinmade.set. -/
namespace Go.Proofs.YtilkhofgcgfnlaaGreat
open Go Go.RowKit

/-- A version among cells. -/
def VerAt (w : World) (g o : Nat) (u : Ver) : Prop := w.cell? ⟨g, o, none⟩ = some (.int .i64 u.major) ∧ w.cell? ⟨g, o + 1, none⟩ = some (.int .i64 u.minor) ∧ w.cell? ⟨g, o + 2, none⟩ = some (.int .i64 u.patch) ∧ w.cell? ⟨g, o + 3, none⟩ = some (.string u.pre) ∧ w.cell? ⟨g, o + 4, none⟩ = some (.string u.build)
theorem VerAt.keep {w w' : World} {g o : Nat} {u : Ver} (hk : w'.heap[g]? = w.heap[g]?) (h : VerAt w g o u) : VerAt w' g o u := by
  obtain ⟨h0, h1, h2, h3, h4⟩ := h
  have e : ∀ o, w'.cell? ⟨g, o, none⟩ = w.cell? ⟨g, o, none⟩ := fun o => World.cell?_of_block hk
  exact ⟨(e _).trans h0, (e _).trans h1, (e _).trans h2, (e _).trans h3, (e _).trans h4⟩
/-- Candidates: their versions. -/
def CandsRd (w : World) (F : Nat → Prop) (v : Value) (n : Nat) : Prop := ∃ A cap, v = .slice A n cap ∧ n ≤ 4 ∧ ∀ k, k < n → ∃ g, A = some ⟨g, 0, none⟩ ∧ F g ∧ ∃ u : Ver, u.B ∧ VerAt w g (k * 8) u
theorem CandsRd.keep {w w' : World} {F : Nat → Prop} {v : Value} {n : Nat} (hk : ∀ k, F k → w'.heap[k]? = w.heap[k]?) (h : CandsRd w F v n) : CandsRd w' F v n := by
  obtain ⟨A, cap, hv, hn, hc⟩ := h
  refine ⟨A, cap, hv, hn, fun k hk' => ?_⟩
  obtain ⟨g, hA, hF, u, hu, hat⟩ := hc k hk'
  exact ⟨g, hA, hF, u, hu, hat.keep (hk g hF)⟩
theorem CandsRd.more {w : World} {F F' : Nat → Prop} {v : Value} {n : Nat} (hF : ∀ k, F k → F' k) (h : CandsRd w F v n) : CandsRd w F' v n := by
  obtain ⟨A, cap, hv, hn, hc⟩ := h
  refine ⟨A, cap, hv, hn, fun k hk' => ?_⟩
  obtain ⟨g, hA, hFF, rest⟩ := hc k hk'
  exact ⟨g, hA, hF _ hFF, rest⟩
section
variable {w w1 w2 : World} {b : Option Nat} {B : Nat}
theorem gb_below (h : w.grownBy w1 b) (hb : Below B w1 w2) (hB : w.heap.size ≤ B) : w.grownBy w2 b :=
  ⟨hb.os.trans h.os, hb.tape.trans h.tape, hb.output.trans h.output, Nat.le_trans h.size hb.size, fun k hk hne => (hb.block k (by omega)).trans (h.block k hk hne)⟩
theorem gb_gb (h : w.grownBy w1 b) (h2 : w1.grownBy w2 b) : w.grownBy w2 b :=
  ⟨h2.os.trans h.os, h2.tape.trans h.tape, h2.output.trans h.output, Nat.le_trans h.size h2.size, fun k hk hne => (h2.block k (Nat.lt_of_lt_of_le hk h.size) hne).trans (h.block k hk hne)⟩
theorem gb_refl (w : World) (b : Option Nat) : w.grownBy w b := ⟨rfl, rfl, rfl, Nat.le_refl _, fun _ _ _ => rfl⟩
theorem gb_cell {bG : Nat} (h : w.grownBy w1 (some bG)) {g o : Nat} {v : Value} (hne : g ≠ bG) (hc : w.cell? ⟨g, o, none⟩ = some v) : w1.cell? ⟨g, o, none⟩ = some v := h.cell hc (by intro e; exact hne (Option.some.inj e))
theorem gb_block {bG : Nat} (h : w.grownBy w1 (some bG)) {g : Nat} (hne : g ≠ bG) (hg : g < w.heap.size) : w1.heap[g]? = w.heap[g]? := h.block g hg (by intro e; exact hne (Option.some.inj e))
end
/-- A block of two cells, whole. -/
def Blk2 (w : World) (g : Nat) (T : TypeId) (u v : Value) : Prop := w.heap[g]? = some (.cells #[u, v] T (0, 0))
theorem Blk2.box {w : World} {g : Nat} {T : TypeId} {u v : Value} (h : Blk2 w g T u v) : Box2 w g u v ∧ ∀ o, w.frozen? ⟨g, o, none⟩ = false := by
  refine ⟨⟨?_, ?_⟩, fun o => frozen_of_row w g o _ T h⟩ <;> (rw [cell_of_row _ _ _ _ T (0, 0) h]; rfl)
theorem Blk2.set {w : World} {g : Nat} {T : TypeId} {u v : Value} (h : Blk2 w g T u v) (x y : Value) : Blk2 ((w.setCell ⟨g, 0, none⟩ x).setCell ⟨g, 1, none⟩ y) g T x y := by
  unfold Blk2 at h ⊢
  have h1 : (w.setCell ⟨g, 0, none⟩ x).heap[g]? = some (.cells #[x, v] T (0, 0)) := by rw [heap_setCell_same w g 0 _ T _ h]; rfl
  rw [heap_setCell_same _ g 1 _ T _ h1]
  rfl
/-- The bounds of a set's rows, round by round. -/
def nb : Nat → Nat
  | 0 => 0
  | k + 1 => 2 + 4 * (nb k + 1)
theorem nb_le {k : Nat} (h : k ≤ 4) : nb k ≤ 510 := by
  have : k = 0 ∨ k = 1 ∨ k = 2 ∨ k = 3 ∨ k = 4 := by omega
  rcases this with rfl | rfl | rfl | rfl | rfl <;> decide
def Btw (a : Nat) (w : World) : Nat → Prop := fun k => a < k ∧ k < w.heap.size
/-- A set in a variable. -/
def SetIn (w : World) (bs N : Nat) : Prop := ∃ A n c A' n' c' L M, Blk2 w bs 66 (.slice A n c) (.slice A' n' c') ∧ SliceRd fSpan.ty w (Btw bs w) (.slice A n c) L ∧ SliceRd fSpan.ty w (Btw bs w) (.slice A' n' c') M ∧ L.length ≤ N ∧ M.length ≤ N
theorem SetIn.keep {w w' : World} {bs N : Nat} (hk : ∀ k, bs ≤ k → k < w.heap.size → w'.heap[k]? = w.heap[k]?) (hs : w.heap.size ≤ w'.heap.size) (hb : bs < w.heap.size) (h : SetIn w bs N) : SetIn w' bs N := by
  obtain ⟨A, n, c, A', n', c', L, M, h1, h2, h3, h4, h5⟩ := h
  have hK : Keeps (Btw bs w) w w' := fun k hk' => hk k (Nat.le_of_lt hk'.1) hk'.2
  exact ⟨A, n, c, A', n', c', L, M, (hk bs (Nat.le_refl _) hb).trans h1, (h2.keep hK).more fun k hk => ⟨hk.1, Nat.lt_of_lt_of_le hk.2 hs⟩, (h3.keep hK).more fun k hk => ⟨hk.1, Nat.lt_of_lt_of_le hk.2 hs⟩, h4, h5⟩
theorem SetIn.mono {w : World} {bs N N' : Nat} (h : SetIn w bs N) (hN : N ≤ N') : SetIn w bs N' := by
  obtain ⟨A, n, c, A', n', c', L, M, h1, h2, h3, h4, h5⟩ := h
  exact ⟨A, n, c, A', n', c', L, M, h1, h2, h3, by omega, by omega⟩
/-- A set written into its variable. -/
theorem SetIn.put {w : World} {bs N B : Nat} {u v x y : Value} {L M : List Span} (h : Blk2 w bs 66 u v) (hx : OwnSpans B w x L) (hy : OwnSpans B w y M) (hB : bs < B) (h4 : L.length ≤ N) (h5 : M.length ≤ N) : SetIn ((w.setCell ⟨bs, 0, none⟩ x).setCell ⟨bs, 1, none⟩ y) bs N := by
  obtain ⟨A, c, rfl⟩ := hx.form
  obtain ⟨A', c', rfl⟩ := hy.form
  have hsz : ((w.setCell ⟨bs, 0, none⟩ (.slice A L.length c)).setCell ⟨bs, 1, none⟩ (.slice A' M.length c')).heap.size = w.heap.size := by simp
  have hkk : ∀ {F : Nat → Prop}, (∀ k, F k → k ≠ bs) → Keeps F w ((w.setCell ⟨bs, 0, none⟩ (.slice A L.length c)).setCell ⟨bs, 1, none⟩ (.slice A' M.length c')) := fun hF k hk => by
    rw [heap_setCell_other _ _ _ _ (hF k hk), heap_setCell_other _ _ _ _ (hF k hk)]
  have hrd : ∀ {z : Value} {K : List Span}, OwnSpans B w z K → SliceRd fSpan.ty ((w.setCell ⟨bs, 0, none⟩ (.slice A L.length c)).setCell ⟨bs, 1, none⟩ (.slice A' M.length c')) (Btw bs ((w.setCell ⟨bs, 0, none⟩ (.slice A L.length c)).setCell ⟨bs, 1, none⟩ (.slice A' M.length c'))) z K := fun hz => by
    have h0 : SliceRd fSpan.ty w (Btw bs w) _ _ := rd_of_ownF (f := fSpan) hz.1 hz.2 (fun g hg => ⟨by have := (hz.1.lt g hg).1; omega, (hz.1.lt g hg).2⟩)
    refine (h0.keep (hkk fun k hk => by have := hk.1; omega)).more fun k hk => ⟨hk.1, by rw [hsz]; exact hk.2⟩
  exact ⟨A, L.length, c, A', M.length, c', L, M, h.set _ _, hrd hx, hrd hy, h4, h5⟩
theorem SliceRd.below2 {w w' : World} {bs : Nat} {v : Value} {l : List Span} (h : SliceRd fSpan.ty w (Btw bs w) v l) (hb : Below w.heap.size w w') : SliceRd fSpan.ty w' (Lt w'.heap.size) v l :=
  (h.keep (Keeps.of_below hb fun _ hk => hk.2)).more fun _ hk => Nat.lt_of_lt_of_le hk.2 hb.size
theorem two_steps {w : World} {bG : Nat} {lv : Value} {xs : List Int} {i : Int} (h : GAt w bG lv xs (i + 1 + 1)) : GAt w bG lv xs (i + 2) := by
  have e : i + 2 = i + 1 + 1 := by omega
  rw [e]; exact h
def SetGPost (bG : Nat) (lv : Value) (xs : List Int) (i : Int) (w : World) (e : Ending) (w' : World) : Prop :=
  ∃ A n c A' n' c', e = .returned (.agg #[.slice A n c, .slice A' n' c']) ∧ GAt w' bG lv xs (i + 2) ∧ w.grownBy w' (some bG)

set_option maxRecDepth 100000 in
set_option maxHeartbeats 2000000 in
theorem set_g (bG : Nat) (lv : Value) (xs : List Int) (i : Int) (v : Value) (n : Nat) (w : World) (hG : GAt w bG lv xs i) (hi : i + 2 < 1000000) (hc : CandsRd w (fun k => k ≠ bG ∧ k < w.heap.size) v n) :
    Calls Tryz.prog 59 #[.pointer (some ⟨bG, 0, none⟩), v] w (SetGPost bG lv xs i w) := by
  obtain ⟨A, cap, rfl, hn, hcs⟩ := hc
  have HC := hid hcs
  have hi0 := hG.bd.1
  have hGl := hG.lt
  have HG := hid hG
  clear hcs hG
  go_enter Tryz.func59, Tryz.ntmps59
  go_wp2_with fail
  obtain ⟨w0, hw0⟩ : ∃ w0 : World, w0 = w.alloc (.cells #[.slice none 0 0, .slice none 0 0] 66) := ⟨_, rfl⟩
  have HR0 : Hid (Blk2 w0 w.heap.size 66 (.slice none 0 0) (.slice none 0 0)) := hid (by rw [hw0]; exact heap_alloc_new w _)
  have HG0 : Hid (GAt w0 bG lv xs i) := hid (by rw [hw0]; exact HG.out.below (balloc (b0 w) _) hGl)
  have HB0 : Hid (w.grownBy w0 (some bG)) := hid (by rw [hw0]; exact gb_below (gb_refl w _) (balloc (b0 w) _) (Nat.le_refl _))
  have hz0 : w0.heap.size = w.heap.size + 1 := by rw [hw0]; simp
  have hlt0 : w.heap.size < w0.heap.size := by omega
  have HZ0 := hid hz0
  rw [← hw0]
  clear hw0 hz0
  refine (next_g bG lv xs i 8 _ HG0.out (by omega) ⟨by decide, by decide⟩).mono ?_
  rintro e w1 ⟨r, rfl, hr0, hr1, -, hg1, hgb1⟩
  have hr2 : r < 8 := hr1 (by omega)
  have HG1 := hid hg1
  have HGB1 := hid (gb_gb HB0.out hgb1)
  have HR1 : Hid (Blk2 w1 w.heap.size 66 (.slice none 0 0) (.slice none 0 0)) := hid ((gb_block hgb1 (by omega) hlt0).trans HR0.out)
  have hlt1 : w.heap.size < w1.heap.size := Nat.lt_of_lt_of_le hlt0 hgb1.size
  clear hg1 hgb1 hr1
  go_wp2_with (go_at_call 53; refine (none5_any _).mono ?_; rintro e w2 ⟨rfl, hb2⟩; have HB2 := hid hb2; clear hb2)
  obtain ⟨bs, hbs⟩ : ∃ bs : Nat, w2.heap.size = bs := ⟨_, rfl⟩
  have hbs1 : w1.heap.size ≤ bs := by rw [← hbs]; exact HB2.out.size
  obtain ⟨w3, hw3⟩ : ∃ w3 : World, w3 = w2.alloc (.cells #[.slice none 0 0, .slice none 0 0] 66) := ⟨_, rfl⟩
  have hb3 : Below w1.heap.size w1 w3 := by rw [hw3]; exact HB2.out.alloc HB2.out.size _
  have HS3 : Hid (SetIn w3 bs (nb 0)) := hid (by
    refine ⟨none, 0, 0, none, 0, 0, [], [], ?_, SliceRd.nil _ _ _, SliceRd.nil _ _ _, by decide, by decide⟩
    rw [hw3, ← hbs]
    exact heap_alloc_new w2 _)
  have hlt3 : bs < w3.heap.size := by rw [hw3, ← hbs]; simp
  have HG3 := hid (HG1.out.below hb3 HG1.out.lt)
  have HGB3 := hid (gb_below HGB1.out hb3 (Nat.le_of_lt hlt1))
  have HR3 : Hid (Blk2 w3 w.heap.size 66 (.slice none 0 0) (.slice none 0 0)) := hid ((hb3.block _ hlt1).trans HR1.out)
  rw [← hw3, hbs]
  have hrb : w.heap.size < bs := Nat.lt_of_lt_of_le hlt1 hbs1
  clear hw3 hb3 hbs
  go_loopw [7] (fun iv wr => ∃ k : Nat, k ≤ n ∧ iv = .int .i64 k ∧ Hid (SetIn wr bs (nb k)) ∧ Hid (Below bs w3 wr) ∧ Hid (bs < wr.heap.size)) (fun iv _ => n - (intOf iv).toNat)
  case atStart => exact ⟨0, Nat.zero_le _, rfl, HS3, hid (Below.refl _ _), hid hlt3⟩
  case round =>
    obtain ⟨k, hk, rfl, hset, hb, hlb⟩ := hrel
    have hlr := hlb.out
    have HGR := hid (HG3.out.below hb.out (by omega))
    have HGBR := hid (gb_below HGB3.out hb.out (Nat.le_of_lt hrb))
    have HRR : Hid (Blk2 wr w.heap.size 66 (.slice none 0 0) (.slice none 0 0)) := hid ((hb.out.block _ hrb).trans HR3.out)
    by_cases hlt : k < n
    · obtain ⟨g, hA, hF, u, hu, hat⟩ := HC.out k hlt
      cases hA
      have HU := hid hu
      have hgr : g < wr.heap.size := by omega
      have HAT := hid (show VerAt wr g (k * 8) u from hat.keep (gb_block HGBR.out hF.1 hF.2))
      obtain ⟨c0, c1, c2, c3, c4⟩ := HAT.out
      obtain ⟨S1, m1, d1, S2, m2, d2, L, M, hblk, hrd1, hrd2, hL, hM⟩ := hset.out
      have HRD1 := hid hrd1
      have HRD2 := hid hrd2
      have hnb := nb_le (k := k) (by omega)
      have HBX := hid hblk
      obtain ⟨⟨x0, x1⟩, xf⟩ := hblk.box
      clear hblk hrd1 hrd2 hat hu
      have i1 : (0 : Int) ≤ ↑k := by omega
      have i2 : (↑k : Int) < ↑n := by omega
      go_wp2
      · first
          | go_must (go_region_with
              ((first
                | (go_at_call 31; go_must (refine (exact_any _ _ _ _ _ _ HU.out).mono ?_; rintro e wa ⟨va, va', La, Ma, rfl, hoa, hoa', hla, hla', hba⟩; replace hba : Below wr.heap.size wr wa := (b0 wr).drew.trans hba; obtain ⟨Aa, ca, rfl⟩ := hoa.form; obtain ⟨Aa', ca', rfl⟩ := hoa'.form; have HOA := hid hoa; have HOA' := hid hoa'; have HBA := hid hba; have HBXA := hid ((hba.block _ hlr).trans HBX.out); obtain ⟨⟨y0, y1⟩, yf⟩ := Blk2.box HBXA.out; obtain ⟨f0, f1, f2, f3, f4⟩ := HAT.out.keep (hba.block _ hgr); clear hoa hoa' hba))
                | (go_at_call 77; go_must (refine (or5_any _ _ _ _ L M La Ma (nb k + 1) _ (HRD1.out.below2 HBA.out) (HRD2.out.below2 HBA.out) HOA.out.rd HOA'.out.rd (by omega) (by omega) (by omega) (by omega) (by omega)).mono ?_; rintro e wb ⟨vb, vb', Lb, Mb, rfl, hob, hob', hlb', hlb'', hbb⟩; obtain ⟨Ab, cb, rfl⟩ := hob.form; obtain ⟨Ab', cb', rfl⟩ := hob'.form; have HOB := hid hob; have HOB' := hid hob'; have HBB := hid (bstep HBA.out hbb); have HBXB : Hid (Blk2 wb bs 66 (.slice S1 m1 d1) (.slice S2 m2 d2)) := hid ((HBB.out.block _ hlr).trans HBX.out); obtain ⟨⟨z0, z1⟩, zf⟩ := Blk2.box HBXB.out; obtain ⟨e0, e1, e2, e3, e4⟩ := HAT.out.keep (HBB.out.block _ hgr); clear hob hob' hbb)))))
          | fail
        all_goals go_wp2
        all_goals have hab : bs < wa.heap.size := Nat.lt_of_lt_of_le hlr HBA.out.size
        all_goals
          refine ⟨⟨k + 1, by omega, by go_num, hid (SetIn.put HBXB.out HOB.out HOB'.out hab hlb' hlb''), hid ?_, hid ?_⟩, by simp [intOf]; omega⟩
          · exact (((hb.out.trans (HBB.out.mono (Nat.le_of_lt hlr))).setCell (p := ⟨bs, 0, none⟩) (Nat.le_refl _) _).setCell (p := ⟨bs, 1, none⟩) (Nat.le_refl _) _)
          · have := HBB.out.size
            simp
            omega
      · exact ⟨⟨k + 1, by omega, by go_num, hid (hset.out.mono (show nb k ≤ 2 + 4 * (nb k + 1) by omega)), hb, hlb⟩, by simp [intOf]; omega⟩
    · have hk5 := nb_le (k := k) (by omega)
      go_wp2_with (first
        | (go_at_call 32; go_must (refine (next_g bG lv xs (i + 1) 6 _ HGR.out (by omega) ⟨by decide, by decide⟩).mono ?_; rintro e w4 ⟨r2, rfl, hr20, -, -, hg4, hgb4⟩; have HG4 : Hid (GAt w4 bG lv xs (i + 2)) := hid (two_steps hg4); have HGB4 := hid (gb_gb HGBR.out hgb4); have HR4 : Hid (Blk2 w4 w.heap.size 66 (.slice none 0 0) (.slice none 0 0)) := hid ((gb_block hgb4 (by omega) (by omega)).trans HRR.out); have HS4 := hid (hset.out.keep (fun j hj hj' => gb_block hgb4 (by omega) hj') hgb4.size hlr); have hl4 := Nat.lt_of_lt_of_le hlr hgb4.size; obtain ⟨⟨x0, x1⟩, xf⟩ := Blk2.box HR4.out; obtain ⟨S1, m1, d1, S2, m2, d2, L, M, hblk, hrd1, hrd2, hL, hM⟩ := HS4.out; obtain ⟨⟨y0, y1⟩, yf⟩ := hblk.box; have HRD1 := hid hrd1; have HRD2 := hid hrd2; clear hg4 hgb4 hblk hrd1 hrd2))
        | (go_at_call 78; go_must (refine (all5_any _).mono ?_; rintro e w5 ⟨v5, v5', L5, M5, rfl, ho5, ho5', -, -, hb5⟩; obtain ⟨A5, c5, rfl⟩ := ho5.form; obtain ⟨A5', c5', rfl⟩ := ho5'.form; have HB5 := hid hb5; obtain ⟨⟨z0, z1⟩, zf⟩ := Blk2.box ((hb5.block _ (by omega)).trans HR4.out); clear hb5))
        | (go_at_call 79; go_must (refine (not5_any _ _ L M 510 _ (HRD1.out.more fun j hj => hj.2) (HRD2.out.more fun j hj => hj.2) (by omega) (by omega) (by omega)).mono ?_; rintro e w5 ⟨v5, v5', L5, M5, rfl, ho5, ho5', -, -, hb5⟩; obtain ⟨A5, c5, rfl⟩ := ho5.form; obtain ⟨A5', c5', rfl⟩ := ho5'.form; have HB5 := hid hb5; obtain ⟨⟨z0, z1⟩, zf⟩ := Blk2.box ((hb5.block _ (by omega)).trans HR4.out); clear hb5)))
      · have hfin := ((Below.mono (B := w4.heap.size) (B' := w.heap.size) HB5.out (by omega)).setCell (p := ⟨w.heap.size, 0, none⟩) (Nat.le_refl _) (.slice A5 L5.length c5)).setCell (p := ⟨w.heap.size, 1, none⟩) (Nat.le_refl _) (.slice A5' M5.length c5')
        exact bodyPost_ret (v := .agg #[.slice A5 L5.length c5, .slice A5' M5.length c5']) (by simp [results, Tryz.results59, go_sem, z0, z1]) rfl ⟨A5, L5.length, c5, A5', M5.length, c5', rfl, HG4.out.below hfin hGl, gb_below HGB4.out hfin (Nat.le_refl _)⟩
      · have hfin := ((Below.mono (B := w4.heap.size) (B' := w.heap.size) HB5.out (by omega)).setCell (p := ⟨w.heap.size, 0, none⟩) (Nat.le_refl _) (.slice A5 L5.length c5)).setCell (p := ⟨w.heap.size, 1, none⟩) (Nat.le_refl _) (.slice A5' M5.length c5')
        exact bodyPost_ret (v := .agg #[.slice A5 L5.length c5, .slice A5' M5.length c5']) (by simp [results, Tryz.results59, go_sem, z0, z1]) rfl ⟨A5, L5.length, c5, A5', M5.length, c5', rfl, HG4.out.below hfin hGl, gb_below HGB4.out hfin (Nat.le_refl _)⟩
      · have hfin := ((Below.mono (B := w4.heap.size) (B' := w.heap.size) (b0 w4) (by omega)).setCell (p := ⟨w.heap.size, 0, none⟩) (Nat.le_refl _) (.slice S1 m1 d1)).setCell (p := ⟨w.heap.size, 1, none⟩) (Nat.le_refl _) (.slice S2 m2 d2)
        exact bodyPost_ret (v := .agg #[.slice S1 m1 d1, .slice S2 m2 d2]) (by simp [results, Tryz.results59, go_sem, x0, x1]) rfl ⟨S1, m1, d1, S2, m2, d2, rfl, HG4.out.below hfin hGl, gb_below HGB4.out hfin (Nat.le_refl _)⟩
end Go.Proofs.YtilkhofgcgfnlaaGreat
end
section
/- Contracts: linchpinmade.want, needs. -/
namespace Go.Proofs.YtilkhofgcgfnlaaGreat
open Go Go.RowKit

/-- Units: their candidates' versions. -/
def UnitsRd (w : World) (F : Nat → Prop) (v : Value) (m : Nat) : Prop := ∃ A cap, v = .slice A m cap ∧ 2 ≤ m ∧ m ≤ 20 ∧ ∀ k, k < m → ∃ g, A = some ⟨g, 0, none⟩ ∧ F g ∧ ∃ C n c, w.cell? ⟨g, k * 3 + 2, none⟩ = some (.slice C n c) ∧ CandsRd w F (.slice C n c) n
theorem UnitsRd.keep {w w' : World} {F : Nat → Prop} {v : Value} {m : Nat} (hk : ∀ k, F k → w'.heap[k]? = w.heap[k]?) (h : UnitsRd w F v m) : UnitsRd w' F v m := by
  obtain ⟨A, cap, hv, h1, h2, hc⟩ := h
  refine ⟨A, cap, hv, h1, h2, fun k hk' => ?_⟩
  obtain ⟨g, hA, hF, C, n, c, hcell, hcd⟩ := hc k hk'
  exact ⟨g, hA, hF, C, n, c, (World.cell?_of_block (hk g hF)).trans hcell, hcd.keep hk⟩
theorem UnitsRd.more {w : World} {F F' : Nat → Prop} {v : Value} {m : Nat} (hF : ∀ k, F k → F' k) (h : UnitsRd w F v m) : UnitsRd w F' v m := by
  obtain ⟨A, cap, hv, h1, h2, hc⟩ := h
  refine ⟨A, cap, hv, h1, h2, fun k hk' => ?_⟩
  obtain ⟨g, hA, hFF, C, n, c, hcell, hcd⟩ := hc k hk'
  exact ⟨g, hA, hF _ hFF, C, n, c, hcell, hcd.more hF⟩
def Not1 (bG : Nat) (w : World) : Nat → Prop := fun k => k ≠ bG ∧ k < w.heap.size
theorem UnitsRd.gb {w w' : World} {bG : Nat} {v : Value} {m : Nat} (h : UnitsRd w (Not1 bG w) v m) (hg : w.grownBy w' (some bG)) : UnitsRd w' (Not1 bG w') v m :=
  (h.keep fun _ hk => gb_block hg hk.1 hk.2).more fun _ hk => ⟨hk.1, Nat.lt_of_lt_of_le hk.2 hg.size⟩
def WantPost (bG : Nat) (lv : Value) (xs : List Int) (i : Int) (w : World) (e : Ending) (w' : World) : Prop :=
  ∃ (u : Int) (A : Option Addr) (n c : Nat) (A' : Option Addr) (n' c' : Nat), e = .returned (.agg #[.int .i64 u, .slice A n c, .slice A' n' c']) ∧ GAt w' bG lv xs (i + 3) ∧ w.grownBy w' (some bG)
theorem three_steps {w : World} {bG : Nat} {lv : Value} {xs : List Int} {i : Int} (h : GAt w bG lv xs (i + 1 + 2)) : GAt w bG lv xs (i + 3) := by
  have e : i + 3 = i + 1 + 2 := by omega
  rw [e]; exact h
theorem blk3_cells {w : World} {g : Nat} {T : TypeId} {x y z : Value} (h : w.heap[g]? = some (.cells #[x, y, z] T (0, 0))) : w.cell? ⟨g, 0, none⟩ = some x ∧ w.cell? ⟨g, 1, none⟩ = some y ∧ w.cell? ⟨g, 2, none⟩ = some z ∧ ∀ o, w.frozen? ⟨g, o, none⟩ = false := by
  refine ⟨?_, ?_, ?_, fun o => frozen_of_row w g o _ T h⟩ <;> (rw [cell_of_row _ _ _ _ T (0, 0) h]; rfl)

set_option maxRecDepth 100000 in
set_option maxHeartbeats 2000000 in
theorem want_g (bG : Nat) (lv : Value) (xs : List Int) (i : Int) (v : Value) (m : Nat) (w : World) (hG : GAt w bG lv xs i) (hi : i + 3 < 1000000) (hu : UnitsRd w (Not1 bG w) v m) :
    Calls Tryz.prog 33 #[.pointer (some ⟨bG, 0, none⟩), v] w (WantPost bG lv xs i w) := by
  obtain ⟨A, cap, rfl, hm1, hm2, hcs⟩ := hu
  have HU := hid hcs
  have hi0 := hG.bd.1
  have hGl := hG.lt
  have HG := hid hG
  clear hcs hG
  go_enter Tryz.func33, Tryz.ntmps33
  go_wp2_with fail
  obtain ⟨w0, hw0⟩ : ∃ w0 : World, w0 = w.alloc (.cells #[.int .i64 0, .slice none 0 0, .slice none 0 0] 69) := ⟨_, rfl⟩
  have HR0 : Hid (w0.heap[w.heap.size]? = some (.cells #[.int .i64 0, .slice none 0 0, .slice none 0 0] 69 (0, 0))) := hid (by rw [hw0]; exact heap_alloc_new w _)
  have hbw : Below w.heap.size w w0 := by rw [hw0]; exact balloc (b0 w) _
  have HG0 : Hid (GAt w0 bG lv xs i) := hid (HG.out.below hbw hGl)
  have HB0 : Hid (w.grownBy w0 (some bG)) := hid (gb_below (gb_refl w _) hbw (Nat.le_refl _))
  have hlt0 : w.heap.size < w0.heap.size := by rw [hw0]; simp
  rw [← hw0]
  clear hw0 hbw
  refine (next_g bG lv xs i _ _ HG0.out (by omega) ⟨by omega, by omega⟩).mono ?_
  rintro e w1 ⟨r, rfl, hr0, hr1, -, hg1, hgb1⟩
  have hr2 : r < (m : Int) - 1 := hr1 (by omega)
  have HG1 := hid hg1
  have HGB1 := hid (gb_gb HB0.out hgb1)
  have HR1 := hid ((gb_block hgb1 (by omega) hlt0).trans HR0.out)
  have hlt1 : w.heap.size < w1.heap.size := Nat.lt_of_lt_of_le hlt0 hgb1.size
  clear hg1 hgb1 hr1
  obtain ⟨p, rfl⟩ := Int.eq_ofNat_of_zero_le hr0
  obtain ⟨g, hA, hF, C, n, c, hcell, hcd⟩ := HU.out (p + 1) (by omega)
  cases hA
  have hcell1 : w1.cell? ⟨g, (p + 1) * 3 + 2, none⟩ = some (.slice C n c) := gb_cell HGB1.out hF.1 hcell
  have HCD : Hid (CandsRd w1 (fun k => k ≠ bG ∧ k < w1.heap.size) (.slice C n c) n) := hid ((hcd.keep fun k hk => gb_block HGB1.out hk.1 hk.2).more fun k hk => ⟨hk.1, Nat.lt_of_lt_of_le hk.2 HGB1.out.size⟩)
  clear hcell hcd
  have j1 : (1 : Int) + ↑p = ↑(p + 1) := by omega
  have j2 : (0 : Int) ≤ ↑(p + 1) := by omega
  have j3 : ((p + 1 : Nat) : Int) < ↑m := by omega
  go_wp2_with (first
    | (go_at_call 59; go_must (refine (set_g bG lv xs (i + 1) _ n _ HG1.out (by omega) HCD.out).mono ?_; rintro e w2 ⟨A2, n2, c2, A3, n3, c3, rfl, hg2, hgb2⟩; have HG2 := hid (three_steps hg2); have HGB2 := hid (gb_gb HGB1.out hgb2); have HR2 := hid ((gb_block hgb2 (by omega) hlt1).trans HR1.out); obtain ⟨x0, x1, x2, xf⟩ := blk3_cells HR2.out; clear hg2 hgb2)))
  have hfin := (((b0 w2).mono (B' := w.heap.size) HGB2.out.size).setCell (p := ⟨w.heap.size, 0, none⟩) (Nat.le_refl _) (.int .i64 (↑p + 1))).setCell (p := ⟨w.heap.size, 1, none⟩) (Nat.le_refl _) (.slice A2 n2 c2)
  have hfin2 := hfin.setCell (p := ⟨w.heap.size, 2, none⟩) (Nat.le_refl _) (.slice A3 n3 c3)
  exact bodyPost_ret (v := .agg #[.int .i64 (↑p + 1), .slice A2 n2 c2, .slice A3 n3 c3]) (by simp [results, Tryz.results33, go_sem, x0, x1, x2]) rfl ⟨↑p + 1, A2, n2, c2, A3, n3, c3, rfl, HG2.out.below hfin2 hGl, gb_below HGB2.out hfin2 (Nat.le_refl _)⟩

theorem want_info : (Tryz.prog.info? 69).map (fun i => (i.zero, i.size, i.bytes)) = some (some (.agg #[.int .i64 0, .slice none 0 0, .slice none 0 0]), 3, 56) := by kernel_rfl
theorem wants_info : (Tryz.prog.info? 57).map (fun i => (i.zero, i.size, i.bytes)) = some (some (.slice none 0 0), 1, 24) := by kernel_rfl
def NeedsPost (bG : Nat) (lv : Value) (xs : List Int) (i most : Int) (w : World) (e : Ending) (w' : World) : Prop :=
  ∃ (A : Option Addr) (n c : Nat) (cs : List Value) (i' : Int), e = .returned (.slice A n c) ∧ w'.ownsRow w.heap.size 57 1 (.slice A n c) n cs ∧ (n : Int) ≤ most ∧ (∀ u ∈ cs, u.oneCell' = true) ∧ GAt w' bG lv xs i' ∧ i ≤ i' ∧ i' ≤ i + 1 + 7 * most ∧ w.grownBy w' (some bG)
theorem gb_own {w w1 : World} {bG B : Nat} {e : TypeId} {s n : Nat} {v : Value} {xs : List Value} (h : w.ownsRow B e s v n xs) (hg : w.grownBy w1 (some bG)) (hB : bG < B) : w1.ownsRow B e s v n xs :=
  ownsRow_keep h fun g hgg => gb_block hg (by have := (h.lt g hgg).1; omega) (h.lt g hgg).2
/-- An append of the call's own, seen from the beginning. -/
theorem gb_append {w w1 w2 : World} {bG : Nat} {e : TypeId} {s n : Nat} {v : Value} {xs : List Value} (h : w.grownBy w1 (some bG)) (ho : w1.ownsRow w.heap.size e s v n xs) (o : Obj) (hg : (w1.alloc o).grownBy w2 v.ownBlock) : w.grownBy w2 (some bG) :=
  gb_below h (Below.grown ((Below.refl w.heap.size w1).alloc h.size o) hg (by simp; have := h.size; omega) (fun k hk => (ho.lt k hk).1)) (Nat.le_refl _)
theorem GAt.append {w0 w w1 : World} {bG : Nat} {lv : Value} {xs : List Int} {i : Int} {e : TypeId} {s n : Nat} {v : Value} {ys : List Value} (h : GAt w bG lv xs i) (hb : bG < w0.heap.size) (hs : w0.heap.size ≤ w.heap.size) (ho : w.ownsRow w0.heap.size e s v n ys) (o : Obj) (hg : (w.alloc o).grownBy w1 v.ownBlock) : GAt w1 bG lv xs i :=
  h.below (Below.grown ((Below.refl w0.heap.size w).alloc hs o) hg (by simp; omega) (fun k hk => (ho.lt k hk).1)) hb

theorem own_made1 {w : World} {B : Nat} (hB : B ≤ w.heap.size) (x y z : Value) (e : TypeId) : (w.alloc (.cells #[x, y, z] e)).ownsRow B e 3 (.slice (some ⟨w.heap.size, 0, none⟩) 1 1) 1 [x, y, z] :=
  ⟨rfl, .inr ⟨_, 1, _, rfl, hB, heap_alloc_new w _, Nat.le_refl _, by unfold maxLen; omega, rfl, rfl⟩⟩
/-- Behind an append onto a row above B: below B nothing has turned. -/
theorem app_below {w w1 : World} {B B' : Nat} {e : TypeId} {s n : Nat} {v : Value} {ys : List Value} (hs : B ≤ w.heap.size) (ho : w.ownsRow B' e s v n ys) (hB : B ≤ B') (o : Obj) (hg : (w.alloc o).grownBy w1 v.ownBlock) : Below B w w1 :=
  Below.grown ((Below.refl B w).alloc hs o) hg (by simp; omega) (fun k hk => Nat.le_trans hB (ho.lt k hk).1)
theorem own_apart {w w1 : World} {B B' : Nat} {e e' : TypeId} {s n s' n' : Nat} {v v' : Value} {ys ys' : List Value} (h : w.ownsRow B e s v n ys) (ho : w.ownsRow B' e' s' v' n' ys') (hne : e ≠ e') (o : Obj) (hg : (w.alloc o).grownBy w1 v'.ownBlock) : w1.ownsRow B e s v n ys :=
  ownsRow_keep h fun g hgg => by
    have hl := (h.lt g hgg).2
    rw [hg.block g (by simp; omega) (fun e => own_ne h ho hne g hgg e.symm), Below.heap_alloc _ _ _ hl]

set_option maxRecDepth 100000 in
set_option maxHeartbeats 2000000 in
theorem needs_g (bG : Nat) (lv : Value) (xs : List Int) (i most : Int) (v : Value) (m : Nat) (w : World) (hG : GAt w bG lv xs i) (hi : i + 100 < 1000000) (hm : 0 ≤ most) (hm3 : most ≤ 5) (hu : UnitsRd w (Not1 bG w) v m) :
    Calls Tryz.prog 30 #[.pointer (some ⟨bG, 0, none⟩), v, .int .i64 most] w (NeedsPost bG lv xs i most w) := by
  have HU := hid hu
  obtain ⟨A, cap, rfl, -, -, -⟩ := hu
  obtain ⟨iw, hiw⟩ := info_parts want_info
  have HIW := hid hiw
  obtain ⟨iv, hiv⟩ := info_parts wants_info
  have HIV := hid hiv
  have hi0 := hG.bd.1
  have hGl := hG.lt
  have HG := hid hG
  clear hG hiw hiv
  go_enter Tryz.func30, Tryz.ntmps30
  go_wp2_with (go_at_call 32; go_must (refine (next_g bG lv xs i _ _ HG.out (by omega) ⟨by omega, by omega⟩).mono ?_; rintro e w1 ⟨r, rfl, hr0, hr1, -, hg1, hgb1⟩; have hr2 : r < most + 1 := hr1 (by omega); have HG1 := hid hg1; have HGB1 := hid hgb1; clear hg1 hgb1 hr1))
  go_loopw [7, 8] (fun ov kv wr => ∃ (k i' : Int) (n : Nat) (cs : List Value), 0 ≤ k ∧ kv = .int .i64 k ∧ (n : Int) = r - k ∧ i + 1 ≤ i' ∧ i' ≤ i + 1 + 7 * (r - k) ∧ Hid (wr.ownsRow w.heap.size 57 1 ov n cs ∧ ∀ u ∈ cs, u.oneCell' = true) ∧ Hid (GAt wr bG lv xs i') ∧ Hid (w.grownBy wr (some bG))) (fun _ kv _ => (intOf kv).toNat)
  case atStart => exact ⟨r, i + 1, 0, [], hr0, rfl, by omega, by omega, by omega, hid ⟨⟨rfl, .inl ⟨rfl, rfl⟩⟩, fun u hu => by cases hu⟩, HG1, HGB1⟩
  case round =>
    obtain ⟨k, i', n, cs, hk, rfl, hn, hi1, hi2, hown, hg, hgb⟩ := hrel
    obtain ⟨Ao, co, rfl⟩ := own_form hown.out.1
    by_cases hlt : 0 < k
    · have tok := hid True.intro
      have tok2 := hid True.intro
      have tok3 := hid True.intro
      have HURR := hid ((show UnitsRd w (Not1 bG w) _ m from HU.out).gb hgb.out)
      have hsw := hgb.out.size
      go_wp2_with (first
        | (go_at_call 33; clear tok; go_must (refine (want_g bG lv xs i' _ m _ hg.out (by omega) HURR.out).mono ?_; rintro e w2 ⟨u, A2, n2, c2, A3, n3, c3, rfl, hg2, hgb2⟩; have HGB2 := hid (gb_gb hgb.out hgb2); have HOWN2 := hid (gb_own hown.out.1 hgb2 hGl); have HG2 := hid hg2; have hs2 := HGB2.out.size; clear hg2 hgb2))
        | (go_at_call 32; go_must (refine (next_g bG lv xs (i' + 3) 3 _ (HG2.out.below (balloc (b0 w2) _) HG2.out.lt) (by omega) ⟨by decide, by decide⟩).mono ?_; rintro e w3 ⟨r3, rfl, -, -, -, hg3, hgb3⟩; have HGB3 := hid (gb_gb (gb_below HGB2.out (balloc (b0 w2) _) HGB2.out.size) hgb3); have HOWN3 := hid (gb_own (HOWN2.out.alloc _) hgb3 hGl); have HROW3 := hid (gb_own (own_made1 (w := w2) (Nat.le_refl _) (.int .i64 u) (.slice A2 n2 c2) (.slice A3 n3 c3) 69) hgb3 HG2.out.lt); have HG3 := hid hg3; have hs3 := HGB3.out.size; clear hg3 hgb3))
        | (go_at_call 33; clear tok2; go_must (refine (want_g bG lv xs (i' + 3 + 1) _ m _ HG3.out (by omega) ((show UnitsRd w (Not1 bG w) _ m from HU.out).gb HGB3.out)).mono ?_; rintro e w4 ⟨u4, A4, n4, c4, A5, n5, c5, rfl, hg4, hgb4⟩; have HGB4 := hid (gb_gb HGB3.out hgb4); have HOWN4 := hid (gb_own HOWN3.out hgb4 hGl); have HROW4 := hid (gb_own HROW3.out hgb4 HG2.out.lt); have HG4 := hid hg4; have hs4 := HGB4.out.size; clear hg4 hgb4))
        | (at_builtin
           clear tok3
           (refine wpList_append_src _ rfl (.tmp 25) (.tmp 29) _ rfl w2.heap.size 69 iw _ 3 56 Tryz.underlying57 HIW.out.1 HIW.out.2.1 HIW.out.2.2.1 HIW.out.2.2.2 rfl (by omega) (.slice (some ⟨w2.heap.size, 0, none⟩) 1 1) 1 [.int .i64 u, .slice A2 n2 c2, .slice A3 n3 c3] (by rfl) (by exact HROW4.out.alloc _) (some ⟨w4.heap.size, 0, none⟩) 1 1 [.int .i64 u4, .slice A4 n4 c4, .slice A5 n5 c5] (by rfl) (by exact src_new _ _ rfl 3 _ rfl rfl) (by simp [Value.oneCell']) (by unfold maxLen; omega) (by omega) (by simp; have := HROW4.out.lt w2.heap.size rfl; omega) ?_)
           intro v6 w6 hown6 hg6 hat6
           obtain ⟨A6, c6, rfl⟩ := own_form hown6
           have HBL6 := hid (app_below hs4 HROW4.out hs2 _ hg6)
           have HOWN6 := hid (own_apart HOWN4.out HROW4.out (by decide) _ hg6)
           have HG6 := hid (HG4.out.below HBL6.out hGl)
           have HGB6 := hid (gb_below HGB4.out HBL6.out (Nat.le_refl _))
           have hs6 := HGB6.out.size
           clear hown6 hg6 hat6)
        | (at_builtin
           go_must (first
             | (refine wpList_append_src _ rfl (.tmp 31) (.tmp 33) _ rfl w.heap.size 57 iv _ 1 24 Tryz.underlying53 HIV.out.1 HIV.out.2.1 HIV.out.2.2.1 HIV.out.2.2.2 rfl (by omega) (.slice Ao n co) n cs (by rfl) (by exact HOWN6.out.alloc _) (some ⟨w6.heap.size, 0, none⟩) 1 1 [.slice A6 2 c6] (by rfl) (by exact src_new _ _ rfl 1 _ rfl rfl) (by simp [Value.oneCell']) (by unfold maxLen; omega) (by omega) (by simp; omega) ?_)
             | (refine wpList_append_src _ rfl (.tmp 31) (.tmp 33) _ rfl w.heap.size 57 iv _ 1 24 Tryz.underlying53 HIV.out.1 HIV.out.2.1 HIV.out.2.2.1 HIV.out.2.2.2 rfl (by omega) (.slice Ao n co) n cs (by rfl) (by exact HOWN3.out.alloc _) (some ⟨w3.heap.size, 0, none⟩) 1 1 [.slice (some ⟨w2.heap.size, 0, none⟩) 1 1] (by rfl) (by exact src_new _ _ rfl 1 _ rfl rfl) (by simp [Value.oneCell']) (by unfold maxLen; omega) (by omega) (by simp; omega) ?_))
           intro v7 w7 hown7 hg7 hat7
           have HOWN7 := hid hown7
           have HBL7 := hid (show Below w.heap.size _ w7 from app_below (by first | exact hs6 | exact hs3) (by first | exact HOWN6.out | exact HOWN3.out) (Nat.le_refl _) _ hg7)
           clear hown7 hg7 hat7))
      · refine ⟨⟨k - 1, i' + 3 + 1 + 3, n + 1, cs ++ [.slice A6 2 c6], by omega, by go_num, by push_cast; omega, by omega, by omega, hid ⟨HOWN7.out, ?_⟩, hid (HG6.out.below HBL7.out hGl), hid (gb_below HGB6.out HBL7.out (Nat.le_refl _))⟩, by simp [intOf]; omega⟩
        intro x hx
        rcases List.mem_append.1 hx with hx | hx
        · exact hown.out.2 x hx
        · have : x = .slice A6 2 c6 := by simpa using hx
          subst this
          rfl
      · refine ⟨⟨k - 1, i' + 3 + 1, n + 1, cs ++ [.slice (some ⟨w2.heap.size, 0, none⟩) 1 1], by omega, by go_num, by push_cast; omega, by omega, by omega, hid ⟨HOWN7.out, ?_⟩, hid (HG3.out.below HBL7.out hGl), hid (gb_below HGB3.out HBL7.out (Nat.le_refl _))⟩, by simp [intOf]; omega⟩
        intro x hx
        rcases List.mem_append.1 hx with hx | hx
        · exact hown.out.2 x hx
        · have : x = .slice (some ⟨w2.heap.size, 0, none⟩) 1 1 := by simpa using hx
          subst this
          rfl
    · have hk0 : k = 0 := by omega
      go_wp2
      go_ret
      exact ⟨Ao, n, co, cs, i', rfl, hown.out.1, by omega, hown.out.2, hg.out, by omega, by omega, hgb.out⟩
end Go.Proofs.YtilkhofgcgfnlaaGreat
end
section
/- Units that the call makes: words for memory. -/
namespace Go.Proofs.YtilkhofgcgfnlaaGreat
open Go Go.RowKit

structure UnitD where
  nm : ByteArray
  ft : ByteArray
  A : Option Addr
  n : Nat
  c : Nat
def fUnit : Flat UnitD := ⟨3, fun d => [.string d.nm, .string d.ft, .slice d.A d.n d.c], fun _ => True, fun _ => rfl, fun _ u h => by simp at h; rcases h with rfl | rfl | rfl <;> rfl, by decide⟩
structure CandD where
  v : Ver
  sh : Int
def candCells (d : CandD) : List Value := [.int .i64 d.v.major, .int .i64 d.v.minor, .int .i64 d.v.patch, .string d.v.pre, .string d.v.build, .int .i64 d.sh, .slice none 0 0, .slice none 0 0]
def fCand : Flat CandD := ⟨8, candCells, fun d => d.v.B, fun _ => rfl, fun _ u h => by simp [candCells] at h; rcases h with rfl | rfl | rfl | rfl | rfl | rfl | rfl | rfl <;> rfl, by decide⟩
theorem unit_info : (Tryz.prog.info? 62).map (fun i => (i.zero, i.size, i.bytes)) = some (some (.agg #[.string ⟨#[]⟩, .string ⟨#[]⟩, .slice none 0 0]), 3, 56) := by kernel_rfl
theorem cand_info : (Tryz.prog.info? 59).map (fun i => (i.zero, i.size, i.bytes)) = some (some (.agg #[.int .i64 0, .int .i64 0, .int .i64 0, .string ⟨#[]⟩, .string ⟨#[]⟩, .int .i64 0, .slice none 0 0, .slice none 0 0]), 8, 112) := by kernel_rfl

/-- A block of candidates; from number nf on none has needs yet. -/
def CandBlk (w : World) (b n nf : Nat) : Prop := ∃ cur : Array Value, w.heap[b]? = some (.cells cur 59 (0, 0)) ∧ n * 8 ≤ cur.size ∧
  ∀ j, j < n → ∃ (u : Ver) (sh : Int) (nv bv : Value), u.B ∧ cur[j * 8]? = some (.int .i64 u.major) ∧ cur[j * 8 + 1]? = some (.int .i64 u.minor) ∧ cur[j * 8 + 2]? = some (.int .i64 u.patch) ∧ cur[j * 8 + 3]? = some (.string u.pre) ∧ cur[j * 8 + 4]? = some (.string u.build) ∧
    cur[j * 8 + 5]? = some (.int .i64 sh) ∧ cur[j * 8 + 6]? = some nv ∧ cur[j * 8 + 7]? = some bv ∧ (nf ≤ j → nv = .slice none 0 0)
theorem CandBlk.keep {w w' : World} {b n nf : Nat} (h : CandBlk w b n nf) (hk : w'.heap[b]? = w.heap[b]?) : CandBlk w' b n nf := by
  obtain ⟨cur, h1, h2⟩ := h
  exact ⟨cur, hk.trans h1, h2⟩
theorem CandBlk.lt {w : World} {b n nf : Nat} (h : CandBlk w b n nf) : b < w.heap.size := by
  obtain ⟨cur, h1, _⟩ := h
  exact (Array.getElem?_eq_some_iff.1 h1).1
theorem CandBlk.mono {w : World} {b n nf nf' : Nat} (h : CandBlk w b n nf) (hn : nf ≤ nf') : CandBlk w b n nf' := by
  obtain ⟨cur, h1, h2, h3⟩ := h
  refine ⟨cur, h1, h2, fun j hj => ?_⟩
  obtain ⟨u, sh, nv, bv, g0, g1, g2, g3, g4, g5, g6, g7, g8, g9⟩ := h3 j hj
  exact ⟨u, sh, nv, bv, g0, g1, g2, g3, g4, g5, g6, g7, g8, fun hh => g9 (by omega)⟩
/-- Needs, or bars, written. -/
theorem CandBlk.set {w : World} {b n nf k : Nat} (h : CandBlk w b n nf) (hk : k < n) (x : Value) : CandBlk (w.setCell ⟨b, k * 8 + 6, none⟩ x) b n (max nf (k + 1)) ∧ CandBlk (w.setCell ⟨b, k * 8 + 7, none⟩ x) b n nf := by
  obtain ⟨cur, h1, h2, h3⟩ := h
  have hb : ∀ o, (w.setCell ⟨b, o, none⟩ x).heap[b]? = some (.cells (cur.setIfInBounds o x) 59 (0, 0)) := fun o => heap_setCell_same w b o _ _ _ h1
  have hne : ∀ {o i : Nat}, o ≠ i → (cur.setIfInBounds o x)[i]? = cur[i]? := fun hoi => Array.getElem?_setIfInBounds_ne hoi
  refine ⟨⟨_, hb _, by simpa using h2, fun j hj => ?_⟩, ⟨_, hb _, by simpa using h2, fun j hj => ?_⟩⟩
  · obtain ⟨u, sh, nv, bv, g0, g1, g2, g3, g4, g5, g6, g7, g8, g9⟩ := h3 j hj
    by_cases hjk : j = k
    · subst hjk
      refine ⟨u, sh, x, bv, g0, by rw [hne (by omega)]; exact g1, by rw [hne (by omega)]; exact g2, by rw [hne (by omega)]; exact g3, by rw [hne (by omega)]; exact g4, by rw [hne (by omega)]; exact g5, by rw [hne (by omega)]; exact g6, ?_, by rw [hne (by omega)]; exact g8, fun hh => absurd hh (by omega)⟩
      rw [Array.getElem?_setIfInBounds_self_of_lt (by omega)]
    · exact ⟨u, sh, nv, bv, g0, by rw [hne (by omega)]; exact g1, by rw [hne (by omega)]; exact g2, by rw [hne (by omega)]; exact g3, by rw [hne (by omega)]; exact g4, by rw [hne (by omega)]; exact g5, by rw [hne (by omega)]; exact g6, by rw [hne (by omega)]; exact g7, by rw [hne (by omega)]; exact g8, fun hh => g9 (by omega)⟩
  · obtain ⟨u, sh, nv, bv, g0, g1, g2, g3, g4, g5, g6, g7, g8, g9⟩ := h3 j hj
    by_cases hjk : j = k
    · subst hjk
      refine ⟨u, sh, nv, x, g0, by rw [hne (by omega)]; exact g1, by rw [hne (by omega)]; exact g2, by rw [hne (by omega)]; exact g3, by rw [hne (by omega)]; exact g4, by rw [hne (by omega)]; exact g5, by rw [hne (by omega)]; exact g6, by rw [hne (by omega)]; exact g7, ?_, g9⟩
      rw [Array.getElem?_setIfInBounds_self_of_lt (by omega)]
    · exact ⟨u, sh, nv, bv, g0, by rw [hne (by omega)]; exact g1, by rw [hne (by omega)]; exact g2, by rw [hne (by omega)]; exact g3, by rw [hne (by omega)]; exact g4, by rw [hne (by omega)]; exact g5, by rw [hne (by omega)]; exact g6, by rw [hne (by omega)]; exact g7, by rw [hne (by omega)]; exact g8, g9⟩
/-- An own row of candidates. -/
theorem own_candBlk {w : World} {B : Nat} {v : Value} {cs : List CandD} (h : w.ownsRow B 59 8 v cs.length (fCand.all cs)) (hB : ∀ d ∈ cs, d.v.B) : ∃ A c, v = .slice A cs.length c ∧ (0 < cs.length → ∃ b, A = some ⟨b, 0, none⟩ ∧ B ≤ b ∧ CandBlk w b cs.length 0) := by
  rcases h.2 with ⟨rfl, h0⟩ | ⟨g, cap, cur, rfl, hb, hg, h1, h2, h3, h4⟩
  · exact ⟨none, 0, by rw [h0], fun hp => by omega⟩
  · refine ⟨_, cap, rfl, fun hp => ⟨g, rfl, hb, cur, hg, by rw [h3]; exact Nat.mul_le_mul_right _ h1, fun j hj => ?_⟩⟩
    have hget : ∀ i, i < 8 → cur[j * 8 + i]? = (candCells cs[j])[i]? := by
      intro i hi
      have hlt : j * 8 + i < cs.length * 8 := by omega
      have e := fCand.all_get hj (j := i) hi
      rw [← Array.getElem?_toList, ← List.getElem?_take_of_lt hlt, h4]
      exact e
    exact ⟨cs[j].v, cs[j].sh, .slice none 0 0, .slice none 0 0, hB _ (List.getElem_mem hj), hget 0 (by omega), hget 1 (by omega), hget 2 (by omega), hget 3 (by omega), hget 4 (by omega), hget 5 (by omega), hget 6 (by omega), hget 7 (by omega), fun _ => rfl⟩
theorem CandBlk.verAt {w : World} {b n nf k : Nat} (h : CandBlk w b n nf) (hk : k < n) : ∃ u : Ver, u.B ∧ VerAt w b (k * 8) u := by
  obtain ⟨cur, h1, h2, h3⟩ := h
  obtain ⟨u, sh, nv, bv, g0, g1, g2, g3, g4, g5, g6, g7, g8, g9⟩ := h3 k hk
  have e : ∀ o, w.cell? ⟨b, o, none⟩ = cur[o]? := fun o => cell_of_row w b o cur _ (0, 0) h1
  exact ⟨u, g0, (e _).trans g1, (e _).trans g2, (e _).trans g3, (e _).trans g4, (e _).trans g5⟩
theorem CandBlk.needsAt {w : World} {b n nf k : Nat} (h : CandBlk w b n nf) (hk : k < n) : (∃ nv bv, w.cell? ⟨b, k * 8 + 6, none⟩ = some nv ∧ w.cell? ⟨b, k * 8 + 7, none⟩ = some bv ∧ (nf ≤ k → nv = .slice none 0 0)) ∧ ∀ o, w.frozen? ⟨b, o, none⟩ = false := by
  obtain ⟨cur, h1, h2, h3⟩ := h
  obtain ⟨u, sh, nv, bv, g0, g1, g2, g3, g4, g5, g6, g7, g8, g9⟩ := h3 k hk
  have e : ∀ o, w.cell? ⟨b, o, none⟩ = cur[o]? := fun o => cell_of_row w b o cur _ (0, 0) h1
  exact ⟨⟨nv, bv, (e _).trans g7, (e _).trans g8, g9⟩, fun o => frozen_of_row w b o cur _ h1⟩

/-- A unit's candidates lie in a block from B on; of the first nf its needs are told. -/
def CandU (w : World) (B : Nat) (d : UnitD) (nf : Nat) : Prop := d.n ≤ 4 ∧ (0 < d.n → ∃ b, d.A = some ⟨b, 0, none⟩ ∧ B ≤ b ∧ CandBlk w b d.n nf)
/-- Units under way: nf tells of each one up to where its candidates' needs are told. -/
structure Built (B : Nat) (w : World) (lv : Value) (us : List UnitD) (nf : Nat → Nat) : Prop where
  own : w.ownsRow B 62 3 lv us.length (fUnit.all us)
  cands : ∀ k, (h : k < us.length) → CandU w B us[k] (nf k)
  incr : ∀ j k, (h : j < k) → (h' : k < us.length) → ∀ b b', 0 < (us[j]'(by omega)).n → 0 < us[k].n → (us[j]'(by omega)).A = some ⟨b, 0, none⟩ → us[k].A = some ⟨b', 0, none⟩ → b < b'
section
variable {B : Nat} {w w' : World} {lv : Value} {us : List UnitD} {nf : Nat → Nat}
theorem Built.keep (h : Built B w lv us nf) (hk : ∀ k, B ≤ k → k < w.heap.size → w'.heap[k]? = w.heap[k]?) : Built B w' lv us nf := by
  refine ⟨ownsRow_keep h.own fun g hg => hk g (h.own.lt g hg).1 (h.own.lt g hg).2, fun k hk' => ⟨(h.cands k hk').1, fun hp => ?_⟩, h.incr⟩
  obtain ⟨b, hA, hb, hc⟩ := (h.cands k hk').2 hp
  exact ⟨b, hA, hb, hc.keep (hk b hb hc.lt)⟩
theorem Built.gb {bG : Nat} (h : Built B w lv us nf) (hg : w.grownBy w' (some bG)) (hB : bG < B) : Built B w' lv us nf := h.keep fun k hk hl => gb_block hg (by omega) hl
theorem Built.below {M : Nat} (h : Built B w lv us nf) (hb : Below M w w') (hM : w.heap.size ≤ M) : Built B w' lv us nf := h.keep fun k _ hl => hb.block k (by omega)
theorem Built.form (h : Built B w lv us nf) : ∃ A c, lv = .slice A us.length c := own_form h.own
/-- To be read. -/
theorem Built.rd {bG : Nat} (h : Built B w lv us nf) (hB : bG < B) (h2 : 2 ≤ us.length) (h20 : us.length ≤ 20) : UnitsRd w (Not1 bG w) lv us.length := by
  obtain ⟨A, c, hv⟩ := h.form
  refine ⟨A, c, hv, h2, h20, fun k hk => ?_⟩
  rcases h.own.2 with ⟨_, hn⟩ | ⟨g, cap, cur, hv2, hb, hg, h3, h4, h5, h6⟩
  · omega
  · rw [hv] at hv2
    injection hv2 with e1 e2 e3
    have hgl : g < w.heap.size := (Array.getElem?_eq_some_iff.1 hg).1
    refine ⟨g, e1, ⟨by omega, hgl⟩, us[k].A, us[k].n, us[k].c, ?_, ?_⟩
    · rw [cell_of_row w g _ cur _ (0, 0) hg]
      have hlt : k * 3 + 2 < us.length * 3 := by omega
      rw [← Array.getElem?_toList, ← List.getElem?_take_of_lt hlt, h6]
      exact fUnit.all_get hk (j := 2) (by decide)
    · obtain ⟨hn4, hc⟩ := h.cands k hk
      refine ⟨us[k].A, us[k].c, rfl, hn4, fun j hj => ?_⟩
      obtain ⟨b, hA, hbb, hblk⟩ := hc (by omega)
      obtain ⟨u, hu, hat⟩ := hblk.verAt hj
      exact ⟨b, hA, ⟨by omega, hblk.lt⟩, u, hu, hat⟩
theorem Built.snoc {v' : Value} {d : UnitD} {M : Nat} {o : Obj} (h : Built B w lv us (fun _ => 0)) (hM : ∀ k, (hk : k < us.length) → ∀ b, 0 < us[k].n → us[k].A = some ⟨b, 0, none⟩ → b < M)
    (hd : CandU w M d 0) (hMB : B ≤ M) (hg : (w.alloc o).grownBy w' lv.ownBlock) (ho : w'.ownsRow B 62 3 v' (us.length + 1) (fUnit.all us ++ fUnit.cells d)) : Built B w' v' (us ++ [d]) (fun _ => 0) := by
  have hkeep : ∀ {b n nf : Nat}, CandBlk w b n nf → CandBlk w' b n nf := fun hc => by
    have hl := hc.lt
    refine hc.keep ?_
    rw [hg.block _ (by simp; omega) ?_, Below.heap_alloc _ _ _ hl]
    intro e
    obtain ⟨cur, h1, _⟩ := hc
    rcases h.own.2 with ⟨rfl, _⟩ | ⟨g, cap, cur', rfl, _, hgg, _⟩
    · cases e
    · have : g = _ := (Option.some.inj e).symm
      subst this
      rw [hgg] at h1
      injection h1 with h1
      injection h1 with _ h2
      exact absurd h2 (by decide)
  refine ⟨?_, ?_, ?_⟩
  · rw [fUnit.all_snoc, List.length_append]
    exact ho
  · intro k hk
    by_cases hkl : k < us.length
    · rw [List.getElem_append_left hkl]
      refine ⟨(h.cands k hkl).1, fun hp => ?_⟩
      obtain ⟨b, hA, hb, hc⟩ := (h.cands k hkl).2 hp
      exact ⟨b, hA, hb, hkeep hc⟩
    · have e : k = us.length := by simp at hk; omega
      subst e
      have e3 : (us ++ [d])[us.length] = d := by simp
      rw [e3]
      refine ⟨hd.1, fun hp => ?_⟩
      obtain ⟨b, hA, hb, hc⟩ := hd.2 hp
      exact ⟨b, hA, by omega, hkeep hc⟩
  · intro j k hjk hk b b' hj0 hk0 hAj hAk
    by_cases hkl : k < us.length
    · rw [List.getElem_append_left hkl] at hAk hk0
      rw [List.getElem_append_left (by omega)] at hAj hj0
      exact h.incr j k hjk hkl b b' hj0 hk0 hAj hAk
    · have e : k = us.length := by simp at hk; omega
      subst e
      rw [List.getElem_append_left hjk] at hAj hj0
      have e3 : (us ++ [d])[us.length] = d := by simp
      rw [e3] at hAk hk0
      obtain ⟨b2, hA2, hb2, _⟩ := hd.2 hk0
      rw [hAk] at hA2
      injection hA2 with hA2
      injection hA2 with hA2
      subst hA2
      have := hM j hjk b hj0 hAj
      omega
end
end Go.Proofs.YtilkhofgcgfnlaaGreat
end
