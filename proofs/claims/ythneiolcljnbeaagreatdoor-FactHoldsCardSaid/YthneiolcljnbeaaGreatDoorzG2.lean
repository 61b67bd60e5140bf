import Derived.Test.YthneiolcljnbeaaGreatDoorzV18
import Derived.Outline
import Derived.Deep.RegionWith
import Derived.Test.YthneiolcljnbeaaGreatDoorzLater
namespace Go.Proofs.YthneiolcljnbeaaGreatDoor
open Go Go.RowKit
section
def VerAt (w : World) (g o : Nat) (u : Ver) : Prop := w.cell? ⟨g, o, none⟩ = some (.int .i64 u.major) ∧ w.cell? ⟨g, o + 1, none⟩ = some (.int .i64 u.minor) ∧ w.cell? ⟨g, o + 2, none⟩ = some (.int .i64 u.patch) ∧ w.cell? ⟨g, o + 3, none⟩ = some (.string u.pre) ∧ w.cell? ⟨g, o + 4, none⟩ = some (.string u.build)
theorem VerAt.keep {w w' : World} {g o : Nat} {u : Ver} (hk : w'.heap[g]? = w.heap[g]?) (h : VerAt w g o u) : VerAt w' g o u := by
 obtain ⟨h0, h1, h2, h3, h4⟩ := h
 have e : ∀ o, w'.cell? ⟨g, o, none⟩ = w.cell? ⟨g, o, none⟩ := fun o => World.cell?_of_block hk
 exact ⟨(e _).trans h0, (e _).trans h1, (e _).trans h2, (e _).trans h3, (e _).trans h4⟩
def CandsRd (w : World) (F : Nat → Prop) (v : Value) (n : Nat) : Prop := ∃ A cap, v = .slice A n cap ∧ n ≤ 4 ∧ ∀ k, k < n → ∃ g, A = some ⟨g, 0, none⟩ ∧ F g ∧ ∃ u : Ver, u.B ∧ VerAt w g (k * 8) u
theorem CandsRd.keep {w w' : World} {F : Nat → Prop} {v : Value} {n : Nat} (hk : ∀ k, F k → w'.heap[k]? = w.heap[k]?) (h : CandsRd w F v n) : CandsRd w' F v n := by
 obtain ⟨A, cap, hv, hn, hc⟩ := h
 refine ⟨A, cap, hv, hn, fun k hk' => ?_⟩
 obtain ⟨g, hA, hF, u, hu, hat⟩ := hc k hk'
 exact ⟨g, hA, hF, u, hu, hat.keep (hk g hF)⟩
theorem CandsRd.more {w : World} {F F' : Nat → Prop} {v : Value} {n : Nat} (hF : ∀ k, F k → F' k) (h : CandsRd w F v n) : CandsRd w F' v n := by
 obtain ⟨A, cap, hv, hn, hc⟩ := h
 refine ⟨A, cap, hv, hn, fun k hk' => ?_⟩
 obtain ⟨g, hA, hFF, rest⟩ := hc k hk'
 exact ⟨g, hA, hF _ hFF, rest⟩
section
variable {w w1 w2 : World} {b : Option Nat} {B : Nat}
theorem gb_below (h : w.grownBy w1 b) (hb : Below B w1 w2) (hB : w.heap.size ≤ B) : w.grownBy w2 b :=
 ⟨hb.os.trans h.os, hb.tape.trans h.tape, hb.output.trans h.output, Nat.le_trans h.size hb.size, fun k hk hne => (hb.block k (by omega)).trans (h.block k hk hne)⟩
theorem gb_gb (h : w.grownBy w1 b) (h2 : w1.grownBy w2 b) : w.grownBy w2 b :=
 ⟨h2.os.trans h.os, h2.tape.trans h.tape, h2.output.trans h.output, Nat.le_trans h.size h2.size, fun k hk hne => (h2.block k (Nat.lt_of_lt_of_le hk h.size) hne).trans (h.block k hk hne)⟩
theorem gb_refl (w : World) (b : Option Nat) : w.grownBy w b := ⟨rfl, rfl, rfl, Nat.le_refl _, fun _ _ _ => rfl⟩
theorem gb_cell {bG : Nat} (h : w.grownBy w1 (some bG)) {g o : Nat} {v : Value} (hne : g ≠ bG) (hc : w.cell? ⟨g, o, none⟩ = some v) : w1.cell? ⟨g, o, none⟩ = some v := h.cell hc (by intro e; exact hne (Option.some.inj e))
theorem gb_block {bG : Nat} (h : w.grownBy w1 (some bG)) {g : Nat} (hne : g ≠ bG) (hg : g < w.heap.size) : w1.heap[g]? = w.heap[g]? := h.block g hg (by intro e; exact hne (Option.some.inj e))
end
def Blk2 (w : World) (g : Nat) (T : TypeId) (u v : Value) : Prop := w.heap[g]? = some (.cells #[u, v] T (0, 0))
theorem Blk2.box {w : World} {g : Nat} {T : TypeId} {u v : Value} (h : Blk2 w g T u v) : Box2 w g u v ∧ ∀ o, w.frozen? ⟨g, o, none⟩ = false := by
 refine ⟨⟨?_, ?_⟩, fun o => frozen_of_row w g o _ T h⟩ <;> (rw [cell_of_row _ _ _ _ T (0, 0) h]; rfl)
theorem Blk2.set {w : World} {g : Nat} {T : TypeId} {u v : Value} (h : Blk2 w g T u v) (x y : Value) : Blk2 ((w.setCell ⟨g, 0, none⟩ x).setCell ⟨g, 1, none⟩ y) g T x y := by
 unfold Blk2 at h ⊢
 have h1 : (w.setCell ⟨g, 0, none⟩ x).heap[g]? = some (.cells #[x, v] T (0, 0)) := by rw [heap_setCell_same w g 0 _ T _ h]; rfl
 rw [heap_setCell_same _ g 1 _ T _ h1]
 rfl
def nb : Nat → Nat
 | 0 => 0
 | k + 1 => 2 + 4 * (nb k + 1)
theorem nb_le {k : Nat} (h : k ≤ 4) : nb k ≤ 510 := by
 have : k = 0 ∨ k = 1 ∨ k = 2 ∨ k = 3 ∨ k = 4 := by omega
 rcases this with rfl | rfl | rfl | rfl | rfl <;> decide
def Btw (a : Nat) (w : World) : Nat → Prop := fun k => a < k ∧ k < w.heap.size
def SetIn (w : World) (bs N : Nat) : Prop := ∃ A n c A' n' c' L M, Blk2 w bs 62 (.slice A n c) (.slice A' n' c') ∧ SliceRd fSpan.ty w (Btw bs w) (.slice A n c) L ∧ SliceRd fSpan.ty w (Btw bs w) (.slice A' n' c') M ∧ L.length ≤ N ∧ M.length ≤ N ∧ setMayB L M = true
theorem SetIn.keep {w w' : World} {bs N : Nat} (hk : ∀ k, bs ≤ k → k < w.heap.size → w'.heap[k]? = w.heap[k]?) (hs : w.heap.size ≤ w'.heap.size) (hb : bs < w.heap.size) (h : SetIn w bs N) : SetIn w' bs N := by
 obtain ⟨A, n, c, A', n', c', L, M, h1, h2, h3, h4, h5⟩ := h
 have hK : Keeps (Btw bs w) w w' := fun k hk' => hk k (Nat.le_of_lt hk'.1) hk'.2
 exact ⟨A, n, c, A', n', c', L, M, (hk bs (Nat.le_refl _) hb).trans h1, (h2.keep hK).more fun k hk => ⟨hk.1, Nat.lt_of_lt_of_le hk.2 hs⟩, (h3.keep hK).more fun k hk => ⟨hk.1, Nat.lt_of_lt_of_le hk.2 hs⟩, h4, h5⟩
theorem SetIn.mono {w : World} {bs N N' : Nat} (h : SetIn w bs N) (hN : N ≤ N') : SetIn w bs N' := by
 obtain ⟨A, n, c, A', n', c', L, M, h1, h2, h3, h4, h5, h6⟩ := h
 exact ⟨A, n, c, A', n', c', L, M, h1, h2, h3, by omega, by omega, h6⟩
theorem SetIn.put {w : World} {bs N B : Nat} {u v x y : Value} {L M : List Span} (h : Blk2 w bs 62 u v) (hx : OwnSpans B w x L) (hy : OwnSpans B w y M) (hB : bs < B) (h4 : L.length ≤ N) (h5 : M.length ≤ N) (h6 : setMayB L M = true) : SetIn ((w.setCell ⟨bs, 0, none⟩ x).setCell ⟨bs, 1, none⟩ y) bs N := by
 obtain ⟨A, c, rfl⟩ := hx.form
 obtain ⟨A', c', rfl⟩ := hy.form
 have hsz : ((w.setCell ⟨bs, 0, none⟩ (.slice A L.length c)).setCell ⟨bs, 1, none⟩ (.slice A' M.length c')).heap.size = w.heap.size := by simp
 have hkk : ∀ {F : Nat → Prop}, (∀ k, F k → k ≠ bs) → Keeps F w ((w.setCell ⟨bs, 0, none⟩ (.slice A L.length c)).setCell ⟨bs, 1, none⟩ (.slice A' M.length c')) := fun hF k hk => by
  rw [heap_setCell_other _ _ _ _ (hF k hk), heap_setCell_other _ _ _ _ (hF k hk)]
 have hrd : ∀ {z : Value} {K : List Span}, OwnSpans B w z K → SliceRd fSpan.ty ((w.setCell ⟨bs, 0, none⟩ (.slice A L.length c)).setCell ⟨bs, 1, none⟩ (.slice A' M.length c')) (Btw bs ((w.setCell ⟨bs, 0, none⟩ (.slice A L.length c)).setCell ⟨bs, 1, none⟩ (.slice A' M.length c'))) z K := fun hz => by
  have h0 : SliceRd fSpan.ty w (Btw bs w) _ _ := rd_of_ownF (f := fSpan) hz.1 hz.2 (fun g hg => ⟨by have := (hz.1.lt g hg).1; omega, (hz.1.lt g hg).2⟩)
  refine (h0.keep (hkk fun k hk => by have := hk.1; omega)).more fun k hk => ⟨hk.1, by rw [hsz]; exact hk.2⟩
 exact ⟨A, L.length, c, A', M.length, c', L, M, h.set _ _, hrd hx, hrd hy, h4, h5, h6⟩
theorem SliceRd.below2 {w w' : World} {bs : Nat} {v : Value} {l : List Span} (h : SliceRd fSpan.ty w (Btw bs w) v l) (hb : Below w.heap.size w w') : SliceRd fSpan.ty w' (Lt w'.heap.size) v l :=
 (h.keep (Keeps.of_below hb fun _ hk => hk.2)).more fun _ hk => Nat.lt_of_lt_of_le hk.2 hb.size
theorem two_steps {w : World} {bG : Nat} {lv : Value} {xs : List Int} {i : Int} (h : GAt w bG lv xs (i + 1 + 1)) : GAt w bG lv xs (i + 2) := by
 have e : i + 2 = i + 1 + 1 := by omega
 rw [e]; exact h
def SetGPost (bG : Nat) (lv : Value) (xs : List Int) (i : Int) (w : World) (e : Ending) (w' : World) : Prop :=
 ∃ A n c A' n' c', e = .returned (.agg #[.slice A n c, .slice A' n' c']) ∧ GAt w' bG lv xs (i + 2) ∧ w.grownBy w' (some bG) ∧ ∃ s : SetD, tSet.rd w' (Btw w.heap.size w') [.slice A n c, .slice A' n' c'] s ∧ s.ok
theorem set_fin {w5 : World} {b : Nat} {x y u v : Value} {L M : List Span} (h1 : SliceRd fSpan.ty w5 (Btw b w5) x L) (h2 : SliceRd fSpan.ty w5 (Btw b w5) y M) (h3 : L.length ≤ 4000) (h4 : M.length ≤ 4000) (h6 : setMayB L M = true) :
  ∃ s : SetD, tSet.rd ((w5.setCell ⟨b, 0, none⟩ u).setCell ⟨b, 1, none⟩ v) (Btw b ((w5.setCell ⟨b, 0, none⟩ u).setCell ⟨b, 1, none⟩ v)) [x, y] s ∧ s.ok := by
 have hK : Keeps (Btw b w5) w5 ((w5.setCell ⟨b, 0, none⟩ u).setCell ⟨b, 1, none⟩ v) := fun k hk => by
  have hne : k ≠ b := by have := hk.1; omega
  rw [heap_setCell_other _ _ _ _ hne, heap_setCell_other _ _ _ _ hne]
 have hsz : ((w5.setCell ⟨b, 0, none⟩ u).setCell ⟨b, 1, none⟩ v).heap.size = w5.heap.size := by simp
 exact ⟨⟨L, M⟩, ⟨x, y, rfl, (h1.keep hK).more fun k hk => ⟨hk.1, by rw [hsz]; exact hk.2⟩, (h2.keep hK).more fun k hk => ⟨hk.1, by rw [hsz]; exact hk.2⟩⟩, h3, h4, h6⟩
theorem OwnSpans.btw {w5 : World} {b B : Nat} {x : Value} {L : List Span} (h : OwnSpans B w5 x L) (hb : b < B) : SliceRd fSpan.ty w5 (Btw b w5) x L :=
 rd_of_ownF (f := fSpan) h.1 h.2 (fun g hg => ⟨Nat.lt_of_lt_of_le hb (h.1.lt g hg).1, (h.1.lt g hg).2⟩)
set_option maxRecDepth 100000 in
set_option maxHeartbeats 2000000 in
theorem set_g (bG : Nat) (lv : Value) (xs : List Int) (i : Int) (v : Value) (n : Nat) (w : World) (hG : GAt w bG lv xs i) (hi : i + 2 < 1000000) (hc : CandsRd w (fun k => k ≠ bG ∧ k < w.heap.size) v n) :
  Calls Tryz.prog 44 #[.pointer (some ⟨bG, 0, none⟩), v] w (SetGPost bG lv xs i w) := by
 obtain ⟨A, cap, rfl, hn, hcs⟩ := hc
 have HC := hid hcs
 have hi0 := hG.bd.1
 have hGl := hG.lt
 have HG := hid hG
 clear hcs hG
 go_enter Tryz.func44, Tryz.ntmps44
 go_wp2_with fail
 obtain ⟨w0, hw0⟩ : ∃ w0 : World, w0 = w.alloc (.cells #[.slice none 0 0, .slice none 0 0] 62) := ⟨_, rfl⟩
 have HR0 : Hid (Blk2 w0 w.heap.size 62 (.slice none 0 0) (.slice none 0 0)) := hid (by rw [hw0]; exact heap_alloc_new w _)
 have HG0 : Hid (GAt w0 bG lv xs i) := hid (by rw [hw0]; exact HG.out.below (balloc (b0 w) _) hGl)
 have HB0 : Hid (w.grownBy w0 (some bG)) := hid (by rw [hw0]; exact gb_below (gb_refl w _) (balloc (b0 w) _) (Nat.le_refl _))
 have hz0 : w0.heap.size = w.heap.size + 1 := by rw [hw0]; simp
 have hlt0 : w.heap.size < w0.heap.size := by omega
 have HZ0 := hid hz0
 rw [← hw0]
 clear hw0 hz0
 refine (next_g bG lv xs i 8 _ HG0.out (by omega) ⟨by decide, by decide⟩).mono ?_
 rintro e w1 ⟨r, rfl, hr0, hr1, -, hg1, hgb1⟩
 have hr2 : r < 8 := hr1 (by omega)
 have HG1 := hid hg1
 have HGB1 := hid (gb_gb HB0.out hgb1)
 have HR1 : Hid (Blk2 w1 w.heap.size 62 (.slice none 0 0) (.slice none 0 0)) := hid ((gb_block hgb1 (by omega) hlt0).trans HR0.out)
 have hlt1 : w.heap.size < w1.heap.size := Nat.lt_of_lt_of_le hlt0 hgb1.size
 clear hg1 hgb1 hr1
 go_wp2_with (go_at_call 37; refine (none5_any _).mono ?_; rintro e w2 ⟨rfl, hb2⟩; have HB2 := hid hb2; clear hb2)
 obtain ⟨bs, hbs⟩ : ∃ bs : Nat, w2.heap.size = bs := ⟨_, rfl⟩
 have hbs1 : w1.heap.size ≤ bs := by rw [← hbs]; exact HB2.out.size
 obtain ⟨w3, hw3⟩ : ∃ w3 : World, w3 = w2.alloc (.cells #[.slice none 0 0, .slice none 0 0] 62) := ⟨_, rfl⟩
 have hb3 : Below w1.heap.size w1 w3 := by rw [hw3]; exact HB2.out.alloc HB2.out.size _
 have HS3 : Hid (SetIn w3 bs (nb 0)) := hid (by
  refine ⟨none, 0, 0, none, 0, 0, [], [], ?_, SliceRd.nil _ _ _, SliceRd.nil _ _ _, by decide, by decide, none_may⟩
  rw [hw3, ← hbs]
  exact heap_alloc_new w2 _)
 have hlt3 : bs < w3.heap.size := by rw [hw3, ← hbs]; simp
 have HG3 := hid (HG1.out.below hb3 HG1.out.lt)
 have HGB3 := hid (gb_below HGB1.out hb3 (Nat.le_of_lt hlt1))
 have HR3 : Hid (Blk2 w3 w.heap.size 62 (.slice none 0 0) (.slice none 0 0)) := hid ((hb3.block _ hlt1).trans HR1.out)
 rw [← hw3, hbs]
 have hrb : w.heap.size < bs := Nat.lt_of_lt_of_le hlt1 hbs1
 clear hw3 hb3 hbs
 go_loopw [7] (fun iv wr => ∃ k : Nat, k ≤ n ∧ iv = .int .i64 k ∧ Hid (SetIn wr bs (nb k)) ∧ Hid (Below bs w3 wr) ∧ Hid (bs < wr.heap.size)) (fun iv _ => n - (intOf iv).toNat)
 case atStart => exact ⟨0, Nat.zero_le _, rfl, HS3, hid (Below.refl _ _), hid hlt3⟩
 case round =>
  obtain ⟨k, hk, rfl, hset, hb, hlb⟩ := hrel
  have hlr := hlb.out
  have HGR := hid (HG3.out.below hb.out (by omega))
  have HGBR := hid (gb_below HGB3.out hb.out (Nat.le_of_lt hrb))
  have HRR : Hid (Blk2 wr w.heap.size 62 (.slice none 0 0) (.slice none 0 0)) := hid ((hb.out.block _ hrb).trans HR3.out)
  by_cases hlt : k < n
  ·obtain ⟨g, hA, hF, u, hu, hat⟩ := HC.out k hlt
   cases hA
   have HU := hid hu
   have hgr : g < wr.heap.size := by omega
   have HAT := hid (show VerAt wr g (k * 8) u from hat.keep (gb_block HGBR.out hF.1 hF.2))
   obtain ⟨c0, c1, c2, c3, c4⟩ := HAT.out
   obtain ⟨S1, m1, d1, S2, m2, d2, L, M, hblk, hrd1, hrd2, hL, hM, hmy⟩ := hset.out
   have HMY := hid hmy
   clear hmy
   have HRD1 := hid hrd1
   have HRD2 := hid hrd2
   have hnb := nb_le (k := k) (by omega)
   have HBX := hid hblk
   obtain ⟨⟨x0, x1⟩, xf⟩ := hblk.box
   clear hblk hrd1 hrd2 hat hu
   have i1 : (0 : Int) ≤ ↑k := by omega
   have i2 : (↑k : Int) < ↑n := by omega
   go_wp2
   ·first
     | go_must (go_region_with
       ((first
        | (go_at_call 16; go_must (refine (exact_any _ _ _ _ _ _ HU.out).mono ?_; rintro e wa ⟨va, va', La, Ma, rfl, hoa, hoa', hla, hla', -, hba⟩; replace hba : Below wr.heap.size wr wa := (b0 wr).drew.trans hba; obtain ⟨Aa, ca, rfl⟩ := hoa.form; obtain ⟨Aa', ca', rfl⟩ := hoa'.form; have HOA := hid hoa; have HOA' := hid hoa'; have HBA := hid hba; have HBXA := hid ((hba.block _ hlr).trans HBX.out); obtain ⟨⟨y0, y1⟩, yf⟩ := Blk2.box HBXA.out; obtain ⟨f0, f1, f2, f3, f4⟩ := HAT.out.keep (hba.block _ hgr); clear hoa hoa' hba))
        | (go_at_call 76; go_must (refine (or5_any _ _ _ _ L M La Ma (nb k + 1) _ (HRD1.out.below2 HBA.out) (HRD2.out.below2 HBA.out) HOA.out.rd HOA'.out.rd (by omega) (by omega) (by omega) (by omega) (by omega)).mono ?_; rintro e wb ⟨vb, vb', Lb, Mb, rfl, hob, hob', hlb', hlb'', hmb, hbb⟩; have HMB := hid hmb; clear hmb; obtain ⟨Ab, cb, rfl⟩ := hob.form; obtain ⟨Ab', cb', rfl⟩ := hob'.form; have HOB := hid hob; have HOB' := hid hob'; have HBB := hid (bstep HBA.out hbb); have HBXB : Hid (Blk2 wb bs 62 (.slice S1 m1 d1) (.slice S2 m2 d2)) := hid ((HBB.out.block _ hlr).trans HBX.out); obtain ⟨⟨z0, z1⟩, zf⟩ := Blk2.box HBXB.out; obtain ⟨e0, e1, e2, e3, e4⟩ := HAT.out.keep (HBB.out.block _ hgr); clear hob hob' hbb)))))
     | fail
    all_goals go_wp2
    all_goals have hab : bs < wa.heap.size := Nat.lt_of_lt_of_le hlr HBA.out.size
    all_goals
     refine ⟨⟨k + 1, by omega, by go_num, hid (SetIn.put HBXB.out HOB.out HOB'.out hab hlb' hlb'' HMB.out), hid ?_, hid ?_⟩, by simp [intOf]; omega⟩
     ·exact (((hb.out.trans (HBB.out.mono (Nat.le_of_lt hlr))).setCell (p := ⟨bs, 0, none⟩) (Nat.le_refl _) _).setCell (p := ⟨bs, 1, none⟩) (Nat.le_refl _) _)
     ·have := HBB.out.size
      simp
      omega
   ·exact ⟨⟨k + 1, by omega, by go_num, hid (hset.out.mono (show nb k ≤ 2 + 4 * (nb k + 1) by omega)), hb, hlb⟩, by simp [intOf]; omega⟩
  ·have hk5 := nb_le (k := k) (by omega)
   go_wp2_with (first
    | (go_at_call 17; go_must (refine (next_g bG lv xs (i + 1) 6 _ HGR.out (by omega) ⟨by decide, by decide⟩).mono ?_; rintro e w4 ⟨r2, rfl, hr20, -, -, hg4, hgb4⟩; have HG4 : Hid (GAt w4 bG lv xs (i + 2)) := hid (two_steps hg4); have HGB4 := hid (gb_gb HGBR.out hgb4); have HR4 : Hid (Blk2 w4 w.heap.size 62 (.slice none 0 0) (.slice none 0 0)) := hid ((gb_block hgb4 (by omega) (by omega)).trans HRR.out); have HS4 := hid (hset.out.keep (fun j hj hj' => gb_block hgb4 (by omega) hj') hgb4.size hlr); have hl4 := Nat.lt_of_lt_of_le hlr hgb4.size; obtain ⟨⟨x0, x1⟩, xf⟩ := Blk2.box HR4.out; obtain ⟨S1, m1, d1, S2, m2, d2, L, M, hblk, hrd1, hrd2, hL, hM, hmy⟩ := HS4.out; have HMY := hid hmy; clear hmy; obtain ⟨⟨y0, y1⟩, yf⟩ := hblk.box; have HRD1 := hid hrd1; have HRD2 := hid hrd2; clear hg4 hgb4 hblk hrd1 hrd2))
    | (go_at_call 68; go_must (refine (all5_any _).mono ?_; rintro e w5 ⟨v5, v5', L5, M5, rfl, ho5, ho5', hl5, hl5', hm5, hb5⟩; have HM5 := hid hm5; clear hm5; obtain ⟨A5, c5, rfl⟩ := ho5.form; obtain ⟨A5', c5', rfl⟩ := ho5'.form; have HO5 := hid ho5; have HO5' := hid ho5'; have HB5 := hid hb5; obtain ⟨⟨z0, z1⟩, zf⟩ := Blk2.box ((hb5.block _ (by omega)).trans HR4.out); clear hb5))
    | (go_at_call 77; go_must (refine (not5_any _ _ L M 510 _ (HRD1.out.more fun j hj => hj.2) (HRD2.out.more fun j hj => hj.2) (by omega) (by omega) (by omega)).mono ?_; rintro e w5 ⟨v5, v5', L5, M5, rfl, ho5, ho5', hl5, hl5', hm5, hb5⟩; have HM5 := hid hm5; clear hm5; obtain ⟨A5, c5, rfl⟩ := ho5.form; obtain ⟨A5', c5', rfl⟩ := ho5'.form; have HO5 := hid ho5; have HO5' := hid ho5'; have HB5 := hid hb5; obtain ⟨⟨z0, z1⟩, zf⟩ := Blk2.box ((hb5.block _ (by omega)).trans HR4.out); clear hb5)))
   ·have hfin := ((Below.mono (B := w4.heap.size) (B' := w.heap.size) HB5.out (by omega)).setCell (p := ⟨w.heap.size, 0, none⟩) (Nat.le_refl _) (.slice A5 L5.length c5)).setCell (p := ⟨w.heap.size, 1, none⟩) (Nat.le_refl _) (.slice A5' M5.length c5')
    exact bodyPost_ret (v := .agg #[.slice A5 L5.length c5, .slice A5' M5.length c5']) (by simp [results, Tryz.results44, go_sem, z0, z1]) rfl ⟨A5, L5.length, c5, A5', M5.length, c5', rfl, HG4.out.below hfin hGl, gb_below HGB4.out hfin (Nat.le_refl _), set_fin (HO5.out.btw (by omega)) (HO5'.out.btw (by omega)) (by omega) (by omega) HM5.out⟩
   ·have hfin := ((Below.mono (B := w4.heap.size) (B' := w.heap.size) HB5.out (by omega)).setCell (p := ⟨w.heap.size, 0, none⟩) (Nat.le_refl _) (.slice A5 L5.length c5)).setCell (p := ⟨w.heap.size, 1, none⟩) (Nat.le_refl _) (.slice A5' M5.length c5')
    exact bodyPost_ret (v := .agg #[.slice A5 L5.length c5, .slice A5' M5.length c5']) (by simp [results, Tryz.results44, go_sem, z0, z1]) rfl ⟨A5, L5.length, c5, A5', M5.length, c5', rfl, HG4.out.below hfin hGl, gb_below HGB4.out hfin (Nat.le_refl _), set_fin (HO5.out.btw (by omega)) (HO5'.out.btw (by omega)) (by omega) (by omega) HM5.out⟩
   ·have hfin := ((Below.mono (B := w4.heap.size) (B' := w.heap.size) (b0 w4) (by omega)).setCell (p := ⟨w.heap.size, 0, none⟩) (Nat.le_refl _) (.slice S1 m1 d1)).setCell (p := ⟨w.heap.size, 1, none⟩) (Nat.le_refl _) (.slice S2 m2 d2)
    exact bodyPost_ret (v := .agg #[.slice S1 m1 d1, .slice S2 m2 d2]) (by simp [results, Tryz.results44, go_sem, x0, x1]) rfl ⟨S1, m1, d1, S2, m2, d2, rfl, HG4.out.below hfin hGl, gb_below HGB4.out hfin (Nat.le_refl _), set_fin (HRD1.out.more fun k hk => ⟨by have := hk.1; omega, hk.2⟩) (HRD2.out.more fun k hk => ⟨by have := hk.1; omega, hk.2⟩) (by omega) (by omega) HMY.out⟩
end
section
def UnitsRd (w : World) (F : Nat → Prop) (v : Value) (m : Nat) : Prop := ∃ A cap, v = .slice A m cap ∧ 2 ≤ m ∧ m ≤ 20 ∧ ∀ k, k < m → ∃ g, A = some ⟨g, 0, none⟩ ∧ F g ∧ ∃ C n c, w.cell? ⟨g, k * 3 + 2, none⟩ = some (.slice C n c) ∧ CandsRd w F (.slice C n c) n
theorem UnitsRd.keep {w w' : World} {F : Nat → Prop} {v : Value} {m : Nat} (hk : ∀ k, F k → w'.heap[k]? = w.heap[k]?) (h : UnitsRd w F v m) : UnitsRd w' F v m := by
  obtain ⟨A, cap, hv, h1, h2, hc⟩ := h
  refine ⟨A, cap, hv, h1, h2, fun k hk' => ?_⟩
  obtain ⟨g, hA, hF, C, n, c, hcell, hcd⟩ := hc k hk'
  exact ⟨g, hA, hF, C, n, c, (World.cell?_of_block (hk g hF)).trans hcell, hcd.keep hk⟩
theorem UnitsRd.more {w : World} {F F' : Nat → Prop} {v : Value} {m : Nat} (hF : ∀ k, F k → F' k) (h : UnitsRd w F v m) : UnitsRd w F' v m := by
  obtain ⟨A, cap, hv, h1, h2, hc⟩ := h
  refine ⟨A, cap, hv, h1, h2, fun k hk' => ?_⟩
  obtain ⟨g, hA, hFF, C, n, c, hcell, hcd⟩ := hc k hk'
  exact ⟨g, hA, hF _ hFF, C, n, c, hcell, hcd.more hF⟩
def Not1 (bG : Nat) (w : World) : Nat → Prop := fun k => k ≠ bG ∧ k < w.heap.size
theorem UnitsRd.gb {w w' : World} {bG : Nat} {v : Value} {m : Nat} (h : UnitsRd w (Not1 bG w) v m) (hg : w.grownBy w' (some bG)) : UnitsRd w' (Not1 bG w') v m :=
  (h.keep fun _ hk => gb_block hg hk.1 hk.2).more fun _ hk => ⟨hk.1, Nat.lt_of_lt_of_le hk.2 hg.size⟩
def WantPost (m bG : Nat) (lv : Value) (xs : List Int) (i : Int) (w : World) (e : Ending) (w' : World) : Prop :=
  ∃ (u : Int) (A : Option Addr) (n c : Nat) (A' : Option Addr) (n' c' : Nat), e = .returned (.agg #[.int .i64 u, .slice A n c, .slice A' n' c']) ∧ GAt w' bG lv xs (i + 3) ∧ w.grownBy w' (some bG) ∧ ∃ x : WantD, tWant.rd w' (Btw w.heap.size w') [.int .i64 u, .slice A n c, .slice A' n' c'] x ∧ x.ok m ∧ 1 ≤ x.u
theorem want_fin {w2 : World} {b B : Nat} {u : Int} {x y p q r : Value} {s : SetD} (h : tSet.rd w2 (Btw B w2) [x, y] s) (hB : b ≤ B) (hu : I64 u) :
    tWant.rd (((w2.setCell ⟨b, 0, none⟩ p).setCell ⟨b, 1, none⟩ q).setCell ⟨b, 2, none⟩ r) (Btw b (((w2.setCell ⟨b, 0, none⟩ p).setCell ⟨b, 1, none⟩ q).setCell ⟨b, 2, none⟩ r)) [.int .i64 u, x, y] ⟨u, s⟩ := by
  have hsz : (((w2.setCell ⟨b, 0, none⟩ p).setCell ⟨b, 1, none⟩ q).setCell ⟨b, 2, none⟩ r).heap.size = w2.heap.size := by simp
  refine ⟨x, y, rfl, hu, tSet.more (fun k hk => ⟨by have := hk.1; omega, by rw [hsz]; exact hk.2⟩) (tSet.keep (fun k hk => ?_) h)⟩
  have hne : k ≠ b := by have := hk.1; omega
  rw [heap_setCell_other _ _ _ _ hne, heap_setCell_other _ _ _ _ hne, heap_setCell_other _ _ _ _ hne]
theorem three_steps {w : World} {bG : Nat} {lv : Value} {xs : List Int} {i : Int} (h : GAt w bG lv xs (i + 1 + 2)) : GAt w bG lv xs (i + 3) := by
  have e : i + 3 = i + 1 + 2 := by omega
  rw [e]; exact h
theorem blk3_cells {w : World} {g : Nat} {T : TypeId} {x y z : Value} (h : w.heap[g]? = some (.cells #[x, y, z] T (0, 0))) : w.cell? ⟨g, 0, none⟩ = some x ∧ w.cell? ⟨g, 1, none⟩ = some y ∧ w.cell? ⟨g, 2, none⟩ = some z ∧ ∀ o, w.frozen? ⟨g, o, none⟩ = false := by
  refine ⟨?_, ?_, ?_, fun o => frozen_of_row w g o _ T h⟩ <;> (rw [cell_of_row _ _ _ _ T (0, 0) h]; rfl)
set_option maxRecDepth 100000 in
set_option maxHeartbeats 2000000 in
theorem want_g (bG : Nat) (lv : Value) (xs : List Int) (i : Int) (v : Value) (m : Nat) (w : World) (hG : GAt w bG lv xs i) (hi : i + 3 < 1000000) (hu : UnitsRd w (Not1 bG w) v m) :
    Calls Tryz.prog 18 #[.pointer (some ⟨bG, 0, none⟩), v] w (WantPost m bG lv xs i w) := by
  obtain ⟨A, cap, rfl, hm1, hm2, hcs⟩ := hu
  have HU := hid hcs
  have hi0 := hG.bd.1
  have hGl := hG.lt
  have HG := hid hG
  clear hcs hG
  go_enter Tryz.func18, Tryz.ntmps18
  go_wp2_with fail
  obtain ⟨w0, hw0⟩ : ∃ w0 : World, w0 = w.alloc (.cells #[.int .i64 0, .slice none 0 0, .slice none 0 0] 65) := ⟨_, rfl⟩
  have HR0 : Hid (w0.heap[w.heap.size]? = some (.cells #[.int .i64 0, .slice none 0 0, .slice none 0 0] 65 (0, 0))) := hid (by rw [hw0]; exact heap_alloc_new w _)
  have hbw : Below w.heap.size w w0 := by rw [hw0]; exact balloc (b0 w) _
  have HG0 : Hid (GAt w0 bG lv xs i) := hid (HG.out.below hbw hGl)
  have HB0 : Hid (w.grownBy w0 (some bG)) := hid (gb_below (gb_refl w _) hbw (Nat.le_refl _))
  have hlt0 : w.heap.size < w0.heap.size := by rw [hw0]; simp
  rw [← hw0]
  clear hw0 hbw
  refine (next_g bG lv xs i _ _ HG0.out (by omega) ⟨by omega, by omega⟩).mono ?_
  rintro e w1 ⟨r, rfl, hr0, hr1, -, hg1, hgb1⟩
  have hr2 : r < (m : Int) - 1 := hr1 (by omega)
  have HG1 := hid hg1
  have HGB1 := hid (gb_gb HB0.out hgb1)
  have HR1 := hid ((gb_block hgb1 (by omega) hlt0).trans HR0.out)
  have hlt1 : w.heap.size < w1.heap.size := Nat.lt_of_lt_of_le hlt0 hgb1.size
  clear hg1 hgb1 hr1
  obtain ⟨p, rfl⟩ := Int.eq_ofNat_of_zero_le hr0
  obtain ⟨g, hA, hF, C, n, c, hcell, hcd⟩ := HU.out (p + 1) (by omega)
  cases hA
  have hcell1 : w1.cell? ⟨g, (p + 1) * 3 + 2, none⟩ = some (.slice C n c) := gb_cell HGB1.out hF.1 hcell
  have HCD : Hid (CandsRd w1 (fun k => k ≠ bG ∧ k < w1.heap.size) (.slice C n c) n) := hid ((hcd.keep fun k hk => gb_block HGB1.out hk.1 hk.2).more fun k hk => ⟨hk.1, Nat.lt_of_lt_of_le hk.2 HGB1.out.size⟩)
  clear hcell hcd
  have j1 : (1 : Int) + ↑p = ↑(p + 1) := by omega
  have j2 : (0 : Int) ≤ ↑(p + 1) := by omega
  have j3 : ((p + 1 : Nat) : Int) < ↑m := by omega
  go_wp2_with (first
    | (go_at_call 44; go_must (refine (set_g bG lv xs (i + 1) _ n _ HG1.out (by omega) HCD.out).mono ?_; rintro e w2 ⟨A2, n2, c2, A3, n3, c3, rfl, hg2, hgb2, sd, hsd, hsok⟩; have HSD := hid hsd; clear hsd; have HG2 := hid (three_steps hg2); have HGB2 := hid (gb_gb HGB1.out hgb2); have HR2 := hid ((gb_block hgb2 (by omega) hlt1).trans HR1.out); obtain ⟨x0, x1, x2, xf⟩ := blk3_cells HR2.out; clear hg2 hgb2)))
  have hfin := (((b0 w2).mono (B' := w.heap.size) HGB2.out.size).setCell (p := ⟨w.heap.size, 0, none⟩) (Nat.le_refl _) (.int .i64 (↑p + 1))).setCell (p := ⟨w.heap.size, 1, none⟩) (Nat.le_refl _) (.slice A2 n2 c2)
  have hfin2 := hfin.setCell (p := ⟨w.heap.size, 2, none⟩) (Nat.le_refl _) (.slice A3 n3 c3)
  exact bodyPost_ret (v := .agg #[.int .i64 (↑p + 1), .slice A2 n2 c2, .slice A3 n3 c3]) (by simp [results, Tryz.results18, go_sem, x0, x1, x2]) rfl ⟨↑p + 1, A2, n2, c2, A3, n3, c3, rfl, HG2.out.below hfin2 hGl, gb_below HGB2.out hfin2 (Nat.le_refl _), ⟨↑p + 1, sd⟩, want_fin HSD.out (Nat.le_of_lt hlt1) ⟨by omega, by omega⟩, ⟨by show (0 : Int) ≤ ↑p + 1; omega, by show ↑p + 1 < (m : Int); omega, hsok⟩, by show (1 : Int) ≤ ↑p + 1; omega⟩
theorem want_info : (Tryz.prog.info? 65).map (fun i => (i.zero, i.size, i.bytes)) = some (some (.agg #[.int .i64 0, .slice none 0 0, .slice none 0 0]), 3, 56) := by kernel_rfl
theorem wants_info : (Tryz.prog.info? 53).map (fun i => (i.zero, i.size, i.bytes)) = some (some (.slice none 0 0), 1, 24) := by kernel_rfl
def Sm (a b : Nat) (w w' : World) : Prop := (∀ k, a ≤ k → k < b → w'.heap[k]? = w.heap[k]?) ∧ w.heap.size ≤ w'.heap.size ∧ b ≤ w.heap.size
section
variable {a b bG : Nat} {w w1 w2 : World}
theorem Sm.refl (a : Nat) (w : World) : Sm a w.heap.size w w := ⟨fun _ _ _ => rfl, Nat.le_refl _, Nat.le_refl _⟩
theorem Sm.gb (h : Sm a b w w1) (hg : w1.grownBy w2 (some bG)) (hB : bG < a) : Sm a b w w2 :=
  ⟨fun k h1 h2 => (gb_block hg (by omega) (by have := h.2.1; have := h.2.2; omega)).trans (h.1 k h1 h2), Nat.le_trans h.2.1 hg.size, h.2.2⟩
theorem Sm.alloc (h : Sm a b w w1) (o : Obj) : Sm a b w (w1.alloc o) :=
  ⟨fun k h1 h2 => (Below.heap_alloc _ _ _ (by have := h.2.1; have := h.2.2; omega)).trans (h.1 k h1 h2), by have := h.2.1; simp; omega, h.2.2⟩
theorem Sm.app {ob : Option Nat} (h : Sm a b w w1) (hg : w1.grownBy w2 ob) (hB : ∀ g, ob = some g → b ≤ g) : Sm a b w w2 :=
  ⟨fun k h1 h2 => (hg.block k (by have := h.2.1; have := h.2.2; omega) (fun e => by have := hB k e.symm; omega)).trans (h.1 k h1 h2), Nat.le_trans h.2.1 hg.size, h.2.2⟩
theorem Sm.own {α : Type} {t : Ty α} {e : TypeId} {v : Value} {l : List α} {xs : List Value} (h : Sm a w.heap.size w w1) (ho : OwnT t e w a v l xs) : OwnT t e w1 a v l xs := ho.keepB h.1 h.2.1
theorem OwnT.gb {α : Type} {t : Ty α} {e : TypeId} {v : Value} {l : List α} {xs : List Value} (ho : OwnT t e w a v l xs) (hg : w.grownBy w1 (some bG)) (hB : bG < a) : OwnT t e w1 a v l xs :=
  ho.keepB (fun _ h1 h2 => gb_block hg (by omega) h2) hg.size
end
theorem row_two {w4 w6 : World} {B g b3 : Nat} {T : TypeId} {v6 : Value} {x1 x2 : WantD} {cs1 cs2 : List Value} {o : Obj} (h : OwnT tWant T w4 B (.slice (some ⟨g, 0, none⟩) 1 1) [x1] cs1) (hx : tWant.rd w4 (Btw b3 w4) cs2 x2) (hg : g < b3) (hB : B ≤ b3) (hl : cs2.length = 3)
    (ho : w6.ownsRow B T 3 v6 2 (cs1 ++ cs2)) (hgr : (w4.alloc o).grownBy w6 (Value.slice (some ⟨g, 0, none⟩) 1 1).ownBlock) (hn : v6.ownBlock = (Value.slice (some ⟨g, 0, none⟩) 1 1).ownBlock ∨ v6.ownBlock = some (w4.alloc o).heap.size) :
    OwnT tWant T w6 B v6 [x1, x2] (cs1 ++ cs2) :=
  (h.later (balloc (b0 w4) o)).snoc hl (tWant.more (fun b hb => ⟨by have := hb.1; omega, by have := hb.2; simp; omega, fun e => by have e2 : g = b := Option.some.inj e; have := hb.1; omega⟩) (tWant.keep (fun b hb => Below.heap_alloc _ _ _ hb.2) hx)) ho hgr hn
theorem rows_more {w0 wr w6 w7 : World} {B : Nat} {T T' : TypeId} {ov v6 v7 : Value} {ns : List (List WantD)} {r : List WantD} {cs cr : List Value} {o : Obj} (h : OwnT (tSlice tWant) T wr B ov ns cs) (hs : Sm B wr.heap.size wr w6) (hr : OwnT tWant T' w6 wr.heap.size v6 r cr) (hB : B ≤ wr.heap.size)
    (ho : w7.ownsRow B T 1 v7 (ns.length + 1) (cs ++ [v6])) (hg : (w6.alloc o).grownBy w7 ov.ownBlock) (hn : v7.ownBlock = ov.ownBlock ∨ v7.ownBlock = some (w6.alloc o).heap.size) (_ : w0 = w0) :
    OwnT (tSlice tWant) T w7 B v7 (ns ++ [r]) (cs ++ [v6]) :=
  ((hs.own h).later (balloc (b0 w6) o)).snoc rfl ⟨v6, rfl, (hr.rdF.keep (fun b hb => Below.heap_alloc _ _ _ hb.2)).more fun b hb => ⟨Nat.le_trans hB hb.1, by have := hb.2; simp; omega, fun e => by have := (h.own.lt b e).2; have := hb.1; omega⟩⟩ ho hg hn
def RowOk (m : Nat) (r : List WantD) : Prop := r.length ≤ 2 ∧ ∀ x ∈ r, x.ok m
def RowT (m : Nat) (r : List WantD) : Prop := RowOk m r ∧ 1 ≤ r.length ∧ ∀ x ∈ r, 1 ≤ x.u
theorem RowOk.snoc {m : Nat} {ns : List (List WantD)} {r : List WantD} (h : ∀ r ∈ ns, RowT m r) (hr : RowT m r) : ∀ r' ∈ ns ++ [r], RowT m r' := by
  intro r' h'
  rcases List.mem_append.1 h' with h1 | h1
  · exact h r' h1
  · have : r' = r := by simpa using h1
    subst this
    exact hr
def NeedsPost (m bG : Nat) (lv : Value) (xs : List Int) (i most : Int) (w : World) (e : Ending) (w' : World) : Prop :=
  ∃ (A : Option Addr) (c : Nat) (ns : List (List WantD)) (cs : List Value) (i' : Int), e = .returned (.slice A ns.length c) ∧ OwnT (tSlice tWant) 53 w' w.heap.size (.slice A ns.length c) ns cs ∧ (ns.length : Int) ≤ most ∧ (∀ u ∈ cs, u.oneCell' = true) ∧ (∀ r ∈ ns, RowT m r) ∧ GAt w' bG lv xs i' ∧ i ≤ i' ∧ i' ≤ i + 1 + 7 * most ∧ w.grownBy w' (some bG)
theorem gb_own {w w1 : World} {bG B : Nat} {e : TypeId} {s n : Nat} {v : Value} {xs : List Value} (h : w.ownsRow B e s v n xs) (hg : w.grownBy w1 (some bG)) (hB : bG < B) : w1.ownsRow B e s v n xs :=
  ownsRow_keep h fun g hgg => gb_block hg (by have := (h.lt g hgg).1; omega) (h.lt g hgg).2
theorem GAt.append {w0 w w1 : World} {bG : Nat} {lv : Value} {xs : List Int} {i : Int} {e : TypeId} {s n : Nat} {v : Value} {ys : List Value} (h : GAt w bG lv xs i) (hb : bG < w0.heap.size) (hs : w0.heap.size ≤ w.heap.size) (ho : w.ownsRow w0.heap.size e s v n ys) (o : Obj) (hg : (w.alloc o).grownBy w1 v.ownBlock) : GAt w1 bG lv xs i :=
  h.below (Below.grown ((Below.refl w0.heap.size w).alloc hs o) hg (by simp; omega) (fun k hk => (ho.lt k hk).1)) hb
theorem app_below {w w1 : World} {B B' : Nat} {e : TypeId} {s n : Nat} {v : Value} {ys : List Value} (hs : B ≤ w.heap.size) (ho : w.ownsRow B' e s v n ys) (hB : B ≤ B') (o : Obj) (hg : (w.alloc o).grownBy w1 v.ownBlock) : Below B w w1 :=
  Below.grown ((Below.refl B w).alloc hs o) hg (by simp; omega) (fun k hk => Nat.le_trans hB (ho.lt k hk).1)
set_option maxRecDepth 100000 in
set_option maxHeartbeats 2000000 in
theorem needs_g (bG : Nat) (lv : Value) (xs : List Int) (i most : Int) (v : Value) (m : Nat) (w : World) (hG : GAt w bG lv xs i) (hi : i + 100 < 1000000) (hm : 0 ≤ most) (hm3 : most ≤ 5) (hu : UnitsRd w (Not1 bG w) v m) :
    Calls Tryz.prog 15 #[.pointer (some ⟨bG, 0, none⟩), v, .int .i64 most] w (NeedsPost m bG lv xs i most w) := by
  have HU := hid hu
  obtain ⟨A, cap, rfl, -, -, -⟩ := hu
  obtain ⟨iw, hiw⟩ := info_parts want_info
  have HIW := hid hiw
  obtain ⟨iv, hiv⟩ := info_parts wants_info
  have HIV := hid hiv
  have hi0 := hG.bd.1
  have hGl := hG.lt
  have HG := hid hG
  clear hG hiw hiv
  go_enter Tryz.func15, Tryz.ntmps15
  go_wp2_with (go_at_call 17; go_must (refine (next_g bG lv xs i _ _ HG.out (by omega) ⟨by omega, by omega⟩).mono ?_; rintro e w1 ⟨r, rfl, hr0, hr1, -, hg1, hgb1⟩; have hr2 : r < most + 1 := hr1 (by omega); have HG1 := hid hg1; have HGB1 := hid hgb1; clear hg1 hgb1 hr1))
  go_loopw [7, 8] (fun ov kv wr => ∃ (k i' : Int) (ns : List (List WantD)) (cs : List Value), 0 ≤ k ∧ kv = .int .i64 k ∧ (ns.length : Int) = r - k ∧ i + 1 ≤ i' ∧ i' ≤ i + 1 + 7 * (r - k) ∧ Hid (OwnT (tSlice tWant) 53 wr w.heap.size ov ns cs ∧ (∀ u ∈ cs, u.oneCell' = true) ∧ ∀ r ∈ ns, RowT m r) ∧ Hid (GAt wr bG lv xs i') ∧ Hid (w.grownBy wr (some bG))) (fun _ kv _ => (intOf kv).toNat)
  case atStart => exact ⟨r, i + 1, [], [], hr0, rfl, by simp, by omega, by omega, hid ⟨OwnT.nil _ _ _ _, fun u hu => by (cases hu), fun u hu => by (cases hu)⟩, HG1, HGB1⟩
  case round =>
    obtain ⟨k, i', ns, cs, hk, rfl, hn, hi1, hi2, hown, hg, hgb⟩ := hrel
    obtain ⟨Ao, co, rfl⟩ := own_form hown.out.1.own
    have hsw := hgb.out.size
    have hGr : bG < wr.heap.size := Nat.lt_of_lt_of_le hGl hsw
    by_cases hlt : 0 < k
    · have tok := hid True.intro
      have tok2 := hid True.intro
      have tok3 := hid True.intro
      have HURR := hid ((show UnitsRd w (Not1 bG w) _ m from HU.out).gb hgb.out)
      go_wp2_with (first
        | (go_at_call 18; clear tok; go_must (refine (want_g bG lv xs i' _ m _ hg.out (by omega) HURR.out).mono ?_; rintro e w2 ⟨u, A2, n2, c2, A3, n3, c3, rfl, hg2, hgb2, x1, hx1, hok1⟩; have HGB2 := hid (gb_gb hgb.out hgb2); have HX1 := hid hx1; have hr2 : wr.heap.size ≤ w2.heap.size := hgb2.size; have HS2 := hid ((Sm.refl w.heap.size wr).gb hgb2 hGl); have HG2 := hid hg2; have hs2 := HGB2.out.size; clear hg2 hgb2 hx1))
        | (go_at_call 17; go_must (refine (next_g bG lv xs (i' + 3) 3 _ (HG2.out.below (balloc (b0 w2) _) HG2.out.lt) (by omega) ⟨by decide, by decide⟩).mono ?_; rintro e w3 ⟨r3, rfl, -, -, -, hg3, hgb3⟩; have HGB3 := hid (gb_gb (gb_below HGB2.out (balloc (b0 w2) _) HGB2.out.size) hgb3); have HS3 := hid ((HS2.out.alloc _).gb hgb3 hGl); have HT3 := hid ((OwnT.one (e := 65) (ca := #[.int .i64 u, .slice A2 n2 c2, .slice A3 n3 c3]) (tWant.more (fun _ hb => ⟨Nat.le_of_lt hb.1, hb.2⟩) HX1.out) hr2 rfl).gb hgb3 hGr); have HG3 := hid hg3; have hs3 := HGB3.out.size; have hr3 : w2.heap.size < w3.heap.size := Nat.lt_of_lt_of_le (by simp) hgb3.size; clear hg3 hgb3))
        | (go_at_call 18; clear tok2; go_must (refine (want_g bG lv xs (i' + 3 + 1) _ m _ HG3.out (by omega) ((show UnitsRd w (Not1 bG w) _ m from HU.out).gb HGB3.out)).mono ?_; rintro e w4 ⟨u4, A4, n4, c4, A5, n5, c5, rfl, hg4, hgb4, x2, hx2, hok2⟩; have HGB4 := hid (gb_gb HGB3.out hgb4); have HX2 := hid hx2; have HS4 := hid (HS3.out.gb hgb4 hGl); have HT4 := hid (HT3.out.gb hgb4 hGr); have HG4 := hid hg4; have hs4 := HGB4.out.size; have hr4 : w3.heap.size ≤ w4.heap.size := hgb4.size; clear hg4 hgb4 hx2))
        | (at_builtin
           clear tok3
           (refine wpList_append_src _ rfl (.tmp 25) (.tmp 29) _ rfl wr.heap.size 65 iw _ 3 56 Tryz.underlying53 HIW.out.1 HIW.out.2.1 HIW.out.2.2.1 HIW.out.2.2.2 rfl (by omega) (.slice (some ⟨w2.heap.size, 0, none⟩) 1 1) 1 [.int .i64 u, .slice A2 n2 c2, .slice A3 n3 c3] (by rfl) (by exact HT4.out.own.alloc _) (some ⟨w4.heap.size, 0, none⟩) 1 1 [.int .i64 u4, .slice A4 n4 c4, .slice A5 n5 c5] (by rfl) (by exact src_new _ _ rfl 3 _ rfl rfl) (by simp [Value.oneCell']) (by unfold maxLen; omega) (by omega) (by simp; omega) ?_)
           intro v6 w6 hown6 hg6 hat6
           obtain ⟨A6, c6, rfl⟩ := own_form hown6
           have HBL6 := hid (app_below hs4 HT4.out.own hsw _ hg6)
           have HT6 := hid (row_two HT4.out HX2.out hr3 (by omega) rfl hown6 hg6 hat6)
           have HS6 := hid ((HS4.out.alloc _).app hg6 (fun g e => by have e2 : w2.heap.size = g := Option.some.inj e; omega))
           have HG6 := hid (HG4.out.below HBL6.out hGl)
           have HGB6 := hid (gb_below HGB4.out HBL6.out (Nat.le_refl _))
           have hs6 := HGB6.out.size
           clear hown6 hg6 hat6)
        | (at_builtin
           go_must (first
             | (refine wpList_append_src _ rfl (.tmp 31) (.tmp 33) _ rfl w.heap.size 53 iv _ 1 24 Tryz.underlying49 HIV.out.1 HIV.out.2.1 HIV.out.2.2.1 HIV.out.2.2.2 rfl (by omega) (.slice Ao ns.length co) ns.length cs (by rfl) (by exact (HS6.out.own hown.out.1).own.alloc _) (some ⟨w6.heap.size, 0, none⟩) 1 1 [.slice A6 2 c6] (by rfl) (by exact src_new _ _ rfl 1 _ rfl rfl) (by simp [Value.oneCell']) (by unfold maxLen; omega) (by omega) (by simp; omega) ?_)
             | (refine wpList_append_src _ rfl (.tmp 31) (.tmp 33) _ rfl w.heap.size 53 iv _ 1 24 Tryz.underlying49 HIV.out.1 HIV.out.2.1 HIV.out.2.2.1 HIV.out.2.2.2 rfl (by omega) (.slice Ao ns.length co) ns.length cs (by rfl) (by exact (HS3.out.own hown.out.1).own.alloc _) (some ⟨w3.heap.size, 0, none⟩) 1 1 [.slice (some ⟨w2.heap.size, 0, none⟩) 1 1] (by rfl) (by exact src_new _ _ rfl 1 _ rfl rfl) (by simp [Value.oneCell']) (by unfold maxLen; omega) (by omega) (by simp; omega) ?_))
           intro v7 w7 hown7 hg7 hat7
           first
             | have HO7 := hid (rows_more (w0 := w) hown.out.1 HS6.out HT6.out hsw hown7 hg7 hat7 rfl)
             | have HO7 := hid (rows_more (w0 := w) hown.out.1 HS3.out HT3.out hsw hown7 hg7 hat7 rfl)
           have HBL7 := hid (show Below w.heap.size _ w7 from app_below (by first | exact hs6 | exact hs3) (by first | exact (HS6.out.own hown.out.1).own | exact (HS3.out.own hown.out.1).own) (Nat.le_refl _) _ hg7)
           clear hown7 hg7 hat7))
      · refine ⟨⟨k - 1, i' + 3 + 1 + 3, ns ++ [[x1, x2]], cs ++ [.slice A6 2 c6], by omega, by go_num, by simp; omega, by omega, by omega, hid ⟨HO7.out, ?_, RowOk.snoc hown.out.2.2 ⟨⟨Nat.le_refl _, ?_⟩, by show 1 ≤ 2; omega, ?_⟩⟩, hid (HG6.out.below HBL7.out hGl), hid (gb_below HGB6.out HBL7.out (Nat.le_refl _))⟩, by simp [intOf]; omega⟩
        · intro x hx
          rcases List.mem_append.1 hx with hx | hx
          · exact hown.out.2.1 x hx
          · have : x = .slice A6 2 c6 := by simpa using hx
            subst this
            rfl
        · intro x hx
          simp only [List.mem_cons, List.not_mem_nil, or_false] at hx
          rcases hx with rfl | rfl
          · exact hok1.1
          · exact hok2.1
        · intro x hx
          simp only [List.mem_cons, List.not_mem_nil, or_false] at hx
          rcases hx with rfl | rfl
          · exact hok1.2
          · exact hok2.2
      · refine ⟨⟨k - 1, i' + 3 + 1, ns ++ [[x1]], cs ++ [.slice (some ⟨w2.heap.size, 0, none⟩) 1 1], by omega, by go_num, by simp; omega, by omega, by omega, hid ⟨HO7.out, ?_, RowOk.snoc hown.out.2.2 ⟨⟨by show 1 ≤ 2; omega, ?_⟩, Nat.le_refl _, ?_⟩⟩, hid (HG3.out.below HBL7.out hGl), hid (gb_below HGB3.out HBL7.out (Nat.le_refl _))⟩, by simp [intOf]; omega⟩
        · intro x hx
          rcases List.mem_append.1 hx with hx | hx
          · exact hown.out.2.1 x hx
          · have : x = .slice (some ⟨w2.heap.size, 0, none⟩) 1 1 := by simpa using hx
            subst this
            rfl
        · intro x hx
          have : x = x1 := by simpa using hx
          subst this
          exact hok1.1
        · intro x hx
          have : x = x1 := by simpa using hx
          subst this
          exact hok1.2
    · have hk0 : k = 0 := by omega
      go_wp2
      go_ret
      exact ⟨Ao, co, ns, cs, i', rfl, hown.out.1, by omega, hown.out.2.1, hown.out.2.2, hg.out, by omega, by omega, hgb.out⟩
end
section
theorem versL_may : ∀ v ∈ versL, mayV v = true := by decide +kernel
theorem versL_rise : versL.Pairwise fun u v => cmpV u v < 0 := by decide +kernel
def Vers (l : List Ver) : Prop := l.Sublist versL
theorem Vers.may {l : List Ver} (h : Vers l) : ∀ v ∈ l, mayV v = true := fun v hv => versL_may v (h.subset hv)
theorem Vers.rise {l : List Ver} (h : Vers l) {j k : Nat} (hj : j < k) (hk : k < l.length) : cmpV (l[j]'(by omega)) l[k] < 0 :=
 List.pairwise_iff_getElem.1 (versL_rise.sublist h) j k (by omega) hk hj
theorem Vers.len {l : List Ver} (h : Vers l) : l.length ≤ 4 := h.length_le
theorem Vers.take {l : List Ver} {k : Nat} (h : l.Sublist (versL.take k)) : Vers l := h.trans (List.take_sublist _ _)
theorem take_more {l : List Ver} {k : Nat} (h : l.Sublist (versL.take k)) (hk : k < versL.length) : (l ++ [versL[k]]).Sublist (versL.take (k + 1)) := by
 rw [List.take_succ_eq_append_getElem hk]
 exact h.append (List.Sublist.refl _)
theorem take_skip {l : List Ver} {k : Nat} (h : l.Sublist (versL.take k)) : l.Sublist (versL.take (k + 1)) := h.trans (List.take_sublist_take_left (by omega))
def nameL : List ByteArray := [⟨#[97, 110, 116]⟩, ⟨#[98, 101, 101]⟩, ⟨#[99, 111, 119]⟩, ⟨#[100, 111, 103]⟩, ⟨#[101, 108, 107]⟩]
def namesFrom : List ByteArray → List Bool → List (ByteArray × ByteArray)
 | n :: ns, b :: bs => (n, ⟨#[]⟩) :: ((if b then [(n, ⟨#[102]⟩)] else []) ++ namesFrom ns bs)
 | _, _ => []
def namesF (fs : List Bool) : List (ByteArray × ByteArray) := (⟨#[]⟩, ⟨#[]⟩) :: namesFrom nameL fs
theorem names_snoc : ∀ (ns : List ByteArray) (fs : List Bool) (n : ByteArray) (b : Bool), ns[fs.length]? = some n → namesFrom ns (fs ++ [b]) = namesFrom ns fs ++ ((n, ⟨#[]⟩) :: (if b then [(n, ⟨#[102]⟩)] else []))
 | [], _, _, _, h => by cases h
 | m :: ns, [], n, b, h => by
  have : m = n := by simpa using h
  subst this
  cases ns <;> simp [namesFrom]
 | m :: ns, c :: fs, n, b, h => by
  have := names_snoc ns fs n b (by simpa using h)
  simp only [List.cons_append, namesFrom, this, List.append_assoc]
theorem namesF_snoc (fs : List Bool) (n : ByteArray) (b : Bool) (h : nameL[fs.length]? = some n) : namesF (fs ++ [b]) = namesF fs ++ ((n, ⟨#[]⟩) :: (if b then [(n, ⟨#[102]⟩)] else [])) := by
 unfold namesF
 rw [names_snoc _ _ _ _ h]
 rfl
end
end Go.Proofs.YthneiolcljnbeaaGreatDoor
