import Derived.Test.YtbfbppjccbppiaaGreatDoorzV17
import Derived.Outline
import Derived.Deep.RegionWith
namespace Go.Proofs.YtbfbppjccbppiaaGreatDoor
open Go Go.RowKit
def zq0 (w : World) (g o : Nat) (u : Ver) : Prop := w.cell? ⟨g, o, none⟩ = some (.int .i64 u.major) ∧ w.cell? ⟨g, o + 1, none⟩ = some (.int .i64 u.minor) ∧ w.cell? ⟨g, o + 2, none⟩ = some (.int .i64 u.patch) ∧ w.cell? ⟨g, o + 3, none⟩ = some (.string u.pre) ∧ w.cell? ⟨g, o + 4, none⟩ = some (.string u.build)
theorem zq0.keep {w w' : World} {g o : Nat} {u : Ver} (hk : w'.heap[g]? = w.heap[g]?) (h : zq0 w g o u) : zq0 w' g o u := by
 obtain ⟨h0, h1, h2, h3, h4⟩ := h
 have e : ∀ o, w'.cell? ⟨g, o, none⟩ = w.cell? ⟨g, o, none⟩ := fun o => World.cell?_of_block hk
 exact ⟨(e _).trans h0, (e _).trans h1, (e _).trans h2, (e _).trans h3, (e _).trans h4⟩
def qq7 (w : World) (F : Nat → Prop) (v : Value) (n : Nat) : Prop := ∃ A cap, v = .slice A n cap ∧ n ≤ 4 ∧ ∀ k, k < n → ∃ g, A = some ⟨g, 0, none⟩ ∧ F g ∧ ∃ u : Ver, u.B ∧ zq0 w g (k * 8) u
theorem qq7.keep {w w' : World} {F : Nat → Prop} {v : Value} {n : Nat} (hk : ∀ k, F k → w'.heap[k]? = w.heap[k]?) (h : qq7 w F v n) : qq7 w' F v n := by
 obtain ⟨A, cap, hv, hn, hc⟩ := h
 refine ⟨A, cap, hv, hn, fun k hk' => ?_⟩
 obtain ⟨g, hA, hF, u, hu, hat⟩ := hc k hk'
 exact ⟨g, hA, hF, u, hu, hat.keep (hk g hF)⟩
theorem qq7.more {w : World} {F F' : Nat → Prop} {v : Value} {n : Nat} (hF : ∀ k, F k → F' k) (h : qq7 w F v n) : qq7 w F' v n := by
 obtain ⟨A, cap, hv, hn, hc⟩ := h
 refine ⟨A, cap, hv, hn, fun k hk' => ?_⟩
 obtain ⟨g, hA, hFF, rest⟩ := hc k hk'
 exact ⟨g, hA, hF _ hFF, rest⟩
section
variable {w w1 w2 : World} {b : Option Nat} {B : Nat}
theorem qd5 (h : w.grownBy w1 b) (hb : Below B w1 w2) (hB : w.heap.size ≤ B) : w.grownBy w2 b :=
 ⟨hb.os.trans h.os, hb.tape.trans h.tape, hb.output.trans h.output, Nat.le_trans h.size hb.size, fun k hk hne => (hb.block k (by omega)).trans (h.block k hk hne)⟩
theorem qo1 (h : w.grownBy w1 b) (h2 : w1.grownBy w2 b) : w.grownBy w2 b :=
 ⟨h2.os.trans h.os, h2.tape.trans h.tape, h2.output.trans h.output, Nat.le_trans h.size h2.size, fun k hk hne => (h2.block k (Nat.lt_of_lt_of_le hk h.size) hne).trans (h.block k hk hne)⟩
theorem zb9 (w : World) (b : Option Nat) : w.grownBy w b := ⟨rfl, rfl, rfl, Nat.le_refl _, fun _ _ _ => rfl⟩
theorem zq9 {bG : Nat} (h : w.grownBy w1 (some bG)) {g o : Nat} {v : Value} (hne : g ≠ bG) (hc : w.cell? ⟨g, o, none⟩ = some v) : w1.cell? ⟨g, o, none⟩ = some v := h.cell hc (by intro e; exact hne (Option.some.inj e))
theorem qf6 {bG : Nat} (h : w.grownBy w1 (some bG)) {g : Nat} (hne : g ≠ bG) (hg : g < w.heap.size) : w1.heap[g]? = w.heap[g]? := h.block g hg (by intro e; exact hne (Option.some.inj e))
end
def Blk2 (w : World) (g : Nat) (T : TypeId) (u v : Value) : Prop := w.heap[g]? = some (.cells #[u, v] T (0, 0))
theorem Blk2.box {w : World} {g : Nat} {T : TypeId} {u v : Value} (h : Blk2 w g T u v) : Box2 w g u v ∧ ∀ o, w.frozen? ⟨g, o, none⟩ = false := by
 refine ⟨⟨?_, ?_⟩, fun o => frozen_of_row w g o _ T h⟩ <;> (rw [cell_of_row _ _ _ _ T (0, 0) h]; rfl)
theorem Blk2.set {w : World} {g : Nat} {T : TypeId} {u v : Value} (h : Blk2 w g T u v) (x y : Value) : Blk2 ((w.setCell ⟨g, 0, none⟩ x).setCell ⟨g, 1, none⟩ y) g T x y := by
 unfold Blk2 at h ⊢
 have h1 : (w.setCell ⟨g, 0, none⟩ x).heap[g]? = some (.cells #[x, v] T (0, 0)) := by rw [heap_setCell_same w g 0 _ T _ h]; rfl
 rw [heap_setCell_same _ g 1 _ T _ h1]
 rfl
def nb : Nat → Nat
 | 0 => 0
 | k + 1 => 2 + 4 * (nb k + 1)
theorem nb_le {k : Nat} (h : k ≤ 4) : nb k ≤ 510 := by
 have : k = 0 ∨ k = 1 ∨ k = 2 ∨ k = 3 ∨ k = 4 := by omega
 rcases this with rfl | rfl | rfl | rfl | rfl <;> decide
def Btw (a : Nat) (w : World) : Nat → Prop := fun k => a < k ∧ k < w.heap.size
def zf9 (w : World) (bs N : Nat) : Prop := ∃ A n c A' n' c' L M, Blk2 w bs 76 (.slice A n c) (.slice A' n' c') ∧ SliceRd qd6.ty w (Btw bs w) (.slice A n c) L ∧ SliceRd qd6.ty w (Btw bs w) (.slice A' n' c') M ∧ L.length ≤ N ∧ M.length ≤ N
theorem zf9.keep {w w' : World} {bs N : Nat} (hk : ∀ k, bs ≤ k → k < w.heap.size → w'.heap[k]? = w.heap[k]?) (hs : w.heap.size ≤ w'.heap.size) (hb : bs < w.heap.size) (h : zf9 w bs N) : zf9 w' bs N := by
 obtain ⟨A, n, c, A', n', c', L, M, h1, h2, h3, h4, h5⟩ := h
 have hK : qn2 (Btw bs w) w w' := fun k hk' => hk k (Nat.le_of_lt hk'.1) hk'.2
 exact ⟨A, n, c, A', n', c', L, M, (hk bs (Nat.le_refl _) hb).trans h1, (h2.keep hK).more fun k hk => ⟨hk.1, Nat.lt_of_lt_of_le hk.2 hs⟩, (h3.keep hK).more fun k hk => ⟨hk.1, Nat.lt_of_lt_of_le hk.2 hs⟩, h4, h5⟩
theorem zf9.mono {w : World} {bs N N' : Nat} (h : zf9 w bs N) (hN : N ≤ N') : zf9 w bs N' := by
 obtain ⟨A, n, c, A', n', c', L, M, h1, h2, h3, h4, h5⟩ := h
 exact ⟨A, n, c, A', n', c', L, M, h1, h2, h3, by omega, by omega⟩
theorem zf9.put {w : World} {bs N B : Nat} {u v x y : Value} {L M : List Span} (h : Blk2 w bs 76 u v) (hx : qa8 B w x L) (hy : qa8 B w y M) (hB : bs < B) (h4 : L.length ≤ N) (h5 : M.length ≤ N) : zf9 ((w.setCell ⟨bs, 0, none⟩ x).setCell ⟨bs, 1, none⟩ y) bs N := by
 obtain ⟨A, c, rfl⟩ := hx.form
 obtain ⟨A', c', rfl⟩ := hy.form
 have hsz : ((w.setCell ⟨bs, 0, none⟩ (.slice A L.length c)).setCell ⟨bs, 1, none⟩ (.slice A' M.length c')).heap.size = w.heap.size := by simp
 have hkk : ∀ {F : Nat → Prop}, (∀ k, F k → k ≠ bs) → qn2 F w ((w.setCell ⟨bs, 0, none⟩ (.slice A L.length c)).setCell ⟨bs, 1, none⟩ (.slice A' M.length c')) := fun hF k hk => by
  rw [heap_setCell_other _ _ _ _ (hF k hk), heap_setCell_other _ _ _ _ (hF k hk)]
 have hrd : ∀ {z : Value} {K : List Span}, qa8 B w z K → SliceRd qd6.ty ((w.setCell ⟨bs, 0, none⟩ (.slice A L.length c)).setCell ⟨bs, 1, none⟩ (.slice A' M.length c')) (Btw bs ((w.setCell ⟨bs, 0, none⟩ (.slice A L.length c)).setCell ⟨bs, 1, none⟩ (.slice A' M.length c'))) z K := fun hz => by
  have h0 : SliceRd qd6.ty w (Btw bs w) _ _ := qf8 (f := qd6) hz.1 hz.2 (fun g hg => ⟨by have := (hz.1.lt g hg).1; omega, (hz.1.lt g hg).2⟩)
  refine (h0.keep (hkk fun k hk => by have := hk.1; omega)).more fun k hk => ⟨hk.1, by rw [hsz]; exact hk.2⟩
 exact ⟨A, L.length, c, A', M.length, c', L, M, h.set _ _, hrd hx, hrd hy, h4, h5⟩
theorem SliceRd.below2 {w w' : World} {bs : Nat} {v : Value} {l : List Span} (h : SliceRd qd6.ty w (Btw bs w) v l) (hb : Below w.heap.size w w') : SliceRd qd6.ty w' (Lt w'.heap.size) v l :=
 (h.keep (qn2.of_below hb fun _ hk => hk.2)).more fun _ hk => Nat.lt_of_lt_of_le hk.2 hb.size
theorem two_steps {w : World} {bG : Nat} {lv : Value} {xs : List Int} {i : Int} (h : GAt w bG lv xs (i + 1 + 1)) : GAt w bG lv xs (i + 2) := by
 have e : i + 2 = i + 1 + 1 := by omega
 rw [e]; exact h
def SetGPost (bG : Nat) (lv : Value) (xs : List Int) (i : Int) (w : World) (e : Ending) (w' : World) : Prop :=
 ∃ A n c A' n' c', e = .returned (.agg #[.slice A n c, .slice A' n' c']) ∧ GAt w' bG lv xs (i + 2) ∧ w.grownBy w' (some bG) ∧ ∃ s : SetD, tSet.rd w' (Btw w.heap.size w') [.slice A n c, .slice A' n' c'] s ∧ s.ok
theorem set_fin {w5 : World} {b : Nat} {x y u v : Value} {L M : List Span} (h1 : SliceRd qd6.ty w5 (Btw b w5) x L) (h2 : SliceRd qd6.ty w5 (Btw b w5) y M) (h3 : L.length ≤ 4000) (h4 : M.length ≤ 4000) :
  ∃ s : SetD, tSet.rd ((w5.setCell ⟨b, 0, none⟩ u).setCell ⟨b, 1, none⟩ v) (Btw b ((w5.setCell ⟨b, 0, none⟩ u).setCell ⟨b, 1, none⟩ v)) [x, y] s ∧ s.ok := by
 have hK : qn2 (Btw b w5) w5 ((w5.setCell ⟨b, 0, none⟩ u).setCell ⟨b, 1, none⟩ v) := fun k hk => by
  have hne : k ≠ b := by have := hk.1; omega
  rw [heap_setCell_other _ _ _ _ hne, heap_setCell_other _ _ _ _ hne]
 have hsz : ((w5.setCell ⟨b, 0, none⟩ u).setCell ⟨b, 1, none⟩ v).heap.size = w5.heap.size := by simp
 exact ⟨⟨L, M⟩, ⟨x, y, rfl, (h1.keep hK).more fun k hk => ⟨hk.1, by rw [hsz]; exact hk.2⟩, (h2.keep hK).more fun k hk => ⟨hk.1, by rw [hsz]; exact hk.2⟩⟩, h3, h4⟩
theorem qa8.btw {w5 : World} {b B : Nat} {x : Value} {L : List Span} (h : qa8 B w5 x L) (hb : b < B) : SliceRd qd6.ty w5 (Btw b w5) x L :=
 qf8 (f := qd6) h.1 h.2 (fun g hg => ⟨Nat.lt_of_lt_of_le hb (h.1.lt g hg).1, (h.1.lt g hg).2⟩)
set_option maxRecDepth 100000 in
set_option maxHeartbeats 2000000 in
theorem set_g (bG : Nat) (lv : Value) (xs : List Int) (i : Int) (v : Value) (n : Nat) (w : World) (hG : GAt w bG lv xs i) (hi : i + 2 < 1000000) (hc : qq7 w (fun k => k ≠ bG ∧ k < w.heap.size) v n) :
  Calls Tryz.prog 63 #[.pointer (some ⟨bG, 0, none⟩), v] w (SetGPost bG lv xs i w) := by
 obtain ⟨A, cap, rfl, hn, hcs⟩ := hc
 have HC := hid hcs
 have hi0 := hG.bd.1
 have hGl := hG.lt
 have HG := hid hG
 clear hcs hG
 go_enter Tryz.func63, Tryz.ntmps63
 go_wp2_with fail
 obtain ⟨w0, hw0⟩ : ∃ w0 : World, w0 = w.alloc (.cells #[.slice none 0 0, .slice none 0 0] 76) := ⟨_, rfl⟩
 have HR0 : Hid (Blk2 w0 w.heap.size 76 (.slice none 0 0) (.slice none 0 0)) := hid (by rw [hw0]; exact heap_alloc_new w _)
 have HG0 : Hid (GAt w0 bG lv xs i) := hid (by rw [hw0]; exact HG.out.below (qa0 (b0 w) _) hGl)
 have HB0 : Hid (w.grownBy w0 (some bG)) := hid (by rw [hw0]; exact qd5 (zb9 w _) (qa0 (b0 w) _) (Nat.le_refl _))
 have hz0 : w0.heap.size = w.heap.size + 1 := by rw [hw0]; simp
 have hlt0 : w.heap.size < w0.heap.size := by omega
 have HZ0 := hid hz0
 rw [← hw0]
 clear hw0 hz0
 refine (qr9 bG lv xs i 8 _ HG0.out (by omega) ⟨by decide, by decide⟩).mono ?_
 rintro e w1 ⟨r, rfl, hr0, hr1, -, hg1, hgb1⟩
 have hr2 : r < 8 := hr1 (by omega)
 have HG1 := hid hg1
 have HGB1 := hid (qo1 HB0.out hgb1)
 have HR1 : Hid (Blk2 w1 w.heap.size 76 (.slice none 0 0) (.slice none 0 0)) := hid ((qf6 hgb1 (by omega) hlt0).trans HR0.out)
 have hlt1 : w.heap.size < w1.heap.size := Nat.lt_of_lt_of_le hlt0 hgb1.size
 clear hg1 hgb1 hr1
 go_wp2_with (go_at_call 58; refine (qt9 _).mono ?_; rintro e w2 ⟨rfl, hb2⟩; have HB2 := hid hb2; clear hb2)
 obtain ⟨bs, hbs⟩ : ∃ bs : Nat, w2.heap.size = bs := ⟨_, rfl⟩
 have hbs1 : w1.heap.size ≤ bs := by rw [← hbs]; exact HB2.out.size
 obtain ⟨w3, hw3⟩ : ∃ w3 : World, w3 = w2.alloc (.cells #[.slice none 0 0, .slice none 0 0] 76) := ⟨_, rfl⟩
 have hb3 : Below w1.heap.size w1 w3 := by rw [hw3]; exact HB2.out.alloc HB2.out.size _
 have HS3 : Hid (zf9 w3 bs (nb 0)) := hid (by
  refine ⟨none, 0, 0, none, 0, 0, [], [], ?_, SliceRd.nil _ _ _, SliceRd.nil _ _ _, by decide, by decide⟩
  rw [hw3, ← hbs]
  exact heap_alloc_new w2 _)
 have hlt3 : bs < w3.heap.size := by rw [hw3, ← hbs]; simp
 have HG3 := hid (HG1.out.below hb3 HG1.out.lt)
 have HGB3 := hid (qd5 HGB1.out hb3 (Nat.le_of_lt hlt1))
 have HR3 : Hid (Blk2 w3 w.heap.size 76 (.slice none 0 0) (.slice none 0 0)) := hid ((hb3.block _ hlt1).trans HR1.out)
 rw [← hw3, hbs]
 have hrb : w.heap.size < bs := Nat.lt_of_lt_of_le hlt1 hbs1
 clear hw3 hb3 hbs
 go_loopw [7] (fun iv wr => ∃ k : Nat, k ≤ n ∧ iv = .int .i64 k ∧ Hid (zf9 wr bs (nb k)) ∧ Hid (Below bs w3 wr) ∧ Hid (bs < wr.heap.size)) (fun iv _ => n - (intOf iv).toNat)
 case atStart => exact ⟨0, Nat.zero_le _, rfl, HS3, hid (Below.refl _ _), hid hlt3⟩
 case round =>
  obtain ⟨k, hk, rfl, hset, hb, hlb⟩ := hrel
  have hlr := hlb.out
  have HGR := hid (HG3.out.below hb.out (by omega))
  have HGBR := hid (qd5 HGB3.out hb.out (Nat.le_of_lt hrb))
  have HRR : Hid (Blk2 wr w.heap.size 76 (.slice none 0 0) (.slice none 0 0)) := hid ((hb.out.block _ hrb).trans HR3.out)
  by_cases hlt : k < n
  ·obtain ⟨g, hA, hF, u, hu, hat⟩ := HC.out k hlt
   cases hA
   have HU := hid hu
   have hgr : g < wr.heap.size := by omega
   have HAT := hid (show zq0 wr g (k * 8) u from hat.keep (qf6 HGBR.out hF.1 hF.2))
   obtain ⟨c0, c1, c2, c3, c4⟩ := HAT.out
   obtain ⟨S1, m1, d1, S2, m2, d2, L, M, hblk, hrd1, hrd2, hL, hM⟩ := hset.out
   have HRD1 := hid hrd1
   have HRD2 := hid hrd2
   have hnb := nb_le (k := k) (by omega)
   have HBX := hid hblk
   obtain ⟨⟨x0, x1⟩, xf⟩ := hblk.box
   clear hblk hrd1 hrd2 hat hu
   have i1 : (0 : Int) ≤ ↑k := by omega
   have i2 : (↑k : Int) < ↑n := by omega
   go_wp2
   ·first
     | go_must (go_region_with
       ((first
        | (go_at_call 28; go_must (refine (exact_any _ _ _ _ _ _ HU.out).mono ?_; rintro e wa ⟨va, va', La, Ma, rfl, hoa, hoa', hla, hla', hba⟩; replace hba : Below wr.heap.size wr wa := (b0 wr).drew.trans hba; obtain ⟨Aa, ca, rfl⟩ := hoa.form; obtain ⟨Aa', ca', rfl⟩ := hoa'.form; have HOA := hid hoa; have HOA' := hid hoa'; have HBA := hid hba; have HBXA := hid ((hba.block _ hlr).trans HBX.out); obtain ⟨⟨y0, y1⟩, yf⟩ := Blk2.box HBXA.out; obtain ⟨f0, f1, f2, f3, f4⟩ := HAT.out.keep (hba.block _ hgr); clear hoa hoa' hba))
        | (go_at_call 105; go_must (refine (or5_any _ _ _ _ L M La Ma (nb k + 1) _ (HRD1.out.below2 HBA.out) (HRD2.out.below2 HBA.out) HOA.out.rd HOA'.out.rd (by omega) (by omega) (by omega) (by omega) (by omega)).mono ?_; rintro e wb ⟨vb, vb', Lb, Mb, rfl, hob, hob', hlb', hlb'', hbb⟩; obtain ⟨Ab, cb, rfl⟩ := hob.form; obtain ⟨Ab', cb', rfl⟩ := hob'.form; have HOB := hid hob; have HOB' := hid hob'; have HBB := hid (qa1 HBA.out hbb); have HBXB : Hid (Blk2 wb bs 76 (.slice S1 m1 d1) (.slice S2 m2 d2)) := hid ((HBB.out.block _ hlr).trans HBX.out); obtain ⟨⟨z0, z1⟩, zf⟩ := Blk2.box HBXB.out; obtain ⟨e0, e1, e2, e3, e4⟩ := HAT.out.keep (HBB.out.block _ hgr); clear hob hob' hbb)))))
     | fail
    all_goals go_wp2
    all_goals have hab : bs < wa.heap.size := Nat.lt_of_lt_of_le hlr HBA.out.size
    all_goals
     refine ⟨⟨k + 1, by omega, by go_num, hid (zf9.put HBXB.out HOB.out HOB'.out hab hlb' hlb''), hid ?_, hid ?_⟩, by simp [intOf]; omega⟩
     ·exact (((hb.out.trans (HBB.out.mono (Nat.le_of_lt hlr))).setCell (p := ⟨bs, 0, none⟩) (Nat.le_refl _) _).setCell (p := ⟨bs, 1, none⟩) (Nat.le_refl _) _)
     ·have := HBB.out.size
      simp
      omega
   ·exact ⟨⟨k + 1, by omega, by go_num, hid (hset.out.mono (show nb k ≤ 2 + 4 * (nb k + 1) by omega)), hb, hlb⟩, by simp [intOf]; omega⟩
  ·have hk5 := nb_le (k := k) (by omega)
   go_wp2_with (first
    | (go_at_call 29; go_must (refine (qr9 bG lv xs (i + 1) 6 _ HGR.out (by omega) ⟨by decide, by decide⟩).mono ?_; rintro e w4 ⟨r2, rfl, hr20, -, -, hg4, hgb4⟩; have HG4 : Hid (GAt w4 bG lv xs (i + 2)) := hid (two_steps hg4); have HGB4 := hid (qo1 HGBR.out hgb4); have HR4 : Hid (Blk2 w4 w.heap.size 76 (.slice none 0 0) (.slice none 0 0)) := hid ((qf6 hgb4 (by omega) (by omega)).trans HRR.out); have HS4 := hid (hset.out.keep (fun j hj hj' => qf6 hgb4 (by omega) hj') hgb4.size hlr); have hl4 := Nat.lt_of_lt_of_le hlr hgb4.size; obtain ⟨⟨x0, x1⟩, xf⟩ := Blk2.box HR4.out; obtain ⟨S1, m1, d1, S2, m2, d2, L, M, hblk, hrd1, hrd2, hL, hM⟩ := HS4.out; obtain ⟨⟨y0, y1⟩, yf⟩ := hblk.box; have HRD1 := hid hrd1; have HRD2 := hid hrd2; clear hg4 hgb4 hblk hrd1 hrd2))
    | (go_at_call 56; go_must (refine (all5_any _).mono ?_; rintro e w5 ⟨v5, v5', L5, M5, rfl, ho5, ho5', hl5, hl5', hb5⟩; obtain ⟨A5, c5, rfl⟩ := ho5.form; obtain ⟨A5', c5', rfl⟩ := ho5'.form; have HO5 := hid ho5; have HO5' := hid ho5'; have HB5 := hid hb5; obtain ⟨⟨z0, z1⟩, zf⟩ := Blk2.box ((hb5.block _ (by omega)).trans HR4.out); clear hb5))
    | (go_at_call 106; go_must (refine (not5_any _ _ L M 510 _ (HRD1.out.more fun j hj => hj.2) (HRD2.out.more fun j hj => hj.2) (by omega) (by omega) (by omega)).mono ?_; rintro e w5 ⟨v5, v5', L5, M5, rfl, ho5, ho5', hl5, hl5', hb5⟩; obtain ⟨A5, c5, rfl⟩ := ho5.form; obtain ⟨A5', c5', rfl⟩ := ho5'.form; have HO5 := hid ho5; have HO5' := hid ho5'; have HB5 := hid hb5; obtain ⟨⟨z0, z1⟩, zf⟩ := Blk2.box ((hb5.block _ (by omega)).trans HR4.out); clear hb5)))
   ·have hfin := ((Below.mono (B := w4.heap.size) (B' := w.heap.size) HB5.out (by omega)).setCell (p := ⟨w.heap.size, 0, none⟩) (Nat.le_refl _) (.slice A5 L5.length c5)).setCell (p := ⟨w.heap.size, 1, none⟩) (Nat.le_refl _) (.slice A5' M5.length c5')
    exact bodyPost_ret (v := .agg #[.slice A5 L5.length c5, .slice A5' M5.length c5']) (by simp [results, Tryz.results63, go_sem, z0, z1]) rfl ⟨A5, L5.length, c5, A5', M5.length, c5', rfl, HG4.out.below hfin hGl, qd5 HGB4.out hfin (Nat.le_refl _), set_fin (HO5.out.btw (by omega)) (HO5'.out.btw (by omega)) (by omega) (by omega)⟩
   ·have hfin := ((Below.mono (B := w4.heap.size) (B' := w.heap.size) HB5.out (by omega)).setCell (p := ⟨w.heap.size, 0, none⟩) (Nat.le_refl _) (.slice A5 L5.length c5)).setCell (p := ⟨w.heap.size, 1, none⟩) (Nat.le_refl _) (.slice A5' M5.length c5')
    exact bodyPost_ret (v := .agg #[.slice A5 L5.length c5, .slice A5' M5.length c5']) (by simp [results, Tryz.results63, go_sem, z0, z1]) rfl ⟨A5, L5.length, c5, A5', M5.length, c5', rfl, HG4.out.below hfin hGl, qd5 HGB4.out hfin (Nat.le_refl _), set_fin (HO5.out.btw (by omega)) (HO5'.out.btw (by omega)) (by omega) (by omega)⟩
   ·have hfin := ((Below.mono (B := w4.heap.size) (B' := w.heap.size) (b0 w4) (by omega)).setCell (p := ⟨w.heap.size, 0, none⟩) (Nat.le_refl _) (.slice S1 m1 d1)).setCell (p := ⟨w.heap.size, 1, none⟩) (Nat.le_refl _) (.slice S2 m2 d2)
    exact bodyPost_ret (v := .agg #[.slice S1 m1 d1, .slice S2 m2 d2]) (by simp [results, Tryz.results63, go_sem, x0, x1]) rfl ⟨S1, m1, d1, S2, m2, d2, rfl, HG4.out.below hfin hGl, qd5 HGB4.out hfin (Nat.le_refl _), set_fin (HRD1.out.more fun k hk => ⟨by have := hk.1; omega, hk.2⟩) (HRD2.out.more fun k hk => ⟨by have := hk.1; omega, hk.2⟩) (by omega) (by omega)⟩
end Go.Proofs.YtbfbppjccbppiaaGreatDoor
