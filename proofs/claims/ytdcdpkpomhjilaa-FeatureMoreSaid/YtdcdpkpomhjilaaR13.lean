/- The laws FeatureTwice, FeatureMore; plain laws of asking. -/
import Derived.Test.YtdcdpkpomhjilaaR12
namespace Go.Proofs.Ytdcdpkpomhjilaa
open Go Go.RowKit

theorem reach_known {l : List Feat} {asked : List ByteArray} {s : ByteArray} (hm : mayF l = true) (hk : asked.all (knownB l) = true) (h : Reach l asked s) : knownB l s = true := by
  induction h with
  | ask hs => exact List.all_eq_true.1 hk _ hs
  | item _ hx ha _ => exact k1_known hm hx ha
theorem closed_known {l : List Feat} {asked A B C : List ByteArray} (h : Closed l asked A B C) (hm : mayF l = true) (hk : asked.all (knownB l) = true) : A.all (knownB l) = true := by
  rw [List.all_eq_true]
  exact fun u hu => reach_known hm hk ((h.ma u).1 hu)
theorem reach_twice {l : List Feat} {asked A : List ByteArray} (h : ∀ s, s ∈ A ↔ Reach l asked s) (s : ByteArray) : Reach l asked s ↔ Reach l A s := by
  constructor
  · exact fun hs => .ask ((h s).2 hs)
  · intro hs
    induction hs with
    | ask hs => exact (h _).1 hs
    | item _ hx ha ih => exact .item ih hx ha
theorem closed_twice {l : List Feat} {asked A B C : List ByteArray} (h : Closed l asked A B C) : Closed l A A B C :=
  ⟨h.ra, h.rb, h.rc, fun s => (h.ma s).trans (reach_twice h.ma s), fun s => (h.mb s).trans (Named.congr (reach_twice h.ma) s), fun s => (h.mc s).trans (Named.congr (reach_twice h.ma) s)⟩
theorem reach_mono {l : List Feat} {L M : List ByteArray} (h : ∀ u ∈ L, u ∈ M) {s : ByteArray} (hs : Reach l L s) : Reach l M s := by
  induction hs with
  | ask hs => exact .ask (h _ hs)
  | item _ hx ha ih => exact .item ih hx ha
theorem closed_congr {l : List Feat} {L M A B C : List ByteArray} (hu : ∀ u, u ∈ L ↔ u ∈ M) (h : Closed l L A B C) : Closed l M A B C := by
  have hr : ∀ s, Reach l L s ↔ Reach l M s := fun s => ⟨reach_mono fun u => (hu u).1, reach_mono fun u => (hu u).2⟩
  exact ⟨h.ra, h.rb, h.rc, fun s => (h.ma s).trans (hr s), fun s => (h.mb s).trans (Named.congr hr s), fun s => (h.mc s).trans (Named.congr hr s)⟩
theorem closed_more {l : List Feat} {L M A B C A' B' C' : List ByteArray} (hu : ∀ u ∈ L, u ∈ M) (h : Closed l L A B C) (h' : Closed l M A' B' C') : withinB A A' = true ∧ withinB B B' = true ∧ withinB C C' = true := by
  have hn : ∀ k s, Named k l (Reach l L) s → Named k l (Reach l M) s := fun k s ⟨f, hf, hx⟩ => ⟨f, reach_mono hu hf, hx⟩
  exact ⟨withinB_iff.2 fun s hs => (h'.ma s).2 (reach_mono hu ((h.ma s).1 hs)), withinB_iff.2 fun s hs => (h'.mb s).2 (hn k2 s ((h.mb s).1 hs)), withinB_iff.2 fun s hs => (h'.mc s).2 (hn k3 s ((h.mc s).1 hs))⟩
theorem closed_has {l : List Feat} {L A B C : List ByteArray} (h : Closed l L A B C) : withinB L A = true := withinB_iff.2 fun s hs => (h.ma s).2 (.ask hs)
/-- Close answers. -/
theorem close_ok {l : List Feat} {asked : List ByteArray} {w w' : World} {e : Ending} (h : ClosePost l asked w e w') (hm : mayF l = true) (hk : asked.all (knownB l) = true) :
    Below w.heap.size w w' ∧ ∃ va vb vc A B C, e = .returned (.tuple #[va, vb, vc, .int .i64 0]) ∧ Closed l asked A B C ∧ SliceRd tStr w' (Lt w'.heap.size) va A ∧ SliceRd tStr w' (Lt w'.heap.size) vb B ∧ SliceRd tStr w' (Lt w'.heap.size) vc C := by
  obtain ⟨hb, ⟨h1, _⟩ | ⟨_, h1, _⟩ | ⟨_, _, va, vb, vc, A, B, C, rfl, hc, ra, rb, rc⟩⟩ := h
  · rw [hm] at h1; cases h1
  · rw [hk] at h1; cases h1
  · exact ⟨hb, va, vb, vc, A, B, C, rfl, hc, ra, rb, rc⟩
theorem rising_yes (v : Value) (l : List ByteArray) (w : World) (h : SliceRd tStr w (Lt w.heap.size) v l) (hr : Rise l) : Calls Try.prog 22 #[v] w fun e w' => e = .returned (.bool true) ∧ Below w.heap.size w w' := by
  have := rising_any v l w h
  rwa [rise_iff.2 hr] at this
theorem within_yes (v v' : Value) (A B : List ByteArray) (w : World) (h : SliceRd tStr w (Lt w.heap.size) v A) (h' : SliceRd tStr w (Lt w.heap.size) v' B) (hw : withinB A B = true) : Calls Try.prog 23 #[v, v'] w fun e w' => e = .returned (.bool true) ∧ Below w.heap.size w w' := by
  have := within_any v v' A B w h h'
  rwa [hw] at this

theorem field4 (a0 c0 c1 : ByteArray) (d0 d1 d2 : Int) (nv bv : Value) (FA : Option Addr) (n c : Nat) (w : World) : (Instr.field 42 (.agg #[.string a0, .int .i64 d0, .int .i64 d1, .int .i64 d2, .string c0, .string c1, nv, bv, .slice FA n c]) 4).run Try.prog w = .ok (.slice FA n c) w := by kernel_rfl
set_option maxRecDepth 100000 in
set_option maxHeartbeats 4000000 in
theorem featureTwice_any (v : Value) (l : List Int) (b : Int) (w : World) (h : SliceRd tInt w (Lt w.heap.size) v l) (_ : I64 b) :
    Calls Try.prog 6 #[v, .int .i64 b] w fun e w' => e = .returned (.bool true) ∧ Below w.heap.size w w' := by
  have HR := hid (record_any v l w h)
  clear h
  go_enter Try.func6, Try.ntmps6
  go_wp2_with fail
  refine HR.out.mono ?_
  rintro e w1 ⟨hb1, a0, c0, c1, d0, d1, d2, nv, bv, fv, fs, rfl, hrd, hfs⟩
  obtain ⟨FA, fc, rfl, -, -, -⟩ := hrd.feats
  obtain ⟨hm, hl4, hsm⟩ := hfs.may
  have HM := hid hm
  have HSM := hid hsm
  have HRD := hid hrd
  have HB1 := hid hb1
  have hfd := field4 a0 c0 c1 d0 d1 d2 nv bv FA fs.length fc
  clear hrd hfs hb1 hm hsm
  go_wp2_with fail
  refine (some_any _ fs b _ HRD.out hl4).mono ?_
  rintro e w2 ⟨hb2, v2, L, rfl, hrl, hsi⟩
  have HK := hid hsi.known
  have hLn := hsi.1
  have HRL := hid hrl
  have HB2 := hid (bstep HB1.out hb2)
  have HRD2 := hid (HRD.out.lift hb2 hb2.size)
  clear hrl hsi hb2
  go_wp2_with fail
  refine (iclose_any _ _ fs L _ HRD2.out HRL.out HSM.out (by omega)).mono ?_
  intro e w3 hp
  obtain ⟨hb3, va, vb, vc, A, B, C, rfl, hc, ra, rb, rc⟩ := close_ok hp HM.out HK.out
  have HC := hid hc
  have RA := hid ra
  have RB := hid rb
  have RC := hid rc
  have HB3 := hid (bstep HB2.out hb3)
  have HRD3 := hid (HRD2.out.lift hb3 hb3.size)
  have HRL3 := hid (HRL.out.lift hb3 hb3.size)
  have HAN : Hid (A.length ≤ 1000) := hid (by
    have := known_few hc.ra (fun u hu => List.all_eq_true.1 (closed_known hc HM.out HK.out) u hu)
    omega)
  clear hc ra rb rc hb3 hp
  go_wp2_with fail
  refine (iclose_any _ _ fs A _ HRD3.out RA.out HSM.out HAN.out).mono ?_
  intro e w4 hp
  obtain ⟨hb4, va', vb', vc', A', B', C', rfl, hc, ra, rb, rc⟩ := close_ok hp HM.out (closed_known HC.out HM.out HK.out)
  obtain ⟨rfl, rfl, rfl⟩ := (closed_twice HC.out).uniq hc
  have RA' := hid ra
  have RB' := hid rb
  have RC' := hid rc
  have HB4 := hid (bstep HB3.out hb4)
  have RA4 := hid (RA.out.lift hb4 hb4.size)
  have RB4 := hid (RB.out.lift hb4 hb4.size)
  have RC4 := hid (RC.out.lift hb4 hb4.size)
  have RL4 := hid (HRL3.out.lift hb4 hb4.size)
  clear hc ra rb rc hb4 hp HRD HRD2 HRD3 HRL HRL3 RA RB RC
  have t1 := hid True.intro
  have t2 := hid True.intro
  have t3 := hid True.intro
  have t4 := hid True.intro
  go_wp2_with (first
    | (go_at_call 22; clear t1; refine (rising_yes _ A _ RA4.out HC.out.ra).mono ?_; rintro e w5 ⟨rfl, hb5⟩; have HB5 := hid hb5; clear hb5)
    | (go_at_call 22; clear t2; refine (rising_yes _ B _ (RB4.out.lift HB5.out HB5.out.size) HC.out.rb).mono ?_; rintro e w6 ⟨rfl, hb6⟩; have HB6 := hid (bstep HB5.out hb6); clear hb6)
    | (go_at_call 22; refine (rising_yes _ C _ (RC4.out.lift HB6.out HB6.out.size) HC.out.rc).mono ?_; rintro e w7 ⟨rfl, hb7⟩; have HB7 := hid (bstep HB6.out hb7); clear hb7)
    | (go_at_call 9; refine (awake_any _).mono ?_; rintro e w8 ⟨rfl, hb8⟩; have HB8 := hid (bstep HB7.out hb8); clear hb8)
    | (go_at_call 23; refine (within_yes _ _ L A _ (RL4.out.lift HB8.out HB8.out.size) (RA4.out.lift HB8.out HB8.out.size) (closed_has HC.out)).mono ?_; rintro e w9 ⟨rfl, hb9⟩; have HB9 := hid (bstep HB8.out hb9); clear hb9)
    | (go_at_call 19; clear t3; refine (same_texts _ _ A _ (RA4.out.lift HB9.out HB9.out.size) (RA'.out.lift HB9.out HB9.out.size)).mono ?_; rintro e wa ⟨rfl, hba⟩; have HBA := hid (bstep HB9.out hba); clear hba)
    | (go_at_call 19; clear t4; refine (same_texts _ _ B _ (RB4.out.lift HBA.out HBA.out.size) (RB'.out.lift HBA.out HBA.out.size)).mono ?_; rintro e wb ⟨rfl, hbb⟩; have HBB := hid (bstep HBA.out hbb); clear hbb)
    | (go_at_call 19; refine (same_texts _ _ C _ (RC4.out.lift HBB.out HBB.out.size) (RC'.out.lift HBB.out HBB.out.size)).mono ?_; rintro e wc ⟨rfl, hbc⟩; have HBC := hid (bstep HBB.out hbc); clear hbc))
  go_ret
  exact ⟨rfl, bstep HB4.out HBC.out⟩
end Go.Proofs.Ytdcdpkpomhjilaa
