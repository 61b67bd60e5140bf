import Derived.Test.YtmbjeppnamhgiaaGreatzA0
import Derived.Test.YtmbjeppnamhgiaaGreatzT15
import Derived.Test.YtmbjeppnamhgiaaGreatzT16
import Derived.Outline
import Derived.Test.YtmbjeppnamhgiaaGreatzA11
import Derived.Test.YtmbjeppnamhgiaaGreatzT22
import Derived.Test.YtmbjeppnamhgiaaGreatzV15
import Derived.Test.YtmbjeppnamhgiaaGreatzV17
import Derived.Test.YtmbjeppnamhgiaaGreatzN
section
/- The small world of every statement as data: its incompatibilities, what follows from them, what is learnt. No program stands here. -/
namespace Go.Proofs.YtmbjeppnamhgiaaGreat
open Go Go.RowKit

/-- The incompatibilities, by number. -/
def dbF (us : List UnitW) (al : List Nat) (i : Nat) : Nat → Nat := (dbM us al)[i]?.getD (fun _ => 0)
theorem dbL_map (ns : List Nat) (L : List (Nat → Nat)) : dbL ns (fun i => L[i]?.getD fun _ => 0) L.length = L.map (canon ns) := by
  apply List.ext_getElem
  · simp [dbL]
  · intro i h1 h2
    have : i < L.length := by simpa [dbL] using h1
    rw [dbL_at]
    simp [this]
theorem dbF_ok {us : List UnitW} (ho : UnitsOk us) (h0 : (nsOf us).head? = some 1) (al : List Nat) {c : Nat} (hc : c < (dbM us al).length) : IncOk (nsOf us) (dbF us al c) := by
  unfold dbF
  rw [List.getElem?_eq_getElem hc]
  exact (db_ok ho h0 al).1 _ (List.getElem_mem hc)
/-- The project needs ant, which has no candidate. -/
def smallU (s : SetD) : List UnitW := [⟨⟨#[]⟩, ⟨#[]⟩, [⟨⟨0, 0, 0, ⟨#[]⟩, ⟨#[]⟩⟩, -1, [[⟨1, s⟩]], []⟩]⟩, ⟨⟨#[97, 110, 116]⟩, ⟨#[]⟩, []⟩]
def ns2 : List Nat := [1, 0]
theorem small_ns (s : SetD) : nsOf (smallU s) = ns2 := rfl
theorem ns2_ok : NsOk ns2 := ⟨by decide, by decide, fun k h => by
  match k, h with
  | 0, _ => exact Nat.le_of_ble_eq_true rfl
  | 1, _ => exact Nat.le_of_ble_eq_true rfl⟩
theorem small_ok {s : SetD} (hs : s.ok) : UnitsOk (smallU s) := by
  refine ⟨ns2_ok, fun u hu c hc => ?_⟩
  rcases List.mem_cons.1 hu with rfl | hu
  · rcases List.mem_singleton.1 hc with rfl
    refine ⟨by show 1 ≤ 4; omega, fun r hr => ?_, by show 0 ≤ 2; omega, fun x hx => by cases hx⟩
    rcases List.mem_singleton.1 hr with rfl
    refine ⟨by show 1 ≤ 2; omega, fun x hx => ?_⟩
    rcases List.mem_singleton.1 hx with rfl
    exact ⟨by show (0 : Int) ≤ 1; omega, by show (1 : Int) < 2; omega, hs⟩
  · rcases List.mem_singleton.1 hu with rfl
    cases hc
def sM : List (Nat → Nat) := [(rootN ns2).M, meetN ns2 [⟨0, 2⟩, ⟨1, 1⟩]]
def sdb (i : Nat) : Nat → Nat := sM[i]?.getD (fun _ => 0)
theorem small_clause (s : SetD) : clauseL (smallU s) 0 0 [⟨1, s⟩] false = [⟨0, 2⟩, ⟨1, 1⟩] := rfl
theorem small_made : (makeN ns2 [⟨0, 2⟩, ⟨1, 1⟩]).isSome = true := by decide +kernel
theorem small_all (s : SetD) : allN (smallU s) = [rootN ns2, ⟨2, 0, meetN ns2 [⟨0, 2⟩, ⟨1, 1⟩]⟩] := by
  show addN (smallU s) 0 0 2 false [rootN ns2] [⟨1, s⟩] = _
  unfold addN
  rw [small_clause, small_ns, if_pos small_made]
  rfl
theorem small_db (s : SetD) : dbM (smallU s) [] = sM := by
  unfold dbM
  rw [small_all]
  rfl
theorem small_dbF (s : SetD) : dbF (smallU s) [] = sdb := by
  funext i
  unfold dbF
  rw [small_db]
  rfl
instance openDec (ns : List Nat) (l : List StepN) (M : Nat → Nat) (u : Nat) : Decidable (OpenAt ns l M u) := by unfold OpenAt; infer_instance
instance sureDec (ns : List Nat) (l : List StepN) (M : Nat → Nat) : Decidable (Sure ns l M) := by unfold Sure; infer_instance
def s0N : StepN := ⟨0, 2, 0, 0⟩
/-- What Run tells of it. -/
theorem small_run {m : List StepN} {r : Int} (h : RunIs ns2 sdb 2 [] m r) (hf : Firsts ns2 sdb [] m r) : m = [s0N] ∧ r = 1 := by
  obtain ⟨ht, -, hnc, hr⟩ := h
  rw [List.nil_append] at ht hr
  have hm : m = [s0N] := by
    cases m with
    | nil =>
      rcases hr with ⟨_, hno⟩ | ⟨k, _, hk, hs⟩
      · exact absurd (by decide +kernel : OpenAt ns2 [] (sdb 0) 0) ((hno 0 (by omega)).2 0)
      · exfalso
        have : k = 0 ∨ k = 1 := by omega
        rcases this with rfl | rfl
        · exact absurd hs (by decide +kernel)
        · exact absurd hs (by decide +kernel)
    | cons s rest =>
      have h1 := (ht.at (n := 0) (by simp)).init
      simp only [List.take_zero, List.getElem_cons_zero] at h1
      have hs : s = s0N := by
        obtain ⟨-, -, h2⟩ := h1
        rcases h2 with ⟨c, hc, hc2, ho, hm, hl⟩ | ⟨hc, _⟩
        · have hb := hf.1 [] s rest rfl
          have hc0 : c = 0 := by
            have : c = 0 ∨ c = 1 := by omega
            rcases this with rfl | rfl
            · rfl
            · exact absurd (by decide +kernel : OpenAt ns2 [] (sdb 0) 0) ((hb 0 (by rw [hc]; decide)).2 0)
          subst hc0
          obtain ⟨u, mm, lv, c⟩ := s
          dsimp only at hc ho hm hl
          have hu : u = 0 := by
            have h2 := ho.1
            have : u = 0 ∨ u = 1 := by
              have : u < 2 := h2
              omega
            rcases this with rfl | rfl
            · rfl
            · exact absurd ho (by decide +kernel)
          subst hu
          rw [hm, hl, hc]
          decide +kernel
        · exact absurd hc (hnc _ List.mem_cons_self)
      subst hs
      cases rest with
      | nil => rfl
      | cons s2 rest =>
        exfalso
        have h2 := (ht.at (n := 1) (by simp)).init
        simp only [List.getElem_cons_succ, List.getElem_cons_zero, show (s0N :: s2 :: rest).take 1 = [s0N] from rfl] at h2
        obtain ⟨-, hu, h3⟩ := h2
        rcases h3 with ⟨c, hc, hc2, ho, _⟩ | ⟨hc, _⟩
        · have hu2 : s2.u < 2 := hu
          have h4 : ∀ c : Fin 2, ∀ u : Fin 2, ¬ OpenAt ns2 [s0N] (sdb c.val) u.val := by decide +kernel
          exact h4 ⟨c, hc2⟩ ⟨s2.u, hu2⟩ ho
        · exact absurd hc (hnc _ (List.mem_cons_of_mem _ List.mem_cons_self))
  subst hm
  refine ⟨rfl, ?_⟩
  rcases hr with ⟨_, hno⟩ | ⟨k, hk, hk2, hs⟩
  · exact absurd (by decide +kernel : Sure ns2 [s0N] (sdb 1)) (hno 1 (by omega)).1
  · have : k = 0 ∨ k = 1 := by omega
    rcases this with rfl | rfl
    · exact absurd hs (by decide +kernel)
    · exact hk
theorem small_tr : TrOk ns2 sdb 2 [s0N] := .derive [] s0N 0 .nil rfl (by omega) (by decide +kernel) (by decide +kernel) rfl
theorem sdb_ok : ∀ c, c < 2 → IncOk ns2 (sdb c) := by
  intro c hc
  have := dbF_ok (small_ok (s := ⟨[], []⟩) ⟨by show 0 ≤ 4000; omega, by show 0 ≤ 4000; omega⟩) rfl [] (c := c) (by rw [small_db]; exact hc)
  rwa [small_dbF] at this
theorem small_conf : Conf ns2 sdb 2 [s0N] (sdb 1) := ⟨ns2_ok, small_tr, sdb_ok, sdb_ok 1 (by omega), by decide +kernel⟩
theorem small_stop : stopB ns2 [s0N] (stL ns2 sdb [s0N] (sdb 1) 1).M = true ∧ ∀ i, i < 1 → stopB ns2 [s0N] (stL ns2 sdb [s0N] (sdb 1) i).M = false := by
  refine ⟨by decide +kernel, fun i hi => ?_⟩
  obtain rfl : i = 0 := by omega
  decide +kernel
/-- What is learnt of it. -/
theorem small_learn {j : Nat} (h1 : stopB ns2 [s0N] (stL ns2 sdb [s0N] (sdb 1) j).M = true) (h2 : ∀ i, i < j → stopB ns2 [s0N] (stL ns2 sdb [s0N] (sdb 1) i).M = false) :
    canon ns2 (stL ns2 sdb [s0N] (sdb 1) j).M = [] ∧ lvlOf ns2 [s0N] (stL ns2 sdb [s0N] (sdb 1) j).M = -1 ∧ (stL ns2 sdb [s0N] (sdb 1) j).links = [(0, 0)] := by
  obtain rfl : j = 1 := stop_one h1 h2 small_stop.1 small_stop.2
  exact ⟨by decide +kernel, by decide +kernel, by decide +kernel⟩
end Go.Proofs.YtmbjeppnamhgiaaGreat
end
section
/- Contract: linchpinmade.DB. -/
namespace Go.Proofs.YtmbjeppnamhgiaaGreat
open Go Go.RowKit

theorem terms1_info : (Tryz.prog.info? 34).map (fun i => (i.zero, i.size, i.bytes)) = some (some (.slice none 0 0), 1, 24) := by kernel_rfl
def DbPost (us : List UnitW) (al : List Nat) (w : World) (e : Ending) (w' : World) : Prop :=
  ∃ dv, e = .returned dv ∧ SliceRd (tSlice tTerm) w' (Lt w'.heap.size) dv (dbL (nsOf us) (dbF us al) (dbM us al).length) ∧ Below w.heap.size w w'
theorem ban_step {ns al : List Nat} {k : Nat} (hk : k < al.length) : banTo ns al (k + 1) = banTo ns al k ++ (if (makeN ns (banL ns k al[k])).isSome then [meetN ns (banL ns k al[k])] else []) := by
  show (match al[k]? with | some a => _ | none => _) = _
  rw [List.getElem?_eq_getElem hk]
/-- Those so far. -/
def rowsTo (us : List UnitW) (k : Nat) : List (List Term) := ((allN us).take k).map fun r => canon (nsOf us) r.M
def bansTo (us : List UnitW) (al : List Nat) (k : Nat) : List (List Term) := (allN us).map (fun r => canon (nsOf us) r.M) ++ (banTo (nsOf us) al k).map (canon (nsOf us))
theorem rows_snoc {us : List UnitW} {k : Nat} (hk : k < (allN us).length) : rowsTo us (k + 1) = rowsTo us k ++ [canon (nsOf us) (allN us)[k].M] := by
  unfold rowsTo
  rw [take_snoc hk, List.map_append]
  rfl
theorem rows_len {us : List UnitW} {k : Nat} (hk : k ≤ (allN us).length) : (rowsTo us k).length = k := by
  unfold rowsTo
  rw [List.length_map, List.length_take]
  omega
theorem rows_whole (us : List UnitW) (al : List Nat) : rowsTo us (allN us).length = bansTo us al 0 := by
  unfold rowsTo bansTo
  rw [List.take_of_length_le (Nat.le_refl _)]
  show _ = _ ++ []
  rw [List.append_nil]
theorem bans_whole (us : List UnitW) (al : List Nat) : bansTo us al (min al.length us.length) = dbL (nsOf us) (dbF us al) (dbM us al).length := by
  show _ = dbL (nsOf us) (fun i => (dbM us al)[i]?.getD fun _ => 0) (dbM us al).length
  rw [dbL_map]
  unfold bansTo dbM
  rw [List.map_append, List.map_map]
  rfl
theorem bans_len (us : List UnitW) (al : List Nat) (k : Nat) : (bansTo us al k).length ≤ (allN us).length + k := by
  unfold bansTo
  rw [List.length_append, List.length_map, List.length_map]
  have := (ban_ok (ns := nsOf us) al k).2
  omega
set_option maxRecDepth 100000 in
set_option maxHeartbeats 8000000 in
theorem db_any (v av : Value) (us : List UnitW) (al : List Nat) (w : World) (h : WorldRd w (Lt w.heap.size) v us) (ho : UnitsOk us) (h0 : (nsOf us).head? = some 1) (ha : SliceRd tInt w (Lt w.heap.size) av (natsI al)) (h31 : ∀ a ∈ al, a ≤ 31) :
    Calls Tryz.prog 11 #[v, av] w (DbPost us al w) := by
  obtain ⟨it, hit⟩ := info_parts terms1_info
  have HIT := hid hit
  have HW := hid h
  have HU := hid h.uni
  have HO := hid ho
  have HNS := hid ho.ns
  have HH0 := hid h0
  have H31 := hid h31
  have HA := hid ha
  have HF31 := hid (fun x => fullN_le ho.ns x)
  have h11 : us.length ≤ 11 := by have := ho.ns.hi; simpa [nsOf] using this
  have hrl : (allN us).length ≤ 300 := by have := (units_ok ho h0 us.length (Nat.le_refl _)).2; show (unitsN us us.length).length ≤ 300; omega
  obtain ⟨g, cap0, rfl, hg, -⟩ := h
  obtain ⟨Aa, ca, rfl, hca, hcam, hac⟩ := ha.ints
  have HAC := hid (show ∀ k, (hk : k < al.length) → ∃ g o, Aa = some ⟨g, o, none⟩ ∧ g < w.heap.size ∧ w.cell? ⟨g, o + k, none⟩ = some (.int .i64 (al[k] : Nat)) from fun k hk => by
    obtain ⟨g, o, h1, h2, h3, -⟩ := hac k (by rw [natsI_len]; exact hk)
    exact ⟨g, o, h1, h2, by rw [h3]; simp [natsI]⟩)
  rw [natsI_len] at hca ⊢
  unfold maxLen at hcam
  clear hit ho h0 h31 ha hac
  go_enter Tryz.func11, Tryz.ntmps11
  go_wp2_with fail
  obtain ⟨w0, hw0⟩ : ∃ w0 : World, w0 = w.alloc (.cells #[.slice (some ⟨g, 0, none⟩) us.length cap0] 26) := ⟨_, rfl⟩
  have hb0 : Below w.heap.size w w0 := hw0 ▸ balloc (b0 w) _
  have hz0 : w.heap.size < w0.heap.size := by rw [hw0]; simp
  have q0 : w0.cell? ⟨w.heap.size, 0, none⟩ = some (.slice (some ⟨g, 0, none⟩) us.length cap0) := by rw [hw0, alloc_cell]; rfl
  have HB0 := hid hb0
  rw [← hw0]
  clear hw0
  refine (all23_any _ us w0 (HW.out.lift hb0 hb0.size) HO.out HH0.out).mono ?_
  rintro e w1 ⟨rv, xs, rfl, hrv, hb1⟩
  have HRV := hid hrv
  have HB1 := hid hb1
  have HBW1 := hid (bstep hb0 hb1)
  have q1 := cell_below hb1 hz0 q0
  have hz1 := Nat.lt_of_lt_of_le hz0 hb1.size
  obtain ⟨R, hR⟩ : ∃ R, (allN us).length = R := ⟨_, rfl⟩
  obtain ⟨Ar, cr, hrve, hel⟩ := hrv.rows
  subst hrve
  rw [hR] at hrl HRV ⊢
  have HR := hid hR
  have HEL := hid hel
  clear hrv hb0 hb1 q0 hR hel
  go_wp2_with fail
  go_loopw [6, 7] (fun ov iv wr => ∃ (k : Nat) (xs : List Value), k ≤ R ∧ iv = .int .i64 k ∧ Hid (OwnT (tSlice tTerm) 34 wr w0.heap.size ov (rowsTo us k) xs) ∧ Hid (∀ b, ov.ownBlock = some b → w1.heap.size ≤ b) ∧ Hid (Below w1.heap.size w1 wr)) (fun _ iv _ => R - (intOf iv).toNat)
  case atStart => exact ⟨0, [], Nat.zero_le _, rfl, hid (OwnT.nil _ _ _ _), hid (fun b h => by cases h), hid (b0 w1)⟩
  case round =>
    obtain ⟨k, ys, hk, rfl, how, hown, hb⟩ := hrel
    obtain ⟨Ao, co, hov⟩ := own_form how.out.own
    rw [rows_len (by rw [HR.out]; exact hk)] at hov
    subst hov
    by_cases hlt : k < R
    · have i0 : (0 : Int) ≤ ↑k := by omega
      have i1 : (↑k : Int) < ↑R := by omega
      have hkL : k < (allN us).length := by rw [HR.out]; exact hlt
      obtain ⟨gr, tv, hA, hOB, hgB, hgs, hfz, -, -, -, -, c4, hsx⟩ := HEL.out k hkL
      subst hA
      have d4 := cell_below hb.out hgs c4
      obtain ⟨Ax, cx, hse, -⟩ := hsx.terms
      generalize (canon (nsOf us) (allN us)[k].M).length = tl at hse
      subst hse
      have HOWN := hid (show wr.ownsRow w0.heap.size 34 1 (.slice Ao k co) k ys by have h := how.out.own; rw [rows_len (Nat.le_of_lt hkL)] at h; exact h)
      have HTF := hid (fun o => show SliceRd tTerm (wr.alloc o) (fun b => w0.heap.size ≤ b ∧ b < (wr.alloc o).heap.size ∧ (Value.slice Ao k co).ownBlock ≠ some b) (.slice Ax tl cx) (canon (nsOf us) (allN us)[k].M) from (hsx.keep (Keeps.of_below (balloc hb.out o) fun _ h => h.2.1)).more fun b h => ⟨h.1, Nat.lt_of_lt_of_le h.2.1 (balloc hb.out o).size, fun e => by have := hown.out b e; omega⟩)
      have HRS := hid (rows_snoc hkL)
      have hbz := Nat.le_trans HB1.out.size hb.out.size
      have HKL := hid (rows_len (us := us) (Nat.le_of_lt hkL))
      clear hsx c4 hfz
      go_wp2_with (at_builtin; go_must (refine wpList_append_src _ rfl (.tmp 19) (.tmp 25) _ rfl w0.heap.size 34 it _ 1 24 Tryz.underlying28 HIT.out.1 HIT.out.2.1 HIT.out.2.2.1 HIT.out.2.2.2 rfl (by omega) (.slice Ao k co) k ys (by rfl) (by exact HOWN.out.alloc _) (some ⟨wr.heap.size, 0, none⟩) 1 1 [.slice Ax tl cx] (by rfl) (by exact src_new _ _ rfl 1 _ rfl rfl) (by simp [Value.oneCell']) (by unfold maxLen; omega) (by omega) (by simp; omega) ?_; intro v5 w5 hown5 hg5 hat5; have HR5 := hid (OwnT.snoc (t := tSlice tTerm) (x := canon (nsOf us) (allN us)[k].M) (cs := [.slice Ax tl cx]) (how.out.later (balloc (b0 wr) _)) rfl ⟨_, rfl, HTF.out _⟩ (by rw [HKL.out]; exact hown5) hg5 hat5); have HG5 := hid ((balloc hb.out (.cells #[.slice Ax tl cx] 34)).grown hg5 (by have := hb.out.size; simp; omega) fun b h => hown.out b h); have HA5 := hid (show ∀ b, v5.ownBlock = some b → w1.heap.size ≤ b from fun b h => by have := hb.out.size; rcases hat5 with e | e; exact hown.out b (e.symm.trans h); have h6 := Option.some.inj (e.symm.trans h); rw [← h6]; simp; omega); clear hown5 hg5 hat5))
      exact ⟨⟨k + 1, _, by omega, by go_num, hid (by rw [HRS.out]; exact HR5.out), HA5, HG5⟩, by simp [intOf]; omega⟩
    · have hkR : k = R := by omega
      subst hkR
      have HOW := hid (show OwnT (tSlice tTerm) 34 wr w0.heap.size (.slice Ao k co) (bansTo us al 0) ys by have h := how.out; rw [← HR.out, rows_whole us al] at h; rw [← HR.out]; exact h)
      have HBR := hid hb.out
      have HOWNB := hid hown.out
      clear how hown hb hlt
      go_wp2_with fail
      go_loopw [6, 8] (fun ov iv wq => ∃ (u : Nat) (xs : List Value), u ≤ min al.length us.length ∧ iv = .int .i64 u ∧ Hid (OwnT (tSlice tTerm) 34 wq w0.heap.size ov (bansTo us al u) xs) ∧ Hid (∀ b, ov.ownBlock = some b → w1.heap.size ≤ b) ∧ Hid (Below w1.heap.size w1 wq)) (fun _ iv _ => us.length - (intOf iv).toNat)
      case atStart => exact ⟨0, _, Nat.zero_le _, rfl, HOW, HOWNB, HBR⟩
      case round =>
        obtain ⟨u, ys, hu, rfl, how, hown, hb⟩ := hrel
        have q3 := cell_below hb.out hz1 q1
        have hqz : w.heap.size < wr.heap.size := Nat.lt_of_lt_of_le hz1 hb.out.size
        have HB3 := hid (HBW1.out.trans (hb.out.mono HBW1.out.size))
        obtain ⟨Ao, co, hov⟩ := own_form how.out.own
        have hbl := bans_len us al u
        rw [HR.out] at hbl
        obtain ⟨nb, hnb⟩ : ∃ nb, (bansTo us al u).length = nb := ⟨_, rfl⟩
        have HNB := hid hnb
        rw [hnb] at hov hbl
        subst hov
        clear hnb
        have hmin := Nat.le_min.1 hu
        by_cases hlt : u < al.length
        · by_cases hlt2 : u < us.length
          · have i0 : (0 : Int) ≤ ↑u := by omega
            have i1 : (↑u : Int) < ↑al.length := by omega
            have i2 : (↑u : Int) < ↑us.length := by omega
            obtain ⟨ga, oa, hA, hFa, ca0⟩ := HAC.out u hlt
            subst hA
            have ca3 := cell_below HB3.out hFa ca0
            have hga3 : ga < wr.heap.size := Nat.lt_of_lt_of_le hFa HB3.out.size
            have ha31 := H31.out _ (List.getElem_mem hlt)
            have hf31 := HF31.out u
            have hand := and_nat hf31 ha31
            have hle : fullN (nsOf us) u &&& al[u] ≤ fullN (nsOf us) u := Nat.and_le_left
            have HBS := hid (ban_step (ns := nsOf us) hlt)
            have HFL := hid (fun (W : World) (hb : Below wr.heap.size wr W) => rfull_any (.agg #[.slice (some ⟨g, 0, none⟩) us.length cap0]) (nsOf us) u W _ (uni_later HU.out (bstep HB3.out hb)) HNS.out ⟨by omega, by omega⟩ (fun _ h => h))
            rw [fullF_nat] at HFL
            have HMK := hid (fun (lv : Value) (l : List Term) (W : World) (hb : Below wr.heap.size wr W) (hl : SliceRd tTerm W (Lt W.heap.size) lv l) => rmake22_new (.agg #[.slice (some ⟨g, 0, none⟩) us.length cap0]) lv (nsOf us) l W (uni_later HU.out (bstep HB3.out hb)) HNS.out hl)
            have HBL : Hid (banL (nsOf us) u al[u] = [⟨(u : Int), ((fullN (nsOf us) u - (fullN (nsOf us) u &&& al[u]) : Nat) : Int)⟩]) := hid rfl
            obtain ⟨av, hav⟩ : ∃ av, al[u] = av := ⟨_, rfl⟩
            rw [hav] at ca3 hand hle HBS HBL
            obtain ⟨f, hf⟩ : ∃ f, fullN (nsOf us) u = f := ⟨_, rfl⟩
            rw [hf] at hf31 hand hle HFL HBL
            obtain ⟨fa, hfa⟩ : ∃ fa, f &&& av = fa := ⟨_, rfl⟩
            rw [hfa] at hand hle HBL
            have hsub : IntKind.i64.wrap ((f : Int) - (fa : Int)) = ((f - fa : Nat) : Int) := by rw [IntWalk.i64_in _ (by omega)]; omega
            have hm31 : f - fa ≤ 31 := by omega
            obtain ⟨m, hm⟩ : ∃ m, f - fa = m := ⟨_, rfl⟩
            rw [hm] at hsub HBL hm31
            have HOKT := hid (show fTerm.ok ⟨(u : Int), (m : Int)⟩ from ⟨⟨by show -9223372036854775808 ≤ (u : Int); omega, by show (u : Int) ≤ 9223372036854775807; omega⟩, i64_small hm31⟩)
            have t1 := hid True.intro
            clear ca0 hav hf hfa hm hf31 ha31
            go_wp2_with fail
            go_region_held3 (fun w' => w'.cell? ⟨w.heap.size, 0, none⟩ = some (.slice (some ⟨g, 0, none⟩) us.length cap0) ∧ w'.cell? ⟨ga, oa + u, none⟩ = some (.int .i64 av)) (first | exact ⟨by assumption, by assumption⟩ | go_keep) (first
              | (clear t1; go_at_call 40; refine (HFL.out _ (b0 wr).drew).mono ?_; rintro e w5 ⟨rfl, hb5⟩; have HB5 := hid ((b0 wr).drew.trans (hb5.mono (Nat.le_refl _))); have f0 := cell_below HB5.out hqz q3; have f1 := cell_below HB5.out hga3 ca3; clear hb5)
              | (go_at_call 40; refine (HFL.out _ HB5.out).mono ?_; rintro e w6 ⟨rfl, hb6⟩; have HB6 := hid (bstep HB5.out hb6); have g0 := cell_below HB6.out hqz q3; have g1 := cell_below HB6.out hga3 ca3; have HON := hid (own_new (f := fTerm) (e := 54) (w := w6) (l := [⟨(u : Int), (m : Int)⟩]) (cs := #[.int .i64 u, .int .i64 m]) rfl (fun x hx => by rw [List.mem_singleton.1 hx]; exact HOKT.out) (by simp [maxLen])); clear hb6)
              | (go_at_call 39; refine (HMK.out _ _ _ (balloc HB6.out _) HON.out.rd).mono ?_; rintro e w7 ⟨sv, rfl, hsv, hb7⟩; rw [← HBL.out] at hsv ⊢; obtain ⟨As, cs4, hse, -⟩ := hsv.terms; generalize ((makeN (nsOf us) (banL (nsOf us) u av)).getD []).length = ln at hse; subst hse; have HB7 := hid (bstep (balloc HB6.out _) hb7); have HSV := hid (hsv.more (F' := fun b => wr.heap.size ≤ b ∧ b < w7.heap.size) fun b h => ⟨by have := h.1; have := HB6.out.size; simp at *; omega, h.2⟩); have h0 := cell_below HB7.out hqz q3; have h1 := cell_below HB7.out hga3 ca3; clear hsv hb7))
            obtain ⟨mk, hmk⟩ : ∃ mk, makeN (nsOf us) (banL (nsOf us) u av) = mk := ⟨_, rfl⟩
            rw [hmk] at HSV HBS ⊢
            have HMKE := hid hmk
            have HB17 := hid (bstep hb.out HB7.out)
            have hs7 := HB7.out.size
            have hbs := hb.out.size
            have hb1s := HB1.out.size
            have how7 := how.out.later HB7.out
            have HOW7 := hid how7
            clear hmk g0 g1 f0 f1
            cases mk with
            | none =>
              have HBE := hid (show bansTo us al (u + 1) = bansTo us al u by unfold bansTo; rw [HBS.out]; simp)
              go_wp2
              exact ⟨⟨u + 1, ys, by omega, by go_num, hid (by rw [HBE.out]; exact HOW7.out), hown, HB17⟩, by simp [intOf]; omega⟩
            | some T =>
              obtain ⟨hM1, hM2⟩ := make_some HMKE.out
              subst hM2
              have HBE := hid (show bansTo us al (u + 1) = bansTo us al u ++ [canon (nsOf us) (meetN (nsOf us) (banL (nsOf us) u av))] by unfold bansTo; rw [HBS.out]; simp)
              have HOWN7 := hid (show w7.ownsRow w0.heap.size 34 1 (.slice Ao nb co) nb ys by have h := HOW7.out.own; rw [HNB.out] at h; exact h)
              have HTF := hid (fun o => show SliceRd tTerm (w7.alloc o) (fun b => w0.heap.size ≤ b ∧ b < (w7.alloc o).heap.size ∧ (Value.slice Ao nb co).ownBlock ≠ some b) (.slice As ln cs4) (canon (nsOf us) (meetN (nsOf us) (banL (nsOf us) u av))) from (HSV.out.keep (Keeps.of_below (balloc (b0 w7) o) fun _ h => h.2)).more fun b h => ⟨by have := h.1; omega, Nat.lt_of_lt_of_le h.2 (balloc (b0 w7) o).size, fun e => by have h1 := (how.out.own.lt b e).2; have := h.1; omega⟩)
              clear hM1 how7
              go_wp2_with (at_builtin; go_must (refine wpList_append_src _ rfl (.tmp 61) (.tmp 63) _ rfl w0.heap.size 34 it _ 1 24 Tryz.underlying28 HIT.out.1 HIT.out.2.1 HIT.out.2.2.1 HIT.out.2.2.2 rfl (by omega) (.slice Ao nb co) nb ys (by rfl) (by exact HOWN7.out.alloc _) (some ⟨w7.heap.size, 0, none⟩) 1 1 [.slice As ln cs4] (by rfl) (by exact src_new _ _ rfl 1 _ rfl rfl) (by simp [Value.oneCell']) (by unfold maxLen; omega) (by omega) (by simp; omega) ?_; intro v8 w8 hown8 hg8 hat8; have HR8 := hid (OwnT.snoc (t := tSlice tTerm) (x := canon (nsOf us) (meetN (nsOf us) (banL (nsOf us) u av))) (cs := [.slice As ln cs4]) (HOW7.out.later (balloc (b0 w7) _)) rfl ⟨_, rfl, HTF.out _⟩ (by rw [HNB.out]; exact hown8) hg8 hat8); have HG8 := hid ((balloc HB17.out (.cells #[.slice As ln cs4] 34)).grown hg8 (by simp; omega) fun b h => hown.out b h); have HA8 := hid (show ∀ b, v8.ownBlock = some b → w1.heap.size ≤ b from fun b h => by rcases hat8 with e | e; exact hown.out b (e.symm.trans h); have h6 := Option.some.inj (e.symm.trans h); rw [← h6]; simp; omega); clear hown8 hg8 hat8))
              exact ⟨⟨u + 1, _, by omega, by go_num, hid (by rw [HBE.out]; exact HR8.out), HA8, HG8⟩, by simp [intOf]; omega⟩
          · have hum : u = min al.length us.length := by omega
            have i1 : (↑u : Int) < ↑al.length := by omega
            have i2 : ¬ ((↑u : Int) < ↑us.length) := by omega
            have HEND := hid (show SliceRd (tSlice tTerm) wr (Lt wr.heap.size) (.slice Ao nb co) (dbL (nsOf us) (dbF us al) (dbM us al).length) by rw [← bans_whole, ← hum]; exact how.out.rd)
            clear hum
            go_wp2
            go_ret
            exact ⟨_, rfl, HEND.out, HB3.out⟩
        · have hum : u = min al.length us.length := by omega
          have i1 : ¬ ((↑u : Int) < ↑al.length) := by omega
          have HEND := hid (show SliceRd (tSlice tTerm) wr (Lt wr.heap.size) (.slice Ao nb co) (dbL (nsOf us) (dbF us al) (dbM us al).length) by rw [← bans_whole, ← hum]; exact how.out.rd)
          clear hum
          go_wp2
          go_ret
          exact ⟨_, rfl, HEND.out, HB3.out⟩
end Go.Proofs.YtmbjeppnamhgiaaGreat
end
section
/- Contract: law26.conflict. -/
namespace Go.Proofs.YtmbjeppnamhgiaaGreat
open Go Go.RowKit

/-- What a conflict tells. -/
def ConfPost (ns : List Nat) (db : Nat → Nat → Nat) (D : Nat) (w : World) (e : Ending) (w' : World) : Prop :=
  ∃ tv l r, e = .returned (.tuple #[tv, .int .i64 r, .bool (decide (0 ≤ r))]) ∧ TrOk ns db D l ∧ l.length ≤ 800 ∧ SliceRd fStep.ty w' (Lt w'.heap.size) tv l ∧ (r = -1 ∨ ∃ k : Nat, r = (k : Int) ∧ k < D ∧ Sure ns l (db k)) ∧ Below w.heap.size w w'
set_option maxHeartbeats 2000000 in
theorem conflict_any (v dv xv : Value) (ns : List Nat) (db : Nat → Nat → Nat) (D : Nat) (xs : List Int) (w : World) (h : UniRd w (Lt w.heap.size) v ns) (ho : NsOk ns) (hd : SliceRd (tSlice tTerm) w (Lt w.heap.size) dv (dbL ns db D)) (hok : ∀ c, c < D → IncOk ns (db c)) (hD : D ≤ 100000) (hx : SliceRd tInt w (Lt w.heap.size) xv xs) :
    Calls Tryz.prog 13 #[v, dv, xv] w (ConfPost ns db D w) := by
  have HT := hid (fun (W : World) (hb : Below w.heap.size w W) => trail_any v dv xv ns db D xs W (uni_later h hb) ho (hd.lift hb hb.size) hok hD (hx.lift hb hb.size))
  obtain ⟨g, cap0, rfl, hg, -⟩ := h
  obtain ⟨Ad, capd, rfl, -⟩ := hd.dbs
  obtain ⟨Ax, capx, rfl, -⟩ := hx.ints
  clear hd hx ho hok
  have hbb := balloc (b0 w) (.cells #[.slice (some ⟨g, 0, none⟩) ns.length cap0] 26)
  have HB := hid hbb
  have HC := hid (HT.out _ hbb)
  clear hbb HT
  go_enter Tryz.func13, Tryz.ntmps13
  go_wp2_with (go_at_call 43; go_must (refine HC.out.mono ?_; rintro e w1 ⟨tv, l, r, rfl, ht, hl, htv, hr, hb⟩; have HTR := hid ht; have HL := hid hl; have HTV := hid htv; have HR := hid hr; have HB1 := hid (bstep HB.out hb); clear ht hl htv hr hb))
  exact bodyPost_ret (v := .tuple #[tv, .int .i64 r, .bool (decide (0 ≤ r))]) (by simp [results, Tryz.results13, go_sem]) rfl ⟨tv, l, r, rfl, HTR.out, HL.out, HTV.out, HR.out, HB1.out⟩
end Go.Proofs.YtmbjeppnamhgiaaGreat
end
section
/- A world by numbers as data; its incompatibilities, whatever they are. -/
namespace Go.Proofs.YtmbjeppnamhgiaaGreat
open Go Go.RowKit

/-- What a world by numbers shows. -/
def W26 (w : World) (e : Ending) (w' : World) : Prop :=
  ∃ (g c : Nat) (us : List UnitW), e = .returned (.agg #[.slice (some ⟨g, 0, none⟩) us.length c]) ∧ WorldRd w' (Lt w'.heap.size) (.agg #[.slice (some ⟨g, 0, none⟩) us.length c]) us ∧ UnitsOk us ∧ (nsOf us).head? = some 1 ∧ Below w.heap.size w w'
theorem world26_any (lv : Value) (xs : List Int) (most : Int) (w : World) (h : SliceRd tInt w (Lt w.heap.size) lv xs) (hm1 : 1 ≤ most) (hm2 : most ≤ 5) :
    Calls Tryz.prog 10 #[lv, .int .i64 most] w (W26 w) := by
  refine (world_any lv xs most w h hm1 hm2).mono ?_
  rintro e w' ⟨g, c, us, nf, rfl, hB, h2, h11, hhd, hb, R, hdat⟩
  obtain ⟨l, h1, ho, hns, h0⟩ := world_data hB hdat h2 h11 hhd
  have hl : us.length = l.length := by
    have := congrArg List.length hns
    simpa [nsOf] using this.symm
  exact ⟨g, c, l, by rw [hl], by rw [← hl]; exact h1, ho, h0, hb⟩
/-- Incompatibilities that may be. -/
def DbSome (ns : List Nat) (w : World) (e : Ending) (w' : World) : Prop :=
  ∃ dv db D, e = .returned dv ∧ SliceRd (tSlice tTerm) w' (Lt w'.heap.size) dv (dbL ns db D) ∧ (∀ c, c < D → IncOk ns (db c)) ∧ D ≤ 400 ∧ Below w.heap.size w w'
theorem db_some (v av : Value) (us : List UnitW) (al : List Nat) (w : World) (h : WorldRd w (Lt w.heap.size) v us) (ho : UnitsOk us) (h0 : (nsOf us).head? = some 1) (ha : SliceRd tInt w (Lt w.heap.size) av (natsI al)) (h31 : ∀ a ∈ al, a ≤ 31) :
    Calls Tryz.prog 11 #[v, av] w (DbSome (nsOf us) w) := by
  refine (db_any v av us al w h ho h0 ha h31).mono ?_
  rintro e w' ⟨dv, rfl, hd, hb⟩
  exact ⟨dv, _, _, rfl, hd, fun c hc => dbF_ok ho h0 al hc, (db_ok ho h0 al).2, hb⟩
end Go.Proofs.YtmbjeppnamhgiaaGreat
end
section
/- Contract: law26.small. -/
namespace Go.Proofs.YtmbjeppnamhgiaaGreat
open Go Go.RowKit

/-- A block of one, read. -/
theorem rd_one {α : Type} {t : Ty α} {w : World} {F : Nat → Prop} {b : Nat} {ca : Array Value} {T : TypeId} {x : α} (h : w.heap[b]? = some (.cells ca T (0, 0))) (hF : F b) (hx : t.rd w F ca.toList x) : SliceRd t w F (.slice (some ⟨b, 0, none⟩) 1 1) [x] := by
  refine ⟨_, 1, rfl, Nat.le_refl _, by unfold maxLen; omega, fun k hk => ⟨b, 0, ca.toList, rfl, hF, t.len hx, fun j _ => ?_, ?_⟩⟩
  · obtain rfl : k = 0 := by simpa using hk
    rw [cell_of_row _ _ _ _ _ _ h, Nat.zero_mul, Nat.add_zero, Nat.zero_add, Array.getElem?_toList]
  · obtain rfl : k = 0 := by simpa using hk
    exact hx
/-- The small world where it lies. -/
theorem small_world {W : World} {b1 b2 b3 b4 : Nat} {rv pv : Value} {s : SetD} {T1 T2 T3 T4 : TypeId} (h1 : W.heap[b1]? = some (.cells #[.int .i64 1, rv, pv] T1 (0, 0))) (h2 : W.heap[b2]? = some (.cells #[.slice (some ⟨b1, 0, none⟩) 1 1] T2 (0, 0)))
    (h3 : W.heap[b3]? = some (.cells #[.int .i64 0, .int .i64 0, .int .i64 0, .string ⟨#[]⟩, .string ⟨#[]⟩, .int .i64 (-1), .slice (some ⟨b2, 0, none⟩) 1 1, .slice none 0 0] T3 (0, 0)))
    (h4 : W.heap[b4]? = some (.cells #[.string ⟨#[]⟩, .string ⟨#[]⟩, .slice (some ⟨b3, 0, none⟩) 1 1, .string ⟨#[97, 110, 116]⟩, .string ⟨#[]⟩, .slice none 0 0] T4 (0, 0)))
    (hr : SliceRd fSpan.ty W (Lt W.heap.size) rv s.rel) (hp : SliceRd fSpan.ty W (Lt W.heap.size) pv s.pre) : WorldRd W (Lt W.heap.size) (.agg #[.slice (some ⟨b4, 0, none⟩) 2 2]) (smallU s) := by
  have lt : ∀ {b : Nat} {o : Obj}, W.heap[b]? = some o → b < W.heap.size := fun h => (Array.getElem?_eq_some_iff.1 h).1
  have e1 : SliceRd tWant W (Lt W.heap.size) (.slice (some ⟨b1, 0, none⟩) 1 1) [⟨1, s⟩] := rd_one h1 (lt h1) ⟨rv, pv, rfl, ⟨by show (-9223372036854775808 : Int) ≤ 1; omega, by show (1 : Int) ≤ 9223372036854775807; omega⟩, rv, pv, rfl, hr, hp⟩
  have e2 : SliceRd (tSlice tWant) W (Lt W.heap.size) (.slice (some ⟨b2, 0, none⟩) 1 1) [[⟨1, s⟩]] := rd_one h2 (lt h2) ⟨_, rfl, e1⟩
  refine ⟨b4, 2, rfl, lt h4, _, 2, rfl, Nat.le_refl _, by unfold maxLen; omega, fun k hk => ?_⟩
  match k, hk with
  | 0, _ =>
    refine ⟨b4, 0, [.string ⟨#[]⟩, .string ⟨#[]⟩, .slice (some ⟨b3, 0, none⟩) 1 1], rfl, lt h4, rfl, fun j hj => ?_, _, rfl, ⟨_, 1, rfl, fun i hi => ?_⟩⟩
    · rw [cell_of_row _ _ _ _ _ _ h4]
      match j, hj with
      | 0, _ => rfl
      | 1, _ => rfl
      | 2, _ => rfl
    · obtain rfl : i = 0 := by have h : i < 1 := hi; omega
      refine ⟨b3, 0, [.int .i64 0, .int .i64 0, .int .i64 0, .string ⟨#[]⟩, .string ⟨#[]⟩, .int .i64 (-1), .slice (some ⟨b2, 0, none⟩) 1 1, .slice none 0 0], rfl, lt h3, rfl, fun j hj => ?_, _, _, rfl, (show VB 0 0 0 ⟨#[]⟩ ⟨#[]⟩ from ⟨⟨by omega, by omega⟩, ⟨by omega, by omega⟩, ⟨by omega, by omega⟩, by decide, by decide⟩), e2, SliceRd.nil _ _ _⟩
      rw [cell_of_row _ _ _ _ _ _ h3]
      match j, hj with
      | 0, _ => rfl
      | 1, _ => rfl
      | 2, _ => rfl
      | 3, _ => rfl
      | 4, _ => rfl
      | 5, _ => rfl
      | 6, _ => rfl
      | 7, _ => rfl
  | 1, _ =>
    refine ⟨b4, 0, [.string ⟨#[97, 110, 116]⟩, .string ⟨#[]⟩, .slice none 0 0], rfl, lt h4, rfl, fun j hj => ?_, _, rfl, ⟨_, 0, rfl, fun i hi => absurd hi (by show ¬ i < 0; omega)⟩⟩
    rw [cell_of_row _ _ _ _ _ _ h4]
    match j, hj with
    | 0, _ => rfl
    | 1, _ => rfl
    | 2, _ => rfl
def SmallPost (w : World) (e : Ending) (w' : World) : Prop := ∃ g s, e = .returned (.agg #[.slice (some ⟨g, 0, none⟩) 2 2]) ∧ WorldRd w' (Lt w'.heap.size) (.agg #[.slice (some ⟨g, 0, none⟩) 2 2]) (smallU s) ∧ s.ok ∧ Below w.heap.size w w'
/-- The result's box. -/
theorem small_box {w w1 : World} (hb1 : Below (w.alloc (.cells #[.slice none 0 0] 26)).heap.size (w.alloc (.cells #[.slice none 0 0] 26)) w1) : w.heap.size < w1.heap.size ∧ ∀ o1 o2 o3 o4 : Obj, ((((w1.alloc o1).alloc o2).alloc o3).alloc o4).heap[w.heap.size]? = some (.cells #[.slice none 0 0] 26 (0, 0)) := by
  have hrb : w1.heap[w.heap.size]? = some (.cells #[.slice none 0 0] 26 (0, 0)) := (hb1.block _ (by simp)).trans (heap_alloc_new w _)
  have hrl : w.heap.size < w1.heap.size := (Array.getElem?_eq_some_iff.1 hrb).1
  exact ⟨hrl, fun o1 o2 o3 o4 => ((balloc (balloc (balloc (balloc (b0 w1) o1) o2) o3) o4).block _ hrl).trans hrb⟩
theorem small_zero {w1 : World} {o1 o2 o3 o4 : Obj} {g : Nat} (h : ((((w1.alloc o1).alloc o2).alloc o3).alloc o4).heap[g]? = some (.cells #[.slice none 0 0] 26 (0, 0))) : ((((w1.alloc o1).alloc o2).alloc o3).alloc o4).cell? ⟨g, 0, none⟩ = some (.slice none 0 0) := by
  rw [cell_of_row _ _ _ _ _ _ h]
  rfl
theorem small_set {w1 : World} {o1 o2 o3 o4 : Obj} {g : Nat} (x : Value) (h : ((((w1.alloc o1).alloc o2).alloc o3).alloc o4).heap[g]? = some (.cells #[.slice none 0 0] 26 (0, 0))) : (((((w1.alloc o1).alloc o2).alloc o3).alloc o4).setCell ⟨g, 0, none⟩ x).cell? ⟨g, 0, none⟩ = some x := by
  rw [cell_of_row _ _ _ _ _ _ (heap_setCell_same _ _ _ _ _ _ h)]
  rfl
theorem small_blocks {w1 : World} {o1 o2 o3 o4 : Obj} {p : Addr} (x : Value) (hp : p.block < w1.heap.size) : (((((w1.alloc o1).alloc o2).alloc o3).alloc o4).setCell p x).heap[w1.heap.size]? = some o1 ∧ (((((w1.alloc o1).alloc o2).alloc o3).alloc o4).setCell p x).heap[w1.heap.size + 1]? = some o2 ∧ (((((w1.alloc o1).alloc o2).alloc o3).alloc o4).setCell p x).heap[w1.heap.size + 1 + 1]? = some o3 ∧ (((((w1.alloc o1).alloc o2).alloc o3).alloc o4).setCell p x).heap[w1.heap.size + 1 + 1 + 1]? = some o4 := by
  have s1 : (w1.alloc o1).heap.size = w1.heap.size + 1 := by simp
  have s2 : ((w1.alloc o1).alloc o2).heap.size = w1.heap.size + 1 + 1 := by simp
  have s3 : (((w1.alloc o1).alloc o2).alloc o3).heap.size = w1.heap.size + 1 + 1 + 1 := by simp
  have e1 := heap_alloc_new w1 o1
  have e2 := heap_alloc_new (w1.alloc o1) o2
  have e3 := heap_alloc_new ((w1.alloc o1).alloc o2) o3
  have e4 := heap_alloc_new (((w1.alloc o1).alloc o2).alloc o3) o4
  rw [s1] at e2
  rw [s2] at e3
  rw [s3] at e4
  refine ⟨?_, ?_, ?_, ?_⟩
  · rw [heap_setCell_other _ _ _ _ (by omega), Below.heap_alloc _ _ _ (by omega), Below.heap_alloc _ _ _ (by omega), Below.heap_alloc _ _ _ (by omega)]; exact e1
  · rw [heap_setCell_other _ _ _ _ (by omega), Below.heap_alloc _ _ _ (by omega), Below.heap_alloc _ _ _ (by omega)]; exact e2
  · rw [heap_setCell_other _ _ _ _ (by omega), Below.heap_alloc _ _ _ (by omega)]; exact e3
  · rw [heap_setCell_other _ _ _ _ (by omega)]; exact e4
set_option maxRecDepth 100000 in
set_option maxHeartbeats 4000000 in
theorem small_any (w : World) : Calls Tryz.prog 32 #[] w (SmallPost w) := by
  go_enter Tryz.func32, Tryz.ntmps32
  go_wp2_with (go_at_call 57; refine (all5_any _).mono ?_; rintro e w1 ⟨rv, pv, L, M, rfl, hol, hom, hl, hm, hb1⟩; obtain ⟨hrl, hbx⟩ := small_box hb1; have hf4 := fun o1 o2 o3 o4 => frozen_of_row _ _ 0 _ _ (hbx o1 o2 o3 o4); have hr4 := fun o1 o2 o3 o4 => small_zero (hbx o1 o2 o3 o4); have hr5 := fun o1 o2 o3 o4 x => small_set x (hbx o1 o2 o3 o4); have HOL := hid hol; have HOM := hid hom; have HL := hid hl; have HM := hid hm; have HB1 := hid hb1; have HRL := hid hrl; clear hol hom hl hm hb1)
  refine bodyPost_ret (v := .agg #[.slice (some ⟨w1.heap.size + 1 + 1 + 1, 0, none⟩) 2 2]) (by simp [results, Tryz.results32, go_sem, hr5]) rfl ?_
  have hB := (balloc (b0 w) (.cells #[.slice none 0 0] 26)).trans (HB1.out.mono (by simp))
  have hk : ∀ {v : Value} {l : List Span} (o1 o2 o3 o4 : Obj) (x : Value), OwnSpans (w.alloc (.cells #[.slice none 0 0] 26)).heap.size w1 v l → OwnSpans (w.alloc (.cells #[.slice none 0 0] 26)).heap.size (((((w1.alloc o1).alloc o2).alloc o3).alloc o4).setCell ⟨w.heap.size, 0, none⟩ x) v l := fun o1 o2 o3 o4 x h => (h.below (balloc (balloc (balloc (balloc (b0 w1) o1) o2) o3) o4) (Nat.le_refl _)).set (by show w.heap.size < _; simp) x
  obtain ⟨x1, x2, x3, x4⟩ := small_blocks (p := ⟨w.heap.size, 0, none⟩) _ HRL.out
  refine ⟨_, ⟨L, M⟩, rfl, small_world x1 x2 x3 x4 (hk _ _ _ _ _ HOL.out).rd (hk _ _ _ _ _ HOM.out).rd, ⟨by have := HL.out; show L.length ≤ 4000; omega, by have := HM.out; show M.length ≤ 4000; omega⟩, bset (balloc (balloc (balloc (balloc hB _) _) _) _) (Nat.le_refl _) _⟩
end Go.Proofs.YtmbjeppnamhgiaaGreat
end
section
/- Contracts: linchpinmade.SameSteps, linchpinlaw26.same, at rows that are alike. -/
namespace Go.Proofs.YtmbjeppnamhgiaaGreat
open Go Go.RowKit
attribute [local go_sem ↓] Go.wp_at_zero Go.wp_at_succ

theorem step_neq (a b c d : Int) (W : World) : (binOp .neq 98 (.agg #[.int .i64 a, .int .i64 b, .int .i64 c, .int .i64 d]) (.agg #[.int .i64 a, .int .i64 b, .int .i64 c, .int .i64 d])).run Tryz.prog W = .ok (.bool false) W := by
  have u3 := Tryz.underlying3
  have a3 := Tryz.isAgg3
  have z3 := Tryz.sizeOf3
  have hS : Tryz.prog.underlying 98 = some (.struct (Tryz.prog.fieldsOf 98)) := by kernel_rfl
  have hp : Tryz.prog.stoodInHeld 98 = false := by kernel_rfl
  rw [run_neq_struct, show (10000 : Nat) = 9999 + 1 from rfl, run_equalIn_agg W 9999 98 _ _ hS hp]
  simp only [Program.fieldsOf, Tryz.underlying98]
  go_simp
theorem step_neqg (a b c d : Int) (op : BinOp) (x y : Operand) (W : World) : (eqGuard op 98 x y (.agg #[.int .i64 a, .int .i64 b, .int .i64 c, .int .i64 d]) (.agg #[.int .i64 a, .int .i64 b, .int .i64 c, .int .i64 d])).run Tryz.prog W = .ok () W :=
  run_eqGuard_agg W op 98 x y _ _ (by kernel_rfl)
set_option maxRecDepth 100000 in
set_option maxHeartbeats 1000000 in
theorem sameSteps_any (v v' : Value) (l : List StepN) (w : World) (h : SliceRd fStep.ty w (Lt w.heap.size) v l) (h' : SliceRd fStep.ty w (Lt w.heap.size) v' l) :
    Calls Tryz.prog 18 #[v, v'] w fun e w' => e = .returned (.bool true) ∧ Below w.heap.size w w' := by
  obtain ⟨A, cap, rfl, hcap, hmax, hc⟩ := SliceRd.steps h
  obtain ⟨A', cap', rfl, hcap', hmax', hc'⟩ := SliceRd.steps h'
  unfold maxLen at hmax hmax'
  have HC := hid hc
  have HC' := hid hc'
  clear hc hc' h h'
  have hb1 : ((l.length : Int) != (l.length : Int)) = false := by simp
  go_enter Tryz.func18, Tryz.ntmps18
  go_wp2
  go_loopw [5] (fun iv wr => ∃ k : Nat, k ≤ l.length ∧ iv = .int .i64 k ∧ Hid (Below w.heap.size w wr)) (fun iv _ => l.length - (intOf iv).toNat)
  case atStart => exact ⟨0, Nat.zero_le _, rfl, hid (b0 w)⟩
  case round =>
    obtain ⟨k, hk, rfl, hb⟩ := hrel
    by_cases hlt : k < l.length
    · obtain ⟨g, o, hA, hF, ⟨e0, e1, e2, e3⟩, -⟩ := HC.out k hlt
      obtain ⟨g', o', hA', hF', ⟨e0', e1', e2', e3'⟩, -⟩ := HC'.out k hlt
      subst hA hA'
      have i1 : (0 : Int) ≤ ↑k := by omega
      have i2 : (↑k : Int) < ↑l.length := by omega
      have c0 := cell_below hb.out hF e0
      have d0 := cell_below hb.out hF' e0'
      have c1 := cell_below hb.out hF e1
      have d1 := cell_below hb.out hF' e1'
      have c2 := cell_below hb.out hF e2
      have d2 := cell_below hb.out hF' e2'
      have c3 := cell_below hb.out hF e3
      have d3 := cell_below hb.out hF' e3'
      clear e0 e0' e1 e1' e2 e2' e3 e3'
      obtain ⟨s, hs⟩ : ∃ s, l[k] = s := ⟨_, rfl⟩
      rw [hs] at c0 d0 c1 d1 c2 d2 c3 d3
      clear hs
      obtain ⟨a, b, c, d⟩ := s
      dsimp only at c0 c1 c2 c3 d0 d1 d2 d3
      have hn := fun W => step_neq (a : Int) (b : Int) (c : Int) d W
      have hgd := fun op x y W => step_neqg (a : Int) (b : Int) (c : Int) d op x y W
      go_wp2
      go_quiet (fail)
      go_wp2
      exact ⟨⟨k + 1, by omega, by go_num, hid (below_drewN hb.out _)⟩, by simp [intOf]; omega⟩
    · have hkl : k = l.length := by omega
      subst hkl
      clear hlt
      go_wp2
      go_ret
      exact ⟨rfl, hb.out⟩
theorem links_open {w : World} {F : Nat → Prop} {v : Value} {l : List (Nat × Nat)} (h : SliceRd fLink.ty w F v l) :
    ∃ A cap, v = .slice A l.length cap ∧ l.length ≤ cap ∧ cap ≤ maxLen ∧ ∀ k, (hk : k < l.length) → ∃ g o, A = some ⟨g, o, none⟩ ∧ F g ∧ w.cell? ⟨g, o + k * 2, none⟩ = some (.int .i64 l[k].1) ∧ w.cell? ⟨g, o + k * 2 + 1, none⟩ = some (.int .i64 l[k].2) := by
  obtain ⟨A, cap, hv, h1, h2, h3⟩ := h.flat
  refine ⟨A, cap, hv, h1, h2, fun k hk => ?_⟩
  obtain ⟨g, o, hA, hF, _, hc⟩ := h3 k hk
  exact ⟨g, o, hA, hF, hc 0 _ rfl, hc 1 _ rfl⟩
theorem link_neq (a b : Int) (W : World) : (binOp .neq 56 (.agg #[.int .i64 a, .int .i64 b]) (.agg #[.int .i64 a, .int .i64 b])).run Tryz.prog W = .ok (.bool false) W := by
  have u3 := Tryz.underlying3
  have a3 := Tryz.isAgg3
  have z3 := Tryz.sizeOf3
  have hS : Tryz.prog.underlying 56 = some (.struct (Tryz.prog.fieldsOf 56)) := by kernel_rfl
  have hp : Tryz.prog.stoodInHeld 56 = false := by kernel_rfl
  rw [run_neq_struct, show (10000 : Nat) = 9999 + 1 from rfl, run_equalIn_agg W 9999 56 _ _ hS hp]
  simp only [Program.fieldsOf, Tryz.underlying56]
  go_simp
theorem link_neqg (a b : Int) (op : BinOp) (x y : Operand) (W : World) : (eqGuard op 56 x y (.agg #[.int .i64 a, .int .i64 b]) (.agg #[.int .i64 a, .int .i64 b])).run Tryz.prog W = .ok () W :=
  run_eqGuard_agg W op 56 x y _ _ (by kernel_rfl)
set_option maxRecDepth 100000 in
set_option maxHeartbeats 1000000 in
theorem sameLinks_any (v v' : Value) (l : List (Nat × Nat)) (w : World) (h : SliceRd fLink.ty w (Lt w.heap.size) v l) (h' : SliceRd fLink.ty w (Lt w.heap.size) v' l) :
    Calls Tryz.prog 17 #[v, v'] w fun e w' => e = .returned (.bool true) ∧ Below w.heap.size w w' := by
  obtain ⟨A, cap, rfl, hcap, hmax, hc⟩ := links_open h
  obtain ⟨A', cap', rfl, hcap', hmax', hc'⟩ := links_open h'
  unfold maxLen at hmax hmax'
  have HC := hid hc
  have HC' := hid hc'
  clear hc hc' h h'
  have hb1 : ((l.length : Int) != (l.length : Int)) = false := by simp
  go_enter Tryz.func17, Tryz.ntmps17
  go_wp2
  go_loopw [5] (fun iv wr => ∃ k : Nat, k ≤ l.length ∧ iv = .int .i64 k ∧ Hid (Below w.heap.size w wr)) (fun iv _ => l.length - (intOf iv).toNat)
  case atStart => exact ⟨0, Nat.zero_le _, rfl, hid (b0 w)⟩
  case round =>
    obtain ⟨k, hk, rfl, hb⟩ := hrel
    by_cases hlt : k < l.length
    · obtain ⟨g, o, hA, hF, e0, e1⟩ := HC.out k hlt
      obtain ⟨g', o', hA', hF', e0', e1'⟩ := HC'.out k hlt
      subst hA hA'
      have i1 : (0 : Int) ≤ ↑k := by omega
      have i2 : (↑k : Int) < ↑l.length := by omega
      have c0 := cell_below hb.out hF e0
      have d0 := cell_below hb.out hF' e0'
      have c1 := cell_below hb.out hF e1
      have d1 := cell_below hb.out hF' e1'
      clear e0 e0' e1 e1'
      obtain ⟨s, hs⟩ : ∃ s, l[k] = s := ⟨_, rfl⟩
      rw [hs] at c0 d0 c1 d1
      clear hs
      obtain ⟨a, b⟩ := s
      dsimp only at c0 c1 d0 d1
      have hn := fun W => link_neq (a : Int) (b : Int) W
      have hgd := fun op x y W => link_neqg (a : Int) (b : Int) op x y W
      go_wp2
      go_quiet (fail)
      go_wp2
      exact ⟨⟨k + 1, by omega, by go_num, hid (below_drewN hb.out _)⟩, by simp [intOf]; omega⟩
    · have hkl : k = l.length := by omega
      subst hkl
      clear hlt
      go_wp2
      go_ret
      exact ⟨rfl, hb.out⟩
end Go.Proofs.YtmbjeppnamhgiaaGreat
end
