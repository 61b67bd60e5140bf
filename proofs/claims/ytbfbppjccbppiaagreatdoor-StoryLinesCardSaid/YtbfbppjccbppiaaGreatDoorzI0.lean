import Derived.Test.YtbfbppjccbppiaaGreatDoorE3
import Derived.Test.YtbfbppjccbppiaaGreatDoorzGW
import Derived.Test.YtbfbppjccbppiaaGreatDoorzZ
import Derived.Test.YtbfbppjccbppiaaGreatDoorzA9
import Derived.Lib.Join
import Derived.Outline
import Derived.Test.YtbfbppjccbppiaaGreatDoorzA4
import Derived.BigQuiet
import Derived.Test.YtbfbppjccbppiaaGreatDoorzY1
import Derived.Test.YtbfbppjccbppiaaGreatDoorShelf
import Derived.Test.YtbfbppjccbppiaaGreatDoorY9
import Derived.Test.YtbfbppjccbppiaaGreatDoorzM
import Derived.Test.YtbfbppjccbppiaaGreatDoorzV17
import Derived.Lib.AppendIntMem
import Derived.RangeFuncBox
namespace Go.Proofs.YtbfbppjccbppiaaGreatDoor
open Go Go.RowKit
section
def qe7 (us : List UnitW) (u : Nat) : ByteArray := match us[u]? with
 | none => ⟨#[]⟩
 | some d => if u = 0 then ⟨#[116, 104, 101, 32, 112, 114, 111, 106, 101, 99, 116]⟩ else if d.ft.toList.isEmpty = true then d.nm else d.nm ++ ⟨#[91]⟩ ++ d.ft ++ ⟨#[93]⟩
def qh2 (us : List UnitW) (u : Nat) : List ByteArray := ((us[u]?.map (·.cands)).getD []).map fun c => qg5 c.v
def zm2 (l : List (Nat × Nat)) (v : Nat) : List (Nat × Nat) := match l.getLast? with
 | some p => if 1 ≤ p.1 ∧ p.2 + 1 = v then l.dropLast ++ [(p.1, v)] else l ++ [(v, v)]
 | none => [(v, v)]
def qi3 (l : List Nat) : List (Nat × Nat) := l.foldl zm2 []
def qk6 (vt : List ByteArray) (p : Nat × Nat) : ByteArray := if p.1 = 0 then ⟨#[110, 111, 110, 101]⟩ else if p.1 = p.2 then (vt[p.1 - 1]?).getD ⟨#[]⟩ else (vt[p.1 - 1]?).getD ⟨#[]⟩ ++ ⟨#[32, 116, 111, 32]⟩ ++ (vt[p.2 - 1]?).getD ⟨#[]⟩
def qf7 (l : List ByteArray) (sep : List UInt8) : ByteArray := ⟨(Lib.join (l.map (·.data.toList)) sep).toArray⟩
def qw2 (m k : Nat) : List Nat := (List.range k).filter fun v => m.testBit v
def qs0 (vt : List ByteArray) (m : Nat) : List ByteArray := (qi3 (qw2 m 17)).map (qk6 vt)
def qj3 (vt : List ByteArray) (m : Nat) : ByteArray := if m = 0 then ⟨#[110, 111, 116, 104, 105, 110, 103]⟩ else qf7 (qs0 vt m) [44, 32]
theorem qz4 (sep : List UInt8) : qf7 [] sep = ⟨#[]⟩ := rfl
theorem joinB_one (x : ByteArray) (sep : List UInt8) : qf7 [x] sep = x := by
 unfold qf7
 rw [List.map_cons, List.map_nil, Lib.join_one]
theorem zh6 (sep : List UInt8) (r : List (List UInt8)) (y : List UInt8) : Lib.joinTail sep (r ++ [y]) = Lib.joinTail sep r ++ (sep ++ y) := by simp [Lib.joinTail]
theorem zn3 {l : List ByteArray} (h : l ≠ []) (x : ByteArray) (sep : List UInt8) : qf7 (l ++ [x]) sep = qf7 l sep ++ ⟨sep.toArray⟩ ++ x := by
 cases l with
 | nil => exact absurd rfl h
 | cons a l =>
  apply ByteArray.ext
  simp only [qf7, List.cons_append, List.map_cons, List.map_append, List.map_nil, Lib.join_cons, zh6, ByteArray.data_append]
  simp
theorem qn0 (l : List ByteArray) (n : Nat) (h : ∀ x ∈ l, x.size ≤ n) (sep : List UInt8) : (qf7 l sep).size ≤ l.length * (n + sep.length) := by
 cases l with
 | nil => rw [qz4 sep]; exact Nat.zero_le _
 | cons a l =>
  have key : ∀ r : List ByteArray, (∀ x ∈ r, x.size ≤ n) → (Lib.joinTail sep (r.map (·.data.toList))).length ≤ r.length * (n + sep.length) := by
   intro r
   induction r with
   | nil => intro _; simp [Lib.joinTail]
   | cons y r ih =>
    intro hr
    have h1 := ih fun x hx => hr x (List.mem_cons_of_mem _ hx)
    have h2 := hr y (List.mem_cons_self ..)
    have h3 : y.data.toList.length = y.size := by simp
    have e : Lib.joinTail sep ((y :: r).map (·.data.toList)) = sep ++ y.data.toList ++ Lib.joinTail sep (r.map (·.data.toList)) := by simp [Lib.joinTail]
    rw [e, List.length_append, List.length_append, List.length_cons, Nat.add_mul]
    omega
  have h1 := key l fun x hx => h x (List.mem_cons_of_mem _ hx)
  have h2 := h a (List.mem_cons_self ..)
  have h3 : a.data.toList.length = a.size := by simp
  have e : (qf7 (a :: l) sep).size = (a.data.toList ++ Lib.joinTail sep (l.map (·.data.toList))).length := by
   unfold qf7
   rw [List.map_cons, Lib.join_cons]
   rfl
  rw [e, List.length_append, List.length_cons, Nat.add_mul]
  omega
theorem qn5 (l : List Nat) (v : Nat) : qi3 (l ++ [v]) = zm2 (qi3 l) v := by unfold qi3; rw [List.foldl_append]; rfl
def zf8 (p : Nat × Nat) : Prop := (p.1 = 0 ∧ p.2 = 0) ∨ (1 ≤ p.1 ∧ p.1 ≤ p.2)
theorem stepP_ok {l : List (Nat × Nat)} {v : Nat} (h : ∀ p ∈ l, zf8 p) : (∀ p ∈ zm2 l v, zf8 p) ∧ (zm2 l v).getLast?.map (·.2) = some v := by
 have h1 : ∀ p ∈ l ++ [(v, v)], zf8 p := fun p hp => by
  rcases List.mem_append.1 hp with hp | hp
  ·exact h p hp
  ·rw [List.mem_singleton.1 hp]
   unfold zf8
   dsimp only
   omega
 unfold zm2
 cases hl : l.getLast? with
 | none =>
  have : l = [] := List.getLast?_eq_none_iff.1 hl
  subst this
  exact ⟨h1, by simp⟩
 | some p =>
  dsimp only
  split
  ·rename_i hc
   refine ⟨fun q hq => ?_, by simp⟩
   rcases List.mem_append.1 hq with hq | hq
   ·exact h q (List.dropLast_subset l hq)
   ·rw [List.mem_singleton.1 hq]
    have := h p (List.mem_of_getLast? hl)
    unfold zf8 at this ⊢
    dsimp only
    omega
  ·exact ⟨h1, by simp⟩
theorem qu1 (l : List Nat) : (∀ p ∈ qi3 l, zf8 p) ∧ (qi3 l).getLast?.map (·.2) = l.getLast? ∧ (qi3 l).length ≤ l.length ∧ (l ≠ [] → qi3 l ≠ []) := by
 have key : ∀ (n : Nat) (l : List Nat), l.length = n → (∀ p ∈ qi3 l, zf8 p) ∧ (qi3 l).getLast?.map (·.2) = l.getLast? ∧ (qi3 l).length ≤ l.length ∧ (l ≠ [] → qi3 l ≠ []) := by
  intro n
  induction n with
  | zero =>
   intro l hl
   have : l = [] := List.eq_nil_of_length_eq_zero hl
   subst this
   exact ⟨fun p hp => absurd hp (by simp [qi3]), rfl, Nat.le_refl _, fun h => absurd rfl h⟩
  | succ n ih =>
   intro l hl
   obtain ⟨l, v, rfl⟩ : ∃ l' v, l = l' ++ [v] := by
    refine ⟨l.dropLast, l.getLast (by intro e; rw [e] at hl; cases hl), (List.dropLast_concat_getLast _).symm⟩
   obtain ⟨h1, h2, h3, -⟩ := ih l (by simpa using hl)
   have h4 := stepP_ok (v := v) h1
   rw [qn5]
   refine ⟨h4.1, by rw [h4.2, List.getLast?_concat], ?_, fun _ e => by rw [e] at h4; cases h4.2⟩
   rw [List.length_append]
   unfold zm2
   cases hl : (qi3 l).getLast? with
   | none => dsimp only; simp
   | some p =>
    have hp : 0 < (qi3 l).length := by
     cases hq : qi3 l with
     | nil => rw [hq] at hl; cases hl
     | cons a b => simp
    dsimp only
    split
    ·simp; omega
    ·simp; omega
 exact key _ l rfl
end
section
structure StW (us : List UnitW) : Prop where
 ns : NsOk (nsOf us)
 vers : ∀ u ∈ us, qx2 (u.cands.map (·.v))
 names : ∃ fs : List Bool, fs.length ≤ 5 ∧ us.map (fun u => (u.nm, u.ft)) = qw5 fs
theorem UnitsT.st {us : List UnitW} (h : UnitsT us) : StW us := ⟨h.ns, h.vers, h.names⟩
theorem qz7 : ∀ {ns : List ByteArray} {fs : List Bool} {x : ByteArray × ByteArray}, x ∈ qj7 ns fs → x.1 ∈ ns ∧ (x.2 = ⟨#[]⟩ ∨ x.2 = ⟨#[102]⟩)
 | [], fs, x, h => by cases fs <;> exact absurd h (by simp [qj7])
 | n :: ns, [], x, h => absurd h (by simp [qj7])
 | n :: ns, b :: fs, x, h => by
  rw [qj7] at h
  rcases List.mem_cons.1 h with rfl | h
  ·exact ⟨List.mem_cons_self .., .inl rfl⟩
  ·rcases List.mem_append.1 h with h | h
   ·cases b with
    | false => cases h
    | true =>
     rw [if_pos rfl] at h
     rw [List.mem_singleton.1 h]
     exact ⟨List.mem_cons_self .., .inr rfl⟩
   ·have := qz7 h
    exact ⟨List.mem_cons_of_mem _ this.1, this.2⟩
theorem StW.small {us : List UnitW} (h : StW us) {u : Nat} (hu : u < us.length) : us[u].nm.size ≤ 3 ∧ us[u].ft.size ≤ 1 := by
 obtain ⟨fs, -, h2⟩ := h.names
 have hm : (us[u].nm, us[u].ft) ∈ qw5 fs := by
  rw [← h2]
  exact List.mem_map.2 ⟨us[u], List.getElem_mem hu, rfl⟩
 unfold qw5 at hm
 rcases List.mem_cons.1 hm with e | hm
 ·have e1 : us[u].nm = ⟨#[]⟩ := congrArg Prod.fst e
  have e2 : us[u].ft = ⟨#[]⟩ := congrArg Prod.snd e
  rw [e1, e2]
  exact ⟨by decide, by decide⟩
 ·obtain ⟨h3, h4⟩ := qz7 hm
  refine ⟨?_, ?_⟩
  ·have hk : ∀ n ∈ nameL, n.size ≤ 3 := by decide
   exact hk _ h3
  ·rcases h4 with h4 | h4 <;> (dsimp only at h4; rw [h4]; decide)
theorem qd0.named {w : World} {F : Nat → Prop} {v : Value} {us : List UnitW} (h : qd0 w F v us) :
  ∃ g cap, v = .agg #[.slice (some ⟨g, 0, none⟩) us.length cap] ∧ F g ∧ ∀ u, (hu : u < us.length) → w.cell? ⟨g, u * 3, none⟩ = some (.string us[u].nm) ∧ w.cell? ⟨g, u * 3 + 1, none⟩ = some (.string us[u].ft) := by
 obtain ⟨g, cap, rfl, hF, hs⟩ := h
 refine ⟨g, cap, rfl, hF, fun u hu => ?_⟩
 obtain ⟨A, cap', hv, -, -, hc⟩ := hs.shape
 injection hv with e1 e2 e3
 subst e1 e3
 obtain ⟨g', o, cs, hA, -, -, hcell, cv, rfl, -⟩ := hc u hu
 injection hA with hA
 injection hA with e1 e2
 subst e1 e2
 have h0 := hcell 0 (by show 0 < 3; omega)
 have h1 := hcell 1 (by show 1 < 3; omega)
 rw [Nat.zero_add] at h0 h1
 exact ⟨h0, h1⟩
theorem zr6 {us : List UnitW} {u : Nat} (hu : u < us.length) : qe7 us u = if u = 0 then ⟨#[116, 104, 101, 32, 112, 114, 111, 106, 101, 99, 116]⟩ else if us[u].ft.toList.isEmpty = true then us[u].nm else us[u].nm ++ ⟨#[91]⟩ ++ us[u].ft ++ ⟨#[93]⟩ := by
 unfold qe7
 rw [List.getElem?_eq_getElem hu]
theorem ql4 {us : List UnitW} (h : StW us) (u : Nat) : (qe7 us u).size ≤ 11 := by
 rcases Nat.lt_or_ge u us.length with hu | hu
 ·have := h.small hu
  rw [zr6 hu]
  split
  ·decide
  ·split
   ·omega
   ·simp only [ByteArray.size_append]
    show us[u].nm.size + 1 + us[u].ft.size + 1 ≤ 11
    omega
 ·unfold qe7
  rw [List.getElem?_eq_none hu]
  show (⟨#[]⟩ : ByteArray).size ≤ 11
  decide
theorem full_pos {ns : List Nat} (ho : NsOk ns) {u : Nat} (hu : u < ns.length) : 1 ≤ qj5 ns u := by
 have := ho.le u hu
 unfold qj5
 rw [if_neg (by omega), Int.toNat_natCast, List.getElem?_eq_getElem hu]
 show 1 ≤ pw (ns[u] + 1) - 1
 have hp : 2 ≤ 2 ^ (ns[u] + 1) := by rw [Nat.pow_succ]; have := Nat.one_le_two_pow (n := ns[u]); omega
 unfold pw
 omega
set_option maxRecDepth 100000 in
set_option maxHeartbeats 2000000 in
theorem qu2 (v : Value) (us : List UnitW) (u : Nat) (w : World) (h : qd0 w (Lt w.heap.size) v us) (ho : StW us) (hu : u < us.length) :
  Calls Tryz.prog 39 #[v, .int .i64 u] w fun e w' => e = .returned (.string (qe7 us u)) ∧ Below w.heap.size w w' := by
 have HFU := hid (fun (W : World) (hb : Below w.heap.size w W) => qz2 v (nsOf us) u W (Lt W.heap.size) ((h.lift hb hb.size).uni) ho.ns (fun _ h => h))
 have hfp := full_pos ho.ns (u := u) (by simpa [nsOf] using hu)
 obtain ⟨f, hf⟩ : ∃ f, qj5 (nsOf us) u = f := ⟨_, rfl⟩
 rw [hf] at HFU hfp
 obtain ⟨g, cap0, rfl, hg, hun⟩ := h.named
 obtain ⟨n0, n1⟩ := hun u hu
 have hsm := ho.small hu
 have HNB := hid (zr6 hu)
 generalize us[u].nm = nm at *
 generalize us[u].ft = ft at *
 obtain ⟨hsn, hsf⟩ := hsm
 have zf : (f == 0) = false := by rw [beq_eq_false_iff_ne]; omega
 have h11 : us.length ≤ 11 := by have := ho.ns.hi; simpa [nsOf] using this
 have u1 : (0 : Int) ≤ ↑u := by omega
 have u2 : (↑u : Int) < ↑us.length := by omega
 obtain ⟨w0, hw0⟩ : ∃ w0 : World, w0 = w.alloc (.cells #[.slice (some ⟨g, 0, none⟩) us.length cap0] 26) := ⟨_, rfl⟩
 have hb0 : Below w.heap.size w w0 := hw0 ▸ qa0 (b0 w) _
 have hz0 : w.heap.size < w0.heap.size := by rw [hw0]; simp
 have q0 : w0.cell? ⟨w.heap.size, 0, none⟩ = some (.slice (some ⟨g, 0, none⟩) us.length cap0) := by rw [hw0, qa6]; rfl
 have q1 := cell_below hb0 hg n0
 have q2 := cell_below hb0 hg n1
 have hg0 : g < w0.heap.size := Nat.lt_of_lt_of_le hg hb0.size
 have HB0 := hid hb0
 have HW0 := hid hw0
 have HF0 := hid (HFU.out w0 hb0)
 clear hb0 hw0 h hun n0 n1 HFU hf ho hfp
 by_cases hu0 : u = 0
 ·have zu : ((u : Int) == 0) = true := by rw [beq_iff_eq]; omega
  have HNE := hid (HNB.out.trans (if_pos hu0))
  clear hu0
  go_enter Tryz.func39, Tryz.ntmps39
  go_wp2_with (go_at_call 34; rw [← HW0.out]; refine HF0.out.mono ?_; rintro e w1 ⟨rfl, hb1⟩; have HB1 := hid (qa1 HB0.out hb1); clear hb1)
  go_ret
  exact ⟨congrArg (fun x => Ending.returned (Value.string x)) HNE.out.symm, HB1.out⟩
 ·have zu : ((u : Int) == 0) = false := by rw [beq_eq_false_iff_ne]; omega
  have HNE := hid (HNB.out.trans (if_neg hu0))
  clear hu0
  cases hft : ft.toList.isEmpty with
  | true =>
   have HNX := hid (HNE.out.trans (if_pos hft))
   go_enter Tryz.func39, Tryz.ntmps39
   go_wp2_with (go_at_call 34; rw [← HW0.out]; refine HF0.out.mono ?_; rintro e w1 ⟨rfl, hb1⟩; have HB1 := hid (qa1 HB0.out hb1); have c0 := cell_below hb1 hz0 q0; have c1 := cell_below hb1 hg0 q1; have c2 := cell_below hb1 hg0 q2; clear hb1)
   go_ret
   exact ⟨congrArg (fun x => Ending.returned (Value.string x)) HNX.out.symm, HB1.out⟩
  | false =>
   have HNX := hid (HNE.out.trans (if_neg (by rw [hft]; decide)))
   have s1 : ¬ 9223372036854775807 < nm.size + 1 := by omega
   have s2 : ¬ 9223372036854775807 < nm.size + 1 + ft.size := by omega
   have s3 : ¬ 9223372036854775807 < nm.size + 1 + ft.size + 1 := by omega
   go_enter Tryz.func39, Tryz.ntmps39
   go_wp2_with (go_at_call 34; rw [← HW0.out]; refine HF0.out.mono ?_; rintro e w1 ⟨rfl, hb1⟩; have HB1 := hid (qa1 HB0.out hb1); have hz1 := Nat.lt_of_lt_of_le hz0 hb1.size; have hg1 := Nat.lt_of_lt_of_le hg0 hb1.size; have c0 := cell_below hb1 hz0 q0; have c1 := cell_below hb1 hg0 q1; have c2 := cell_below hb1 hg0 q2; have l0 := qa2 hz1 c0; have l1 := qa2 hg1 c1; have l2 := qa2 hg1 c2; clear hb1)
   go_quiet (fail)
   go_wp2
   go_ret
   exact ⟨congrArg (fun x => Ending.returned (Value.string x)) HNX.out.symm, below_drewN HB1.out _⟩
end
section
set_option maxRecDepth 100000 in
set_option maxHeartbeats 2000000 in
theorem rname_any (v : Value) (us : List UnitW) (u : Nat) (w : World) (h : qd0 w (Lt w.heap.size) v us) (ho : StW us) (hu : u < us.length) :
  Calls Tryz.prog 48 #[v, .int .i64 u] w fun e w' => e = .returned (.string (qe7 us u)) ∧ Below w.heap.size w w' := by
 obtain ⟨g, cap0, rfl, hg, hun⟩ := h.named
 obtain ⟨n0, n1⟩ := hun u hu
 have hsm := ho.small hu
 have HNB := hid (zr6 hu)
 generalize us[u].nm = nm at *
 generalize us[u].ft = ft at *
 obtain ⟨hsn, hsf⟩ := hsm
 have zl : decide ((u : Int) < 0) = false := decide_eq_false (by omega)
 have zg : decide (us.length ≤ u) = false := decide_eq_false (by omega)
 have zh : decide ((us.length : Int) ≤ (u : Int)) = false := decide_eq_false (by omega)
 have h11 : us.length ≤ 11 := by have := ho.ns.hi; simpa [nsOf] using this
 have u1 : (0 : Int) ≤ ↑u := by omega
 have u2 : (↑u : Int) < ↑us.length := by omega
 obtain ⟨w0, hw0⟩ : ∃ w0 : World, w0 = w.alloc (.cells #[.slice (some ⟨g, 0, none⟩) us.length cap0] 26) := ⟨_, rfl⟩
 have hb0 : Below w.heap.size w w0 := hw0 ▸ qa0 (b0 w) _
 have hz0 : w.heap.size < w0.heap.size := by rw [hw0]; simp
 have q0 : w0.cell? ⟨w.heap.size, 0, none⟩ = some (.slice (some ⟨g, 0, none⟩) us.length cap0) := by rw [hw0, qa6]; rfl
 have q1 := cell_below hb0 hg n0
 have q2 := cell_below hb0 hg n1
 have hg0 : g < w0.heap.size := Nat.lt_of_lt_of_le hg hb0.size
 have HB0 := hid hb0
 have HW0 := hid hw0
 clear h hun n0 n1 ho hb0 hw0
 by_cases hu0 : u = 0
 ·have zu : ((u : Int) == 0) = true := by rw [beq_iff_eq]; omega
  have HNE := hid (HNB.out.trans (if_pos hu0))
  clear hu0
  go_enter Tryz.func48, Tryz.ntmps48
  go_upto_region 1 with fail
  rw [← HW0.out]
  go_wp2_with fail
  go_ret
  exact ⟨congrArg (fun x => Ending.returned (Value.string x)) HNE.out.symm, HB0.out⟩
 ·have zu : ((u : Int) == 0) = false := by rw [beq_eq_false_iff_ne]; omega
  have HNE := hid (HNB.out.trans (if_neg hu0))
  clear hu0
  cases hft : ft.toList.isEmpty with
  | true =>
   have HNX := hid (HNE.out.trans (if_pos hft))
   go_enter Tryz.func48, Tryz.ntmps48
   go_upto_region 1 with fail
   rw [← HW0.out]
   go_wp2_with fail
   go_ret
   exact ⟨congrArg (fun x => Ending.returned (Value.string x)) HNX.out.symm, HB0.out⟩
  | false =>
   have HNX := hid (HNE.out.trans (if_neg (by rw [hft]; decide)))
   have s1 : ¬ 9223372036854775807 < nm.size + 1 := by omega
   have s2 : ¬ 9223372036854775807 < nm.size + 1 + ft.size := by omega
   have s3 : ¬ 9223372036854775807 < nm.size + 1 + ft.size + 1 := by omega
   go_enter Tryz.func48, Tryz.ntmps48
   go_upto_region 1 with fail
   rw [← HW0.out]
   have l0 := qa2 hz0 q0
   have l1 := qa2 hg0 q1
   have l2 := qa2 hg0 q2
   go_wp2_with fail
   go_quiet (fail)
   go_wp2
   go_ret
   exact ⟨congrArg (fun x => Ending.returned (Value.string x)) HNX.out.symm, below_drewN HB0.out _⟩
structure VOk (v : Ver) : Prop where
 B : v.B
 may : mayV v = true
 a : 0 ≤ v.major ∧ v.major < 100
 b : 0 ≤ v.minor ∧ v.minor < 100
 c : 0 ≤ v.patch ∧ v.patch < 100
 p : v.pre.size ≤ 3
 q : v.build.toList.isEmpty = true
 t : (qg5 v).size ≤ 9
 s : 32 ∉ (qg5 v).data.toList
theorem vok_list : ∀ v ∈ (⟨0, 0, 0, ⟨#[]⟩, ⟨#[]⟩⟩ : Ver) :: qm4, VOk v := by
 have h1 : ∀ v ∈ (⟨0, 0, 0, ⟨#[]⟩, ⟨#[]⟩⟩ : Ver) :: qm4, (mayV v && (decide (0 ≤ v.major) && decide (v.major < 100) && decide (0 ≤ v.minor) && decide (v.minor < 100) && decide (0 ≤ v.patch) && decide (v.patch < 100) && decide (v.pre.size ≤ 3) && decide (v.build.size ≤ 3) && v.build.toList.isEmpty && decide ((qg5 v).size ≤ 9) && decide (32 ∉ (qg5 v).data.toList))) = true := by decide +kernel
 intro v hv
 have h := h1 v hv
 simp only [Bool.and_eq_true, decide_eq_true_eq] at h
 obtain ⟨h2, ⟨⟨⟨⟨⟨⟨⟨⟨⟨h3, h4⟩, h5⟩, h6⟩, h7⟩, h8⟩, h9⟩, h10⟩, h11⟩, h12⟩, h13⟩ := h
 exact ⟨⟨by omega, by omega, by omega, by omega, by omega⟩, h2, ⟨h3, h4⟩, ⟨h5, h6⟩, ⟨h7, h8⟩, h9, h11, h12, h13⟩
theorem qx2.vok {vs : List Ver} (h : qx2 vs) : ∀ v ∈ vs, VOk v := fun v hv => by
 rcases h with h | rfl
 ·exact vok_list v (List.mem_cons_of_mem _ (h.subset hv))
 ·exact vok_list v (by rw [List.mem_singleton.1 hv]; exact List.mem_cons_self ..)
theorem StW.vok {us : List UnitW} (h : StW us) {u k : Nat} (hu : u < us.length) (hk : k < us[u].cands.length) : VOk us[u].cands[k].v :=
 (h.vers _ (List.getElem_mem hu)).vok _ (List.mem_map.2 ⟨_, List.getElem_mem hk, rfl⟩)
theorem qy1 (i : Nat) (hi : i < 100) (w : World) :
  Calls Tryz.prog 92 #[.int .i64 i] w fun e w' => e = .returned (.string ⟨(Lib.decDigits i).toArray⟩) ∧ w' = w := by
 go_enter Tryz.func92, Tryz.ntmps92
 go_wp2_with (go_at_call 73; refine (Tryz.strconv_Itoa_small i hi _).mono ?_; rintro e w1 ⟨rfl, rfl⟩)
 go_ret
 exact ⟨rfl, rfl⟩
theorem zq6 {n : Nat} (h : n < 100) : (Lib.decDigits n).length ≤ 7 := qq9 (by omega)
set_option maxRecDepth 100000 in
set_option maxHeartbeats 2000000 in
theorem zo1 (v : Ver) (hv : VOk v) (w : World) : Calls Tryz.prog 52 #[.agg #[.int .i64 v.major, .int .i64 v.minor, .int .i64 v.patch, .string v.pre, .string v.build]] w fun e w' => e = .returned (.string (qg5 v)) ∧ Below w.heap.size w w' := by
 obtain ⟨hB, hm, ha, hb, hc, hp, hq, -, -⟩ := hv
 have HPB : Hid (qg5 v = if v.pre.toList.isEmpty = true then qw0 v else qw0 v ++ ⟨#[45]⟩ ++ v.pre) := hid (by unfold qg5; rw [if_pos hm, if_pos hq])
 obtain ⟨a, b, c, p, q⟩ := v
 dsimp only at ha hb hc hp hq HPB ⊢
 obtain ⟨a, rfl⟩ := Int.eq_ofNat_of_zero_le ha.1
 obtain ⟨b, rfl⟩ := Int.eq_ofNat_of_zero_le hb.1
 obtain ⟨c, rfl⟩ := Int.eq_ofNat_of_zero_le hc.1
 have HNV : Hid (qw0 ⟨a, b, c, p, q⟩ = (⟨(Lib.decDigits a).toArray⟩ : ByteArray) ++ ⟨#[46]⟩ ++ ⟨(Lib.decDigits b).toArray⟩ ++ ⟨#[46]⟩ ++ ⟨(Lib.decDigits c).toArray⟩) := hid rfl
 have la := zq6 (n := a) (by omega)
 have lb := zq6 (n := b) (by omega)
 have lc := zq6 (n := c) (by omega)
 have HDA := hid (fun W => qy1 a (by omega) W)
 have HDB := hid (fun W => qy1 b (by omega) W)
 have HDC := hid (fun W => qy1 c (by omega) W)
 have HM := hid hm
 generalize Lib.decDigits a = da at *
 generalize Lib.decDigits b = db at *
 generalize Lib.decDigits c = dc at *
 obtain ⟨w0, hw0⟩ : ∃ w0 : World, w0 = w.alloc (.cells #[.int .i64 a, .int .i64 b, .int .i64 c, .string p, .string q] 59) := ⟨_, rfl⟩
 have hb0 : Below w.heap.size w w0 := hw0 ▸ qa0 (b0 w) _
 have hz0 : w.heap.size < w0.heap.size := by rw [hw0]; simp
 have q0 : w0.cell? ⟨w.heap.size, 0, none⟩ = some (.int .i64 a) := by rw [hw0]; exact (qa6 w _ _ 0).trans rfl
 have q1 : w0.cell? ⟨w.heap.size, 1, none⟩ = some (.int .i64 b) := by rw [hw0]; exact (qa6 w _ _ 1).trans rfl
 have q2 : w0.cell? ⟨w.heap.size, 2, none⟩ = some (.int .i64 c) := by rw [hw0]; exact (qa6 w _ _ 2).trans rfl
 have q3 : w0.cell? ⟨w.heap.size, 3, none⟩ = some (.string p) := by rw [hw0]; exact (qa6 w _ _ 3).trans rfl
 have q4 : w0.cell? ⟨w.heap.size, 4, none⟩ = some (.string q) := by rw [hw0]; exact (qa6 w _ _ 4).trans rfl
 have HB0 := hid hb0
 have HW0 := hid hw0
 have HMAY := hid (pvmay_any a b c p q w0 hB)
 have s1 : ¬ 9223372036854775807 < da.length + 1 := by omega
 have s2 : ¬ 9223372036854775807 < da.length + 1 + db.length := by omega
 have s3 : ¬ 9223372036854775807 < da.length + 1 + db.length + 1 := by omega
 have s4 : ¬ 9223372036854775807 < da.length + 1 + db.length + 1 + dc.length := by omega
 have s5 : ¬ 9223372036854775807 < 1 + p.size := by omega
 have s6 : ¬ 9223372036854775807 < da.length + 1 + db.length + 1 + dc.length + (1 + p.size) := by omega
 clear hw0 hb0 ha hb hc la lb lc hm hp hB
 cases hpe : p.toList.isEmpty with
 | true =>
  have HPX := hid (HPB.out.trans (if_pos hpe))
  go_enter Tryz.func52, Tryz.ntmps52
  go_wp2_with (go_at_call 91; rw [← HW0.out]; refine HMAY.out.mono ?_; rintro e w1 ⟨rfl, hb1⟩; rw [HM.out]; have HB1 := hid (qa1 HB0.out hb1); have d0 := cell_below hb1 hz0 q0; have d1 := cell_below hb1 hz0 q1; have d2 := cell_below hb1 hz0 q2; have d3 := cell_below hb1 hz0 q3; have d4 := cell_below hb1 hz0 q4; clear hb1)
  go_quiet ((first | (go_at_call_of 92 a; exact Calls.quiet_of_same (HDA.out _)) | (go_at_call_of 92 b; exact Calls.quiet_of_same (HDB.out _)) | (go_at_call 92; exact Calls.quiet_of_same (HDC.out _))))
  go_wp2
  go_ret
  exact ⟨congrArg (fun x => Ending.returned (Value.string x)) (HPX.out.trans HNV.out).symm, below_drewN HB1.out _⟩
 | false =>
  have HPX := hid (HPB.out.trans (if_neg (by rw [hpe]; decide)))
  go_enter Tryz.func52, Tryz.ntmps52
  go_wp2_with (go_at_call 91; rw [← HW0.out]; refine HMAY.out.mono ?_; rintro e w1 ⟨rfl, hb1⟩; rw [HM.out]; have HB1 := hid (qa1 HB0.out hb1); have d0 := cell_below hb1 hz0 q0; have d1 := cell_below hb1 hz0 q1; have d2 := cell_below hb1 hz0 q2; have d3 := cell_below hb1 hz0 q3; have d4 := cell_below hb1 hz0 q4; clear hb1)
  go_quiet ((first | (go_at_call_of 92 a; exact Calls.quiet_of_same (HDA.out _)) | (go_at_call_of 92 b; exact Calls.quiet_of_same (HDB.out _)) | (go_at_call 92; exact Calls.quiet_of_same (HDC.out _))))
  go_wp2
  go_ret
  refine ⟨congrArg (fun x => Ending.returned (Value.string x)) ?_, below_drewN HB1.out _⟩
  rw [HPX.out, HNV.out]
  simp only [ByteArray.append_assoc]
end
section
attribute [local go_sem] Oper.semAt_some
def OnlyN (Q : Exit → Act → World → Prop) : Exit → Act → World → Prop := fun e a w => e = .normal ∧ Q .normal a w
section
variable {P : Program} {Q : Exit → Act → World → Prop} {r n : Nat}
theorem upon_round {o : Oper} {a : Act} {K : Act → World → Prop} {res : Result Next} (h : o.upon P a K (OnlyN Q) res) : o.uponIn (Fence.wide.inRound r) n P a K Q res := by
  cases res with
  | ok x w =>
    cases x with
    | value v => exact h
    | skip => exact h
    | defer d => exact h
    | enter f args =>
      refine ⟨fun hd => (by cases hd), CallsIn.inRound r (callsIn_wide.2 (Calls.mono h fun e w' he => ?_))⟩
      cases e with
      | returned v => exact he
      | panicked c => exact absurd he.1 (by simp)
      | outgrown =>
        obtain ⟨_, _, h0, _⟩ := he
        cases h0
    | row row args =>
      refine ⟨fun hd => (by cases hd), fun c cs _ => ?_⟩
      obtain ⟨v, w', h1, h2⟩ := h c cs
      exact ⟨v, w', h1, stepsIn_wide.2 h2⟩
    | _ => exact h.elim
  | halt x w =>
    cases x with
    | panic v => exact absurd h.1 (by simp)
    | _ => exact h.elim
theorem wpOp_round {ops : Array Oper} (hnd : qt8 ops = true) {i : Nat} {K K' : Act → World → Prop} (hK : ∀ a w, K a w → K' a w) {a : Act} {w : World} (h : wpOp P ops (OnlyN Q) i K a w) : wpOpIn (Fence.wide.inRound r) n P ops Q i K' a w := by
  unfold wpOp at h
  unfold wpOpIn
  cases ho : ops[i]? with
  | none => rw [ho] at h; exact hK _ _ h
  | some o =>
    rw [ho] at h
    dsimp only at h ⊢
    by_cases hw : Region.wanted o (yielded ops a.tmps) = true
    · rw [if_pos hw] at h ⊢
      rcases h with h | ⟨_, _, _, h0, _⟩
      · refine ⟨fun f _ => trivial, ?_⟩
        rw [Oper.semAt_eq _ _ _ (zn9 hnd ho)]
        exact upon_round (Oper.wp_mono hK h)
      · cases h0
    · rw [if_neg hw] at h ⊢
      exact ⟨fun f _ => trivial, hK _ _ h⟩
theorem zl5 {ops : Array Oper} {md : Region.Mode} (hnd : qt8 ops = true) : ∀ (fuel : Nat) (listed : Array Bool) (a : Act) (w : World), wpAny P md ops (OnlyN Q) fuel listed a w → wpAnyIn (Fence.wide.inRound r) n P md ops Q fuel listed a w
  | 0, _, _, _, h => ⟨h.1, h.2.2⟩
  | fuel + 1, _, _, _, h => ⟨fun h0 => (h.1 h0).2, fun i hi => wpOp_round hnd (fun a' w' h' => zl5 hnd fuel _ a' w' h') (h.2 i hi)⟩
theorem qs3 {ops : Array Oper} {S : World → Prop} {id : Nat} {a : Act} {w : World} (t : Nat) (hm : P.follows .mixedOrders = true) (hnd : qt8 ops = true) (hS : S w.drew) (h : S w.drew → Till P .any ops (OnlyN Q) S t ops.size (Array.replicate ops.size false) a w.drew) : (Code.region id ops true).wpIn (Fence.wide.inRound r) n P Q a w :=
  wpIn_region_any hm (zl5 hnd _ _ _ _ (Till.any _ _ _ _ (h hS)))
end
abbrev zp9 (m : Nat) := { v : Nat // m.testBit v = true }
def qm0 (m : Nat) : Nat → List (zp9 m)
  | 0 => []
  | k + 1 => qm0 m k ++ (if h : m.testBit k = true then [⟨k, h⟩] else [])
theorem valsV_len (m k : Nat) : (qm0 m k).length ≤ k := by
  induction k with
  | zero => exact Nat.le_refl _
  | succ k ih =>
    show (qm0 m k ++ _).length ≤ _
    rw [List.length_append]
    split <;> simp <;> omega
theorem valsV_yes {m k : Nat} (h : m.testBit k = true) : qm0 m (k + 1) = qm0 m k ++ [⟨k, h⟩] := by
  show qm0 m k ++ _ = _
  rw [dif_pos h]
theorem valsV_no {m k : Nat} (h : m.testBit k = false) : qm0 m (k + 1) = qm0 m k := by
  show qm0 m k ++ _ = _
  rw [dif_neg (by rw [h]; decide), List.append_nil]
def qf9 (n : Nat) (X : Nat → Prop) (W W' : World) : Prop := (W'.os = W.os ∧ W'.tape = W.tape ∧ W'.output = W.output) ∧ W.heap.size ≤ W'.heap.size ∧ ∀ k, k < n → ¬ X k → W'.heap[k]? = W.heap[k]?
section
variable {n : Nat} {X : Nat → Prop}
theorem qf9.refl (n : Nat) (X : Nat → Prop) (W : World) : qf9 n X W W := ⟨⟨rfl, rfl, rfl⟩, Nat.le_refl _, fun _ _ _ => rfl⟩
theorem qf9.trans {A B C : World} (h : qf9 n X A B) (h' : qf9 n X B C) : qf9 n X A C := ⟨⟨h'.1.1.trans h.1.1, h'.1.2.1.trans h.1.2.1, h'.1.2.2.trans h.1.2.2⟩, Nat.le_trans h.2.1 h'.2.1, fun k hk hx => (h'.2.2 k hk hx).trans (h.2.2 k hk hx)⟩
theorem qf9.cell {A B : World} (h : qf9 n X A B) {g o : Nat} {v : Value} (hg : g < n) (hx : ¬ X g) (hc : A.cell? ⟨g, o, none⟩ = some v) : B.cell? ⟨g, o, none⟩ = some v := by
  rw [← hc]
  exact World.cell?_of_block (h.2.2 g hg hx)
theorem qf9.of_below {A B : World} (hb : Below n A B) : qf9 n X A B := ⟨⟨hb.os, hb.tape, hb.output⟩, hb.size, fun k hk _ => hb.block k hk⟩
theorem qf9.put {B : Nat} (hB : n ≤ B) (W : World) (l : Nat) (o' : Obj) (hl : B ≤ l) : qf9 n X W (W.putObj l o') := ⟨⟨rfl, rfl, rfl⟩, by simp, fun k hk _ => World.putObj_heap_other (by omega)⟩
theorem qf9.below {B : Nat} {A W : World} (h : qf9 n X A W) (hn : B ≤ n) (hX : ∀ k, X k → B ≤ k) : Below B A W := ⟨h.1.1, h.1.2.1, h.1.2.2, h.2.1, fun k hk => h.2.2 k (by omega) (fun hx => by have := hX k hx; omega)⟩
theorem qf9.grown {A W W' : World} {row : Option Nat} (h : qf9 n X A W) (hs : n ≤ W.heap.size) (hg : W.grownBy W' row) (hr : ∀ r, row = some r → n ≤ r) : qf9 n X A W' :=
  h.trans ⟨⟨hg.os, hg.tape, hg.output⟩, hg.size, fun k hk _ => hg.block k (by omega) (fun e => by have := hr k e.symm; omega)⟩
theorem qf9.set {W : World} {g o : Nat} {v : Value} (hx : X g) : qf9 n X W (W.setCell ⟨g, o, none⟩ v) := ⟨⟨rfl, rfl, rfl⟩, by simp, fun k _ hk => Below.heap_setCell W ⟨g, o, none⟩ v k (fun e => hk (e ▸ hx))⟩
theorem qf9.setHigh {W : World} {g o : Nat} {v : Value} (hg : n ≤ g) : qf9 n X W (W.setCell ⟨g, o, none⟩ v) := ⟨⟨rfl, rfl, rfl⟩, by simp, fun k hk _ => Below.heap_setCell W ⟨g, o, none⟩ v k (by show k ≠ g; omega)⟩
end
set_option maxRecDepth 100000 in
set_option maxHeartbeats 4000000 in
theorem eachv_in (n : Nat) (hn : 1 ≤ n) (l Bm n0 m B0 : Nat) (X : Nat → Prop) (hm : m ≤ 31) (hBn : Bm < n0) (hne : ¬ X Bm) (J Jx : List (zp9 m) → World → Prop) (hJ : AbidesFrom B0 J)
    (hY : ∀ pre (x : zp9 m) W, J pre W → pre.length < 17 → YieldAt Fence.wide (n - 1) Tryz.prog l #[.int .i64 ((x.1 : Int) - 1)] W fun e W' =>
      (e = .returned (.bool true) ∧ J (pre ++ [x]) W' ∧ qf9 n0 X W W') ∨ (e = .returned (.bool false) ∧ Jx (pre ++ [x]) W'))
    (W : World) (hBs : W.cell? ⟨Bm, 0, none⟩ = some (.int .i64 m)) (h0 : J [] W) :
    CallsIn Fence.wide n Tryz.prog 90 #[.func (.yield l) #[] #[], .pointer (some ⟨Bm, 0, none⟩)] W fun e W' => (∃ v, e = .returned v) ∧
      ((∃ ys, ys = qm0 m 17 ∧ J ys W') ∨ (∃ pre, (∃ k, k ≤ 17 ∧ pre = qm0 m k) ∧ Jx pre W')) := by
  have hdrew : ∀ pre (w : World), J pre w → J pre w.drew := fun pre w h => hJ pre w w.drew none h ⟨rfl, rfl, rfl, Nat.le_refl _, fun _ _ _ => rfl⟩ (fun r e => by cases e)
  refine callsIn_of_wp Tryz.func90 rfl trivial ?_ rfl
  simp only [Tryz.ntmps90, List.size_toArray, List.length_cons, List.length_nil, Nat.reduceAdd, Nat.reduceSub, Array.replicate_succ, Array.replicate_zero, List.push_toArray, List.append_toArray, List.nil_append, List.cons_append]
  gi_wp2
  gi_loopw [3] (fun iv wr => ∃ k : Nat, k ≤ 17 ∧ iv = .int .i64 ((k : Int) - 1) ∧ J (qm0 m k) wr ∧ qf9 n0 X W wr) (fun iv _ => 17 - ((intOf iv) + 1).toNat)
  case atStart => exact ⟨0, by omega, rfl, h0, qf9.refl _ _ _⟩
  case round =>
    obtain ⟨k, hk, rfl, hJs, hkp⟩ := hrel
    have hcx := hkp.cell hBn hne hBs
    obtain ⟨q, hq⟩ : ∃ q : Int, (k : Int) - 1 = q := ⟨_, rfl⟩
    rw [hq]
    by_cases hlt : k < 17
    · have i1 : q < 16 := by omega
      have i2 : IntKind.i64.wrap (q + 1) = q + 1 := IntWalk.i64_in _ (by omega)
      have hba := bit_and (m := m) (k := k) hm (by omega)
      have hbz := bit_zero (m := m) (k := k)
      have HBT := fun (w : World) => (bit_any k w (by omega))
      rw [hq] at HBT
      have HIV : Hid (q + 1 = ((k + 1 : Nat) : Int) - 1) := hid (by omega)
      have HME : Hid (17 - (intOf (.int .i64 (q + 1)) + 1).toNat < 17 - (intOf (.int .i64 q) + 1).toNat) := hid (by simp [intOf]; omega)
      cases hb : m.testBit k with
      | false =>
        rw [hb] at hbz
        have HJ2 : Hid (∀ N, J (qm0 m (k + 1)) (wr.drewN N)) := hid (fun N => by
          have h1 : J (qm0 m k) (wr.drewN N) := hJ _ wr (wr.drewN N) none hJs ⟨rfl, rfl, rfl, Nat.le_refl _, fun _ _ _ => rfl⟩ (fun r e => by cases e)
          rw [valsV_no hb]
          exact h1)
        have HKP : Hid (∀ N, qf9 n0 X W (wr.drewN N)) := hid (fun _ => hkp)
        clear hq hb
        gi_wp2
        refine wpIn_wide.2 ?_
        go_quiet ((go_at_call 67; exact Calls.quiet_of_same (HBT _)))
        gi_wp2
        exact ⟨⟨k + 1, by omega, by rw [HIV.out], HJ2.out _, HKP.out _⟩, HME.out⟩
      | true =>
        rw [hb] at hbz
        obtain ⟨fn, tmps, assign, body, hy, hR⟩ := hY _ ⟨k, hb⟩ wr.drew (hdrew _ _ hJs) (by have := valsV_len m k; omega)
        have hpq : ((k : Nat) : Int) - 1 = q := hq
        dsimp only at hy
        rw [hpq] at hy
        have HPY := hid (valsV_yes hb)
        have HKP : Hid (qf9 n0 X W wr.drew) := hid hkp
        have hR2 : RoundIn Fence.wide (n - 1) Tryz.prog l fn tmps assign body wr.drew fun e W' => ∃ b, e = .returned (.bool b) ∧ ((b = true ∧ J (qm0 m (k + 1)) W' ∧ qf9 n0 X wr.drew W') ∨ (b = false ∧ Jx (qm0 m (k + 1)) W')) := hR.mono fun e W' h => by
          rw [HPY.out]
          rcases h with ⟨h1, h2⟩ | ⟨h1, h2⟩
          · exact ⟨true, h1, .inl ⟨rfl, h2⟩⟩
          · exact ⟨false, h1, .inr ⟨rfl, h2⟩⟩
        clear hR HPY hq hpq hb
        gi_wp2
        gi_region_with (first | (refine ⟨trivial, ?_⟩; gi_at_call 67; refine (callsIn_wide.2 (HBT _)).mono ?_; rintro e w2 ⟨rfl, rfl⟩) | (refine hR2.mono ?_; rintro e W3 ⟨b, rfl, hor⟩))
        all_goals rcases hor with ⟨rfl, hJ3, hk3⟩ | ⟨rfl, hJx3⟩
        all_goals first
         | (gi_wp2
            exact ⟨⟨k + 1, by omega, by rw [HIV.out], hJ3, HKP.out.trans hk3⟩, HME.out⟩)
         | (gi_wp2
            refine bodyPost_ret (results_none rfl _ _ _) rfl ?_
            exact ⟨⟨_, rfl⟩, .inr ⟨_, ⟨k + 1, by omega, rfl⟩, hJx3⟩⟩)
    · have i1 : ¬ q < 16 := by omega
      have HJ16 : Hid (J (qm0 m 17) wr) := hid (by
        have : k = 17 := by omega
        subst this
        exact hJs)
      clear hq hlt
      gi_wp2
      go_end0
      exact ⟨⟨_, rfl⟩, .inl HJ16.out⟩
theorem eachv_stops (n : Nat) (hn : 1 ≤ n) (Bm n0 m : Nat) (X : Nat → Prop) (hm : m ≤ 31) (hBn : Bm < n0) (hne : ¬ X Bm) (w : World) (hBl : Bm < w.heap.size) (hc : w.cell? ⟨Bm, 0, none⟩ = some (.int .i64 m)) :
    SeqStopsK Fence.wide n Tryz.prog 90 #[.pointer (some ⟨Bm, 0, none⟩)] (fun x : zp9 m => #[Value.int .i64 ((x.1 : Int) - 1)]) (qf9 n0 X) (fun ys => ys = qm0 m 17) (fun pre => ∃ k, k ≤ 17 ∧ pre = qm0 m k) 17 w := fun l J Jx W hW hJ _ hY h0 => by
  have hc' := (hW.cell (p := ⟨Bm, 0, none⟩) hBl).trans hc
  exact (eachv_in n hn l Bm n0 m W.heap.size X hm hBn hne J Jx hJ hY W hc' h0)
end
section
def Glob (w : World) : Prop := 4 ≤ w.heap.size ∧ (∃ m, w.cell? ⟨0, 0, none⟩ = some (.int .i64 m)) ∧ Lib.TabBelow Tryz.prog w.heap.size w "internal/strconv.uint64pow10" .u64 Lib.pow10Tab ∧ (∃ ev, w.cell? ⟨2, 0, none⟩ = some ev ∧ (ev = .nilIface ∨ ∃ te pe, ev = .iface te pe)) ∧ ∃ ev, w.cell? ⟨3, 0, none⟩ = some ev ∧ (ev = .nilIface ∨ ∃ te pe, ev = .iface te pe)
theorem Glob.later {w W : World} (h : Glob w) (hb : Below w.heap.size w W) : Glob W := by
 obtain ⟨h0, ⟨m, h1⟩, h2, ⟨e, h3, h4⟩, e', h5, h6⟩ := h
 exact ⟨Nat.le_trans h0 hb.size, ⟨m, cell_below hb (by omega) h1⟩, fun w' h' => h2 w' (hb.trans (h'.mono hb.size)), ⟨e, cell_below hb (by omega) h3, h4⟩, e', cell_below hb (by omega) h5, h6⟩
theorem qk9 {us : List UnitW} {u : Nat} (hu : u < us.length) : qh2 us u = us[u].cands.map fun c => qg5 c.v := by
 unfold qh2
 rw [List.getElem?_eq_getElem hu]
 rfl
theorem occ_no {c : UInt8} {t : List UInt8} {a b : List UInt8} (h : c ∉ a) {j : Nat} (hj : j < a.length) : Lib.occAt (a ++ b) (c :: t) j = false := by
 cases ho : Lib.occAt (a ++ b) (c :: t) j with
 | false => rfl
 | true =>
  have h2 := Lib.occAt_head rfl ho
  rw [List.getElem?_append_left hj] at h2
  exact absurd (List.mem_of_getElem? h2) h
theorem index_at {c : UInt8} {t a b : List UInt8} (h : c ∉ a) : Lib.index (a ++ (c :: t ++ b)) (c :: t) = a.length := by
 refine Lib.index_first (by simp) ?_ (fun j hj => occ_no h hj)
 unfold Lib.occAt
 rw [List.drop_left, List.isPrefixOf_iff_prefix]
 exact List.prefix_append _ _
theorem tcut_at {c : UInt8} {t a b : List UInt8} (h : c ∉ a) : Lib.cut (a ++ (c :: t ++ b)) (c :: t) = (a, b, true) := by
 unfold Lib.cut
 rw [index_at h, if_pos (by omega), Int.toNat_natCast, List.take_left, ← List.drop_drop, List.drop_left, List.drop_left]
theorem tcut_none {c : UInt8} {t a : List UInt8} (h : c ∉ a) : Lib.cut a (c :: t) = (a, [], false) := by
 have e : Lib.index a (c :: t) = -1 := Lib.index_none fun j hj => by
  cases ho : Lib.occAt a (c :: t) j with
  | false => rfl
  | true => exact absurd (List.mem_of_getElem? (Lib.occAt_head rfl ho)) h
 unfold Lib.cut
 rw [e, if_neg (by decide)]
def ql7 {m : Nat} (pre : List (zp9 m)) : List Nat := pre.map (·.1)
theorem zp7 {m : Nat} (pre : List (zp9 m)) (x : zp9 m) : ql7 (pre ++ [x]) = ql7 pre ++ [x.1] := by simp [ql7]
theorem valsL_len {m : Nat} (pre : List (zp9 m)) : (ql7 pre).length = pre.length := by simp [ql7]
theorem valsL_to (m k : Nat) : ql7 (qm0 m k) = qw2 m k := by
 induction k with
 | zero => rfl
 | succ k ih =>
  unfold qw2
  rw [List.range_succ, List.filter_append]
  by_cases h : m.testBit k = true
  ·rw [valsV_yes h, zp7, ih]
   simp [qw2, h]
  ·rw [Bool.not_eq_true] at h
   rw [valsV_no h, ih]
   simp [qw2, h]
def qv9 (l : List Nat) : Int := match l.getLast? with
 | none => -2
 | some v => (v : Int) - 1
theorem zc3 (l : List Nat) (v : Nat) : qv9 (l ++ [v]) = (v : Int) - 1 := by unfold qv9; rw [List.getLast?_concat]
theorem lastV_bd {l : List Nat} (h : ∀ x ∈ l, x ≤ 16) : -2 ≤ qv9 l ∧ qv9 l ≤ 15 := by
 unfold qv9
 cases hl : l.getLast? with
 | none => dsimp only; omega
 | some v => have := h v (List.mem_of_getLast? hl); dsimp only; omega
def qg7 (vt : List ByteArray) (l : List Nat) : List ByteArray := (qi3 l).map (qk6 vt)
theorem za7 (vt : List ByteArray) (l : List Nat) : (qg7 vt l).length ≤ l.length := by unfold qg7; rw [List.length_map]; exact (qu1 l).2.2.1
theorem zh3 {vt : List ByteArray} (h : ∀ t ∈ vt, t.size ≤ 9) (k : Nat) : ((vt[k]?).getD ⟨#[]⟩).size ≤ 9 := by
 cases hk : vt[k]? with
 | none => exact Nat.zero_le _
 | some t => exact h t (List.mem_of_getElem? hk)
theorem qv1 {vt : List ByteArray} (h : ∀ t ∈ vt, t.size ≤ 9) (p : Nat × Nat) : (qk6 vt p).size ≤ 22 := by
 unfold qk6
 split
 ·decide
 ·split
  ·have := zh3 h (p.1 - 1); omega
  ·have h1 := zh3 h (p.1 - 1)
   have h2 := zh3 h (p.2 - 1)
   simp only [ByteArray.size_append]
   show _ + 4 + _ ≤ 22
   omega
theorem zp4 {l : List (Nat × Nat)} {v : Nat} (h : ∀ p, l.getLast? = some p → ¬ (1 ≤ p.1 ∧ p.2 + 1 = v)) : zm2 l v = l ++ [(v, v)] := by
 unfold zm2
 cases hl : l.getLast? with
 | none => rw [List.getLast?_eq_none_iff.1 hl]; rfl
 | some p => dsimp only; rw [if_neg (h p hl)]
theorem zc8 {l : List Nat} {p : Nat × Nat} (h : (qi3 l).getLast? = some p) : qv9 l = (p.2 : Int) - 1 ∧ zf8 p := by
 obtain ⟨h1, h2, -, -⟩ := qu1 l
 rw [h] at h2
 unfold qv9
 rw [← h2]
 exact ⟨rfl, h1 p (List.mem_of_getLast? h)⟩
theorem strs_push (vt : List ByteArray) {l : List Nat} {v : Nat} (h : v = 0 ∨ ¬ ((v : Int) - 1 = qv9 l + 1 ∧ 0 < (v : Int) - 1 ∧ 0 ≤ qv9 l)) : qg7 vt (l ++ [v]) = qg7 vt l ++ [qk6 vt (v, v)] := by
 unfold qg7
 rw [qn5, zp4, List.map_append]
 ·rfl
 ·intro p hp hc
  obtain ⟨h1, h2⟩ := zc8 hp
  unfold zf8 at h2
  rcases h with h | h
  ·omega
  ·exact h (by omega)
theorem strs_cont (vt : List ByteArray) {l : List Nat} {v : Nat} (h : (v : Int) - 1 = qv9 l + 1 ∧ 0 < (v : Int) - 1 ∧ 0 ≤ qv9 l) :
  ∃ (S0 : List ByteArray) (a b : Nat), 1 ≤ a ∧ a ≤ b ∧ b + 1 = v ∧ qg7 vt l = S0 ++ [qk6 vt (a, b)] ∧ qg7 vt (l ++ [v]) = S0 ++ [qk6 vt (a, v)] := by
 cases hl : (qi3 l).getLast? with
 | none =>
  have h1 := (qu1 l).2.1
  rw [hl] at h1
  unfold qv9 at h
  rw [← h1] at h
  have := h.2.2
  dsimp only [Option.map_none] at this
  omega
 | some p =>
  obtain ⟨h1, h2⟩ := zc8 hl
  obtain ⟨L0, hL0⟩ : ∃ L0, qi3 l = L0 ++ [p] := List.getLast?_eq_some_iff.1 hl
  unfold zf8 at h2
  refine ⟨L0.map (qk6 vt), p.1, p.2, by omega, by omega, by omega, ?_, ?_⟩
  ·unfold qg7
   rw [hL0, List.map_append]
   rfl
  ·unfold qg7
   rw [qn5]
   unfold zm2
   rw [hl]
   dsimp only
   rw [if_pos (by omega), hL0, List.dropLast_concat, List.map_append]
   rfl
theorem zj2 {vt : List ByteArray} {a b : Nat} (h : 1 ≤ a) (hab : a < b) : qk6 vt (a, b) = (vt[a - 1]?).getD ⟨#[]⟩ ++ ⟨#[32, 116, 111, 32]⟩ ++ (vt[b - 1]?).getD ⟨#[]⟩ := by
 unfold qk6
 rw [if_neg (by show ¬ a = 0; omega), if_neg (by show ¬ a = b; omega)]
theorem partB_cut {vt : List ByteArray} {a b : Nat} (h : 1 ≤ a) (hab : a ≤ b) (hs : 32 ∉ ((vt[a - 1]?).getD ⟨#[]⟩).data.toList) : (Lib.cut (qk6 vt (a, b)).data.toList [32, 116, 111, 32]).1 = ((vt[a - 1]?).getD ⟨#[]⟩).data.toList := by
 rcases Nat.eq_or_lt_of_le hab with rfl | hab
 ·have e : qk6 vt (a, a) = (vt[a - 1]?).getD ⟨#[]⟩ := by unfold qk6; rw [if_neg (by show ¬ a = 0; omega), if_pos rfl]
  rw [e, tcut_none hs]
 ·rw [zj2 h hab]
  generalize (vt[a - 1]?).getD ⟨#[]⟩ = x at *
  generalize (vt[b - 1]?).getD ⟨#[]⟩ = y at *
  have e : (x ++ ⟨#[32, 116, 111, 32]⟩ ++ y).data.toList = x.data.toList ++ (32 :: [116, 111, 32] ++ y.data.toList) := by simp [ByteArray.data_append]
  rw [e, tcut_at hs]
theorem qf9.alloc {n : Nat} {X : Nat → Prop} {W : World} (h : n ≤ W.heap.size) (o : Obj) : qf9 n X W (W.alloc o) := qf9.of_below ((b0 W).mono h |>.alloc h o)
theorem str_at {W : World} {B : Nat} {v : Value} {L : List ByteArray} (ho : OwnF fStr 9 B W v L) (hp : 0 < L.length) :
  ∃ g c, v = .slice (some ⟨g, 0, none⟩) L.length c ∧ B ≤ g ∧ g < W.heap.size ∧ (∀ o, W.frozen? ⟨g, o, none⟩ = false) ∧ L.length ≤ c ∧ ∀ k, (hk : k < L.length) → W.cell? ⟨g, k, none⟩ = some (.string L[k]) := by
 rcases ho.1.2 with ⟨_, h0⟩ | ⟨g, cap, cur, h1, h2, h3, h4, h5, h6, h7⟩
 ·omega
 ·refine ⟨g, cap, h1, h2, (Array.getElem?_eq_some_iff.1 h3).1, fun o => frozen_of_row W g o _ _ h3, h4, fun k hk => ?_⟩
  rw [cell_of_row W g k cur _ (0, 0) h3]
  have e := fStr.all_get hk (j := 0) (by decide)
  rw [← Array.getElem?_toList, ← List.getElem?_take_of_lt (show k < L.length * fStr.size by show k < L.length * 1; omega), h7]
  rw [show k * fStr.size + 0 = k by show k * 1 + 0 = k; omega] at e
  exact e
theorem qs8 {W : World} {B g o : Nat} {t : TypeId} {v x : Value} (h : Boxed W B t v) (hne : B ≠ g) : Boxed (W.setCell ⟨g, o, none⟩ x) B t v := (Below.heap_setCell W ⟨g, o, none⟩ x B hne).trans h
theorem one_cell (W : World) (s : ByteArray) (e : TypeId) : ∀ (j : Nat) (u : Value), [Value.string s][j]? = some u → (W.alloc (.cells #[.string s] e)).cell? ((⟨W.heap.size, 0, none⟩ : Addr).add j) = some u := by
 intro j u hu
 match j, hu with
 | 0, hu => rw [add_mk, Nat.zero_add, qa6]; exact hu
theorem zs9 {w3 W w7 : World} {LB n0 : Nat} {X : Nat → Prop} {A : Option Addr} {c : Nat} {L : List ByteArray} {v1 : Value} (hk : qf9 n0 X w3 W) (hXA : X (LB + 1)) (hlt : LB + 1 < n0) (hko : KeepsOthers W w7) (hkx : qf9 n0 X W w7)
  (hL : Boxed w7 LB 45 (.slice A L.length c)) (hLa : Boxed w7 (LB + 1) 3 v1) (ho : OwnF fStr 9 n0 w7 (.slice A L.length c) L) (q : Int) :
  KeepsOthers W (w7.setCell ⟨LB + 1, 0, none⟩ (.int .i64 q)) ∧ qf9 n0 X W (w7.setCell ⟨LB + 1, 0, none⟩ (.int .i64 q)) ∧
   ∃ A c, Boxed (w7.setCell ⟨LB + 1, 0, none⟩ (.int .i64 q)) LB 45 (.slice A L.length c) ∧ OwnF fStr 9 n0 (w7.setCell ⟨LB + 1, 0, none⟩ (.int .i64 q)) (.slice A L.length c) L ∧ Boxed (w7.setCell ⟨LB + 1, 0, none⟩ (.int .i64 q)) (LB + 1) 3 (.int .i64 q) ∧ qf9 n0 X w3 (w7.setCell ⟨LB + 1, 0, none⟩ (.int .i64 q)) := by
 have h1 := hkx.trans (qf9.set (n := n0) (W := w7) (o := 0) (v := .int .i64 q) hXA)
 refine ⟨hko.trans (KeepsOthers.setCell _ _ _), h1, A, c, qs8 hL (by omega), ⟨qb3 ho.1 fun g hg => Below.heap_setCell _ _ _ g (by have := (ho.1.lt g hg).1; show g ≠ LB + 1; omega), ho.2⟩, hLa.set _, hk.trans h1⟩
end
end Go.Proofs.YtbfbppjccbppiaaGreatDoor
