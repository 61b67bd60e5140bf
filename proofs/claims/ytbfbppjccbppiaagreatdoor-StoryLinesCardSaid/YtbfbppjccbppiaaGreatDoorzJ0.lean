import Derived.Test.YtbfbppjccbppiaaGreatDoorzI11
import Derived.Test.YtbfbppjccbppiaaGreatDoorzM
import Derived.Outline
import Derived.WalkSmall
import Derived.Test.YtbfbppjccbppiaaGreatDoorN13
import Derived.Test.YtbfbppjccbppiaaGreatDoorzN9
namespace Go.Proofs.YtbfbppjccbppiaaGreatDoor
open Go Go.RowKit
section
def cutB (s : ByteArray) (sep : List UInt8) : ByteArray × ByteArray × Bool := (⟨(Lib.cut s.data.toList sep).1.toArray⟩, ⟨(Lib.cut s.data.toList sep).2.1.toArray⟩, (Lib.cut s.data.toList sep).2.2)
def ahdB (s : ByteArray) (p : List UInt8) : ByteArray × Bool := (⟨(Lib.trimPrefix s.data.toList p).toArray⟩, Lib.hasPrefix s.data.toList p)
def sufB (s : ByteArray) (p : List UInt8) : ByteArray × Bool := (⟨(Lib.trimSuffix s.data.toList p).toArray⟩, Lib.hasSuffix s.data.toList p)
def qn7 (s sep : ByteArray) : List ByteArray := Lib.splitB sep 0 (Lib.countB s sep) s
def noneB : ByteArray := ⟨#[110, 111, 110, 101]⟩
def plcR (vt : List ByteArray) : Nat → ByteArray → Option Nat
 | 0, s => if s = noneB then some 0 else none
 | k + 1, s => if s = (vt[k]?).getD ⟨#[]⟩ then some (k + 1) else plcR vt k s
def qy8 : Nat → Nat → Nat → Nat
 | m, _, 0 => m
 | m, q, n + 1 => qy8 (m ||| 2 ^ q) (q + 1) n
def runR (vt : List ByteArray) (s : ByteArray) : Option (Nat × Nat) :=
 match plcR vt vt.length (cutB s [32, 116, 111, 32]).1 with
 | none => none
 | some a => if (cutB s [32, 116, 111, 32]).2.2 = true then (plcR vt vt.length (cutB s [32, 116, 111, 32]).2.1).map fun b => (a, b) else some (a, a)
def qt6 (vt : List ByteArray) : List ByteArray → Nat → Nat
 | [], m => m
 | p :: l, m => match runR vt p with
  | none => 0
  | some (q, r) => qt6 vt l (qy8 m q (r + 1 - q))
def qs5 (us : List UnitW) : Nat → ByteArray → Option Nat
 | 0, _ => none
 | k + 1, s => if s = qe7 us k then some k else qs5 us k s
def wordR (s : ByteArray) : ByteArray := if (ahdB s [116, 104, 101, 32, 112, 114, 111, 106, 101, 99, 116, 32]).2 = true then ⟨#[116, 104, 101, 32, 112, 114, 111, 106, 101, 99, 116]⟩ else (cutB s [32]).1
def qp1 (s : ByteArray) : ByteArray := if (ahdB s [116, 104, 101, 32, 112, 114, 111, 106, 101, 99, 116, 32]).2 = true then (ahdB s [116, 104, 101, 32, 112, 114, 111, 106, 101, 99, 116, 32]).1 else (cutB s [32]).2.1
def zc5 (us : List UnitW) (s : ByteArray) : Option Nat := if (cutB s [32]).2.2 = true then qs5 us us.length (wordR s) else none
def qr8 (us : List UnitW) (u : Nat) (s : ByteArray) : Nat := qt6 (qh2 us u) (qn7 s ⟨#[44, 32]⟩) 0
def qz3 (us : List UnitW) : List ByteArray → List Term → Option (List Term)
 | [], l => some l
 | p :: ps, l => match zc5 us p with
  | none => none
  | some u => qz3 us ps (l ++ [⟨(u : Int), (qr8 us u (qp1 p) : Nat)⟩])
def qq5 (us : List UnitW) (s : ByteArray) : Option (List Term) :=
 if s = ⟨#[115, 111, 32, 116, 104, 101, 114, 101, 32, 105, 115, 32, 110, 111, 110, 101]⟩ then some []
 else if (ahdB s [110, 101, 118, 101, 114, 32]).2 = true then qz3 us (qn7 (ahdB s [110, 101, 118, 101, 114, 32]).1 ⟨#[59, 32]⟩) [] else none
def askP : List UInt8 := [73, 116, 32, 119, 97, 115, 32, 97, 115, 107, 101, 100, 32, 111, 102, 32]
def wantedB : ByteArray := ⟨#[84, 104, 101, 32, 112, 114, 111, 106, 101, 99, 116, 32, 105, 115, 32, 119, 97, 110, 116, 101, 100]⟩
def atoR (s : ByteArray) : Option Int := match Lib.atoiAll s.data.toList with
 | .ok v => some (IntKind.i64.wrap (v - 1))
 | _ => none
def bothR (us : List UnitW) (s : ByteArray) : Option (Int × Nat × Int × Int) :=
 match qs5 us us.length (cutB s [44, 32, 97, 115, 32, 116, 111, 32]).2.1, atoR (cutB (cutB s [44, 32, 97, 115, 32, 116, 111, 32]).1 [32, 97, 110, 100, 32]).1, atoR (cutB (cutB s [44, 32, 97, 115, 32, 116, 111, 32]).1 [32, 97, 110, 100, 32]).2.1 with
 | some u, some a, some b => some (5, u, a, b)
 | _, _, _ => none
def qr2 (us : List UnitW) (s : ByteArray) : Option (Int × Nat × Int × Int) :=
 if s = wantedB then some (1, 0, 0, 0)
 else if (ahdB s askP).2 = true then (qs5 us us.length (ahdB s askP).1).map fun u => (4, u, 0, 0)
 else if (ahdB s [66, 121, 32]).2 = true then bothR us (ahdB s [66, 121, 32]).1
 else if (sufB (qp1 s) [32, 110, 101, 101, 100, 115]).2 = true then (zc5 us s).map fun u => (2, u, 0, 0)
 else if (sufB (qp1 s) [32, 98, 97, 114, 115]).2 = true then (zc5 us s).map fun u => (3, u, 0, 0)
 else none
def qu0 (line : ByteArray) (n : Nat) : Option (ByteArray × ByteArray) :=
 if (ahdB line (decB n ++ ⟨#[46, 32]⟩).data.toList).2 = true ∧ (sufB (ahdB line (decB n ++ ⟨#[46, 32]⟩).data.toList).1 [46]).2 = true ∧ (cutB (sufB (ahdB line (decB n ++ ⟨#[46, 32]⟩).data.toList).1 [46]).1 [58, 32]).2.2 = true
 then some ((cutB (sufB (ahdB line (decB n ++ ⟨#[46, 32]⟩).data.toList).1 [46]).1 [58, 32]).1, (cutB (sufB (ahdB line (decB n ++ ⟨#[46, 32]⟩).data.toList).1 [46]).1 [58, 32]).2.1) else none
def qp5 (n : Nat) (a b : Int) : Prop := 0 ≤ a ∧ a < (n : Int) - 1 ∧ 0 ≤ b ∧ b < (n : Int) - 1
instance (n : Nat) (a b : Int) : Decidable (qp5 n a b) := by unfold qp5; infer_instance
def rowR (us : List UnitW) (line : ByteArray) (n : Nat) : Option Row :=
 match qu0 line n with
 | none => none
 | some (hd, tl) => match qr2 us hd, qq5 us tl with
  | some (kd, u, a, b), some ts => if mayL (nsOf us) ts = true ∧ (kd = 5 → qp5 n a b) ∧ qi4 us ⟨kd, u, a, b, ts⟩ n = line then some ⟨kd, u, a, b, ts⟩ else none
  | _, _ => none
def ql0 (us : List UnitW) : Nat → ByteArray → List Row → Option (List Row) × Nat
 | 0, _, out => (none, out.length + 1)
 | f + 1, s, out => if s.size = 0 then (some out, 0)
  else if (cutB s [10]).2.2 = true then match rowR us (cutB s [10]).1 (out.length + 1) with
   | none => (none, out.length + 1)
   | some r => ql0 us f (cutB s [10]).2.1 (out ++ [r])
  else (none, out.length + 1)
section
variable {us : List UnitW}
theorem zc9 {vt : List ByteArray} : ∀ {k v : Nat} {s : ByteArray}, plcR vt k s = some v → v ≤ k
 | 0, v, s, h => by
  unfold plcR at h
  split at h
  ·injection h with h; omega
  ·cases h
 | k + 1, v, s, h => by
  unfold plcR at h
  split at h
  ·injection h with h; omega
  ·have := zc9 h; omega
theorem zf5 : ∀ {k u : Nat} {s : ByteArray}, qs5 us k s = some u → u < k
 | 0, u, s, h => by cases h
 | k + 1, u, s, h => by
  unfold qs5 at h
  split at h
  ·injection h with h; omega
  ·have := zf5 h; omega
theorem qt2 (s : ByteArray) (sep : List UInt8) : (cutB s sep).1.size ≤ s.size ∧ (cutB s sep).2.1.size ≤ s.size ∧ ((cutB s sep).2.2 = true → (cutB s sep).2.1.size + sep.length ≤ s.size) := by
 have e : s.data.toList.length = s.size := by simp
 unfold cutB Lib.cut
 split
 ·rename_i h
  refine ⟨?_, ?_, fun _ => ?_⟩
  ·show (List.take _ _).length ≤ _
   rw [List.length_take]; omega
  ·show (List.drop _ _).length ≤ _
   rw [List.length_drop]; omega
  ·show (List.drop _ _).length + _ ≤ _
   rw [List.length_drop]
   have := Lib.index_room _ _ h
   omega
 ·refine ⟨?_, Nat.zero_le _, fun h => by cases h⟩
  show s.data.toList.length ≤ _
  omega
theorem qs7 (s : ByteArray) (p : List UInt8) : (ahdB s p).1.size ≤ s.size := by
 have e : s.data.toList.length = s.size := by simp
 unfold ahdB Lib.trimPrefix
 show (if _ then _ else _ : List UInt8).length ≤ _
 split
 ·rw [List.length_drop]; omega
 ·omega
theorem sufB_size (s : ByteArray) (p : List UInt8) : (sufB s p).1.size ≤ s.size := by
 have e : s.data.toList.length = s.size := by simp
 unfold sufB Lib.trimSuffix
 show (if _ then _ else _ : List UInt8).length ≤ _
 split
 ·rw [List.length_take]; omega
 ·omega
theorem ze3 : ∀ (n m q : Nat), m < 32 → q + n ≤ 5 → qy8 m q n < 32
 | 0, m, q, hm, _ => hm
 | n + 1, m, q, hm, hq => by
  unfold qy8
  refine ze3 n _ (q + 1) ?_ (by omega)
  refine Nat.or_lt_two_pow (n := 5) hm ?_
  exact Nat.pow_lt_pow_right (by omega) (by omega)
theorem qv5 (s sep : ByteArray) (w : World) (hs : s.size ≤ 2000000) (hm : Glob w) :
  Calls Tryz.prog 40 #[.string s, .string sep] w fun e w' => e = .returned (.tuple #[.string (cutB s sep.data.toList).1, .string (cutB s sep.data.toList).2.1, .bool (cutB s sep.data.toList).2.2]) ∧ Below w.heap.size w w' := by
 obtain ⟨m, hm⟩ := hm.2.1
 refine (Tryz.strings_Cut s sep m w (by omega) hm).mono ?_
 rintro e w' ⟨rfl, n, rfl⟩
 exact ⟨rfl, below_drewN (b0 w) n⟩
theorem za5 (s p : ByteArray) (w : World) :
  Calls Tryz.prog 78 #[.string s, .string p] w fun e w' => e = .returned (.tuple #[.string (ahdB s p.data.toList).1, .bool (ahdB s p.data.toList).2]) ∧ w' = w := Tryz.strings_CutPrefix s p w
theorem ssuf_any (s p : ByteArray) (w : World) (hs : s.size ≤ 2000000) :
  Calls Tryz.prog 79 #[.string s, .string p] w fun e w' => e = .returned (.tuple #[.string (sufB s p.data.toList).1, .bool (sufB s p.data.toList).2]) ∧ w' = w := Tryz.strings_CutSuffix s p w (by omega)
theorem shas_any (s p : ByteArray) (w : World) (hs : s.size ≤ 2000000) :
  Calls Tryz.prog 116 #[.string s, .string p] w fun e w' => e = .returned (.bool (sufB s p.data.toList).2) ∧ w' = w := Tryz.strings_HasSuffix s p w (by omega)
theorem qf2 (w : World) : (zeroValue 3).run Tryz.prog w = .ok (.int .i64 0) w := by kernel_rfl
def PartsPost (s sep : ByteArray) (w : World) (e : Ending) (w' : World) : Prop :=
 ∃ g n, e = .returned (.slice (some ⟨g, 0, none⟩) n n) ∧ n = (qn7 s sep).length ∧ 1 ≤ n ∧ n ≤ s.size + 1 ∧ g < w'.heap.size ∧ (∀ k x, (qn7 s sep)[k]? = some x → w'.cell? ⟨g, k, none⟩ = some (.string x)) ∧ Below w.heap.size w w'
theorem zp3 (s sep : ByteArray) (w : World) (hs : s.size ≤ 2000000) (h1 : 1 ≤ sep.size) (hm : Glob w) :
  Calls Tryz.prog 117 #[.string s, .string sep] w (PartsPost s sep w) := by
 obtain ⟨m, hm⟩ := hm.2.1
 refine (Tryz.strings_Split s sep m w (by omega) hm h1).mono ?_
 rintro e w' ⟨rfl, rfl⟩
 have hl : (qn7 s sep).length = Lib.countB s sep + 1 := Lib.splitB_all sep h1 0 _ s rfl
 have hle := Lib.countB_le sep h1 s.size s (Nat.le_refl _)
 refine ⟨_, _, rfl, hl.symm, by omega, by omega, by simp, fun k x hx => ?_, qa0 (b0 w) _⟩
 rw [qa6]
 show ((qn7 s sep).map Value.string).toArray[k]? = _
 simp [hx]
end
end
section
theorem maskR_step {vt : List ByteArray} {L : List ByteArray} {k : Nat} (hk : k < L.length) (m : Nat) : qt6 vt (L.drop k) m = match runR vt L[k] with
    | none => 0
    | some (q, r) => qt6 vt (L.drop (k + 1)) (qy8 m q (r + 1 - q)) := by
  rw [List.drop_eq_getElem_cons hk]
  rfl
theorem zm6 {m q r : Nat} (h : q ≤ r) : qy8 m q (r + 1 - q) = qy8 (m ||| 2 ^ q) (q + 1) (r + 1 - (q + 1)) := by
  rw [show r + 1 - q = (r + 1 - (q + 1)) + 1 by omega]
  rfl
theorem zk2 (sep : ByteArray) : ∀ (k : Nat) (s x : ByteArray), x ∈ Lib.splitB sep 0 k s → x.size ≤ s.size
  | 0, s, x, h => by rw [Lib.splitB_zero, List.mem_singleton] at h; rw [h]; omega
  | k + 1, s, x, h => by
    unfold Lib.splitB at h
    split at h
    · rw [List.mem_singleton] at h; rw [h]; omega
    · rcases List.mem_cons.1 h with rfl | h
      · rw [ByteArray.size_extract]; omega
      · have := zk2 sep k _ x h
        rw [ByteArray.size_extract] at this
        omega
theorem zk4 (s sep x : ByteArray) (h : x ∈ qn7 s sep) : x.size ≤ s.size := zk2 sep _ s x h
theorem wrap_pow {p : Nat} (h : p ≤ 4) : wrap64 ((2 : Int) ^ p) = ((2 ^ p : Nat) : Int) := by
  rcases (show p = 0 ∨ p = 1 ∨ p = 2 ∨ p = 3 ∨ p = 4 by omega) with rfl | rfl | rfl | rfl | rfl <;> simp [wrap64]
theorem or_pow {m p : Nat} (hm : m < 32) (h : p ≤ 4) : bits .or .i64 (m : Int) (wrap64 ((2 : Int) ^ p)) = ((m ||| 2 ^ p : Nat) : Int) := by
  rw [wrap_pow h]
  refine or_fact _ _ (by omega) ?_
  have : 2 ^ p ≤ 2 ^ 4 := Nat.pow_le_pow_right (by omega) h
  omega
section
variable {us : List UnitW}
def plcV (vt : List ByteArray) (k : Nat) (s : ByteArray) : Option Value := (plcR vt k s).map fun v : Nat => Value.int .i64 ((v : Int) - 1)
theorem zd0 {vt : List ByteArray} {k : Nat} {s : ByteArray} {o : Option Nat} (h : plcR vt k s = o) : plcV vt k s = o.map fun v : Nat => Value.int .i64 ((v : Int) - 1) := by unfold plcV; rw [h]
theorem plcV_zero (vt : List ByteArray) (s : ByteArray) : (if s = ⟨#[110, 111, 110, 101]⟩ then some (Value.int .i64 (-1)) else none) = plcV vt 0 s := by
  unfold plcV plcR noneB
  split <;> rfl
theorem plcV_succ {vt : List ByteArray} {k : Nat} (hk : k < vt.length) (s : ByteArray) : (if s = vt[k] then some (Value.int .i64 k) else plcV vt k s) = plcV vt (k + 1) s := by
  unfold plcV
  rw [plcR, List.getElem?_eq_getElem hk, Option.getD_some]
  split
  · show _ = some (Value.int .i64 (((k + 1 : Nat) : Int) - 1))
    rw [show (((k + 1 : Nat) : Int) - 1) = k by omega]
  · rfl
set_option maxRecDepth 100000 in
set_option maxHeartbeats 4000000 in
theorem rdvals_any (sv : Value) (b u : Nat) (s : ByteArray) (w : World) (h : qd0 w (Lt w.heap.size) (.agg #[sv]) us) (ho : StW us) (hu : u < us.length) (hG : Glob w) (hs : s.size ≤ 1500000) :
    Calls Tryz.prog 118 #[.agg #[sv, .map (some b)], .int .i64 u, .string s] w fun e w' => e = .returned (.int .i64 (qr8 us u s : Nat)) ∧ Below w.heap.size w w' := by
  have hmm := @run_makeMap Tryz.prog
  obtain ⟨g, cap0, hv, hg, hun⟩ := h.opened
  injection hv with hv
  injection hv with hv
  injection hv with hv _
  subst hv
  obtain ⟨Ac, cc, hcu, hcd⟩ := hun u hu
  have HCD := hid hcd
  have HVT := hid (qk9 hu)
  have hn4 : us[u].cands.length ≤ 4 := by
    have := ho.ns.le u (by simpa [nsOf] using hu)
    simpa [nsOf] using this
  have HVO := hid (fun k (hk : k < us[u].cands.length) => ho.vok hu hk)
  have h11 : us.length ≤ 11 := by have := ho.ns.hi; simpa [nsOf] using this
  unfold qr8
  generalize qh2 us u = vt at *
  generalize us[u].cands = cs at *
  obtain ⟨n, hn⟩ : ∃ n, cs.length = n := ⟨_, rfl⟩
  have HN := hid hn
  have hvn : vt.length = n := by rw [HVT.out, List.length_map, hn]
  rw [hn] at hcu hn4
  obtain ⟨R, hR⟩ : ∃ R, qt6 vt (qn7 s ⟨#[44, 32]⟩) 0 = R := ⟨_, rfl⟩
  have HR0 := hid hR
  rw [hR]
  clear hR
  have HG := hid hG
  have u1 : (0 : Int) ≤ ↑u := by omega
  have u2 : (↑u : Int) < ↑us.length := by omega
  obtain ⟨w0, hw0⟩ : ∃ w0 : World, w0 = w.alloc (.cells #[.slice (some ⟨g, 0, none⟩) us.length cap0, .map (some b)] 91) := ⟨_, rfl⟩
  have hzs : w0.heap.size = w.heap.size + 1 := by rw [hw0]; simp
  have hi1 : (Instr.mapUpdate 89 (.map (some (w.heap.size + 1))) (.string ⟨#[110, 111, 110, 101]⟩) (.int .i64 (-1))).run Tryz.prog ((w.alloc (.cells #[.slice (some ⟨g, 0, none⟩) us.length cap0, .map (some b)] 91)).alloc (.map #[] 0)) = .ok () ((w.alloc (.cells #[.slice (some ⟨g, 0, none⟩) us.length cap0, .map (some b)] 91)).alloc (.map #[⟨.string ⟨#[110, 111, 110, 101]⟩, .int .i64 (-1), 0⟩] 1)) := by
    have := qw8 (P := Tryz.prog) (w := w0) Tryz.underlying89 Tryz.underlying9 #[] 0 (.string ⟨#[110, 111, 110, 101]⟩) (.int .i64 (-1)) (kStr.isKey ⟨#[110, 111, 110, 101]⟩) (by rfl)
    rw [hzs, hw0] at this
    exact this
  obtain ⟨wm, hwm⟩ : ∃ wm : World, wm = (w.alloc (.cells #[.slice (some ⟨g, 0, none⟩) us.length cap0, .map (some b)] 91)).alloc (.map #[⟨.string ⟨#[110, 111, 110, 101]⟩, .int .i64 (-1), 0⟩] 1) := ⟨_, rfl⟩
  have hbm : Below w.heap.size w wm := hwm ▸ qa0 (qa0 (b0 w) _) _
  have hzm : w.heap.size + 1 < wm.heap.size := by rw [hwm]; simp
  have c0 : wm.cell? ⟨w.heap.size, 0, none⟩ = some (.slice (some ⟨g, 0, none⟩) us.length cap0) := by rw [hwm, ← hw0]; exact cell_below (qa0 (b0 w0) _) (by omega) (by rw [hw0, qa6]; rfl)
  have c2 := cell_below hbm hg hcu
  have HMP : Hid (MapF kStr wm (w.heap.size + 1) 1 (plcV vt 0)) := hid (by
    have := MapF.one kStr w0 ⟨#[110, 111, 110, 101]⟩ (.int .i64 (-1))
    rw [hzs] at this
    rw [hwm, ← hw0]
    exact this.congr (plcV_zero vt))
  have HBM := hid hbm
  have HWM := hid hwm
  clear hwm hbm hw0 hzs hun hcu hcd h hn hG
  go_enter Tryz.func118, Tryz.ntmps118
  go_upto_region 2 with fail
  rw [← HWM.out]
  go_wp2_with fail
  go_loopw [33] (fun kv wr => ∃ k : Nat, k ≤ n ∧ kv = .int .i64 k ∧ Hid (∃ nm, MapF kStr wr (w.heap.size + 1) nm (plcV vt k)) ∧ Hid (Below w.heap.size w wr) ∧ Hid (w.heap.size + 1 < wr.heap.size)) (fun kv _ => n - (intOf kv).toNat)
  case atStart => exact ⟨0, by omega, rfl, hid ⟨_, HMP.out⟩, HBM, hid hzm⟩
  case round =>
    obtain ⟨k, hk, rfl, hmf, hb, hz⟩ := hrel
    obtain ⟨nm, hm⟩ := hmf.out
    have hz' := hz.out
    by_cases hlt : k < n
    · have hkn : k < cs.length := by rw [HN.out]; exact hlt
      obtain ⟨gc, oc, nv, bv, hAc, hFc, hat, hvB, hnd, hbr⟩ := HCD.out k hkn
      subst hAc
      have hvok := HVO.out k hkn
      have HVK : Hid (vt[k]'(by omega) = qg5 cs[k].v) := hid (by simp [HVT.out])
      have HPS := hid (plcV_succ (vt := vt) (k := k) (by omega))
      generalize cs[k] = cd at *
      obtain ⟨x0, x1, x2, x3, x4, x5, x6, x7⟩ := hat.below hb.out hFc
      obtain ⟨An, cn, rfl, -⟩ := hnd.shape
      obtain ⟨Ab, cb, rfl, -⟩ := hbr.shape
      generalize cd.needs.length = nn at *
      generalize cd.bars.length = nb at *
      have j0 : (0 : Int) ≤ ↑k := by omega
      have j1 : (↑k : Int) < ↑n := by omega
      have j2 : decide (k < n) = true := decide_eq_true hlt
      have HPR := hid (fun W' => zo1 cd.v hvok W')
      have HM := hid hm
      rw [HVK.out] at HPS
      generalize qg5 cd.v = pb at *
      clear hat hnd hbr hm hmf hvok hvB
      go_wp2_with (first
        | (go_at_call 52; refine (HPR.out _).mono ?_; rintro e w3 ⟨rfl, hb3⟩; have HB3 := hid (qa1 (qa0 hb.out _) hb3); have HM3 := hid ((HM.out.alloc _).below hb3 (by simp; omega)); have hz3 := hb3.size; clear hb3)
        | (at_mapUpdate; refine zl6 rfl _ _ _ rfl kStr Tryz.underlying89 Tryz.underlying9 (w.heap.size + 1) nm _ rfl HM3.out pb (.int .i64 k) rfl rfl ?_
           intro w5 n5 hm5 _ _ hg5 hs5
           have HM5 := hid (hm5.congr HPS.out)
           have HB5 := hid (below_map HB3.out hg5 (by omega) HB3.out.size)
           clear hm5 hg5))
      have hzz : w.heap.size + 1 < w5.heap.size := by
        have h1 : (World.alloc wr _).heap.size ≤ w3.heap.size := hz3
        rw [World.size_alloc] at h1
        omega
      exact ⟨⟨k + 1, by omega, by go_num, hid ⟨n5, HM5.out⟩, HB5, hid hzz⟩, by simp [intOf]; omega⟩
    · have hkn : n = k := by omega
      subst hkn
      have j1 : ¬ ((↑n : Int) < ↑n) := by omega
      have j2 : decide (n < n) = false := decide_eq_false (by omega)
      have HM := hid hm
      have HSP := hid (zp3 s ⟨#[44, 32]⟩ wr (by omega) (by show 1 ≤ 2; omega) (HG.out.later hb.out))
      go_wp2_with (first
        | (go_at_call 117; refine HSP.out.mono ?_; rintro e w3 ⟨g3, N, rfl, hn3, hN1, hN2, hg3, hc3, hb3⟩; have HB3 := hid (qa1 hb.out hb3); have HM3 := hid (HM.out.below hb3 hz'); have hz3 := Nat.lt_of_lt_of_le hz' hb3.size; have HC3 := hid hc3; clear hb3 hc3))
      have HBW := hid HB3.out
      have HSZ : Hid (∀ x ∈ qn7 s ⟨#[44, 32]⟩, x.size ≤ 1500000) := hid (fun x hx => Nat.le_trans (zk4 s _ x hx) hs)
      generalize qn7 s ⟨#[44, 32]⟩ = L at *
      subst hn3
      go_loopw [10, 47] (fun mv kv wr => ∃ k m : Nat, k ≤ L.length ∧ m < 32 ∧ kv = .int .i64 k ∧ mv = .int .i64 m ∧ Hid (qt6 vt (L.drop k) m = R) ∧ Hid (Below w3.heap.size w3 wr)) (fun _ kv _ => L.length - (intOf kv).toNat)
      case atStart => exact ⟨0, 0, by omega, by omega, rfl, rfl, hid HR0.out, hid (b0 _)⟩
      case round =>
        clear hb hz hmf hm hz'
        obtain ⟨i, m, hi, hm32, rfl, rfl, hRm, hb⟩ := hrel
        by_cases hlt : i < L.length
        · have i0 : (0 : Int) ≤ ↑i := by omega
          have i1 : (↑i : Int) < ↑L.length := by omega
          have i2 : decide (i < L.length) = true := decide_eq_true hlt
          have hx := HC3.out i _ (List.getElem?_eq_getElem hlt)
          have hxs := HSZ.out _ (List.getElem_mem hlt)
          have y0 := cell_below hb.out hg3 hx
          have hRs := hRm.out
          rw [maskR_step hlt] at hRs
          have HM4 := hid (HM3.out.below hb.out hz3)
          have HGW := hid (HG.out.later (HBW.out.trans (hb.out.mono (by have := HBW.out.size; omega))))
          generalize L[i] = x at *
          have HCU := hid (qv5 x ⟨#[32, 116, 111, 32]⟩ wr (by omega) HGW.out)
          obtain ⟨pa, pb, pm, hp⟩ : ∃ pa pb pm, cutB x [32, 116, 111, 32] = (pa, pb, pm) := ⟨_, _, _, rfl⟩
          have e1 : cutB x (⟨#[32, 116, 111, 32]⟩ : ByteArray).data.toList = (pa, pb, pm) := hp
          rw [e1] at HCU
          unfold runR at hRs
          rw [hp] at hRs
          dsimp only at HCU hRs
          clear hp e1 hx
          rw [hvn] at hRs
          cases hqa : plcR vt n pa with
          | none =>
            have HKA : Hid (plcV vt n pa = none) := hid (zd0 hqa)
            rw [hqa] at hRs
            have HRZ : Hid (0 = R) := hid hRs
            clear hRs hqa
            cases pm with
            | false =>
              go_wp2_with (first
                | (go_at_call 40; refine HCU.out.mono ?_; rintro e w5 ⟨rfl, hb5⟩; have HB5 := hid (hb.out.trans (hb5.mono (by have := hb.out.size; omega))); have HM5 := hid (HM4.out.below hb5 (by have := hb.out.size; omega)); clear hb5)
                | (at_lookup; refine qb0 rfl _ _ rfl kStr Tryz.underlying89 Tryz.underlying9 (.int .i64 0) (qf2 _) (w.heap.size + 1) nm _ rfl HM5.out pa rfl ?_; rw [HKA.out]))
              go_ret
              exact ⟨congrArg (fun x : Nat => Ending.returned (Value.int .i64 x)) HRZ.out, HBW.out.trans (HB5.out.mono (by have := HBW.out.size; omega))⟩
            | true =>
              have t1 := hid True.intro
              cases hqb : plcR vt n pb with
              | none =>
                have HKB : Hid (plcV vt n pb = none) := hid (zd0 hqb)
                clear hqb
                go_wp2_with (first
                  | (go_at_call 40; refine HCU.out.mono ?_; rintro e w5 ⟨rfl, hb5⟩; have HB5 := hid (hb.out.trans (hb5.mono (by have := hb.out.size; omega))); have HM5 := hid (HM4.out.below hb5 (by have := hb.out.size; omega)); clear hb5)
                  | (clear t1; at_lookup; refine qb0 rfl _ _ rfl kStr Tryz.underlying89 Tryz.underlying9 (.int .i64 0) (qf2 _) (w.heap.size + 1) nm _ rfl HM5.out pa rfl ?_; rw [HKA.out])
                  | (at_lookup; refine qb0 rfl _ _ rfl kStr Tryz.underlying89 Tryz.underlying9 (.int .i64 0) (qf2 _) (w.heap.size + 1) nm _ rfl HM5.out pb rfl ?_; rw [HKB.out]))
                go_ret
                exact ⟨congrArg (fun x : Nat => Ending.returned (Value.int .i64 x)) HRZ.out, HBW.out.trans (HB5.out.mono (by have := HBW.out.size; omega))⟩
              | some r =>
                have HKB : Hid (plcV vt n pb = some (.int .i64 ((r : Int) - 1))) := hid (zd0 hqb)
                clear hqb
                go_wp2_with (first
                  | (go_at_call 40; refine HCU.out.mono ?_; rintro e w5 ⟨rfl, hb5⟩; have HB5 := hid (hb.out.trans (hb5.mono (by have := hb.out.size; omega))); have HM5 := hid (HM4.out.below hb5 (by have := hb.out.size; omega)); clear hb5)
                  | (clear t1; at_lookup; refine qb0 rfl _ _ rfl kStr Tryz.underlying89 Tryz.underlying9 (.int .i64 0) (qf2 _) (w.heap.size + 1) nm _ rfl HM5.out pa rfl ?_; rw [HKA.out])
                  | (at_lookup; refine qb0 rfl _ _ rfl kStr Tryz.underlying89 Tryz.underlying9 (.int .i64 0) (qf2 _) (w.heap.size + 1) nm _ rfl HM5.out pb rfl ?_; rw [HKB.out]))
                go_ret
                exact ⟨congrArg (fun x : Nat => Ending.returned (Value.int .i64 x)) HRZ.out, HBW.out.trans (HB5.out.mono (by have := HBW.out.size; omega))⟩
          | some q =>
            have HKA : Hid (plcV vt n pa = some (.int .i64 ((q : Int) - 1))) := hid (zd0 hqa)
            rw [hqa] at hRs
            dsimp only at hRs
            cases pm with
            | false =>
              have hRs : qt6 vt (L.drop (i + 1)) (qy8 m q (q + 1 - q)) = R := hRs
              go_wp2_with (first
                | (go_at_call 40; refine HCU.out.mono ?_; rintro e w5 ⟨rfl, hb5⟩; have HB5 := hid (hb.out.trans (hb5.mono (by have := hb.out.size; omega))); have HM5 := hid (HM4.out.below hb5 (by have := hb.out.size; omega)); clear hb5)
                | (at_lookup; refine qb0 rfl _ _ rfl kStr Tryz.underlying89 Tryz.underlying9 (.int .i64 0) (qf2 _) (w.heap.size + 1) nm _ rfl HM5.out pa rfl ?_; rw [HKA.out]))
              obtain ⟨r, hrq⟩ : ∃ r, r = q := ⟨_, rfl⟩
              have hRs : qt6 vt (L.drop (i + 1)) (qy8 m q (r + 1 - q)) = R := by rw [hrq]; exact hRs
              have hq31 : q ≤ n := zc9 hqa
              have hr31 : r ≤ n := by omega
              clear hqa
              have hbt := ze3 (r + 1 - q) m q hm32
              obtain ⟨T, hT⟩ : ∃ T, qy8 m q (r + 1 - q) = T := ⟨_, rfl⟩
              have HT := hid hT
              have HRT : Hid (qt6 vt (L.drop (i + 1)) T = R) := hid (by rw [← hT]; exact hRs)
              clear hRs hT hbt
              go_loopw [10, 21] (fun mv pv w6 => ∃ p m2 : Nat, q ≤ p ∧ (p ≤ r + 1 ∨ p = q) ∧ m2 < 32 ∧ pv = .int .i64 ((p : Int) - 1) ∧ mv = .int .i64 m2 ∧ Hid (qy8 m2 p (r + 1 - p) = T) ∧ Hid (Below w3.heap.size w3 w6)) (fun _ pv _ => r + 1 - ((intOf pv) + 1).toNat)
              case atStart => exact ⟨q, m, by omega, .inr rfl, hm32, rfl, rfl, HT, HB5⟩
              case round =>
                clear hm32 HT
                obtain ⟨p, m2, hp1, hp2, hm32, rfl, rfl, hbits, hb6⟩ := hrel
                by_cases hpr : p ≤ r
                · have k1 : (p : Int) - 1 ≤ (r : Int) - 1 := by omega
                  have k2 : decide ((p : Int) - 1 ≤ (r : Int) - 1) = true := decide_eq_true k1
                  have k3 : IntKind.i64.wrap ((p : Int) - 1 + 1) = (p : Int) := by rw [show (p : Int) - 1 + 1 = p by omega]; exact IntWalk.i64_in _ (by omega)
                  have hst := hbits.out
                  rw [zm6 hpr] at hst
                  have h4 : 2 ^ p < 2 ^ 5 := Nat.pow_lt_pow_right (by omega) (by omega)
                  have hor : m2 ||| 2 ^ p < 32 := Nat.or_lt_two_pow (n := 5) hm32 h4
                  have HORR := hid (or_pow hm32 (show p ≤ 4 by omega)); have HST := hid hst
                  clear hst h4
                  go_wp2_with fail
                  exact ⟨⟨p + 1, m2 ||| 2 ^ p, by omega, .inl (by omega), hor, congrArg (Value.int .i64) (show (p : Int) = ((p + 1 : Nat) : Int) - 1 by omega), congrArg (Value.int .i64) HORR.out, HST, hb6⟩, by simp only [intOf]; omega⟩
                · have k1 : ¬ ((p : Int) - 1 ≤ (r : Int) - 1) := by omega
                  have k2 : decide ((p : Int) - 1 ≤ (r : Int) - 1) = false := decide_eq_false k1
                  have hz6 : r + 1 - p = 0 := by omega
                  have hmT := hbits.out
                  rw [hz6] at hmT
                  have hmT2 : m2 = T := hmT
                  have HRT2 : Hid (qt6 vt (L.drop (i + 1)) m2 = R) := hid (by rw [hmT2]; exact HRT.out)
                  clear hmT hmT2 hz6 hbits
                  go_wp2_with fail
                  exact ⟨⟨i + 1, m2, by omega, hm32, by go_num, rfl, HRT2, hb6⟩, by simp [intOf]; omega⟩
            | true =>
              have t1 := hid True.intro
              cases hqb : plcR vt n pb with
              | none =>
                have HKB : Hid (plcV vt n pb = none) := hid (zd0 hqb)
                rw [hqb] at hRs
                have HRZ : Hid (0 = R) := hid hRs
                clear hqb hRs hqa
                go_wp2_with (first
                  | (go_at_call 40; refine HCU.out.mono ?_; rintro e w5 ⟨rfl, hb5⟩; have HB5 := hid (hb.out.trans (hb5.mono (by have := hb.out.size; omega))); have HM5 := hid (HM4.out.below hb5 (by have := hb.out.size; omega)); clear hb5)
                  | (clear t1; at_lookup; refine qb0 rfl _ _ rfl kStr Tryz.underlying89 Tryz.underlying9 (.int .i64 0) (qf2 _) (w.heap.size + 1) nm _ rfl HM5.out pa rfl ?_; rw [HKA.out])
                  | (at_lookup; refine qb0 rfl _ _ rfl kStr Tryz.underlying89 Tryz.underlying9 (.int .i64 0) (qf2 _) (w.heap.size + 1) nm _ rfl HM5.out pb rfl ?_; rw [HKB.out]))
                go_ret
                exact ⟨congrArg (fun x : Nat => Ending.returned (Value.int .i64 x)) HRZ.out, HBW.out.trans (HB5.out.mono (by have := HBW.out.size; omega))⟩
              | some r =>
                have HKB : Hid (plcV vt n pb = some (.int .i64 ((r : Int) - 1))) := hid (zd0 hqb)
                rw [hqb] at hRs
                have hRs : qt6 vt (L.drop (i + 1)) (qy8 m q (r + 1 - q)) = R := hRs
                go_wp2_with (first
                  | (go_at_call 40; refine HCU.out.mono ?_; rintro e w5 ⟨rfl, hb5⟩; have HB5 := hid (hb.out.trans (hb5.mono (by have := hb.out.size; omega))); have HM5 := hid (HM4.out.below hb5 (by have := hb.out.size; omega)); clear hb5)
                  | (clear t1; at_lookup; refine qb0 rfl _ _ rfl kStr Tryz.underlying89 Tryz.underlying9 (.int .i64 0) (qf2 _) (w.heap.size + 1) nm _ rfl HM5.out pa rfl ?_; rw [HKA.out])
                  | (at_lookup; refine qb0 rfl _ _ rfl kStr Tryz.underlying89 Tryz.underlying9 (.int .i64 0) (qf2 _) (w.heap.size + 1) nm _ rfl HM5.out pb rfl ?_; rw [HKB.out]))
                have hq31 : q ≤ n := zc9 hqa
                have hr31 : r ≤ n := zc9 hqb
                clear hqa hqb
                have hbt := ze3 (r + 1 - q) m q hm32
                obtain ⟨T, hT⟩ : ∃ T, qy8 m q (r + 1 - q) = T := ⟨_, rfl⟩
                have HT := hid hT
                have HRT : Hid (qt6 vt (L.drop (i + 1)) T = R) := hid (by rw [← hT]; exact hRs)
                clear hRs hT hbt
                go_loopw [10, 21] (fun mv pv w6 => ∃ p m2 : Nat, q ≤ p ∧ (p ≤ r + 1 ∨ p = q) ∧ m2 < 32 ∧ pv = .int .i64 ((p : Int) - 1) ∧ mv = .int .i64 m2 ∧ Hid (qy8 m2 p (r + 1 - p) = T) ∧ Hid (Below w3.heap.size w3 w6)) (fun _ pv _ => r + 1 - ((intOf pv) + 1).toNat)
                case atStart => exact ⟨q, m, by omega, .inr rfl, hm32, rfl, rfl, HT, HB5⟩
                case round =>
                  clear hm32 HT
                  obtain ⟨p, m2, hp1, hp2, hm32, rfl, rfl, hbits, hb6⟩ := hrel
                  by_cases hpr : p ≤ r
                  · have k1 : (p : Int) - 1 ≤ (r : Int) - 1 := by omega
                    have k2 : decide ((p : Int) - 1 ≤ (r : Int) - 1) = true := decide_eq_true k1
                    have k3 : IntKind.i64.wrap ((p : Int) - 1 + 1) = (p : Int) := by rw [show (p : Int) - 1 + 1 = p by omega]; exact IntWalk.i64_in _ (by omega)
                    have hst := hbits.out
                    rw [zm6 hpr] at hst
                    have h4 : 2 ^ p < 2 ^ 5 := Nat.pow_lt_pow_right (by omega) (by omega)
                    have hor : m2 ||| 2 ^ p < 32 := Nat.or_lt_two_pow (n := 5) hm32 h4
                    have HORR := hid (or_pow hm32 (show p ≤ 4 by omega)); have HST := hid hst
                    clear hst h4
                    go_wp2_with fail
                    exact ⟨⟨p + 1, m2 ||| 2 ^ p, by omega, .inl (by omega), hor, congrArg (Value.int .i64) (show (p : Int) = ((p + 1 : Nat) : Int) - 1 by omega), congrArg (Value.int .i64) HORR.out, HST, hb6⟩, by simp only [intOf]; omega⟩
                  · have k1 : ¬ ((p : Int) - 1 ≤ (r : Int) - 1) := by omega
                    have k2 : decide ((p : Int) - 1 ≤ (r : Int) - 1) = false := decide_eq_false k1
                    have hz6 : r + 1 - p = 0 := by omega
                    have hmT := hbits.out
                    rw [hz6] at hmT
                    have hmT2 : m2 = T := hmT
                    have HRT2 : Hid (qt6 vt (L.drop (i + 1)) m2 = R) := hid (by rw [hmT2]; exact HRT.out)
                    clear hmT hmT2 hz6 hbits
                    go_wp2_with fail
                    exact ⟨⟨i + 1, m2, by omega, hm32, by go_num, rfl, HRT2, hb6⟩, by simp [intOf]; omega⟩
        · have hin : i = L.length := by omega
          have i1 : ¬ ((↑i : Int) < ↑L.length) := by omega
          have i2 : decide (i < L.length) = false := decide_eq_false hlt
          have hRs := hRm.out
          rw [hin, List.drop_length] at hRs
          have hRz : m = R := hRs
          clear hin hRs
          go_wp2_with fail
          go_ret
          exact ⟨rfl, HBW.out.trans (hb.out.mono (by have := HBW.out.size; omega))⟩
end
end
section
section
variable {us : List UnitW}
def zl2 (us : List UnitW) (k : Nat) (s : ByteArray) : Option Value := (qs5 us k s).map fun u : Nat => Value.int .i64 u
theorem zf6 {k : Nat} {s : ByteArray} {o : Option Nat} (h : qs5 us k s = o) : zl2 us k s = o.map fun u : Nat => Value.int .i64 u := by unfold zl2; rw [h]
set_option maxRecDepth 100000 in
set_option maxHeartbeats 4000000 in
theorem zo2 (sv : Value) (b nm : Nat) (s : ByteArray) (w : World) (hm : MapF kStr w b nm (zl2 us us.length)) (_h1 : Value.oneCell' sv = true) (hG : Glob w) (hs : s.size ≤ 1500000) :
    Calls Tryz.prog 115 #[.agg #[sv, .map (some b)], .string s] w fun e w' => e = .returned (.tuple #[.int .i64 (((qs5 us us.length (wordR s)).getD 0 : Nat) : Int), .string (qp1 s), .bool (zc5 us s).isSome]) ∧ Below w.heap.size w w' := by
  obtain ⟨w0, hw0⟩ : ∃ w0 : World, w0 = w.alloc (.cells #[sv, .map (some b)] 91) := ⟨_, rfl⟩
  have hb0 : Below w.heap.size w w0 := hw0 ▸ qa0 (b0 w) _
  have hz0 : w.heap.size < w0.heap.size := by rw [hw0]; simp
  have c1 : w0.cell? ⟨w.heap.size, 1, none⟩ = some (.map (some b)) := by rw [hw0, qa6]; rfl
  have HB0 := hid hb0
  have HW0 := hid hw0
  have HM0 := hid (hm.below hb0 hm.lt)
  have hbz := Nat.lt_trans hm.lt hz0
  have HCU := hid (qv5 s ⟨#[32]⟩ w0 (by omega) (hG.later hb0))
  have HPR := hid (fun W => za5 s ⟨#[116, 104, 101, 32, 112, 114, 111, 106, 101, 99, 116, 32]⟩ W)
  have e1 : (⟨#[32]⟩ : ByteArray).data.toList = [32] := rfl
  have e2 : (⟨#[116, 104, 101, 32, 112, 114, 111, 106, 101, 99, 116, 32]⟩ : ByteArray).data.toList = [116, 104, 101, 32, 112, 114, 111, 106, 101, 99, 116, 32] := rfl
  rw [e1] at HCU
  rw [e2] at HPR
  unfold zc5 wordR qp1
  obtain ⟨ca, cb, cm, hc⟩ : ∃ ca cb cm, cutB s [32] = (ca, cb, cm) := ⟨_, _, _, rfl⟩
  obtain ⟨pa, pm, hp⟩ : ∃ pa pm, ahdB s [116, 104, 101, 32, 112, 114, 111, 106, 101, 99, 116, 32] = (pa, pm) := ⟨_, _, rfl⟩
  rw [hc] at HCU ⊢
  rw [hp] at HPR ⊢
  dsimp only at HCU HPR ⊢
  clear e1 e2 hc hp hw0 hb0 hG hm
  cases pm with
  | true =>
    obtain ⟨o, ho⟩ : ∃ o, qs5 us us.length ⟨#[116, 104, 101, 32, 112, 114, 111, 106, 101, 99, 116]⟩ = o := ⟨_, rfl⟩
    have HK := hid (zf6 ho)
    simp only [if_true, ho]
    clear ho
    go_enter Tryz.func115, Tryz.ntmps115
    cases o <;> cases cm <;>
    (go_wp2_with (first
      | (go_at_call 40; rw [← HW0.out]; refine HCU.out.mono ?_; rintro e w1 ⟨rfl, hb1⟩; have HB1 := hid (qa1 HB0.out hb1); have HM1 := hid (HM0.out.below hb1 hbz); have d1 := cell_below hb1 hz0 c1; clear hb1)
      | (go_at_call 78; refine (HPR.out _).mono ?_; rintro e w2 ⟨rfl, rfl⟩)
      | (at_lookup; refine qb0 rfl _ _ rfl kStr Tryz.underlying89 Tryz.underlying9 (.int .i64 0) (qf2 _) b nm _ rfl HM1.out ⟨#[116, 104, 101, 32, 112, 114, 111, 106, 101, 99, 116]⟩ rfl ?_; rw [HK.out]))
     go_ret3
     exact ⟨rfl, HB1.out⟩)
  | false =>
    obtain ⟨o, ho⟩ : ∃ o, qs5 us us.length ca = o := ⟨_, rfl⟩
    have HK := hid (zf6 ho)
    simp only [if_false, Bool.false_eq_true, ho]
    clear ho
    go_enter Tryz.func115, Tryz.ntmps115
    cases o <;> cases cm <;>
    (go_wp2_with (first
      | (go_at_call 40; rw [← HW0.out]; refine HCU.out.mono ?_; rintro e w1 ⟨rfl, hb1⟩; have HB1 := hid (qa1 HB0.out hb1); have HM1 := hid (HM0.out.below hb1 hbz); have d1 := cell_below hb1 hz0 c1; clear hb1)
      | (go_at_call 78; refine (HPR.out _).mono ?_; rintro e w2 ⟨rfl, rfl⟩)
      | (at_lookup; refine qb0 rfl _ _ rfl kStr Tryz.underlying89 Tryz.underlying9 (.int .i64 0) (qf2 _) b nm _ rfl HM1.out ca rfl ?_; rw [HK.out]))
     go_ret3
     exact ⟨rfl, HB1.out⟩)
end
end
section
theorem eqL {s : ByteArray} {l : List UInt8} (h : s = ⟨l.toArray⟩) : (s.toList == l) = true := by
  subst h
  rw [ByteArray.toList_eq]
  exact beq_self_eq_true l
theorem neL {s : ByteArray} {l : List UInt8} (h : ¬ s = ⟨l.toArray⟩) : (s.toList == l) = false := by
  rw [beq_eq_false_iff_ne]
  intro e
  refine h (ByteArray.ext ?_)
  rw [ByteArray.toList_eq] at e
  rw [← e]
theorem maskR_le {vt : List ByteArray} (hv : vt.length ≤ 4) : ∀ (L : List ByteArray) (m : Nat), m < 32 → qt6 vt L m < 32
  | [], m, h => h
  | p :: l, m, h => by
    unfold qt6
    cases hr : runR vt p with
    | none => show 0 < 32; omega
    | some qr =>
      obtain ⟨q, r⟩ := qr
      have hqr : q ≤ vt.length ∧ r ≤ vt.length := by
        unfold runR at hr
        split at hr
        · cases hr
        · rename_i a ha
          have h1 := zc9 ha
          split at hr
          · obtain ⟨b, hb, he⟩ := Option.map_eq_some_iff.1 hr
            injection he with e1 e2
            have h2 := zc9 hb
            omega
          · injection hr with he
            injection he with e1 e2
            omega
      refine maskR_le hv l _ ?_
      by_cases hle : q ≤ r
      · exact ze3 _ _ _ h (by omega)
      · rw [show r + 1 - q = 0 by omega]
        exact h
section
variable {us : List UnitW}
theorem itemsR_step {L : List ByteArray} {k : Nat} (hk : k < L.length) (acc : List Term) : qz3 us (L.drop k) acc = match zc5 us L[k] with
    | none => none
    | some u => qz3 us (L.drop (k + 1)) (acc ++ [⟨(u : Int), (qr8 us u (qp1 L[k]) : Nat)⟩]) := by
  rw [List.drop_eq_getElem_cons hk]
  rfl
theorem zf0 {s : ByteArray} {u : Nat} (h : zc5 us s = some u) : u < us.length ∧ qs5 us us.length (wordR s) = some u := by
  unfold zc5 at h
  split at h
  · exact ⟨zf5 h, h⟩
  · cases h
theorem zo5 (s : ByteArray) : (qp1 s).size ≤ s.size := by
  unfold qp1
  split
  · exact qs7 _ _
  · exact (qt2 _ _).2.1
def TermsRd (us : List UnitW) (s : ByteArray) (w : World) (e : Ending) (w' : World) : Prop :=
  ∃ tv, e = .returned (.tuple #[tv, .bool (qq5 us s).isSome]) ∧ (∀ ts, qq5 us s = some ts → OwnF qd9 66 w.heap.size w' tv ts ∧ ts.length ≤ s.size + 1) ∧ Below w.heap.size w w'
set_option maxRecDepth 100000 in
set_option maxHeartbeats 4000000 in
theorem rdterms_any (sv : Value) (b nm : Nat) (s : ByteArray) (w : World) (hm : MapF kStr w b nm (zl2 us us.length)) (h : qd0 w (Lt w.heap.size) (.agg #[sv]) us) (ho : StW us) (hG : Glob w) (hs : s.size ≤ 1500000) :
    Calls Tryz.prog 81 #[.agg #[sv, .map (some b)], .string s] w (TermsRd us s w) := by
  obtain ⟨it, hit⟩ := info_parts qk7
  have HIT := hid hit
  have HWR := hid h
  have HO := hid ho
  have HG := hid hG
  obtain ⟨g, cap0, hv, hg, -⟩ := h.opened
  injection hv with hv
  injection hv with hv
  injection hv with hv _
  subst hv
  have h11 : us.length ≤ 11 := by have := ho.ns.hi; simpa [nsOf] using this
  obtain ⟨w0, hw0⟩ : ∃ w0 : World, w0 = w.alloc (.cells #[.slice (some ⟨g, 0, none⟩) us.length cap0, .map (some b)] 91) := ⟨_, rfl⟩
  have hb0 : Below w.heap.size w w0 := hw0 ▸ qa0 (b0 w) _
  have hz0 : w.heap.size < w0.heap.size := by rw [hw0]; simp
  have c0 : w0.cell? ⟨w.heap.size, 0, none⟩ = some (.slice (some ⟨g, 0, none⟩) us.length cap0) := by rw [hw0, qa6]; rfl
  have c1 : w0.cell? ⟨w.heap.size, 1, none⟩ = some (.map (some b)) := by rw [hw0, qa6]; rfl
  have HB0 := hid hb0
  have HW0 := hid hw0
  have HM0 := hid (hm.below hb0 hm.lt)
  have hbz := Nat.lt_trans hm.lt hz0
  have HPR := hid (fun W => za5 s ⟨#[110, 101, 118, 101, 114, 32]⟩ W)
  have e2 : (⟨#[110, 101, 118, 101, 114, 32]⟩ : ByteArray).data.toList = [110, 101, 118, 101, 114, 32] := rfl
  rw [e2] at HPR
  obtain ⟨R, hR⟩ : ∃ R, qq5 us s = R := ⟨_, rfl⟩
  have HRR := hid hR
  have hsz := qs7 s [110, 101, 118, 101, 114, 32]
  unfold qq5 at hR
  obtain ⟨pa, pm, hp⟩ : ∃ pa pm, ahdB s [110, 101, 118, 101, 114, 32] = (pa, pm) := ⟨_, _, rfl⟩
  rw [hp] at HPR hR hsz
  dsimp only at HPR hR hsz
  clear e2 hp hw0 hb0 hG hm h ho hit
  by_cases hsn : s = ⟨#[115, 111, 32, 116, 104, 101, 114, 101, 32, 105, 115, 32, 110, 111, 110, 101]⟩
  · have hsb : (s.toList == [115, 111, 32, 116, 104, 101, 114, 101, 32, 105, 115, 32, 110, 111, 110, 101]) = true := eqL hsn
    rw [if_pos hsn] at hR
    have HRN := hid hR
    clear hR hsn
    go_enter Tryz.func81, Tryz.ntmps81
    go_wp2_with fail
    go_ret2
    rw [← HW0.out]
    refine ⟨_, by rw [HRR.out, ← HRN.out]; rfl, fun ts hts => ?_, HB0.out⟩
    rw [HRR.out, ← HRN.out] at hts
    injection hts with hts
    subst hts
    exact ⟨OwnF.nil _ _ _ _, by simp⟩
  · have hsb : (s.toList == [115, 111, 32, 116, 104, 101, 114, 101, 32, 105, 115, 32, 110, 111, 110, 101]) = false := neL hsn
    rw [if_neg hsn] at hR
    have HSP := hid (zp3 pa ⟨#[59, 32]⟩ w0 (by omega) (by show 1 ≤ 2; omega) (HG.out.later HB0.out))
    have HSZ : Hid (∀ x ∈ qn7 pa ⟨#[59, 32]⟩, x.size ≤ 1500000) := hid (fun x hx => Nat.le_trans (zk4 pa _ x hx) (by omega))
    have HRI := hid hR
    clear hR hsn
    go_enter Tryz.func81, Tryz.ntmps81
    go_wp2_with (first
      | (go_at_call 78; rw [← HW0.out]; refine (HPR.out _).mono ?_; rintro e w2 ⟨rfl, rfl⟩)
      | (go_at_call 117; refine HSP.out.mono ?_; rintro e w3 ⟨g3, N, rfl, hn3, hN1, hN2, hg3, hc3, hb3⟩; have HB3 := hid (qa1 HB0.out hb3); have HM3 := hid (HM0.out.below hb3 hbz); have hz3 := Nat.lt_of_lt_of_le hz0 hb3.size; have hbz3 := Nat.lt_of_lt_of_le hbz hb3.size; have d0 := cell_below hb3 hz0 c0; have d1 := cell_below hb3 hz0 c1; have HC3 := hid hc3; clear hb3 hc3))
    clear c0 c1
    generalize qn7 pa ⟨#[59, 32]⟩ = L at *
    subst hn3
    go_loopw [7, 23] (fun lv kv wr => ∃ (k : Nat) (acc : List Term), k ≤ L.length ∧ acc.length ≤ k ∧ kv = .int .i64 k ∧ Hid (OwnF qd9 66 w3.heap.size wr lv acc) ∧ (pm = false → k = 0) ∧ Hid (if pm = true then qz3 us (L.drop k) acc = R else R = none) ∧ Hid (Below w3.heap.size w3 wr)) (fun _ kv _ => L.length - (intOf kv).toNat)
    case atStart =>
      refine ⟨0, [], by omega, by simp, rfl, hid (OwnF.nil _ _ _ _), fun _ => rfl, hid ?_, hid (b0 _)⟩
      have := HRI.out
      cases pm with
      | true => exact this
      | false => exact this.symm
    case round =>
      obtain ⟨i, acc, hi, hal, rfl, how, hpm, hRm, hb⟩ := hrel
      by_cases hlt : i < L.length
      · have i0 : (0 : Int) ≤ ↑i := by omega
        have i1 : (↑i : Int) < ↑L.length := by omega
        have i2 : decide (i < L.length) = true := decide_eq_true hlt
        have hx := HC3.out i _ (List.getElem?_eq_getElem hlt)
        have hxs := HSZ.out _ (List.getElem_mem hlt)
        have y0 := cell_below hb.out hg3 hx
        have x0 := cell_below hb.out hz3 d0
        have x1 := cell_below hb.out hz3 d1
        have hzr := Nat.lt_of_lt_of_le hz3 hb.out.size
        have hRs := hRm.out
        rw [itemsR_step hlt] at hRs
        have HM4 := hid (HM3.out.below hb.out hbz3)
        have HBWR := hid (HB3.out.trans (hb.out.mono (by have := HB3.out.size; omega)))
        have HGW := hid (HG.out.later HBWR.out)
        generalize L[i] = x at *
        have HNM := hid (zo2 (us := us) (.slice (some ⟨g, 0, none⟩) us.length cap0) b nm x wr HM4.out rfl HGW.out hxs)
        have hrs := zo5 x
        cases hn : zc5 us x with
        | none =>
          rw [hn] at HNM hRs
          have HRN : Hid (R = none) := hid (by
            cases pm with
            | true => exact hRs.symm
            | false => exact hRs)
          clear hRs hx hn hpm
          cases pm <;>
          (go_wp2_with (first
            | (go_at_call 115; refine HNM.out.mono ?_; rintro e w5 ⟨rfl, hb5⟩; have HB5 := hid (qa1 HBWR.out hb5); clear hb5))
           go_ret2
           exact ⟨_, by rw [HRR.out, HRN.out]; rfl, fun ts hts => by rw [HRR.out, HRN.out] at hts; (cases hts), HB5.out⟩)
        | some u =>
          obtain ⟨hul, hun⟩ := zf0 hn
          rw [hn, hun] at HNM
          rw [hn] at hRs
          dsimp only at hRs
          cases pm with
          | false =>
            have HRN : Hid (R = none) := hid hRs
            clear hRs hx hn hpm
            go_wp2_with (first
              | (go_at_call 115; refine HNM.out.mono ?_; rintro e w5 ⟨rfl, hb5⟩; have HB5 := hid (qa1 HBWR.out hb5); clear hb5))
            go_ret2
            exact ⟨_, by rw [HRR.out, HRN.out]; rfl, fun ts hts => by rw [HRR.out, HRN.out] at hts; (cases hts), HB5.out⟩
          | true =>
            have HRS : Hid (qz3 us (L.drop (i + 1)) (acc ++ [⟨(u : Int), (qr8 us u (qp1 x) : Nat)⟩]) = R) := hid (by have h := hRs; rwa [if_pos rfl] at h)
            have HVL := hid (fun (W : World) (hb : Below w.heap.size w W) => rdvals_any (us := us) (.slice (some ⟨g, 0, none⟩) us.length cap0) b u (qp1 x) W (HWR.out.lift hb hb.size) HO.out hul (HG.out.later hb) (by omega))
            have hv4 : (qh2 us u).length ≤ 4 := by
              rw [qk9 hul, List.length_map]
              have := HO.out.ns.le u (by simpa [nsOf] using hul)
              simpa [nsOf] using this
            have hvm : qr8 us u (qp1 x) < 32 := maskR_le hv4 _ 0 (by omega)
            obtain ⟨A5, c5, rfl⟩ := qb1 how.out.1
            have HOW := hid how.out
            clear hRs hx hn hv4 how hpm
            generalize qr8 us u (qp1 x) = M at *
            generalize qp1 x = rx at *
            have HOKT := hid (show qd9.ok ⟨(u : Int), (M : Int)⟩ from ⟨⟨by show -9223372036854775808 ≤ (u : Int); omega, by show (u : Int) ≤ 9223372036854775807; omega⟩, qg9 (by omega)⟩)
            have hb3r := hb.out.size
            go_wp2_with (first
              | (go_at_call 115; refine HNM.out.mono ?_; rintro e w5 ⟨rfl, hb5⟩; have HB5 := hid (hb.out.trans (hb5.mono (by omega))); have HBW5 := hid (qa1 HBWR.out hb5); have HO5 := hid (HOW.out.below hb5 (Nat.le_refl _)); have f0 := cell_below hb5 hzr x0; have f1 := cell_below hb5 hzr x1; have hz5 := hb5.size; clear hb5)
              | (go_at_call 118; refine (HVL.out _ HBW5.out).mono ?_; rintro e w6 ⟨rfl, hb6⟩; have HB6 := hid (HB5.out.trans (hb6.mono (by omega))); have HO6 := hid (HO5.out.below hb6 (Nat.le_refl _)); have hz6 := hb6.size; clear hb6)
              | (at_builtin; refine qa5 _ rfl (.tmp 40) (.tmp 47) _ rfl w3.heap.size 66 it _ 2 16 Tryz.underlying47 HIT.out.1 HIT.out.2.1 HIT.out.2.2.1 HIT.out.2.2.2 rfl (by omega) (.slice A5 acc.length c5) acc.length (qd9.all acc) (by rfl) (by exact HO6.out.1.alloc _) (some ⟨w6.heap.size, 0, none⟩) 1 1 (qd9.cells ⟨(u : Int), (M : Int)⟩) (by rfl) (by exact qm2 (f := qd9) rfl) (by simp [qd9, Value.oneCell']) (by unfold maxLen; omega) (by omega) (by simp; omega) ?_; intro v7 w7 hown7 hg7 hat7; have HO7 := hid (HO6.out.snoc HOKT.out hown7); have HB7 := hid (ql6 (v2 := v7) (HB6.out.alloc HB6.out.size _) (HO6.out.alloc _) (by simp; omega) hg7 rfl); clear hown7 hg7 hat7))
            exact ⟨⟨i + 1, acc ++ [⟨(u : Int), (M : Int)⟩], by omega, by simp; omega, by go_num, HO7, fun h => (by cases h), HRS, HB7⟩, by simp [intOf]; omega⟩
      · have hin : i = L.length := by omega
        have i1 : ¬ ((↑i : Int) < ↑L.length) := by omega
        have i2 : decide (i < L.length) = false := decide_eq_false hlt
        have hpt : pm = true := by
          cases pm with
          | true => rfl
          | false => have := hpm rfl; omega
        have hRs := hRm.out
        rw [if_pos hpt, hin, List.drop_length] at hRs
        have HRS : Hid (some acc = R) := hid hRs
        have HLE := hid (show acc.length ≤ s.size + 1 by omega)
        clear hin hRs hpt hpm
        go_wp2_with fail
        go_ret2
        refine ⟨_, by rw [HRR.out, ← HRS.out]; rfl, fun ts hts => ?_, HB3.out.trans (hb.out.mono (by have := HB3.out.size; omega))⟩
        rw [HRR.out, ← HRS.out] at hts
        injection hts with hts
        subst hts
        exact ⟨how.out.mono HB3.out.size, HLE.out⟩
end
end
end Go.Proofs.YtbfbppjccbppiaaGreatDoor
