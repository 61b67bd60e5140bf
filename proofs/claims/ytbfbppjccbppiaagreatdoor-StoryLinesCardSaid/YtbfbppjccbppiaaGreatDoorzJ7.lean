import Derived.Lib.Split
import Derived.Lib.Join
import Derived.Lib.AtoiAll
import Derived.Lib.ItoaNum
import Derived.Outline
import Derived.Test.YtbfbppjccbppiaaGreatDoorzJ0
import Derived.Test.YtbfbppjccbppiaaGreatDoorzW
import Derived.Test.YtbfbppjccbppiaaGreatDoorJ5
namespace Go.Proofs.YtbfbppjccbppiaaGreatDoor
open Go Go.RowKit
section
open Go
section
variable {c : UInt8} {t a r : List UInt8}
theorem ix_at (h : c ∉ a) : Lib.index (a ++ (c :: t) ++ r) (c :: t) = (a.length : Nat) := by
 refine Lib.index_first (by simp) ?_ fun j hj => ?_
 ·unfold Lib.occAt
  rw [List.append_assoc, List.drop_left, List.isPrefixOf_iff_prefix]
  exact List.prefix_append _ _
 ·rw [Bool.eq_false_iff]
  intro ho
  have := Lib.occAt_head rfl ho
  rw [List.append_assoc, List.getElem?_append_left hj] at this
  exact h (List.mem_of_getElem? this)
theorem ix_no (h : c ∉ a) : Lib.index a (c :: t) = -1 :=
 Lib.index_none fun _ _ => Bool.eq_false_iff.2 fun ho => h (List.mem_of_getElem? (Lib.occAt_head rfl ho))
theorem cutL_at (h : c ∉ a) : Lib.cut (a ++ (c :: t) ++ r) (c :: t) = (a, r, true) := by
 unfold Lib.cut
 rw [ix_at h, if_pos (by omega), Int.toNat_natCast]
 have e1 : (a ++ (c :: t) ++ r).take a.length = a := by rw [List.append_assoc, List.take_left]
 have e2 : (a ++ (c :: t) ++ r).drop (a.length + (c :: t).length) = r := by rw [← List.length_append, List.drop_left]
 rw [e1, e2]
theorem cutL_no (h : c ∉ a) : Lib.cut a (c :: t) = (a, [], false) := by
 unfold Lib.cut
 rw [ix_no h, if_neg (by omega)]
theorem zr3 (x y : List UInt8) (l : List (List UInt8)) (sep : List UInt8) : Lib.join (x :: y :: l) sep = x ++ sep ++ Lib.join (y :: l) sep := by
 rw [Lib.join_cons, Lib.join_cons]
 simp [Lib.joinTail]
theorem zn0 : ∀ (l : List (List UInt8)) (x : List UInt8), (∀ y ∈ x :: l, c ∉ y) → Lib.count (Lib.join (x :: l) (c :: t)) (c :: t) = l.length
 | [], x, h => by
  rw [Lib.join_one]
  exact Lib.count_miss (ix_no (h x (List.mem_cons_self ..)))
 | y :: l, x, h => by
  have ih := zn0 l y fun z hz => h z (List.mem_cons_of_mem _ hz)
  rw [zr3, Lib.count_hit (by simp) (ix_at (h x (List.mem_cons_self ..))), ← List.length_append, List.drop_left, ih, List.length_cons]
  omega
theorem zk3 : ∀ (l : List (List UInt8)) (x : List UInt8), (∀ y ∈ x :: l, c ∉ y) → Lib.splitK (c :: t) 0 l.length (Lib.join (x :: l) (c :: t)) = x :: l
 | [], x, h => by rw [Lib.join_one]; rfl
 | y :: l, x, h => by
  have ih := zk3 l y fun z hz => h z (List.mem_cons_of_mem _ hz)
  rw [zr3, List.length_cons, Lib.splitK, ix_at (h x (List.mem_cons_self ..))]
  have e0 : ¬ (((x.length : Nat) : Int) == -1) = true := by rw [beq_iff_eq]; omega
  rw [if_neg e0, Int.toNat_natCast, Nat.add_zero, ← List.length_append, List.drop_left, ih, List.append_assoc, List.take_left]
theorem join_ne {x : List UInt8} {l : List (List UInt8)} {sep : List UInt8} {d : UInt8} (hs : d ∉ sep) (h : ∀ y ∈ x :: l, d ∉ y) : d ∉ Lib.join (x :: l) sep := by
 induction l generalizing x with
 | nil => rw [Lib.join_one]; exact h x (List.mem_cons_self ..)
 | cons y l ih =>
  rw [zr3]
  intro hm
  rcases List.mem_append.1 hm with hm | hm
  ·rcases List.mem_append.1 hm with hm | hm
   ·exact h x (List.mem_cons_self ..) hm
   ·exact hs hm
  ·exact ih (fun z hz => h z (List.mem_cons_of_mem _ hz)) hm
end
def digU (c : UInt8) : Bool := decide (48 ≤ c.toNat) && decide (c.toNat ≤ 57)
def valU (s : List UInt8) (acc : Nat) : Nat := s.foldl (fun n c => n * 10 + (c.toNat - 48)) acc
theorem valU_ge : ∀ (s : List UInt8) (acc : Nat), acc ≤ valU s acc
 | [], _ => Nat.le_refl _
 | c :: s, acc => by
  have := valU_ge s (acc * 10 + (c.toNat - 48))
  unfold valU at this ⊢
  rw [List.foldl_cons]
  omega
theorem parse_val : ∀ (s : List UInt8) (acc : Nat), s.all digU = true → valU s acc < 1844674407370955162 → Lib.parseUint10 acc s = .ok (valU s acc)
 | [], _, _, _ => rfl
 | c :: s, acc, h, hv => by
  rw [List.all_cons, Bool.and_eq_true] at h
  have hc := h.1
  simp only [digU, Bool.and_eq_true, decide_eq_true_eq] at hc
  have h1 : valU (c :: s) acc = valU s (acc * 10 + (c.toNat - 48)) := rfl
  rw [h1] at hv ⊢
  have h2 := valU_ge s (acc * 10 + (c.toNat - 48))
  rw [Lib.parseUint10, if_pos hc, if_neg (by omega), if_neg (by omega)]
  exact parse_val s _ h.2 hv
theorem digU_of {k : Nat} (h : k < 10) : digU (UInt8.ofNat (48 + k)) = true ∧ (UInt8.ofNat (48 + k)).toNat - 48 = k := by
 match k, h with
 | 0, _ => decide
 | 1, _ => decide
 | 2, _ => decide
 | 3, _ => decide
 | 4, _ => decide
 | 5, _ => decide
 | 6, _ => decide
 | 7, _ => decide
 | 8, _ => decide
 | 9, _ => decide
theorem dec_digU (u : Nat) : (Lib.decDigits u).all digU = true ∧ valU (Lib.decDigits u) 0 = u ∧ Lib.decDigits u ≠ [] := by
 induction u using Nat.strongRecOn with
 | _ u ih =>
  by_cases h : u < 10
  ·rw [Lib.decDigits, dif_pos h]
   obtain ⟨h1, h2⟩ := digU_of h
   exact ⟨by simpa using h1, by simp only [valU, List.foldl_cons, List.foldl_nil]; omega, by simp⟩
  ·obtain ⟨h1, h2, h3⟩ := ih (u / 10) (by omega)
   obtain ⟨d1, d2⟩ := digU_of (k := u % 10) (by omega)
   rw [Lib.decDigits, dif_neg h]
   refine ⟨by rw [List.all_append, h1]; simpa using d1, ?_, by simp⟩
   unfold valU at h2 ⊢
   rw [List.foldl_append, h2, List.foldl_cons, List.foldl_nil, d2]
   omega
theorem atoi_dec {n : Nat} (h : n < 1000000000) : Lib.atoiAll (Lib.decDigits n) = .ok (n : Int) := by
 obtain ⟨h1, h2, h3⟩ := dec_digU n
 obtain ⟨c, r, hc⟩ := List.exists_cons_of_ne_nil h3
 rw [hc] at h1 h2 ⊢
 have hd : digU c = true := by rw [List.all_cons, Bool.and_eq_true] at h1; exact h1.1
 simp only [digU, Bool.and_eq_true, decide_eq_true_eq] at hd
 have hp := parse_val (c :: r) 0 h1 (by omega)
 rw [h2] at hp
 unfold Lib.atoiAll
 dsimp only
 rw [if_neg (by omega), Lib.parseMag, if_neg (by simp), hp]
 dsimp only
 rw [if_neg (by omega), if_neg (by omega), if_neg (by omega)]
theorem dec_no {n : Nat} {d : UInt8} (h : digU d = false) : d ∉ Lib.decDigits n := fun hm => by
 have := List.all_eq_true.1 (dec_digU n).1 d hm
 rw [h] at this
 cases this
end
section
theorem qy9 {a b : ByteArray} (h : a.data.toList = b.data.toList) : a = b := ByteArray.ext (Array.toList_inj.1 h)
theorem qb5 (a b : ByteArray) : (a ++ b).data.toList = a.data.toList ++ b.data.toList := by simp [ByteArray.data_append]
theorem zg6 {s a r : ByteArray} {c : UInt8} {t : List UInt8} (h : c ∉ a.data.toList) (e : s.data.toList = a.data.toList ++ (c :: t) ++ r.data.toList) : cutB s (c :: t) = (a, r, true) := by
 unfold cutB
 rw [e, cutL_at h]
theorem zg1 {s r : ByteArray} {p : List UInt8} (e : s.data.toList = p ++ r.data.toList) : ahdB s p = (r, true) := by
 have h : Lib.hasPrefix s.data.toList p = true := by
  unfold Lib.hasPrefix
  rw [List.isPrefixOf_iff_prefix, e]
  exact List.prefix_append _ _
 unfold ahdB Lib.trimPrefix
 rw [h, if_pos rfl, e, List.drop_left]
theorem zb5 {s : ByteArray} {c : UInt8} {t : List UInt8} (h : s.data.toList.head? ≠ some c) : (ahdB s (c :: t)).2 = false := by
 show Lib.hasPrefix s.data.toList (c :: t) = false
 unfold Lib.hasPrefix
 cases e : s.data.toList with
 | nil => rfl
 | cons d r =>
  rw [e] at h
  have hne : (c == d) = false := by
   rw [beq_eq_false_iff_ne]
   intro hcd
   exact h (by rw [hcd]; rfl)
  rw [List.isPrefixOf, hne]
  rfl
theorem sufB_at {s r : ByteArray} {p : List UInt8} (e : s.data.toList = r.data.toList ++ p) : sufB s p = (r, true) := by
 have h : Lib.hasSuffix s.data.toList p = true := by
  unfold Lib.hasSuffix
  rw [List.isSuffixOf_iff_suffix, e]
  exact List.suffix_append _ _
 unfold sufB Lib.trimSuffix
 rw [h, if_pos rfl, e, List.length_append, Nat.add_sub_cancel, List.take_left]
theorem zh5 (l : List ByteArray) (sep : List UInt8) : (qf7 l sep).data.toList = Lib.join (l.map (·.data.toList)) sep := rfl
theorem zd8 {l : List ByteArray} {c : UInt8} {t : List UInt8} (hn : l ≠ []) (h : ∀ x ∈ l, c ∉ x.data.toList) : qn7 (qf7 l (c :: t)) ⟨(c :: t).toArray⟩ = l := by
 obtain ⟨x, r, rfl⟩ := List.exists_cons_of_ne_nil hn
 have h' : ∀ y ∈ x.data.toList :: r.map (·.data.toList), c ∉ y := by
  intro y hy
  rw [← List.map_cons (f := fun z : ByteArray => z.data.toList)] at hy
  obtain ⟨z, hz, rfl⟩ := List.mem_map.1 hy
  exact h z hz
 have key : (qn7 (qf7 (x :: r) (c :: t)) ⟨(c :: t).toArray⟩).map (·.data.toList) = (x :: r).map (·.data.toList) := by
  unfold qn7
  rw [Lib.splitB_data]
  show Lib.splitK (c :: t) 0 (Lib.count (qf7 (x :: r) (c :: t)).data.toList (c :: t)) _ = _
  rw [zh5, List.map_cons, zn0 _ _ h', zk3 _ _ h']
 exact (List.map_inj_right fun a b e => qy9 e).1 key
def noC (cs : List UInt8) (s : ByteArray) : Bool := cs.all fun c => !(s.data.toList.contains c)
theorem zr7 {cs : List UInt8} {s : ByteArray} {c : UInt8} (h : noC cs s = true) (hc : c ∈ cs) : c ∉ s.data.toList := by
 have := List.all_eq_true.1 h c hc
 simpa using this
def nameT (l : List (ByteArray × ByteArray)) (u : Nat) : ByteArray := match l[u]? with
 | none => ⟨#[]⟩
 | some d => if u = 0 then ⟨#[116, 104, 101, 32, 112, 114, 111, 106, 101, 99, 116]⟩ else if d.2.data.toList.isEmpty = true then d.1 else d.1 ++ ⟨#[91]⟩ ++ d.2 ++ ⟨#[93]⟩
def flagsL : Nat → List (List Bool)
 | 0 => [[]]
 | n + 1 => [] :: (flagsL n).map (false :: ·) ++ (flagsL n).map (true :: ·)
theorem mem_flags : ∀ {n : Nat} {fs : List Bool}, fs.length ≤ n → fs ∈ flagsL n
 | 0, [], _ => List.mem_singleton.2 rfl
 | n + 1, [], _ => List.mem_append_left _ (List.mem_cons_self ..)
 | n + 1, b :: fs, h => by
  have := mem_flags (n := n) (fs := fs) (by simpa using h)
  cases b with
  | false => exact List.mem_append_left _ (List.mem_cons_of_mem _ (List.mem_map.2 ⟨_, this, rfl⟩))
  | true => exact List.mem_append_right _ (List.mem_map.2 ⟨_, this, rfl⟩)
def headOk (s : ByteArray) : Bool := match s.data.toList.head? with
 | some c => c != 84 && c != 73 && c != 66
 | none => false
def nmOk (l : List (ByteArray × ByteArray)) : Bool := (List.range l.length).all fun u => noC [10, 44, 58, 59] (nameT l u) && headOk (nameT l u) && (u == 0 || (noC [32] (nameT l u) && !((nameT l u).data.toList.head? == some 116))) && (List.range l.length).all fun v => u == v || !((nameT l u).data.toList == (nameT l v).data.toList)
theorem nms_ok : ((flagsL 5).map qw5).all nmOk = true := by decide +kernel
section
variable {us : List UnitW}
theorem nameB_T (us : List UnitW) (u : Nat) : qe7 us u = nameT (us.map fun d => (d.nm, d.ft)) u := by
 unfold qe7 nameT
 rw [List.getElem?_map]
 cases us[u]? with
 | none => rfl
 | some d =>
  dsimp only [Option.map_some]
  rw [ByteArray.toList_eq]
theorem StW.nm (ho : StW us) : nmOk (us.map fun d => (d.nm, d.ft)) = true := by
 obtain ⟨fs, h1, h2⟩ := ho.names
 rw [h2]
 exact List.all_eq_true.1 nms_ok _ (List.mem_map.2 ⟨fs, mem_flags h1, rfl⟩)
theorem StW.nmAt (ho : StW us) {u : Nat} (hu : u < us.length) : noC [10, 44, 58, 59] (qe7 us u) = true ∧ headOk (qe7 us u) = true ∧ (u ≠ 0 → noC [32] (qe7 us u) = true ∧ (qe7 us u).data.toList.head? ≠ some 116) ∧ ∀ v, v < us.length → qe7 us u = qe7 us v → u = v := by
 have h := List.all_eq_true.1 ho.nm u (List.mem_range.2 (by simpa using hu))
 rw [← nameB_T] at h
 simp only [Bool.and_eq_true, Bool.or_eq_true, beq_iff_eq, Bool.not_eq_true', beq_eq_false_iff_ne] at h
 obtain ⟨⟨⟨h1, h2⟩, h3⟩, h4⟩ := h
 refine ⟨h1, h2, fun h0 => ?_, fun v hv e => ?_⟩
 ·rcases h3 with h3 | h3
  ·exact absurd h3 h0
  ·exact h3
 ·have h5 := List.all_eq_true.1 h4 v (List.mem_range.2 (by simpa using hv))
  rw [← nameB_T] at h5
  simp only [Bool.or_eq_true, beq_iff_eq, Bool.not_eq_true', beq_eq_false_iff_ne] at h5
  rcases h5 with h5 | h5
  ·exact h5
  ·exact absurd (congrArg (fun x : ByteArray => x.data.toList) e) h5
theorem sub3 {c : UInt8} (h : c ∈ [10, 58, 59]) : c ∈ [10, 44, 58, 59] := by
 revert c
 decide
theorem name_no (ho : StW us) {u : Nat} (hu : u < us.length) {c : UInt8} (hc : c ∈ [10, 44, 58, 59]) : c ∉ (qe7 us u).data.toList := zr7 (ho.nmAt hu).1 hc
theorem name_zero (hu : 0 < us.length) : qe7 us 0 = ⟨#[116, 104, 101, 32, 112, 114, 111, 106, 101, 99, 116]⟩ := by
 unfold qe7
 rw [List.getElem?_eq_getElem hu]
 rfl
theorem qq6 (ho : StW us) : ∀ {k u : Nat}, u < k → k ≤ us.length → qs5 us k (qe7 us u) = some u
 | 0, u, h, _ => absurd h (by omega)
 | k + 1, u, h, hk => by
  unfold qs5
  split
  ·rename_i e
   rw [(ho.nmAt (show u < us.length by omega)).2.2.2 k (by omega) e]
  ·rename_i e
   have : u ≠ k := fun e2 => e (by rw [e2])
   exact qq6 ho (by omega) (by omega)
theorem zj5 (ho : StW us) {u : Nat} (hu : u < us.length) {s x : ByteArray} (e : s.data.toList = (qe7 us u).data.toList ++ 32 :: x.data.toList) : zc5 us s = some u ∧ qp1 s = x := by
 by_cases h0 : u = 0
 ·subst h0
  have hz := name_zero hu
  have e1 : s.data.toList = [116, 104, 101, 32, 112, 114, 111, 106, 101, 99, 116, 32] ++ x.data.toList := by rw [e, hz]; rfl
  have h1 := zg1 e1
  have h2 : cutB s [32] = (⟨#[116, 104, 101]⟩, ⟨([112, 114, 111, 106, 101, 99, 116, 32] ++ x.data.toList).toArray⟩, true) := zg6 (by decide) (by rw [e1]; rfl)
  refine ⟨?_, ?_⟩
  ·unfold zc5 wordR
   rw [h1, h2, if_pos rfl, if_pos rfl, ← hz]
   exact qq6 ho hu (Nat.le_refl _)
  ·unfold qp1
   rw [h1, if_pos rfl]
 ·obtain ⟨-, -, h3, -⟩ := ho.nmAt hu
  obtain ⟨h4, h5⟩ := h3 h0
  have hc : (32 : UInt8) ∉ (qe7 us u).data.toList := zr7 h4 (by decide)
  have h2 : cutB s [32] = (qe7 us u, x, true) := zg6 hc (by rw [e]; simp)
  have hne : (qe7 us u).data.toList ≠ [] := fun hn => by
   have := (ho.nmAt hu).2.1
   unfold headOk at this
   rw [hn] at this
   cases this
  have h1 : (ahdB s [116, 104, 101, 32, 112, 114, 111, 106, 101, 99, 116, 32]).2 = false := zb5 (by
   rw [e]
   cases hl : (qe7 us u).data.toList with
   | nil => exact absurd hl hne
   | cons c r => rw [hl] at h5; exact h5)
  refine ⟨?_, ?_⟩
  ·unfold zc5 wordR
   rw [h1, h2, if_pos rfl, if_neg (by decide)]
   exact qq6 ho hu (Nat.le_refl _)
  ·unfold qp1
   rw [h1, h2, if_neg (by decide)]
end
def vtextL : List ByteArray := [⟨#[49, 46, 48, 46, 48]⟩, ⟨#[49, 46, 50, 46, 48]⟩, ⟨#[50, 46, 48, 46, 48, 45, 97, 46, 49]⟩, ⟨#[50, 46, 48, 46, 48]⟩]
def zeroT : ByteArray := ⟨#[48, 46, 48, 46, 48]⟩
def subsL {α : Type} : List α → List (List α)
 | [] => [[]]
 | a :: l => subsL l ++ (subsL l).map (a :: ·)
theorem mem_subs {α : Type} {l m : List α} (h : l.Sublist m) : l ∈ subsL m := by
 induction h with
 | slnil => exact List.mem_singleton.2 rfl
 | cons a _ ih => exact List.mem_append_left _ ih
 | cons_cons a _ ih => exact List.mem_append_right _ (List.mem_map.2 ⟨_, ih, rfl⟩)
def vtOk (vt : List ByteArray) : Bool := (List.range (2 ^ (vt.length + 1))).all fun m => m == 0 || (qt6 vt (qs0 vt m) 0 == m && (qs0 vt m).all (noC [10, 44, 58, 59]) && !(qs0 vt m).isEmpty)
theorem vts_ok : ([zeroT] :: subsL vtextL).all vtOk = true := by decide +kernel
theorem qu3 {v : Ver} {x : ByteArray} (hm : mayV v = true) (hb : v.build.data.toList = []) (h : x = if v.pre.data.toList = [] then qw0 v else qw0 v ++ ⟨#[45]⟩ ++ v.pre) : qg5 v = x := by
 unfold qg5
 rw [if_pos hm, ByteArray.toList_eq, ByteArray.toList_eq, hb, h, if_pos (show ([] : List UInt8).isEmpty = true from rfl)]
 by_cases hp : v.pre.data.toList = []
 ·rw [hp]; rfl
 ·rw [if_neg hp, if_neg (fun e => hp (List.isEmpty_iff.1 e))]
theorem qz8 {v : Ver} (h0 : v.major.toNat < 10) (h1 : v.minor.toNat < 10) (h2 : v.patch.toNat < 10) : qw0 v = ⟨#[dig8 v.major.toNat, 46, dig8 v.minor.toNat, 46, dig8 v.patch.toNat]⟩ := by
 unfold qw0
 rw [qu7 (by omega), qu7 (by omega), qu7 (by omega)]
 apply qy9
 simp only [qb5]
 rfl
theorem printB_L : qm4.map qg5 = vtextL := by
 unfold qm4 vtextL
 simp only [List.map_cons, List.map_nil]
 rw [qu3 (v := ⟨1, 0, 0, ⟨#[]⟩, ⟨#[]⟩⟩) (x := ⟨#[49, 46, 48, 46, 48]⟩) (by decide +kernel) rfl (by rw [if_pos rfl, qz8 (by decide) (by decide) (by decide)]; rfl)]
 rw [qu3 (v := ⟨1, 2, 0, ⟨#[]⟩, ⟨#[]⟩⟩) (x := ⟨#[49, 46, 50, 46, 48]⟩) (by decide +kernel) rfl (by rw [if_pos rfl, qz8 (by decide) (by decide) (by decide)]; rfl)]
 rw [qu3 (v := ⟨2, 0, 0, ⟨#[97, 46, 49]⟩, ⟨#[]⟩⟩) (x := ⟨#[50, 46, 48, 46, 48, 45, 97, 46, 49]⟩) (by decide +kernel) rfl (by rw [if_neg (by decide), qz8 (by decide) (by decide) (by decide)]; exact qy9 (by simp only [qb5]; rfl))]
 rw [qu3 (v := ⟨2, 0, 0, ⟨#[]⟩, ⟨#[]⟩⟩) (x := ⟨#[50, 46, 48, 46, 48]⟩) (by decide +kernel) rfl (by rw [if_pos rfl, qz8 (by decide) (by decide) (by decide)]; rfl)]
theorem printB_0 : qg5 ⟨0, 0, 0, ⟨#[]⟩, ⟨#[]⟩⟩ = zeroT :=
 qu3 (by decide +kernel) rfl (by rw [if_pos rfl, qz8 (by decide) (by decide) (by decide)]; rfl)
section
variable {us : List UnitW}
theorem StW.vt (ho : StW us) {u : Nat} (hu : u < us.length) : vtOk (qh2 us u) = true := by
 have e : qh2 us u = (us[u].cands.map (·.v)).map qg5 := by
  rw [qk9 hu, List.map_map]
  rfl
 rcases ho.vers us[u] (List.getElem_mem hu) with h | h
 ·have h2 : (qh2 us u).Sublist vtextL := by
   rw [e, ← printB_L]
   exact List.Sublist.map _ h
  exact List.all_eq_true.1 vts_ok _ (List.mem_cons_of_mem _ (mem_subs h2))
 ·rw [e, h, List.map_cons, List.map_nil, printB_0]
  exact List.all_eq_true.1 vts_ok _ (List.mem_cons_self ..)
theorem verts_length {u : Nat} (hu : u < us.length) : (qh2 us u).length = (nsOf us)[u]'(by simpa [nsOf] using hu) := by
 rw [qk9 hu, List.length_map]
 simp [nsOf]
theorem StW.vtAt (ho : StW us) {u m : Nat} (hu : u < us.length) (h0 : 0 < m) (hm : m ≤ qb8 (nsOf us) u) : qt6 (qh2 us u) (qs0 (qh2 us u) m) 0 = m ∧ (∀ x ∈ qs0 (qh2 us u) m, noC [10, 44, 58, 59] x = true) ∧ qs0 (qh2 us u) m ≠ [] := by
 have h1 : m < 2 ^ ((qh2 us u).length + 1) := by
  rw [verts_length hu]
  rw [qr1 (by simpa [nsOf] using hu)] at hm
  have : 0 < 2 ^ ((nsOf us)[u]'(by simpa [nsOf] using hu) + 1) := Nat.pow_pos (by decide)
  omega
 have h2 := List.all_eq_true.1 (ho.vt hu) m (List.mem_range.2 h1)
 simp only [Bool.or_eq_true, Bool.and_eq_true, beq_iff_eq, Bool.not_eq_true', List.all_eq_true] at h2
 rcases h2 with h2 | ⟨⟨h2, h3⟩, h4⟩
 ·omega
 ·exact ⟨h2, h3, fun e => by rw [e] at h4; cases h4⟩
theorem full_andS {u m : Nat} (hu : u < us.length) (hm : m ≤ qb8 (nsOf us) u) : m &&& qb8 (nsOf us) u = m := by
 rw [qr1 (by simpa [nsOf] using hu)] at hm ⊢
 rw [Nat.and_two_pow_sub_one_eq_mod]
 refine Nat.mod_eq_of_lt ?_
 have : 0 < 2 ^ ((nsOf us)[u]'(by simpa [nsOf] using hu) + 1) := Nat.pow_pos (by decide)
 omega
theorem read_values (ho : StW us) {u m : Nat} (hu : u < us.length) (h0 : 0 < m) (hm : m ≤ qb8 (nsOf us) u) : qr8 us u (qf1 us u m) = m := by
 obtain ⟨h1, h2, h3⟩ := ho.vtAt hu h0 hm
 unfold qr8 qf1 qj3
 rw [full_andS hu hm, if_neg (by omega), zd8 h3 fun x hx => zr7 (h2 x hx) (by decide)]
 exact h1
theorem joinB_no {l : List ByteArray} {sep : List UInt8} {d : UInt8} (hs : d ∉ sep) (h : ∀ x ∈ l, d ∉ x.data.toList) : d ∉ (qf7 l sep).data.toList := by
 cases l with
 | nil => rw [qz4]; simp
 | cons x r =>
  rw [zh5, List.map_cons]
  refine join_ne hs fun y hy => ?_
  rw [← List.map_cons (f := fun z : ByteArray => z.data.toList)] at hy
  obtain ⟨z, hz, rfl⟩ := List.mem_map.1 hy
  exact h z hz
theorem values_no (ho : StW us) {u m : Nat} (hu : u < us.length) (hm : m ≤ qb8 (nsOf us) u) {c : UInt8} (hc : c ∈ [10, 58, 59]) : c ∉ (qf1 us u m).data.toList := by
 unfold qf1 qj3
 rw [full_andS hu hm]
 split
 ·revert c
  decide
 ·rename_i h0
  obtain ⟨-, h2, -⟩ := ho.vtAt hu (by omega) hm
  refine joinB_no ?_ fun x hx => zr7 (h2 x hx) ?_
  ·revert c
   decide
  ·revert c
   decide
theorem zk9 {l : List Term} (h : mayL (nsOf us) l = true) {t : Term} (ht : t ∈ l) : ∃ u m : Nat, u < us.length ∧ t = ⟨(u : Int), (m : Int)⟩ ∧ 0 < m ∧ m ≤ qb8 (nsOf us) u := by
 obtain ⟨M, hM, rfl⟩ := qt7 h
 obtain ⟨k, hk, rfl⟩ := List.getElem_of_mem ht
 have h1 := qr3.1 (canon_may hM) k hk
 rw [qx8 hk, Bool.and_eq_true] at h1
 obtain ⟨u, m, h2, h3, h4, h5⟩ := qz6 h1.1
 exact ⟨u, m, by simpa [nsOf] using h2, h3, h4, by omega⟩
theorem zk8 (us : List UnitW) (u m : Nat) : (qg8 us ⟨(u : Int), (m : Int)⟩).data.toList = (qe7 us u).data.toList ++ 32 :: (qf1 us u m).data.toList := by
 unfold qg8
 rw [qb5, qb5]
 simp
theorem termB_no (ho : StW us) {u m : Nat} (hu : u < us.length) (hm : m ≤ qb8 (nsOf us) u) {c : UInt8} (hc : c ∈ [10, 58, 59]) : c ∉ (qg8 us ⟨(u : Int), (m : Int)⟩).data.toList := by
 rw [zk8]
 intro h
 rcases List.mem_append.1 h with h | h
 ·exact name_no ho hu (sub3 hc) h
 ·rcases List.mem_cons.1 h with h | h
  ·subst h; revert hc; decide
  ·exact values_no ho hu hm hc h
theorem zo3 (ho : StW us) : ∀ (ts acc : List Term), (∀ t ∈ ts, ∃ u m : Nat, u < us.length ∧ t = ⟨(u : Int), (m : Int)⟩ ∧ 0 < m ∧ m ≤ qb8 (nsOf us) u) → qz3 us (ts.map (qg8 us)) acc = some (acc ++ ts)
 | [], acc, _ => by simp [qz3]
 | t :: ts, acc, h => by
  obtain ⟨u, m, hu, rfl, h0, hm⟩ := h t (List.mem_cons_self ..)
  obtain ⟨h1, h2⟩ := zj5 ho hu (zk8 us u m)
  rw [List.map_cons, qz3, h1]
  dsimp only
  rw [h2, read_values ho hu h0 hm, zo3 ho ts _ fun t ht => h t (List.mem_cons_of_mem _ ht), List.append_assoc]
  rfl
theorem read_terms (ho : StW us) {ts : List Term} (h : mayL (nsOf us) ts = true) (hne : ts ≠ []) : qq5 us (⟨#[110, 101, 118, 101, 114, 32]⟩ ++ qf7 (ts.map (qg8 us)) [59, 32]) = some ts := by
 have h1 := zg1 (s := ⟨#[110, 101, 118, 101, 114, 32]⟩ ++ qf7 (ts.map (qg8 us)) [59, 32]) (p := [110, 101, 118, 101, 114, 32]) (r := qf7 (ts.map (qg8 us)) [59, 32]) (qb5 _ _)
 unfold qq5
 rw [if_neg (fun e => ?_), h1, if_pos rfl]
 ·dsimp only
  rw [zd8 (by simpa using hne) (fun x hx => ?_), zo3 ho ts [] fun t ht => zk9 h ht, List.nil_append]
  obtain ⟨t, ht, rfl⟩ := List.mem_map.1 hx
  obtain ⟨u, m, hu, rfl, h0, hm⟩ := zk9 h ht
  exact termB_no ho hu hm (by decide)
 ·have := congrArg (fun x : ByteArray => x.data.toList.head?) e
  rw [qb5] at this
  exact absurd (show some (110 : UInt8) = some 115 from this) (by decide)
end
end
section
theorem atoR_dec {n : Nat} (h : n ≤ 1000000) : atoR (decB (n + 1)) = some (n : Int) := by
 have e : Lib.atoiAll (decB (n + 1)).data.toList = .ok ((n + 1 : Nat) : Int) := atoi_dec (by omega)
 unfold atoR
 rw [e]
 dsimp only
 rw [show ((n + 1 : Nat) : Int) - 1 = (n : Int) by omega, IntWalk.i64_in _ (by omega)]
theorem zg8 {n : Nat} {d : UInt8} (h : digU d = false) : d ∉ (decB n).data.toList := dec_no h
theorem suf_needs (x : List UInt8) : Lib.hasSuffix (x ++ [32, 98, 97, 114, 115]) [32, 110, 101, 101, 100, 115] = false := by
 unfold Lib.hasSuffix List.isSuffixOf
 rw [List.reverse_append]
 rfl
theorem no3 (l : List UInt8) (h : ([10, 58, 59] : List UInt8).all (fun c => !l.contains c) = true) {c : UInt8} (hc : c ∈ [10, 58, 59]) : c ∉ l := by
 have := List.all_eq_true.1 h c hc
 simpa using this
theorem dig3 {c : UInt8} (hc : c ∈ [10, 58, 59]) : digU c = false := by
 revert c
 decide
section
variable {us : List UnitW}
structure RowP (us : List UnitW) (r : Row) (n : Nat) : Prop where
 s : RowS us r
 five : r.kind = 5 → qp5 n r.a r.b
 other : r.kind ≠ 5 → r.a = 0 ∧ r.b = 0
 one : r.kind = 1 → r.unit = 0
theorem head_first {u : Nat} (ho : StW us) (hu : u < us.length) (x : List UInt8) : ((qe7 us u).data.toList ++ x).head? ≠ some 84 ∧ ((qe7 us u).data.toList ++ x).head? ≠ some 73 ∧ ((qe7 us u).data.toList ++ x).head? ≠ some 66 := by
 have h := (ho.nmAt hu).2.1
 unfold headOk at h
 cases e : (qe7 us u).data.toList with
 | nil => rw [e] at h; cases h
 | cons c r =>
  rw [e] at h
  simp only [List.head?_cons, Bool.and_eq_true, bne_iff_ne] at h
  simp only [List.cons_append, List.head?_cons, ne_eq, Option.some.injEq]
  exact ⟨h.1.1, h.1.2, h.2⟩
theorem qv4 (us : List UnitW) (r : Row) : (qo3 us r).data.toList = (qe7 us r.unit.toNat).data.toList ++ 32 :: (qf1 us r.unit.toNat (qg3 (nsOf us) r.terms r.unit.toNat)).data.toList := by
 unfold qo3
 rw [qb5, qb5]
 simp
theorem masks_le (_ho : StW us) {l : List Term} (h : mayL (nsOf us) l = true) {u : Nat} (hu : u < us.length) : qg3 (nsOf us) l u ≤ qb8 (nsOf us) u := by
 obtain ⟨M, hM, rfl⟩ := qt7 h
 have hu' : u < (nsOf us).length := by simpa [nsOf] using hu
 rw [zi3 hu', ← hM.sub u hu']
 exact Nat.and_le_right
theorem headB_no (ho : StW us) {r : Row} (h : RowS us r) {c : UInt8} (hc : c ∈ [10, 58, 59]) : c ∉ (qe5 us r).data.toList := by
 have hu : r.unit.toNat < us.length := by have := h.unit; omega
 have hn : c ∉ (qe7 us r.unit.toNat).data.toList := name_no ho hu (sub3 hc)
 have hd : ∀ n, c ∉ (decB n).data.toList := fun n => zg8 (dig3 hc)
 have hs : c ∉ (qo3 us r).data.toList := by
  rw [qv4]
  intro hm
  rcases List.mem_append.1 hm with hm | hm
  ·exact hn hm
  ·rcases List.mem_cons.1 hm with hm | hm
   ·subst hm; revert hc; decide
   ·exact values_no ho hu (masks_le ho h.may hu) hc hm
 unfold qe5
 split
 ·exact no3 _ (by decide) hc
 ·split
  ·rw [qb5]
   intro hm
   rcases List.mem_append.1 hm with hm | hm
   ·exact hs hm
   ·exact no3 _ (by decide) hc hm
  ·split
   ·rw [qb5]
    intro hm
    rcases List.mem_append.1 hm with hm | hm
    ·exact hs hm
    ·exact no3 _ (by decide) hc hm
   ·split
    ·rw [qb5]
     intro hm
     rcases List.mem_append.1 hm with hm | hm
     ·exact no3 _ (by decide) hc hm
     ·exact hn hm
    ·simp only [qb5, List.mem_append]
     rintro (((((hm | hm) | hm) | hm) | hm) | hm)
     ·exact no3 _ (by decide) hc hm
     ·exact hd _ hm
     ·exact no3 _ (by decide) hc hm
     ·exact hd _ hm
     ·exact no3 _ (by decide) hc hm
     ·exact hn hm
theorem read_head (ho : StW us) {r : Row} {n : Nat} (h : RowP us r n) (hn : n ≤ 1000000) : qr2 us (qe5 us r) = some (r.kind, r.unit.toNat, r.a, r.b) := by
 have hu : r.unit.toNat < us.length := by have := h.s.unit; omega
 have hk := h.s.kind
 have h5 : r.kind = 1 ∨ r.kind = 2 ∨ r.kind = 3 ∨ r.kind = 4 ∨ r.kind = 5 := by omega
 have hsay : ∀ (x : List UInt8), ((qo3 us r).data.toList ++ x).head? ≠ some 84 ∧ ((qo3 us r).data.toList ++ x).head? ≠ some 73 ∧ ((qo3 us r).data.toList ++ x).head? ≠ some 66 := fun x => by
  rw [qv4, List.append_assoc]
  exact head_first ho hu _
 rcases h5 with hk | hk | hk | hk | hk
 ·obtain ⟨ha, hb⟩ := h.other (by omega)
  have h1 := h.one hk
  have e : qe5 us r = wantedB := by unfold qe5; rw [if_pos hk]; rfl
  unfold qr2
  rw [if_pos e, hk, h1, ha, hb]
  rfl
 ·obtain ⟨ha, hb⟩ := h.other (by omega)
  have e : qe5 us r = qo3 us r ++ ⟨#[32, 110, 101, 101, 100, 115]⟩ := by unfold qe5; rw [if_neg (by omega), if_pos hk]
  have eb : (qe5 us r).data.toList = (qo3 us r).data.toList ++ [32, 110, 101, 101, 100, 115] := by rw [e, qb5]
  obtain ⟨f1, f2, f3⟩ := hsay [32, 110, 101, 101, 100, 115]
  rw [← eb] at f1 f2 f3
  have en : (qe5 us r).data.toList = (qe7 us r.unit.toNat).data.toList ++ 32 :: (qf1 us r.unit.toNat (qg3 (nsOf us) r.terms r.unit.toNat) ++ ⟨#[32, 110, 101, 101, 100, 115]⟩).data.toList := by
   rw [eb, qv4, qb5, List.append_assoc]
   rfl
  obtain ⟨g1, g2⟩ := zj5 ho hu en
  have g3 := sufB_at (s := qf1 us r.unit.toNat (qg3 (nsOf us) r.terms r.unit.toNat) ++ ⟨#[32, 110, 101, 101, 100, 115]⟩) (p := [32, 110, 101, 101, 100, 115]) (qb5 _ _)
  unfold qr2
  rw [if_neg (fun e2 => f1 (by rw [e2]; rfl)), show (ahdB (qe5 us r) askP).2 = false from zb5 f2, if_neg (by decide), show (ahdB (qe5 us r) [66, 121, 32]).2 = false from zb5 f3, if_neg (by decide), g2, g3, if_pos rfl, g1, hk, ha, hb]
  rfl
 ·obtain ⟨ha, hb⟩ := h.other (by omega)
  have e : qe5 us r = qo3 us r ++ ⟨#[32, 98, 97, 114, 115]⟩ := by unfold qe5; rw [if_neg (by omega), if_neg (by omega), if_pos hk]
  have eb : (qe5 us r).data.toList = (qo3 us r).data.toList ++ [32, 98, 97, 114, 115] := by rw [e, qb5]
  obtain ⟨f1, f2, f3⟩ := hsay [32, 98, 97, 114, 115]
  rw [← eb] at f1 f2 f3
  have en : (qe5 us r).data.toList = (qe7 us r.unit.toNat).data.toList ++ 32 :: (qf1 us r.unit.toNat (qg3 (nsOf us) r.terms r.unit.toNat) ++ ⟨#[32, 98, 97, 114, 115]⟩).data.toList := by
   rw [eb, qv4, qb5, List.append_assoc]
   rfl
  obtain ⟨g1, g2⟩ := zj5 ho hu en
  have g3 := sufB_at (s := qf1 us r.unit.toNat (qg3 (nsOf us) r.terms r.unit.toNat) ++ ⟨#[32, 98, 97, 114, 115]⟩) (p := [32, 98, 97, 114, 115]) (qb5 _ _)
  have g4 : (sufB (qf1 us r.unit.toNat (qg3 (nsOf us) r.terms r.unit.toNat) ++ ⟨#[32, 98, 97, 114, 115]⟩) [32, 110, 101, 101, 100, 115]).2 = false := by
   show Lib.hasSuffix _ _ = false
   rw [qb5]
   exact suf_needs _
  unfold qr2
  rw [if_neg (fun e2 => f1 (by rw [e2]; rfl)), show (ahdB (qe5 us r) askP).2 = false from zb5 f2, if_neg (by decide), show (ahdB (qe5 us r) [66, 121, 32]).2 = false from zb5 f3, if_neg (by decide), g2, g4, if_neg (by decide), g3, if_pos rfl, g1, hk, ha, hb]
  rfl
 ·obtain ⟨ha, hb⟩ := h.other (by omega)
  have e : qe5 us r = ⟨#[73, 116, 32, 119, 97, 115, 32, 97, 115, 107, 101, 100, 32, 111, 102, 32]⟩ ++ qe7 us r.unit.toNat := by unfold qe5; rw [if_neg (by omega), if_neg (by omega), if_neg (by omega), if_pos hk]
  have g1 : ahdB (qe5 us r) askP = (qe7 us r.unit.toNat, true) := zg1 (by rw [e, qb5]; rfl)
  have f1 : (qe5 us r).data.toList.head? ≠ some 84 := by
   rw [e, qb5]
   show some 73 ≠ some 84
   decide
  unfold qr2
  rw [if_neg (fun e2 => f1 (by rw [e2]; rfl)), g1, if_pos rfl, qq6 ho hu (Nat.le_refl _), hk, ha, hb]
  rfl
 ·have h9 := h.five hk
  unfold qp5 at h9
  obtain ⟨a, ea⟩ := Int.eq_ofNat_of_zero_le h9.1
  obtain ⟨b, eb⟩ := Int.eq_ofNat_of_zero_le h9.2.2.1
  have e : qe5 us r = ⟨#[66, 121, 32]⟩ ++ decB (a + 1) ++ ⟨#[32, 97, 110, 100, 32]⟩ ++ decB (b + 1) ++ ⟨#[44, 32, 97, 115, 32, 116, 111, 32]⟩ ++ qe7 us r.unit.toNat := by
   unfold qe5; rw [if_neg (by omega), if_neg (by omega), if_neg (by omega), if_neg (by omega), ea, eb]; rfl
  have g1 : ahdB (qe5 us r) [66, 121, 32] = (decB (a + 1) ++ ⟨#[32, 97, 110, 100, 32]⟩ ++ decB (b + 1) ++ ⟨#[44, 32, 97, 115, 32, 116, 111, 32]⟩ ++ qe7 us r.unit.toNat, true) := zg1 (by rw [e]; simp only [qb5, List.append_assoc])
  have g2 : cutB (decB (a + 1) ++ ⟨#[32, 97, 110, 100, 32]⟩ ++ decB (b + 1) ++ ⟨#[44, 32, 97, 115, 32, 116, 111, 32]⟩ ++ qe7 us r.unit.toNat) [44, 32, 97, 115, 32, 116, 111, 32] = (decB (a + 1) ++ ⟨#[32, 97, 110, 100, 32]⟩ ++ decB (b + 1), qe7 us r.unit.toNat, true) := by
   refine zg6 ?_ ?_
   ·simp only [qb5, List.mem_append]
    rintro ((hm | hm) | hm)
    ·exact zg8 (by decide) hm
    ·revert hm; decide
    ·exact zg8 (by decide) hm
   ·simp only [qb5]
  have g3 : cutB (decB (a + 1) ++ ⟨#[32, 97, 110, 100, 32]⟩ ++ decB (b + 1)) [32, 97, 110, 100, 32] = (decB (a + 1), decB (b + 1), true) := by
   refine zg6 (zg8 (by decide)) ?_
   simp only [qb5]
  have f1 : (qe5 us r).data.toList.head? ≠ some 84 := by
   rw [e]; simp only [qb5, List.append_assoc]
   show some 66 ≠ some 84
   decide
  have f2 : (qe5 us r).data.toList.head? ≠ some 73 := by
   rw [e]; simp only [qb5, List.append_assoc]
   show some 66 ≠ some 73
   decide
  unfold qr2
  rw [if_neg (fun e2 => f1 (by rw [e2]; rfl)), show (ahdB (qe5 us r) askP).2 = false from zb5 f2, if_neg (by decide), g1, if_pos rfl]
  unfold bothR
  dsimp only
  rw [g2]
  dsimp only
  rw [g3]
  dsimp only
  rw [qq6 ho hu (Nat.le_refl _), atoR_dec (by omega), atoR_dec (by omega), hk, ea, eb]
def zk7 (us : List UnitW) (r : Row) : ByteArray := if r.terms.isEmpty = true then ⟨#[115, 111, 32, 116, 104, 101, 114, 101, 32, 105, 115, 32, 110, 111, 110, 101]⟩ else ⟨#[110, 101, 118, 101, 114, 32]⟩ ++ qf7 (r.terms.map (qg8 us)) [59, 32]
theorem zn4 (us : List UnitW) (r : Row) (n : Nat) : (qi4 us r n).data.toList = (decB n ++ ⟨#[46, 32]⟩).data.toList ++ ((qe5 us r).data.toList ++ [58, 32] ++ (zk7 us r).data.toList ++ [46]) := by
 unfold qi4 zk7
 split
 ·simp only [qb5, List.append_assoc]
  rfl
 ·simp only [qb5, List.append_assoc]
  rfl
theorem read_tail (ho : StW us) {r : Row} (h : RowS us r) : qq5 us (zk7 us r) = some r.terms := by
 unfold zk7
 split
 ·rename_i e
  have : r.terms = [] := List.isEmpty_iff.1 e
  unfold qq5
  rw [if_pos rfl, this]
 ·rename_i e
  exact read_terms ho h.may fun e2 => e (by rw [e2]; rfl)
theorem read_row (ho : StW us) {r : Row} {n : Nat} (h : RowP us r n) (hn : n ≤ 1000000) : rowR us (qi4 us r n) n = some r := by
 have eb := zn4 us r n
 have h1 : ahdB (qi4 us r n) (decB n ++ ⟨#[46, 32]⟩).data.toList = (qe5 us r ++ ⟨#[58, 32]⟩ ++ zk7 us r ++ ⟨#[46]⟩, true) := zg1 (by rw [eb]; simp only [qb5])
 have h2 : sufB (qe5 us r ++ ⟨#[58, 32]⟩ ++ zk7 us r ++ ⟨#[46]⟩) [46] = (qe5 us r ++ ⟨#[58, 32]⟩ ++ zk7 us r, true) := sufB_at (by simp only [qb5])
 have h3 : cutB (qe5 us r ++ ⟨#[58, 32]⟩ ++ zk7 us r) [58, 32] = (qe5 us r, zk7 us r, true) := zg6 (headB_no ho h.s (by decide)) (by simp only [qb5])
 have h4 : qu0 (qi4 us r n) n = some (qe5 us r, zk7 us r) := by
  unfold qu0
  rw [h1]
  dsimp only
  rw [h2]
  dsimp only
  rw [h3]
  exact if_pos ⟨rfl, rfl, rfl⟩
 have hu := h.s.unit
 have er : (⟨r.kind, (r.unit.toNat : Int), r.a, r.b, r.terms⟩ : Row) = r := by
  rw [Int.toNat_of_nonneg hu.1]
 unfold rowR
 rw [h4]
 dsimp only
 rw [read_head ho h hn, read_tail ho h.s]
 dsimp only
 rw [er, if_pos ⟨h.s.may, h.five, rfl⟩]
theorem line_no (ho : StW us) {r : Row} {n : Nat} (h : RowS us r) : (10 : UInt8) ∉ (qi4 us r n).data.toList := by
 rw [zn4]
 simp only [qb5, List.mem_append]
 rintro ((hm | hm) | (((hm | hm) | hm) | hm))
 ·exact zg8 (by decide) hm
 ·revert hm; decide
 ·exact headB_no ho h (by decide) hm
 ·revert hm; decide
 ·revert hm
  unfold zk7
  split
  ·decide
  ·rw [qb5]
   intro hm
   rcases List.mem_append.1 hm with hm | hm
   ·revert hm; decide
   ·refine joinB_no (by decide) (fun x hx => ?_) hm
    obtain ⟨t, ht, rfl⟩ := List.mem_map.1 hx
    obtain ⟨u, m, hu, rfl, h0, hm⟩ := zk9 h.may ht
    exact termB_no ho hu hm (by decide)
 ·revert hm; decide
end
end
section
theorem zl7 (s : ByteArray) : s.size = s.data.toList.length := by simp
theorem zg7 (s : ByteArray) : ((cutB s [10]).2.2 = true ∧ 10 ∉ (cutB s [10]).1.data.toList ∧ s.data.toList = (cutB s [10]).1.data.toList ++ 10 :: (cutB s [10]).2.1.data.toList) ∨ ((cutB s [10]).2.2 = false ∧ 10 ∉ s.data.toList) := by
 have e : cutB s [10] = (⟨(Lib.cut s.data.toList [10]).1.toArray⟩, ⟨(Lib.cut s.data.toList [10]).2.1.toArray⟩, (Lib.cut s.data.toList [10]).2.2) := rfl
 by_cases h : (10 : UInt8) ∈ s.data.toList
 ·obtain ⟨a, b, hs, ha⟩ : ∃ a b, s.data.toList = a ++ 10 :: b ∧ (10 : UInt8) ∉ a := by
   generalize s.data.toList = l at h
   clear e
   induction l with
   | nil => cases h
   | cons c l ih =>
    by_cases hc : c = 10
    ·subst hc
     exact ⟨[], l, rfl, by simp⟩
    ·have h2 : (10 : UInt8) ∈ l := by
      rcases List.mem_cons.1 h with h | h
      ·exact absurd h.symm hc
      ·exact h
     obtain ⟨a, b, h3, h4⟩ := ih h2
     refine ⟨c :: a, b, by rw [h3]; rfl, fun hm => ?_⟩
     rcases List.mem_cons.1 hm with hm | hm
     ·exact hc hm.symm
     ·exact h4 hm
  have h1 : Lib.cut s.data.toList [10] = (a, b, true) := by
   rw [hs, show a ++ 10 :: b = a ++ [10] ++ b by simp]
   exact cutL_at ha
  rw [h1] at e
  rw [e]
  exact .inl ⟨rfl, ha, hs⟩
 ·have h1 : Lib.cut s.data.toList [10] = (s.data.toList, [], false) := cutL_no h
  rw [h1] at e
  rw [e]
  exact .inr ⟨rfl, h⟩
def zn5 (l : List UInt8) : Nat := l.count 10
section
variable {us : List UnitW}
theorem rowR_spec (h0 : 0 < us.length) {line : ByteArray} {n : Nat} {r : Row} (hn : n ≤ 60000) (h : rowR us line n = some r) : RowP us r n ∧ qi4 us r n = line := by
 cases hp : qu0 line n with
 | none => rw [za2 hp (.inl rfl)] at h; cases h
 | some p =>
  obtain ⟨hd, tl⟩ := p
  cases hh : qr2 us hd with
  | none => rw [za2 hp (.inr ⟨_, rfl, .inl hh⟩)] at h; cases h
  | some q =>
   obtain ⟨kd, u, a, b⟩ := q
   cases ht : qq5 us tl with
   | none => rw [za2 hp (.inr ⟨_, rfl, .inr ht⟩)] at h; cases h
   | some ts =>
    rw [rowR_some hp hh ht] at h
    split at h
    ·rename_i hc
     obtain ⟨h1, h2, h3⟩ := hc
     injection h with h
     subst h
     obtain ⟨q1, q2, q3, q4⟩ := headR_ok h0 hh
     refine ⟨⟨rowS_mk q1 q2 q3 h1 h2 q4 hn, h2, q4, fun hk => ?_⟩, h3⟩
     have hw : ∀ {k : Int} {o : Option Nat}, k ≠ 1 → (o.map fun u : Nat => (k, u, (0 : Int), (0 : Int))) ≠ some (kd, u, a, b) := fun hk1 hm => by
      obtain ⟨v, hv, he⟩ := Option.map_eq_some_iff.1 hm
      injection he with e1 _
      exact hk1 (e1.trans hk)
     unfold qr2 at hh
     split at hh
     ·injection hh with hh
      injection hh with _ hh
      injection hh with e2 _
      show (u : Int) = 0
      omega
     ·split at hh
      ·exact absurd hh (hw (by decide))
      ·split at hh
       ·unfold bothR at hh
        split at hh
        ·injection hh with hh
         injection hh with e1 _
         have : kd = 1 := hk
         omega
        ·cases hh
       ·split at hh
        ·exact absurd hh (hw (by decide))
        ·split at hh
         ·exact absurd hh (hw (by decide))
         ·cases hh
    ·cases h
theorem line_low (us : List UnitW) (r : Row) (n : Nat) : 18 ≤ (qi4 us r n).size := by
 have h1 : 1 ≤ (decB n).size := by
  have : (decB n).size = (Lib.decDigits n).length := by rw [zl7]; rfl
  rw [this, Lib.decDigits_length]
  exact Lib.nDigits_pos n
 have h2 : 6 ≤ (qe5 us r).size := by
  unfold qe5
  split
  ·decide
  ·split
   ·rw [ByteArray.size_append]
    have : (⟨#[32, 110, 101, 101, 100, 115]⟩ : ByteArray).size = 6 := by decide
    omega
   ·split
    ·rw [ByteArray.size_append]
     have : (⟨#[32, 98, 97, 114, 115]⟩ : ByteArray).size = 5 := by decide
     have : 1 ≤ (qo3 us r).size := by
      unfold qo3
      rw [ByteArray.size_append, ByteArray.size_append]
      have : (⟨#[32]⟩ : ByteArray).size = 1 := by decide
      omega
     omega
    ·split
     ·rw [ByteArray.size_append]
      have : (⟨#[73, 116, 32, 119, 97, 115, 32, 97, 115, 107, 101, 100, 32, 111, 102, 32]⟩ : ByteArray).size = 16 := by decide
      omega
     ·simp only [ByteArray.size_append]
      have : (⟨#[66, 121, 32]⟩ : ByteArray).size = 3 := by decide
      have : (⟨#[32, 97, 110, 100, 32]⟩ : ByteArray).size = 5 := by decide
      omega
 unfold qi4
 simp only [ByteArray.size_append]
 have e1 : (⟨#[46, 32]⟩ : ByteArray).size = 2 := by decide
 split
 ·have : (⟨#[58, 32, 115, 111, 32, 116, 104, 101, 114, 101, 32, 105, 115, 32, 110, 111, 110, 101, 46]⟩ : ByteArray).size = 19 := by decide
  omega
 ·simp only [ByteArray.size_append]
  have : (⟨#[58, 32, 110, 101, 118, 101, 114, 32]⟩ : ByteArray).size = 8 := by decide
  have : (⟨#[46]⟩ : ByteArray).size = 1 := by decide
  omega
theorem ze5 {s : ByteArray} (h : (cutB s [10]).2.2 = true) : (cutB s [10]).1.size + 1 + (cutB s [10]).2.1.size = s.size := by
 rcases zg7 s with ⟨-, -, e⟩ | ⟨e, -⟩
 ·rw [zl7 s, e, List.length_append, List.length_cons, zl7, zl7]
  omega
 ·rw [h] at e; cases e
theorem zd1 : ∀ (f g : Nat) (s : ByteArray) (out : List Row), s.size < f → s.size < g → ql0 us f s out = ql0 us g s out
 | 0, _, s, _, h, _ => absurd h (by omega)
 | _, 0, s, _, _, h => absurd h (by omega)
 | f + 1, g + 1, s, out, hf, hg => by
  unfold ql0
  split
  ·rfl
  ·split
   ·rename_i hc
    have := ze5 hc
    cases rowR us (cutB s [10]).1 (out.length + 1) with
    | none => rfl
    | some r => exact zd1 f g _ _ (by omega) (by omega)
   ·rfl
theorem cut_line {s rest : ByteArray} {a : List UInt8} (ha : (10 : UInt8) ∉ a) (e : s.data.toList = a ++ [10] ++ rest.data.toList) : cutB s [10] = (⟨a.toArray⟩, rest, true) := by
 unfold cutB
 rw [e, cutL_at ha]
theorem zd5 (ho : StW us) : ∀ (l : List Row) (f : Nat) (s rest : ByteArray) (out : List Row), (∀ i, (h : i < l.length) → RowP us l[i] (out.length + i + 1)) → out.length + l.length ≤ 60000 → s.data.toList = qe9 us l (out.length + 1) ++ rest.data.toList → s.size < f → ql0 us f s out = ql0 us f rest (out ++ l)
 | [], f, s, rest, out, _, _, e, hf => by
  have : s = rest := qy9 (by rw [e]; rfl)
  rw [this, List.append_nil]
 | r :: l, 0, s, rest, out, _, _, _, hf => absurd hf (by omega)
 | r :: l, f + 1, s, rest, out, hr, hl, e, hf => by
  have hp : RowP us r (out.length + 1) := hr 0 (by simp)
  rw [List.length_cons] at hl
  have hc : cutB s [10] = (qi4 us r (out.length + 1), ⟨(qe9 us l (out.length + 1 + 1) ++ rest.data.toList).toArray⟩, true) := by
   have := cut_line (s := s) (rest := ⟨(qe9 us l (out.length + 1 + 1) ++ rest.data.toList).toArray⟩) (line_no ho (n := out.length + 1) hp.s) (by
    rw [e, qe9, zi0]
    simp only [List.append_assoc])
   exact this
  have hs : s.size = (qi4 us r (out.length + 1)).size + 1 + (qe9 us l (out.length + 1 + 1) ++ rest.data.toList).length := by
   rw [zl7 s, e, qe9, zi0, zl7]
   simp only [List.length_append, List.length_cons, List.length_nil]
   omega
  have hrs : rest.size ≤ (qe9 us l (out.length + 1 + 1) ++ rest.data.toList).length := by
   rw [List.length_append, zl7]; omega
  rw [zd1 (f + 1) f rest _ (by omega) (by omega)]
  have ih := zd5 ho l f ⟨(qe9 us l (out.length + 1 + 1) ++ rest.data.toList).toArray⟩ rest (out ++ [r]) (fun i hi => by
   have := hr (i + 1) (by simpa using hi)
   rw [List.getElem_cons_succ] at this
   rw [List.length_append, List.length_cons, List.length_nil, show out.length + (0 + 1) + i + 1 = out.length + (i + 1) + 1 by omega]
   exact this) (by rw [List.length_append, List.length_cons, List.length_nil]; omega) (by rw [List.length_append]; rfl) (by show (List.toArray _).size < _; simp only [List.size_toArray]; omega)
  rw [List.append_assoc] at ih
  rw [show out ++ r :: l = out ++ ([r] ++ l) from rfl, ← ih]
  conv => lhs; unfold ql0
  rw [if_neg (by omega), hc]
  dsimp only
  rw [if_pos rfl, read_row ho hp (by omega)]
theorem zo4 (h0 : 0 < us.length) : ∀ (f : Nat) (s : ByteArray) (out m : List Row) (k : Nat), s.size < f → 19 * out.length + s.size ≤ 1048576 → ql0 us f s out = (some m, k) → ∃ l, m = out ++ l ∧ k = 0 ∧ s.data.toList = qe9 us l (out.length + 1) ∧ ∀ i, (h : i < l.length) → RowP us l[i] (out.length + i + 1)
 | 0, s, out, m, k, hf, _, _ => absurd hf (by omega)
 | f + 1, s, out, m, k, hf, hz, h => by
  unfold ql0 at h
  split at h
  ·rename_i hs
   injection h with h1 h2
   injection h1 with h1
   refine ⟨[], by rw [← h1, List.append_nil], h2.symm, ?_, fun i hi => absurd hi (by simp)⟩
   rw [zl7] at hs
   exact List.eq_nil_of_length_eq_zero hs
  ·split at h
   ·rename_i hc
    have hcl := ze5 hc
    cases hr : rowR us (cutB s [10]).1 (out.length + 1) with
    | none => rw [hr] at h; cases h
    | some r =>
     rw [hr] at h
     dsimp only at h
     obtain ⟨hp, hl⟩ := rowR_spec h0 (by omega) hr
     have hlow := line_low us r (out.length + 1)
     rw [hl] at hlow
     obtain ⟨l, h1, h2, h3, h4⟩ := zo4 h0 f _ _ m k (by omega) (by rw [List.length_append, List.length_cons, List.length_nil]; omega) h
     refine ⟨r :: l, by rw [h1, List.append_assoc]; rfl, h2, ?_, fun i hi => ?_⟩
     ·rcases zg7 s with ⟨-, -, e⟩ | ⟨e, -⟩
      ·rw [e, h3, ← hl, qe9, zi0, List.length_append, List.length_cons, List.length_nil]
       simp
      ·rw [hc] at e; cases e
     ·cases i with
      | zero => exact hp
      | succ i =>
       have := h4 i (by simpa using hi)
       have e9 : (out ++ [r]).length + i + 1 = out.length + (i + 1) + 1 := by simp only [List.length_append, List.length_cons, List.length_nil]; omega
       rw [e9] at this
       rw [List.getElem_cons_succ]
       exact this
   ·cases h
theorem read_bad : ∀ (f : Nat) (s : ByteArray) (out : List Row) (k : Nat), s.size < f → ql0 us f s out = (none, k) → out.length + 1 ≤ k ∧ k ≤ out.length + 1 + zn5 s.data.toList
 | 0, s, out, k, hf, _ => absurd hf (by omega)
 | f + 1, s, out, k, hf, h => by
  unfold ql0 at h
  split at h
  ·cases h
  ·split at h
   ·rename_i hc
    have hcl := ze5 hc
    cases hr : rowR us (cutB s [10]).1 (out.length + 1) with
    | none =>
     rw [hr] at h
     injection h with _ h
     subst h
     omega
    | some r =>
     rw [hr] at h
     dsimp only at h
     have ih := read_bad f _ _ k (by omega) h
     rw [List.length_append, List.length_cons, List.length_nil] at ih
     rcases zg7 s with ⟨-, -, e⟩ | ⟨e, -⟩
     ·have hl : zn5 s.data.toList = zn5 (cutB s [10]).1.data.toList + 1 + zn5 (cutB s [10]).2.1.data.toList := by
       conv => lhs; rw [e]
       unfold zn5
       rw [List.count_append, List.count_cons_self]
       omega
      omega
     ·rw [hc] at e; cases e
   ·injection h with _ h
    subst h
    omega
def qp0 (us : List UnitW) (s : ByteArray) : List Row × Int × Nat :=
 match ql0 us (s.size + 1) s [] with
 | (none, n) => ([], 2, n)
 | (some l, _) => if MayP l then (l, 0, 0) else ([], 33, 0)
theorem rowP_of {l : List Row} (hm : MayP l) {k : Nat} (hk : k < l.length) (hg : ql3 us l[k] = true) : RowP us l[k] (k + 1) := by
 obtain ⟨⟨h1, h2, h3, h4, h5, h6, h7, h8, h9⟩, _⟩ := hm.2.2 k hk
 refine ⟨qy2 hm hk hg, fun h => ?_, h7, h8⟩
 have := h6 h
 unfold qp5
 omega
theorem tell_parts {l : List Row} {t : ByteArray} (h : qm3 us l = (t, 0)) : MayP l ∧ (∀ r ∈ l, ql3 us r = true) ∧ (qe9 us l 1).length ≤ 1048576 ∧ t.data.toList = qe9 us l 1 := by
 unfold qm3 at h
 split at h
 ·rename_i hc
  split at h
  ·rename_i hl
   injection h with h1 _
   exact ⟨hc.1, hc.2, hl, by rw [← h1]⟩
  ·injection h with _ h2
   cases h2
 ·injection h with _ h2
  cases h2
theorem readF_tell (ho : StW us) {l : List Row} {t : ByteArray} (h : qm3 us l = (t, 0)) : qp0 us t = (l, 0, 0) := by
 obtain ⟨h1, h2, h3, h4⟩ := tell_parts h
 have hl := h1.2.1
 have key := zd5 ho l (t.size + 1) t ⟨#[]⟩ [] (fun i hi => by
  rw [List.length_nil, Nat.zero_add]
  exact rowP_of h1 hi (h2 _ (List.getElem_mem hi))) (by rw [List.length_nil]; omega) (by rw [h4]; simp) (by omega)
 unfold qp0
 rw [key]
 unfold ql0
 rw [if_pos (by decide), List.nil_append]
 dsimp only
 rw [if_pos h1]
theorem tell_readF (h0 : 0 < us.length) {s : ByteArray} {l : List Row} {n : Nat} (hs : s.size ≤ 1048576) (h : qp0 us s = (l, 0, n)) : n = 0 ∧ qm3 us l = (s, 0) := by
 unfold qp0 at h
 cases hr : ql0 us (s.size + 1) s [] with
 | mk o k =>
  rw [hr] at h
  cases o with
  | none => injection h with _ h; injection h with h _; cases h
  | some m =>
   dsimp only at h
   split at h
   ·rename_i hm
    injection h with e1 h
    injection h with _ e2
    subst e1
    refine ⟨e2.symm, ?_⟩
    obtain ⟨l, h1, h2, h3, h4⟩ := zo4 h0 _ s [] m k (by omega) (by rw [List.length_nil]; omega) hr
    rw [List.nil_append] at h1
    subst h1
    unfold qm3
    have hg : ∀ r ∈ m, ql3 us r = true := fun r hr => by
     obtain ⟨i, hi, rfl⟩ := List.getElem_of_mem hr
     have := (h4 i hi).s
     unfold ql3
     rw [this.may, Bool.true_and, decide_eq_true_eq]
     exact this.unit.2
    rw [List.length_nil] at h3
    rw [if_pos ⟨hm, hg⟩, ← h3, if_pos (by rw [← zl7]; exact hs)]
   ·injection h with _ h; injection h with h _; cases h
theorem readF_cases (s : ByteArray) : (∃ l, qp0 us s = (l, 0, 0)) ∨ (∃ n, qp0 us s = ([], 2, n) ∧ 1 ≤ n ∧ n ≤ 1 + zn5 s.data.toList) ∨ qp0 us s = ([], 33, 0) := by
 unfold qp0
 cases hr : ql0 us (s.size + 1) s [] with
 | mk o k =>
  cases o with
  | none =>
   have := read_bad _ s [] k (by omega) hr
   rw [List.length_nil] at this
   exact .inr (.inl ⟨k, rfl, by omega, by omega⟩)
  | some m =>
   dsimp only
   split
   ·exact .inl ⟨m, rfl⟩
   ·exact .inr (.inr rfl)
theorem readF_bad (ho : StW us) {l : List Row} {s b : ByteArray} (hl : ∀ i, (h : i < l.length) → RowP us l[i] (i + 1)) (hn : l.length ≤ 60000) (e : s.data.toList = qe9 us l 1 ++ b.data.toList) (hb : b.size ≠ 0) (hr : (cutB b [10]).2.2 = true → rowR us (cutB b [10]).1 (l.length + 1) = none) : qp0 us s = ([], 2, l.length + 1) := by
 have key := zd5 ho l (s.size + 1) s b [] (fun i hi => by
  rw [List.length_nil, Nat.zero_add]
  exact hl i hi) (by rw [List.length_nil]; omega) e (by omega)
 unfold qp0
 rw [key, List.nil_append]
 have : ql0 us (s.size + 1) b l = (none, l.length + 1) := by
  unfold ql0
  rw [if_neg hb]
  split
  ·rename_i hc
   rw [hr hc]
  ·rfl
 rw [this]
end
end
end Go.Proofs.YtbfbppjccbppiaaGreatDoor
