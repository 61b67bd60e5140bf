import Derived.Test.YtmghlakedaigpaaGreatDoorzA
import Derived.Outline
import Derived.BigQuiet
import Derived.Deep.DeepMust
section
/- Contracts: ref21.bit, ref21.Full. -/
namespace Go.Proofs.YtmghlakedaigpaaGreatDoor
open Go Go.RowKit

set_option maxHeartbeats 400000 in
theorem rbit_any (v : Nat) (w : World) (hv : v ≤ 16) :
    Calls Tryz.prog 38 #[.int .i64 v] w fun e w' => e = .returned (.int .i64 (pw v)) ∧ w' = w := by
  go_enter Tryz.func38, Tryz.ntmps38
  go_wp2
  go_loopw [3, 4] (fun mv iv wr => ∃ i : Nat, i ≤ v ∧ mv = .int .i64 (pw i) ∧ iv = .int .i64 i ∧ wr = w) (fun _ iv _ => v - (intOf iv).toNat)
  case atStart => exact ⟨0, Nat.zero_le _, by simp [pw], rfl, rfl⟩
  case round =>
    obtain ⟨i, hi, rfl, rfl, rfl⟩ := hrel
    obtain ⟨p1, p2⟩ := pw_bd (i := i) (by omega)
    have hs := pw_succ i
    by_cases hlt : i < v
    · have z1 : decide ((i : Int) < v) = true := decide_eq_true (by omega)
      go_wp2
      refine ⟨⟨i + 1, by omega, by rw [hs], by go_num, ?_⟩, by simp [intOf]; omega⟩
      first | trivial | rfl
    · have e : i = v := by omega
      subst e
      have z1 : decide ((i : Int) < i) = false := decide_eq_false (by omega)
      go_wp2
      go_ret
      exact ⟨rfl, rfl⟩

set_option maxHeartbeats 400000 in
theorem rfull_any (v : Value) (ns : List Nat) (u : Int) (w : World) (F : Nat → Prop) (h : UniRd w F v ns) (ho : NsOk ns) (hu : I64 u) (hF : ∀ k, F k → k < w.heap.size) :
    Calls Tryz.prog 22 #[v, .int .i64 u] w fun e w' => e = .returned (.int .i64 (fullF ns u)) ∧ Below w.heap.size w w' := by
  obtain ⟨g, cap, rfl, hg, hc⟩ := h
  have hgl := hF g hg
  have hne : g ≠ w.heap.size := by omega
  go_enter Tryz.func22, Tryz.ntmps22
  by_cases h0 : u < 0
  · go_wp2
    all_goals go_ret
    exact ⟨ret_int (by unfold fullF; rw [if_pos (.inl h0)]), balloc (b0 w) _⟩
  · by_cases h1 : (ns.length : Int) ≤ u
    · go_wp2
      all_goals go_ret
      exact ⟨ret_int (by unfold fullF; rw [if_pos (.inr h1)]), balloc (b0 w) _⟩
    · obtain ⟨k, rfl⟩ : ∃ k : Nat, u = ↑k := ⟨u.toNat, by omega⟩
      have hk : k < ns.length := by omega
      have hn := ho.le k hk
      have he : fullF ns ↑k = pw (ns[k] + 1) - 1 := by
        unfold fullF
        rw [if_neg (by omega), Int.toNat_natCast, List.getElem?_eq_getElem hk]
        rfl
      obtain ⟨Ak, ck, hck⟩ := hc k hk
      generalize ns[k] = n at *
      have k1 : (0 : Int) ≤ ↑k := by omega
      have k2 : (↑k : Int) < ↑ns.length := by omega
      have p := pw_bd (i := n + 1) (by omega)
      have m1 : min (n : Int) 16 = n := by omega
      clear hc
      go_wp2_with (go_at_call 38; refine (rbit_any (n + 1) _ (by omega)).mono ?_; rintro e w1 ⟨rfl, rfl⟩)
      go_ret
      exact ⟨ret_int (by rw [he]), balloc (b0 w) _⟩
end Go.Proofs.YtmghlakedaigpaaGreatDoor
end
section
/- Contracts: term.has, term.bit, term.Full. -/
namespace Go.Proofs.YtmghlakedaigpaaGreatDoor
open Go Go.RowKit

def hasF (ns : List Nat) (u : Int) : Bool := decide (0 ≤ u) && decide (u < ns.length)
end Go.Proofs.YtmghlakedaigpaaGreatDoor
end
section
/- Incompatibilities, plainly: of each unit a mask; the terms that say them. No program stands here. -/
namespace Go.Proofs.YtmghlakedaigpaaGreatDoor
open Go Go.RowKit

/-- An integer's 64 bits. -/
def nm (m : Int) : Nat := (BitVec.ofInt 64 m).toNat
theorem nm_lt (m : Int) : nm m < 18446744073709551616 := (BitVec.ofInt 64 m).isLt
theorem nm_nat {k : Nat} (h : k < 18446744073709551616) : nm (k : Int) = k := by
  unfold nm
  rw [BitVec.ofInt_natCast, BitVec.toNat_ofNat]
  exact Nat.mod_eq_of_lt (by omega)
theorem band (x y : Int) (h : nm x &&& nm y < 9223372036854775808) : bits .and .i64 x y = ((nm x &&& nm y : Nat) : Int) := by
  show IntKind.i64.wrap ((BitVec.ofInt 64 x &&& BitVec.ofInt 64 y).toNat : Int) = _
  rw [BitVec.toNat_and, IntKind.wrap_i64]
  unfold nm at *
  omega
theorem bor (x y : Int) (h : nm x ||| nm y < 9223372036854775808) : bits .or .i64 x y = ((nm x ||| nm y : Nat) : Int) := by
  show IntKind.i64.wrap ((BitVec.ofInt 64 x ||| BitVec.ofInt 64 y).toNat : Int) = _
  rw [BitVec.toNat_or, IntKind.wrap_i64]
  unfold nm at *
  omega
theorem bv_andn (a b : BitVec 64) : a &&& ~~~b = 0#64 ↔ a &&& b = a := by
  constructor
  · intro h
    apply BitVec.eq_of_getLsbD_eq
    intro i hi
    have := congrArg (fun z => z.getLsbD i) h
    simp [hi] at this ⊢
    exact this
  · intro h
    apply BitVec.eq_of_getLsbD_eq
    intro i hi
    have := congrArg (fun z => z.getLsbD i) h
    simp [hi] at this ⊢
    exact this
theorem bandn (x y : Int) : (bits .andNot .i64 x y == 0) = decide (nm x &&& nm y = nm x) := by
  have hb := (BitVec.ofInt 64 x &&& ~~~BitVec.ofInt 64 y).isLt
  have h1 : (bits .andNot .i64 x y == 0) = decide ((BitVec.ofInt 64 x &&& ~~~BitVec.ofInt 64 y).toNat = 0) := by
    show (IntKind.i64.wrap ((BitVec.ofInt 64 x &&& ~~~BitVec.ofInt 64 y).toNat : Int) == 0) = _
    rw [IntKind.wrap_i64]
    by_cases h0 : (BitVec.ofInt 64 x &&& ~~~BitVec.ofInt 64 y).toNat = 0
    · simp [h0]
    · rw [decide_eq_false h0]
      simp only [beq_eq_false_iff_ne, ne_eq]
      omega
  rw [h1]
  apply decide_eq_decide.2
  rw [show (0 : Nat) = (0#64).toNat from rfl, BitVec.toNat_inj, bv_andn, ← BitVec.toNat_inj, BitVec.toNat_and]
  rfl
theorem pow_and (k m : Nat) : 2 ^ k &&& m ≠ 0 ↔ m.testBit k = true := by
  constructor
  · intro h
    cases hb : m.testBit k with
    | true => rfl
    | false =>
      exfalso
      apply h
      apply Nat.eq_of_testBit_eq
      intro i
      rw [Nat.testBit_and, Nat.testBit_two_pow, Nat.zero_testBit]
      by_cases e : k = i
      · subst e; simp [hb]
      · simp [e]
  · intro h h0
    have : (2 ^ k &&& m).testBit k = true := by rw [Nat.testBit_and, Nat.testBit_two_pow]; simp [h]
    rw [h0, Nat.zero_testBit] at this
    cases this
theorem and_le31 {a b : Nat} (h : b ≤ 31) : a &&& b ≤ 31 := Nat.le_trans Nat.and_le_right h
theorem or_le31 {a b : Nat} (h : a ≤ 31) (h' : b ≤ 31) : a ||| b ≤ 31 := by
  have : a ||| b < 2 ^ 5 := Nat.or_lt_two_pow (by omega) (by omega)
  omega

/-- The mask of all values of a unit. -/
def fullN (ns : List Nat) (u : Nat) : Nat := match ns[u]? with
  | some n => 2 ^ (n + 1) - 1
  | none => 0
section
variable {ns : List Nat}
theorem fullN_of {u : Nat} (h : u < ns.length) : fullN ns u = 2 ^ (ns[u] + 1) - 1 := by unfold fullN; rw [List.getElem?_eq_getElem h]
theorem fullN_out {u : Nat} (h : ¬ u < ns.length) : fullN ns u = 0 := by unfold fullN; rw [List.getElem?_eq_none (by omega)]
theorem fullN_le (ho : NsOk ns) (u : Nat) : fullN ns u ≤ 31 := by
  by_cases h : u < ns.length
  · rw [fullN_of h]
    have h1 := ho.le u h
    have : 2 ^ (ns[u] + 1) ≤ 2 ^ 5 := Nat.pow_le_pow_right (by decide) (by omega)
    omega
  · rw [fullN_out h]; omega
theorem fullN_pos {u : Nat} (h : u < ns.length) : 1 ≤ fullN ns u := by
  rw [fullN_of h]
  have : 2 ^ 1 ≤ 2 ^ (ns[u] + 1) := Nat.pow_le_pow_right (by decide) (by omega)
  omega
theorem fullF_eq (u : Int) (h : 0 ≤ u) : fullF ns u = (fullN ns u.toNat : Int) := by
  unfold fullF
  by_cases hu : u.toNat < ns.length
  · rw [if_neg (by omega), fullN_of hu, List.getElem?_eq_getElem hu]
    unfold pw
    have : 0 < 2 ^ (ns[u.toNat] + 1) := Nat.pow_pos (by decide)
    simp only [Option.getD_some]
    omega
  · rw [if_pos (by omega), fullN_out hu]; rfl
theorem fullF_neg (u : Int) (h : u < 0) : fullF ns u = 0 := by unfold fullF; rw [if_pos (.inl h)]
theorem fullF_nat (u : Nat) : fullF ns (u : Int) = (fullN ns u : Int) := by rw [fullF_eq _ (by omega)]; simp
theorem full_bit {u : Nat} (h : u < ns.length) (k : Nat) : (fullN ns u).testBit k = decide (k ≤ ns[u]) := by
  rw [fullN_of h, Nat.testBit_two_pow_sub_one]
  apply decide_eq_decide.2
  omega

/-- A mask for each unit that may be. -/
structure IncOk (ns : List Nat) (M : Nat → Nat) : Prop where
  pos : ∀ u, u < ns.length → M u ≠ 0
  sub : ∀ u, u < ns.length → M u &&& fullN ns u = M u
/-- The term of a unit, if it says something. -/
def tm (ns : List Nat) (M : Nat → Nat) (u : Nat) : Option Term := if M u = fullN ns u then none else some ⟨(u : Int), (M u : Int)⟩
/-- The terms up to a unit. -/
def canonTo (ns : List Nat) (M : Nat → Nat) (n : Nat) : List Term := (List.range n).filterMap (tm ns M)
def canon (ns : List Nat) (M : Nat → Nat) : List Term := canonTo ns M ns.length
theorem canonTo_succ (M : Nat → Nat) (n : Nat) : canonTo ns M (n + 1) = canonTo ns M n ++ (tm ns M n).toList := by
  unfold canonTo
  rw [List.range_succ, List.filterMap_append]
  cases h : tm ns M n <;> simp [h]
theorem canonTo_len (M : Nat → Nat) (n : Nat) : (canonTo ns M n).length ≤ n := by
  have := List.length_filterMap_le (tm ns M) (List.range n)
  rwa [List.length_range] at this
theorem canon_len (M : Nat → Nat) : (canon ns M).length ≤ ns.length := canonTo_len M _
theorem canon_mem {M : Nat → Nat} {t : Term} : t ∈ canon ns M ↔ ∃ u, u < ns.length ∧ M u ≠ fullN ns u ∧ t = ⟨(u : Int), (M u : Int)⟩ := by
  unfold canon canonTo
  simp only [List.mem_filterMap, List.mem_range]
  constructor
  · rintro ⟨u, hu, h⟩
    unfold tm at h
    split at h
    · cases h
    · rename_i h1
      exact ⟨u, hu, h1, (Option.some.inj h).symm⟩
  · rintro ⟨u, hu, h1, rfl⟩
    exact ⟨u, hu, by unfold tm; rw [if_neg h1]⟩
theorem filterMap_same {α β : Type} {f g : α → Option β} : ∀ {l : List α}, (∀ x ∈ l, f x = g x) → l.filterMap f = l.filterMap g
  | [], _ => rfl
  | x :: l, h => by
    rw [List.filterMap_cons, List.filterMap_cons, h x (by simp), filterMap_same fun y hy => h y (by simp [hy])]
theorem canon_congr {M M' : Nat → Nat} (h : ∀ u, u < ns.length → M u = M' u) : canon ns M = canon ns M' := by
  unfold canon canonTo
  refine filterMap_same fun u hu => ?_
  unfold tm
  rw [h u (List.mem_range.1 hu)]
theorem canon_inj {M M' : Nat → Nat} (h : canon ns M = canon ns M') : ∀ u, u < ns.length → M u = M' u := by
  intro u hu
  have key : ∀ A B : Nat → Nat, canon ns A = canon ns B → A u ≠ fullN ns u → A u = B u := by
    intro A B he hne
    have hm : (⟨(u : Int), (A u : Int)⟩ : Term) ∈ canon ns B := he ▸ canon_mem.2 ⟨u, hu, hne, rfl⟩
    obtain ⟨v, _, _, e⟩ := canon_mem.1 hm
    injection e with e1 e2
    have : u = v := by omega
    subst this
    omega
  by_cases h1 : M u = fullN ns u
  · by_cases h2 : M' u = fullN ns u
    · rw [h1, h2]
    · exact (key M' M h.symm h2).symm
  · exact key M M' h h1
theorem canon_i64 (ho : NsOk ns) {M : Nat → Nat} (hM : ∀ u, u < ns.length → M u ≤ 31) : ∀ t ∈ canon ns M, I64 t.unit ∧ I64 t.mask := by
  intro t ht
  obtain ⟨u, hu, _, rfl⟩ := canon_mem.1 ht
  have := hM u hu
  have := ho.hi
  unfold I64
  exact ⟨⟨by dsimp only; omega, by dsimp only; omega⟩, ⟨by dsimp only; omega, by dsimp only; omega⟩⟩
theorem IncOk.le {M : Nat → Nat} (ho : NsOk ns) (h : IncOk ns M) : ∀ u, u < ns.length → M u ≤ 31 := fun u hu => by
  rw [← h.sub u hu]
  exact and_le31 (fullN_le ho u)

/-- Terms of masks, if none is empty. -/
def okN (ns : List Nat) (M : Nat → Nat) : Bool := (List.range ns.length).all fun u => M u != 0
def madeN (ns : List Nat) (M : Nat → Nat) : Option (List Term) := if okN ns M then some (canon ns M) else none
theorem okN_iff {M : Nat → Nat} : okN ns M = true ↔ ∀ u, u < ns.length → M u ≠ 0 := by
  unfold okN
  simp [List.all_eq_true]
/-- What terms leave of a unit. -/
def meetN (ns : List Nat) (l : List Term) (u : Nat) : Nat := l.foldl (fun a t => if t.unit = (u : Int) then a &&& nm t.mask else a) (fullN ns u)
def inR (ns : List Nat) (l : List Term) : Bool := l.all fun t => decide (0 ≤ t.unit) && decide (t.unit < ns.length)
def makeN (ns : List Nat) (l : List Term) : Option (List Term) := if inR ns l then madeN ns (meetN ns l) else none
theorem meetN_nil (u : Nat) : meetN ns [] u = fullN ns u := rfl
theorem meetN_snoc (l : List Term) (t : Term) (u : Nat) : meetN ns (l ++ [t]) u = if t.unit = (u : Int) then meetN ns l u &&& nm t.mask else meetN ns l u := by
  unfold meetN
  rw [List.foldl_append]
  rfl
theorem fold_le (l : List Term) (u : Nat) : ∀ a : Nat, l.foldl (fun a t => if t.unit = (u : Int) then a &&& nm t.mask else a) a ≤ a := by
  induction l with
  | nil => intro a; exact Nat.le_refl _
  | cons t l ih =>
    intro a
    rw [List.foldl_cons]
    refine Nat.le_trans (ih _) ?_
    split
    · exact Nat.and_le_left
    · exact Nat.le_refl _
theorem meetN_le (l : List Term) (u : Nat) : meetN ns l u ≤ fullN ns u := fold_le l u _
theorem fold_bit (l : List Term) (u k : Nat) : ∀ a : Nat, (l.foldl (fun a t => if t.unit = (u : Int) then a &&& nm t.mask else a) a).testBit k = (a.testBit k && l.all fun t => decide (t.unit ≠ (u : Int)) || (nm t.mask).testBit k) := by
  induction l with
  | nil => intro a; simp
  | cons t l ih =>
    intro a
    rw [List.foldl_cons, ih, List.all_cons]
    by_cases h : t.unit = (u : Int)
    · rw [if_pos h, Nat.testBit_and]
      simp [h, Bool.and_assoc]
    · rw [if_neg h]
      simp [h]
theorem meet_bit (l : List Term) (u k : Nat) : (meetN ns l u).testBit k = ((fullN ns u).testBit k && l.all fun t => decide (t.unit ≠ (u : Int)) || (nm t.mask).testBit k) := fold_bit l u k _
theorem sub_full {a : Nat} {u : Nat} (h : ∀ k, a.testBit k = true → (fullN ns u).testBit k = true) : a &&& fullN ns u = a := by
  apply Nat.eq_of_testBit_eq
  intro k
  rw [Nat.testBit_and]
  cases hb : a.testBit k with
  | false => rfl
  | true => rw [h k hb]; rfl
theorem IncOk.bit {M : Nat → Nat} (h : IncOk ns M) {u : Nat} (hu : u < ns.length) {k : Nat} (hb : (M u).testBit k = true) : (fullN ns u).testBit k = true := by
  rw [← h.sub u hu, Nat.testBit_and] at hb
  simp at hb
  exact hb.2
theorem meet_ok {l : List Term} (h : okN ns (meetN ns l) = true) : IncOk ns (meetN ns l) :=
  ⟨okN_iff.1 h, fun u _ => sub_full fun k hk => by rw [meet_bit] at hk; simp at hk; exact hk.1⟩
theorem full_ok : IncOk ns (fullN ns) := ⟨fun u hu => by have := fullN_pos hu; omega, fun u _ => Nat.and_self _⟩
theorem canon_full : canon ns (fullN ns) = [] := by
  refine List.eq_nil_iff_forall_not_mem.2 fun t ht => ?_
  obtain ⟨u, _, h, _⟩ := canon_mem.1 ht
  exact h rfl
/-- Whatever Make gives says masks that may be. -/
theorem make_some {l r : List Term} (h : makeN ns l = some r) : IncOk ns (meetN ns l) ∧ r = canon ns (meetN ns l) := by
  unfold makeN at h
  split at h
  · unfold madeN at h
    split at h
    · rename_i h1
      exact ⟨meet_ok h1, (Option.some.inj h).symm⟩
    · cases h
  · cases h
theorem make_getD (l : List Term) : ∃ M, IncOk ns M ∧ (makeN ns l).getD [] = canon ns M := by
  cases h : makeN ns l with
  | none => exact ⟨fullN ns, full_ok, canon_full.symm⟩
  | some r => exact ⟨_, (make_some h).1, (make_some h).2⟩
/-- One unit's terms among those of masks that may be. -/
theorem canon_all (ho : NsOk ns) {M : Nat → Nat} (h : IncOk ns M) {u : Nat} (hu : u < ns.length) (k : Nat) : ((fullN ns u).testBit k && (canon ns M).all fun t => decide (t.unit ≠ (u : Int)) || (nm t.mask).testBit k) = (M u).testBit k := by
  have hle := h.le ho
  by_cases hf : M u = fullN ns u
  · have : ((canon ns M).all fun t => decide (t.unit ≠ (u : Int)) || (nm t.mask).testBit k) = true := by
      rw [List.all_eq_true]
      intro t ht
      obtain ⟨v, hv, hne, rfl⟩ := canon_mem.1 ht
      have : (v : Int) ≠ u := by
        intro e
        have : v = u := by omega
        subst this
        exact hne hf
      simp [this]
    rw [this, hf, Bool.and_true]
  · have hmem : (⟨(u : Int), (M u : Int)⟩ : Term) ∈ canon ns M := canon_mem.2 ⟨u, hu, hf, rfl⟩
    have hn : nm ((M u : Nat) : Int) = M u := nm_nat (by have := hle u hu; omega)
    cases hb : (M u).testBit k with
    | true =>
      rw [h.bit hu hb, Bool.true_and, List.all_eq_true]
      intro t ht
      obtain ⟨v, hv, hne, rfl⟩ := canon_mem.1 ht
      by_cases e : v = u
      · subst e; simp [hn, hb]
      · have : (v : Int) ≠ u := by omega
        simp [this]
    | false =>
      have : ((canon ns M).all fun t => decide (t.unit ≠ (u : Int)) || (nm t.mask).testBit k) = false := by
        rw [List.all_eq_false]
        exact ⟨_, hmem, by simp [hn, hb]⟩
      rw [this, Bool.and_false]
theorem meet_canon (ho : NsOk ns) {M : Nat → Nat} (h : IncOk ns M) {u : Nat} (hu : u < ns.length) : meetN ns (canon ns M) u = M u := by
  apply Nat.eq_of_testBit_eq
  intro k
  rw [meet_bit, canon_all ho h hu]
theorem inR_canon (M : Nat → Nat) : inR ns (canon ns M) = true := by
  unfold inR
  rw [List.all_eq_true]
  intro t ht
  obtain ⟨u, hu, _, rfl⟩ := canon_mem.1 ht
  simp [hu]
theorem inR_append (l m : List Term) : inR ns (l ++ m) = (inR ns l && inR ns m) := by unfold inR; rw [List.all_append]

/-- What a list says of a unit. -/
def maskF (ns : List Nat) (l : List Term) (u : Int) : Int := match l.find? fun t => t.unit == u with
  | some t => t.mask
  | none => fullF ns u
def maskN (ns : List Nat) (M : Nat → Nat) (u : Int) : Nat := if u < 0 ∨ (ns.length : Int) ≤ u then 0 else M u.toNat
theorem maskN_nat (M : Nat → Nat) {u : Nat} (h : u < ns.length) : maskN ns M (u : Int) = M u := by unfold maskN; rw [if_neg (by omega)]; simp
theorem mask_canon (M : Nat → Nat) (u : Int) : maskF ns (canon ns M) u = (maskN ns M u : Int) := by
  unfold maskF
  split
  · rename_i t h
    have h1 := List.find?_some h
    obtain ⟨v, hv, _, rfl⟩ := canon_mem.1 (List.mem_of_find?_eq_some h)
    simp at h1
    subst h1
    rw [maskN_nat M hv]
  · rename_i h
    rw [List.find?_eq_none] at h
    unfold maskN
    split
    · rename_i h1
      unfold fullF
      rw [if_pos h1]; rfl
    · rename_i h1
      have hu : u.toNat < ns.length := by omega
      rw [fullF_eq u (by omega)]
      by_cases hf : M u.toNat = fullN ns u.toNat
      · rw [hf]
      · have := h _ (canon_mem.2 ⟨_, hu, hf, rfl⟩)
        simp at this
        omega
end
end Go.Proofs.YtmghlakedaigpaaGreatDoor
end
section
/- Laws of incompatibilities, plainly: choices, joins, what says as much. No program stands here. -/
namespace Go.Proofs.YtmghlakedaigpaaGreatDoor
open Go Go.RowKit

/-- A choice of a world: of each unit none (-1) or one of its candidates. -/
structure ChoiceOk (ns : List Nat) (c : List Int) : Prop where
  len : c.length = ns.length
  val : ∀ u, (h : u < ns.length) → -1 ≤ c.getD u 0 ∧ c.getD u 0 < ns[u]
def valN (c : List Int) (u : Nat) : Nat := 2 ^ (c.getD u 0 + 1).toNat
theorem val_bit (c : List Int) (u m : Nat) : valN c u &&& m ≠ 0 ↔ m.testBit (c.getD u 0 + 1).toNat = true := pow_and _ _
def holdN (ns : List Nat) (M : Nat → Nat) (c : List Int) : Bool := (List.range ns.length).all fun u => valN c u &&& M u != 0
def holdL (c : List Int) (l : List Term) : Bool := l.all fun t => valN c t.unit.toNat &&& nm t.mask != 0
section
variable {ns : List Nat}
theorem holdN_iff {M : Nat → Nat} {c : List Int} : holdN ns M c = true ↔ ∀ u, u < ns.length → (M u).testBit (c.getD u 0 + 1).toNat = true := by
  unfold holdN
  simp only [List.all_eq_true, List.mem_range, bne_iff_ne, val_bit]
theorem holdL_iff {c : List Int} {l : List Term} : holdL c l = true ↔ ∀ t ∈ l, (nm t.mask).testBit (c.getD t.unit.toNat 0 + 1).toNat = true := by
  unfold holdL
  simp only [List.all_eq_true, bne_iff_ne, val_bit]
theorem val_full {c : List Int} (hc : ChoiceOk ns c) {u : Nat} (hu : u < ns.length) : (fullN ns u).testBit (c.getD u 0 + 1).toNat = true := by
  have := hc.val u hu
  rw [full_bit hu]
  exact decide_eq_true (by omega)
theorem holdL_make {c : List Int} (hc : ChoiceOk ns c) {l : List Term} (hl : inR ns l = true) : holdL c l = holdN ns (meetN ns l) c := by
  apply Bool.eq_iff_iff.2
  rw [holdL_iff, holdN_iff]
  unfold inR at hl
  rw [List.all_eq_true] at hl
  constructor
  · intro h u hu
    rw [meet_bit, val_full hc hu, Bool.true_and, List.all_eq_true]
    intro t ht
    by_cases e : t.unit = (u : Int)
    · have := h t ht
      rw [e] at this
      simp only [Int.toNat_natCast] at this
      rw [this, Bool.or_true]
    · simp [e]
  · intro h t ht
    have ht' := hl t ht
    simp at ht'
    have hu : t.unit.toNat < ns.length := by omega
    have := h t.unit.toNat hu
    rw [meet_bit, val_full hc hu, Bool.true_and, List.all_eq_true] at this
    have := this t ht
    have e : t.unit = (t.unit.toNat : Int) := by omega
    rw [← e, decide_eq_false (by simp), Bool.false_or] at this
    exact this
theorem holdN_congr {M M' : Nat → Nat} (h : ∀ u, u < ns.length → M u = M' u) (c : List Int) : holdN ns M c = holdN ns M' c := by
  apply Bool.eq_iff_iff.2
  rw [holdN_iff, holdN_iff]
  constructor
  · intro h1 u hu; rw [← h u hu]; exact h1 u hu
  · intro h1 u hu; rw [h u hu]; exact h1 u hu
theorem okN_congr {M M' : Nat → Nat} (h : ∀ u, u < ns.length → M u = M' u) : okN ns M = okN ns M' := by
  apply Bool.eq_iff_iff.2
  rw [okN_iff, okN_iff]
  constructor
  · intro h1 u hu; rw [← h u hu]; exact h1 u hu
  · intro h1 u hu; rw [h u hu]; exact h1 u hu
theorem madeN_congr {M M' : Nat → Nat} (h : ∀ u, u < ns.length → M u = M' u) : madeN ns M = madeN ns M' := by
  unfold madeN
  rw [okN_congr h, canon_congr h]
theorem holdL_canon (ho : NsOk ns) {c : List Int} (hc : ChoiceOk ns c) {M : Nat → Nat} (hM : IncOk ns M) : holdL c (canon ns M) = holdN ns M c := by
  rw [holdL_make hc (inR_canon M)]
  exact holdN_congr (fun u hu => meet_canon ho hM hu) c
/-- If a choice makes them hold, none is empty. -/
theorem holdN_ok {M : Nat → Nat} {c : List Int} (h : holdN ns M c = true) : okN ns M = true := by
  rw [okN_iff]
  rw [holdN_iff] at h
  intro u hu h0
  have := h u hu
  rw [h0, Nat.zero_testBit] at this
  cases this

/-- What follows of two, as to a unit. -/
def joinN (Ma Mb : Nat → Nat) (unit : Nat) (u : Nat) : Nat := if u = unit then Ma u ||| Mb u else Ma u &&& Mb u
def joinL (ns : List Nat) (Ma Mb : Nat → Nat) (unit : Nat) : List Term := (canon ns Ma ++ canon ns Mb).filter (fun t => t.unit != (unit : Int)) ++ [⟨(unit : Int), ((Ma unit ||| Mb unit : Nat) : Int)⟩]
theorem all_filter_ne {l : List Term} {unit u k : Nat} : ((l.filter fun t => t.unit != (unit : Int)).all fun t => decide (t.unit ≠ (u : Int)) || (nm t.mask).testBit k) = (decide (u = unit) || l.all fun t => decide (t.unit ≠ (u : Int)) || (nm t.mask).testBit k) := by
  by_cases e : u = unit
  · subst e
    rw [decide_eq_true rfl, Bool.true_or, List.all_eq_true]
    intro t ht
    have := (List.mem_filter.1 ht).2
    simp at this
    simp [this]
  · rw [decide_eq_false e, Bool.false_or]
    apply Bool.eq_iff_iff.2
    rw [List.all_eq_true, List.all_eq_true]
    constructor
    · intro h t ht
      by_cases h1 : t.unit = (u : Int)
      · exact h t (List.mem_filter.2 ⟨ht, by simp; omega⟩)
      · simp [h1]
    · intro h t ht
      exact h t (List.mem_filter.1 ht).1
theorem meet_join (ho : NsOk ns) {Ma Mb : Nat → Nat} (ha : IncOk ns Ma) (hb : IncOk ns Mb) {unit u : Nat} (hun : unit < ns.length) (hu : u < ns.length) : meetN ns (joinL ns Ma Mb unit) u = joinN Ma Mb unit u := by
  apply Nat.eq_of_testBit_eq
  intro k
  have h1 := canon_all ho ha hu k
  have h2 := canon_all ho hb hu k
  rw [meet_bit]
  unfold joinL joinN
  rw [List.all_append, all_filter_ne, List.all_append]
  have hle : Ma unit ||| Mb unit ≤ 31 := or_le31 (ha.le ho _ hun) (hb.le ho _ hun)
  have hn : nm ((Ma unit ||| Mb unit : Nat) : Int) = Ma unit ||| Mb unit := nm_nat (by omega)
  simp only [List.all_cons, List.all_nil, Bool.and_true, hn]
  by_cases e : u = unit
  · subst e
    rw [if_pos rfl]
    simp only [decide_true, Bool.true_or, Bool.true_and, ne_eq, not_true_eq_false, decide_false, Bool.false_or]
    cases hb1 : (Ma u ||| Mb u).testBit k with
    | false => simp
    | true =>
      rw [Nat.testBit_or, Bool.or_eq_true] at hb1
      rcases hb1 with h | h
      · rw [ha.bit hu h]; rfl
      · rw [hb.bit hu h]; rfl
  · rw [if_neg e, Nat.testBit_and, ← h1, ← h2]
    have : ¬ ((unit : Int) = (u : Int)) := by omega
    simp only [decide_eq_false e, Bool.false_or, ne_eq, this, not_false_eq_true, decide_true, Bool.true_or, Bool.and_true]
    cases (fullN ns u).testBit k <;> simp
theorem join_make (ho : NsOk ns) {Ma Mb : Nat → Nat} (ha : IncOk ns Ma) (hb : IncOk ns Mb) {unit : Nat} (hun : unit < ns.length) : makeN ns (joinL ns Ma Mb unit) = madeN ns (joinN Ma Mb unit) := by
  unfold makeN
  have h1 : inR ns (joinL ns Ma Mb unit) = true := by
    unfold joinL
    rw [inR_append, Bool.and_eq_true]
    constructor
    · have h2 : inR ns (canon ns Ma ++ canon ns Mb) = true := by rw [inR_append, inR_canon, inR_canon]; rfl
      unfold inR at h2 ⊢
      rw [List.all_eq_true] at h2 ⊢
      intro t ht
      exact h2 t (List.mem_filter.1 ht).1
    · unfold inR
      simp [hun]
  rw [if_pos h1]
  exact madeN_congr fun u hu => meet_join ho ha hb hun hu
theorem join_ok {Ma Mb : Nat → Nat} (ha : IncOk ns Ma) (hb : IncOk ns Mb) {unit : Nat} (h : okN ns (joinN Ma Mb unit) = true) : IncOk ns (joinN Ma Mb unit) := by
  refine ⟨okN_iff.1 h, fun u hu => sub_full fun k hk => ?_⟩
  unfold joinN at hk
  split at hk
  · rw [Nat.testBit_or, Bool.or_eq_true] at hk
    rcases hk with hk | hk
    · exact ha.bit hu hk
    · exact hb.bit hu hk
  · rw [Nat.testBit_and, Bool.and_eq_true] at hk
    exact ha.bit hu hk.1
theorem join_comm (Ma Mb : Nat → Nat) (unit u : Nat) : joinN Ma Mb unit u = joinN Mb Ma unit u := by
  unfold joinN
  split
  · exact Nat.or_comm _ _
  · exact Nat.and_comm _ _
theorem join_self (M : Nat → Nat) (unit u : Nat) : joinN M M unit u = M u := by
  unfold joinN
  split
  · exact Nat.or_self _
  · exact Nat.and_self _
theorem join_sound {Ma Mb : Nat → Nat} {unit : Nat} {c : List Int} (h : holdN ns (joinN Ma Mb unit) c = true) : holdN ns Ma c = true ∨ holdN ns Mb c = true := by
  rw [holdN_iff] at h
  have hrest : ∀ u, u < ns.length → u ≠ unit → (Ma u).testBit (c.getD u 0 + 1).toNat = true ∧ (Mb u).testBit (c.getD u 0 + 1).toNat = true := by
    intro u hu hne
    have := h u hu
    unfold joinN at this
    rw [if_neg hne, Nat.testBit_and, Bool.and_eq_true] at this
    exact this
  by_cases hun : unit < ns.length
  · have := h unit hun
    unfold joinN at this
    rw [if_pos rfl, Nat.testBit_or, Bool.or_eq_true] at this
    rcases this with h1 | h1
    · exact .inl (holdN_iff.2 fun u hu => if e : u = unit then e ▸ h1 else (hrest u hu e).1)
    · exact .inr (holdN_iff.2 fun u hu => if e : u = unit then e ▸ h1 else (hrest u hu e).2)
  · exact .inl (holdN_iff.2 fun u hu => (hrest u hu (by omega)).1)
theorem join_both {Ma Mb : Nat → Nat} {unit : Nat} {c : List Int} (h1 : holdN ns Ma c = true) (h2 : holdN ns Mb c = true) : holdN ns (joinN Ma Mb unit) c = true := by
  rw [holdN_iff] at h1 h2 ⊢
  intro u hu
  unfold joinN
  split
  · rw [Nat.testBit_or, h1 u hu]; rfl
  · rw [Nat.testBit_and, h1 u hu, h2 u hu]; rfl

/-- a says as much as b says, or more. -/
def withinN (ns : List Nat) (Ma Mb : Nat → Nat) : Bool := (List.range ns.length).all fun u => decide (Mb u &&& Ma u = Mb u)
def withinL (ns : List Nat) (l : List Term) (Mb : Nat → Nat) : Bool := l.all fun t => decide (maskN ns Mb t.unit &&& nm t.mask = maskN ns Mb t.unit)
theorem withinN_iff {Ma Mb : Nat → Nat} : withinN ns Ma Mb = true ↔ ∀ u, u < ns.length → Mb u &&& Ma u = Mb u := by
  unfold withinN
  simp only [List.all_eq_true, List.mem_range, decide_eq_true_eq]
theorem within_canon (ho : NsOk ns) {Ma Mb : Nat → Nat} (ha : IncOk ns Ma) (hb : IncOk ns Mb) : withinL ns (canon ns Ma) Mb = withinN ns Ma Mb := by
  have hle := ha.le ho
  apply Bool.eq_iff_iff.2
  rw [withinN_iff]
  unfold withinL
  rw [List.all_eq_true]
  constructor
  · intro h u hu
    by_cases hf : Ma u = fullN ns u
    · rw [hf]; exact hb.sub u hu
    · have := h _ (canon_mem.2 ⟨u, hu, hf, rfl⟩)
      rw [decide_eq_true_eq] at this
      rw [maskN_nat Mb hu, nm_nat (by have := hle u hu; omega)] at this
      exact this
  · intro h t ht
    obtain ⟨u, hu, _, rfl⟩ := canon_mem.1 ht
    rw [decide_eq_true_eq]
    rw [maskN_nat Mb hu, nm_nat (by have := hle u hu; omega)]
    exact h u hu
theorem within_self (M : Nat → Nat) : withinN ns M M = true := withinN_iff.2 fun _u _ => Nat.and_self _
theorem within_anti {Ma Mb : Nat → Nat} (h1 : withinN ns Ma Mb = true) (h2 : withinN ns Mb Ma = true) : canon ns Ma = canon ns Mb := by
  rw [withinN_iff] at h1 h2
  exact canon_congr fun u hu => by rw [← h2 u hu, Nat.and_comm, h1 u hu]
theorem within_hold {Ma Mb : Nat → Nat} {c : List Int} (h : withinN ns Ma Mb = true) (hb : holdN ns Mb c = true) : holdN ns Ma c = true := by
  rw [withinN_iff] at h
  rw [holdN_iff] at hb ⊢
  intro u hu
  have := hb u hu
  rw [← h u hu, Nat.testBit_and, Bool.and_eq_true] at this
  exact this.2

/-- A world's choice by its number. -/
def choiceF : List Nat → Nat → List Int
  | [], _ => []
  | k :: r, n => (((n % (k + 1) : Nat) : Int) - 1) :: choiceF r (n / (k + 1))
def prodN : List Nat → Nat
  | [] => 1
  | k :: r => (k + 1) * prodN r
theorem choice_ok : ∀ (ns : List Nat) (n : Nat), ChoiceOk ns (choiceF ns n)
  | [], _ => ⟨rfl, fun u h => by simp at h⟩
  | k :: r, n => by
    have ih := choice_ok r (n / (k + 1))
    refine ⟨by simp [choiceF, ih.len], fun u h => ?_⟩
    cases u with
    | zero =>
      have := Nat.mod_lt n (show 0 < k + 1 by omega)
      simp only [choiceF, List.getD_cons_zero, List.getElem_cons_zero]
      omega
    | succ u =>
      have := ih.val u (by simpa using h)
      simpa only [choiceF, List.getD_cons_succ, List.getElem_cons_succ] using this
theorem choice_all : ∀ (ns : List Nat) (c : List Int), ChoiceOk ns c → ∃ n, n < prodN ns ∧ choiceF ns n = c
  | [], c, h => by
    have : c = [] := List.eq_nil_of_length_eq_zero h.len
    subst this
    exact ⟨0, by decide, rfl⟩
  | k :: r, [], h => by have := h.len; simp at this
  | k :: r, a :: c, h => by
    obtain ⟨n, hn, hc⟩ := choice_all r c ⟨by simpa using h.len, fun u hu => by
      have := h.val (u + 1) (by simpa using hu)
      simpa only [List.getD_cons_succ, List.getElem_cons_succ] using this⟩
    have h0 := h.val 0 (by simp)
    simp only [List.getD_cons_zero, List.getElem_cons_zero] at h0
    obtain ⟨d, hd⟩ : ∃ d : Nat, a = (d : Int) - 1 := ⟨(a + 1).toNat, by omega⟩
    have hdk : d < k + 1 := by omega
    refine ⟨d + (k + 1) * n, ?_, ?_⟩
    · have h1 : (k + 1) * (n + 1) ≤ (k + 1) * prodN r := Nat.mul_le_mul_left _ hn
      rw [Nat.mul_add] at h1
      show d + (k + 1) * n < (k + 1) * prodN r
      omega
    · have e1 : (d + (k + 1) * n) % (k + 1) = d := by rw [Nat.add_mul_mod_self_left, Nat.mod_eq_of_lt hdk]
      have e2 : (d + (k + 1) * n) / (k + 1) = n := by rw [Nat.add_mul_div_left _ _ (by omega), Nat.div_eq_of_lt hdk]; omega
      simp only [choiceF, e1, e2, hc, hd]
def sizeGo : Nat → List Nat → Nat
  | n, [] => n
  | n, k :: r => if n < 1000000 then sizeGo (n * (k + 1)) r else n
def sizeN (ns : List Nat) : Nat := sizeGo 1 ns
theorem sizeGo_eq : ∀ (ns : List Nat) (n : Nat), sizeGo n ns < 1000000 → sizeGo n ns = n * prodN ns
  | [], n, _ => by simp [sizeGo, prodN]
  | k :: r, n, h => by
    unfold sizeGo at h ⊢
    split
    · rename_i h1
      rw [if_pos h1] at h
      rw [sizeGo_eq r _ h]
      simp [prodN, Nat.mul_assoc]
    · rename_i h1
      rw [if_neg h1] at h
      exact absurd h h1
theorem sizeN_eq (h : sizeN ns < 1000000) : sizeN ns = prodN ns := by
  have := sizeGo_eq ns 1 h
  rw [Nat.one_mul] at this
  exact this
theorem sizeGo_pos : ∀ (ns : List Nat) (n : Nat), 1 ≤ n → 1 ≤ sizeGo n ns
  | [], n, h => h
  | k :: r, n, h => by
    unfold sizeGo
    split
    · exact sizeGo_pos r _ (Nat.le_trans h (Nat.le_mul_of_pos_right _ (by omega)))
    · exact h
theorem sizeN_pos (ns : List Nat) : 1 ≤ sizeN ns := sizeGo_pos ns 1 (Nat.le_refl _)

/-- What every choice says, Within says. -/
theorem within_all {Ma Mb : Nat → Nat} (hb : IncOk ns Mb) (h : ∀ n, n < prodN ns → holdN ns Mb (choiceF ns n) = true → holdN ns Ma (choiceF ns n) = true) : withinN ns Ma Mb = true := by
  rw [withinN_iff]
  intro u hu
  apply Nat.eq_of_testBit_eq
  intro k
  rw [Nat.testBit_and]
  cases hbk : (Mb u).testBit k with
  | false => rfl
  | true =>
    classical
    have pick : ∀ v, v < ns.length → ∃ i, (Mb v).testBit i = true ∧ i ≤ ns.getD v 0 := by
      intro v hv
      obtain ⟨i, hi⟩ := Nat.exists_testBit_of_ne_zero (hb.pos v hv)
      have := hb.bit hv hi
      rw [full_bit hv, decide_eq_true_eq] at this
      exact ⟨i, hi, by rw [List.getD_eq_getElem?_getD, List.getElem?_eq_getElem hv]; exact this⟩
    have hku := hb.bit hu hbk
    rw [full_bit hu, decide_eq_true_eq] at hku
    obtain ⟨f, hf⟩ : ∃ f : Nat → Nat, ∀ v, v < ns.length → (Mb v).testBit (f v) = true ∧ f v ≤ ns.getD v 0 := by
      refine ⟨fun v => if h : ∃ i, (Mb v).testBit i = true ∧ i ≤ ns.getD v 0 then h.choose else 0, fun v hv => ?_⟩
      have hp := pick v hv
      simp only [dif_pos hp]
      exact hp.choose_spec
    let c : List Int := (List.range ns.length).map fun v => ((if v = u then k else f v : Nat) : Int) - 1
    have hcl : c.length = ns.length := by simp [c]
    have hcv : ∀ v, v < ns.length → c.getD v 0 = ((if v = u then k else f v : Nat) : Int) - 1 := by
      intro v hv
      simp [c, List.getD_eq_getElem?_getD, hv]
    have hcok : ChoiceOk ns c := by
      refine ⟨hcl, fun v hv => ?_⟩
      rw [hcv v hv]
      split
      · rename_i e
        subst e
        omega
      · have := (hf v hv).2
        rw [List.getD_eq_getElem?_getD, List.getElem?_eq_getElem hv] at this
        simp only [Option.getD_some] at this
        omega
    have hcb : holdN ns Mb c = true := by
      rw [holdN_iff]
      intro v hv
      rw [hcv v hv]
      split
      · rename_i e
        subst e
        have e2 : ((k : Int) - 1 + 1).toNat = k := by omega
        rw [e2]; exact hbk
      · have e2 : ((f v : Int) - 1 + 1).toNat = f v := by omega
        rw [e2]; exact (hf v hv).1
    obtain ⟨n, hn, hcn⟩ := choice_all ns c hcok
    have ha := h n hn (by rw [hcn]; exact hcb)
    rw [hcn, holdN_iff] at ha
    have := ha u hu
    rw [hcv u hu, if_pos rfl] at this
    have e2 : ((k : Int) - 1 + 1).toNat = k := by omega
    rw [e2] at this
    rw [this]; rfl

/-- Terms of two together. -/
theorem meet_two (ho : NsOk ns) {Ma Mb : Nat → Nat} (ha : IncOk ns Ma) (hb : IncOk ns Mb) {u : Nat} (hu : u < ns.length) : meetN ns (canon ns Ma ++ canon ns Mb) u = Ma u &&& Mb u := by
  apply Nat.eq_of_testBit_eq
  intro k
  rw [meet_bit, List.all_append, Nat.testBit_and, ← canon_all ho ha hu, ← canon_all ho hb hu]
  cases (fullN ns u).testBit k <;> simp
theorem meets_law (ho : NsOk ns) {Ma Mb : Nat → Nat} (ha : IncOk ns Ma) (hb : IncOk ns Mb) (c : List Int) :
    (holdN ns Ma c && holdN ns Mb c) = holdN ns (meetN ns (canon ns Ma ++ canon ns Mb)) c := by
  apply Bool.eq_iff_iff.2
  rw [Bool.and_eq_true, holdN_iff, holdN_iff, holdN_iff]
  constructor
  · intro ⟨h1, h2⟩ u hu
    rw [meet_two ho ha hb hu, Nat.testBit_and, h1 u hu, h2 u hu]; rfl
  · intro h
    exact ⟨fun u hu => by have := h u hu; rw [meet_two ho ha hb hu, Nat.testBit_and, Bool.and_eq_true] at this; exact this.1, fun u hu => by have := h u hu; rw [meet_two ho ha hb hu, Nat.testBit_and, Bool.and_eq_true] at this; exact this.2⟩
theorem make_two (ho : NsOk ns) {Ma Mb : Nat → Nat} (_ : IncOk ns Ma) (_ : IncOk ns Mb) : makeN ns (canon ns Ma ++ canon ns Mb) = madeN ns (meetN ns (canon ns Ma ++ canon ns Mb)) := by
  have _ := ho
  unfold makeN
  rw [inR_append, inR_canon, inR_canon]
  rfl
/-- Without one of its terms. -/
def dropN (ns : List Nat) (M : Nat → Nat) (at_ : Nat) (u : Nat) : Nat := if u = at_ then fullN ns u else M u
theorem drop_ok {M : Nat → Nat} (h : IncOk ns M) (a : Nat) : IncOk ns (dropN ns M a) := by
  refine ⟨fun u hu => ?_, fun u hu => ?_⟩
  · unfold dropN
    split
    · have := fullN_pos hu; omega
    · exact h.pos u hu
  · unfold dropN
    split
    · exact Nat.and_self _
    · exact h.sub u hu
theorem filterMap_drop {α β : Type} {f g : α → Option β} : ∀ {l : List α} {n : Nat} {b : β}, (l.filterMap f)[n]? = some b → (∃ a ∈ l, f a = some b ∧ g a = none ∧ (∀ x ∈ l, x ≠ a → g x = f x) ∧ ∀ x ∈ l, f x = some b → x = a) → l.Nodup → l.filterMap g = (l.filterMap f).take n ++ (l.filterMap f).drop (n + 1)
  | [], n, b, h, _, _ => by simp at h
  | y :: l, n, b, h, ⟨a, hal, ha, hga, hg, hu⟩, hn => by
    have hny := (List.nodup_cons.1 hn).1
    have hnl := (List.nodup_cons.1 hn).2
    by_cases e : y = a
    · subst e
      have hfg : l.filterMap g = l.filterMap f := filterMap_same fun x hx => hg x (by simp [hx]) (fun e => hny (e ▸ hx))
      have e1 : (y :: l).filterMap f = b :: l.filterMap f := by rw [List.filterMap_cons, ha]
      have e2 : (y :: l).filterMap g = l.filterMap g := by rw [List.filterMap_cons, hga]
      rw [e1] at h ⊢
      rw [e2]
      cases n with
      | zero => simp [hfg]
      | succ n =>
        exfalso
        rw [List.getElem?_cons_succ] at h
        have hm := List.mem_of_getElem? h
        obtain ⟨x, hx, hxb⟩ := List.mem_filterMap.1 hm
        exact hny ((hu x (by simp [hx]) hxb) ▸ hx)
    · have hal' : a ∈ l := by
        rcases List.mem_cons.1 hal with h1 | h1
        · exact absurd h1.symm e
        · exact h1
      have hgy : g y = f y := hg y (by simp) e
      have ih := fun n' h' => @filterMap_drop α β f g l n' b h' ⟨a, hal', ha, hga, fun x hx => hg x (by simp [hx]), fun x hx => hu x (by simp [hx])⟩ hnl
      cases hfy : f y with
      | none =>
        have e1 : (y :: l).filterMap f = l.filterMap f := by rw [List.filterMap_cons, hfy]
        have e2 : (y :: l).filterMap g = l.filterMap g := by rw [List.filterMap_cons, hgy, hfy]
        rw [e1] at h ⊢
        rw [e2]
        exact ih n h
      | some z =>
        have e1 : (y :: l).filterMap f = z :: l.filterMap f := by rw [List.filterMap_cons, hfy]
        have e2 : (y :: l).filterMap g = z :: l.filterMap g := by rw [List.filterMap_cons, hgy, hfy]
        rw [e1] at h ⊢
        rw [e2]
        cases n with
        | zero =>
          rw [List.getElem?_cons_zero, Option.some.injEq] at h
          subst h
          exact absurd (hu y (by simp) hfy) e
        | succ n =>
          rw [List.getElem?_cons_succ] at h
          have := ih n h
          simp only [List.take_succ_cons, List.drop_succ_cons, List.cons_append, this]
theorem drop_canon {M : Nat → Nat} {n : Nat} {t : Term} (h : (canon ns M)[n]? = some t) : ∃ u, u < ns.length ∧ M u ≠ fullN ns u ∧ (canon ns M).take n ++ (canon ns M).drop (n + 1) = canon ns (dropN ns M u) := by
  obtain ⟨u, hu, hne, rfl⟩ := canon_mem.1 (List.mem_of_getElem? h)
  refine ⟨u, hu, hne, ?_⟩
  have hfu : tm ns M u = some ⟨(u : Int), (M u : Int)⟩ := by unfold tm; rw [if_neg hne]
  refine (filterMap_drop (f := tm ns M) (g := tm ns (dropN ns M u)) h ⟨u, List.mem_range.2 hu, hfu, ?_, ?_, ?_⟩ List.nodup_range).symm
  · unfold tm dropN; simp
  · intro x _ hx
    unfold tm dropN
    simp [hx]
  · intro x _ hx
    unfold tm at hx
    split at hx
    · cases hx
    · have := congrArg Term.unit (Option.some.inj hx)
      dsimp only at this
      omega
theorem drop_within {M : Nat → Nat} (h : IncOk ns M) {u : Nat} (hu : u < ns.length) (hne : M u ≠ fullN ns u) : withinN ns (dropN ns M u) M = true ∧ withinN ns M (dropN ns M u) = false := by
  constructor
  · rw [withinN_iff]
    intro v hv
    unfold dropN
    split
    · exact h.sub v hv
    · exact Nat.and_self _
  · cases hw : withinN ns M (dropN ns M u) with
    | false => rfl
    | true =>
      exfalso
      rw [withinN_iff] at hw
      have := hw u hu
      unfold dropN at this
      rw [if_pos rfl, Nat.and_comm, h.sub u hu] at this
      exact hne this
/-- With one more term. -/
theorem more_within (ho : NsOk ns) {M : Nat → Nat} (h : IncOk ns M) (t : Term) : withinN ns M (meetN ns (canon ns M ++ [t])) = true := by
  rw [withinN_iff]
  intro u hu
  apply Nat.eq_of_testBit_eq
  intro k
  rw [Nat.testBit_and, meet_bit, List.all_append]
  have := canon_all ho h hu k
  rw [← this]
  cases (fullN ns u).testBit k <;> cases (canon ns M).all _ <;> simp
end
end Go.Proofs.YtmghlakedaigpaaGreatDoor
end
section
/- Contracts: term.Value, ref21.Value, term.Holds, ref21.Holds. -/
namespace Go.Proofs.YtmghlakedaigpaaGreatDoor
open Go Go.RowKit

theorem alloc_cell (w : World) (xs : Array Value) (t : TypeId) (i : Nat) : (w.alloc (.cells xs t)).cell? ⟨w.heap.size, i, none⟩ = xs[i]? := World.cell?_alloc_new w xs t i
theorem uni_later {w w0 : World} {v : Value} {ns : List Nat} (h : UniRd w (Lt w.heap.size) v ns) (hb : Below w.heap.size w w0) : UniRd w0 (Lt w0.heap.size) v ns :=
  (h.below hb).more fun _ hk => Nat.lt_of_lt_of_le hk hb.size
theorem uni_lat {w0 : World} {v : Value} {ns : List Nat} (h : UniRd w0 (Lt w0.heap.size) v ns) (e : Later w0) : UniRd e.w (Lt e.w.heap.size) v ns := uni_later h e.below
/-- A choice's entry. -/
theorem choice_at {w : World} {F : Nat → Prop} {cv : Value} {c : List Int} {ns : List Nat} (h : SliceRd tInt w F cv c) (hc : ChoiceOk ns c) {u : Nat} (hu : u < ns.length) :
    ∃ A cap g o i, cv = .slice A c.length cap ∧ A = some ⟨g, o, none⟩ ∧ F g ∧ c.length = ns.length ∧ w.cell? ⟨g, o + u, none⟩ = some (.int .i64 ((i : Nat) - 1)) ∧ i ≤ ns.getD u 0 ∧ valN c u = 2 ^ i := by
  obtain ⟨A, cap, rfl, hcap, hmax, hat⟩ := h.ints
  obtain ⟨g, o, hA, hF, hcell, -⟩ := hat u (by rw [hc.len]; exact hu)
  have hv := hc.val u hu
  have hcu : u < c.length := by rw [hc.len]; exact hu
  rw [List.getD_eq_getElem?_getD, List.getElem?_eq_getElem hcu] at hv
  simp only [Option.getD_some] at hv
  refine ⟨A, cap, g, o, (c[u] + 1).toNat, rfl, hA, hF, hc.len, ?_, ?_, ?_⟩
  · rw [hcell]
    congr 2
    omega
  · rw [List.getD_eq_getElem?_getD, List.getElem?_eq_getElem hu]
    simp only [Option.getD_some]
    omega
  · unfold valN
    rw [List.getD_eq_getElem?_getD, List.getElem?_eq_getElem hcu]
    rfl
set_option maxRecDepth 100000 in
set_option maxHeartbeats 1000000 in
theorem rvalue_any (v cv : Value) (ns : List Nat) (c : List Int) (u : Nat) (w : World) (h : UniRd w (Lt w.heap.size) v ns) (ho : NsOk ns) (hcv : SliceRd tInt w (Lt w.heap.size) cv c) (hc : ChoiceOk ns c) (hu : u < ns.length) :
    Calls Tryz.prog 86 #[v, cv, .int .i64 u] w fun e w' => e = .returned (.int .i64 (valN c u : Nat)) ∧ Below w.heap.size w w' := by
  obtain ⟨A, cap, g1, o1, i, rfl, rfl, hg1, hcl, hci, hin, hval⟩ := choice_at hcv hc hu
  obtain ⟨g, cap0, rfl, hg, hat⟩ := h
  obtain ⟨Ak, ck, hck⟩ := hat u hu
  have hn := ho.le u hu
  rw [List.getD_eq_getElem?_getD, List.getElem?_eq_getElem hu] at hin
  simp only [Option.getD_some] at hin
  generalize ns[u] = n at *
  have k1 : (0 : Int) ≤ ↑u := by omega
  have k2 : (↑u : Int) < ↑ns.length := by omega
  have k3 : (↑u : Int) < ↑c.length := by omega
  obtain ⟨x, hx⟩ : ∃ x : Int, x = (i : Int) - 1 := ⟨_, rfl⟩
  have HX := hid hx
  rw [← hx] at hci
  have p := pw_bd (i := i) (by omega)
  have HV := hid hval
  have z2 : decide (x < -1) = false := decide_eq_false (by omega)
  have z3 : decide ((n : Int) ≤ x) = false := decide_eq_false (by omega)
  have m1 : min (n : Int) 16 = n := by omega
  have y1 : IntKind.i64.wrap (x + 1) = x + 1 := IntWalk.i64_in _ (by omega)
  have y2 : x + 1 = i := by omega
  clear hat hcv hc hval hcl hx
  go_enter Tryz.func86, Tryz.ntmps86
  go_wp2
  obtain ⟨w0, hw0⟩ : ∃ w0 : World, w0 = w.alloc (.cells #[.slice (some ⟨g, 0, none⟩) ns.length cap0] 26) := ⟨_, rfl⟩
  have hb0 : Below w.heap.size w w0 := hw0 ▸ balloc (b0 w) _
  have hl0 : w.heap.size < w0.heap.size := by rw [hw0]; simp
  have hx0 : w0.cell? ⟨w.heap.size, 0, none⟩ = some (.slice (some ⟨g, 0, none⟩) ns.length cap0) := by rw [hw0, alloc_cell]; rfl
  have l1 := later_cell hl0 hx0
  have l2 := later_cell (Nat.lt_of_lt_of_le hg hb0.size) (cell_below hb0 hg hck)
  have l3 := later_cell (Nat.lt_of_lt_of_le hg1 hb0.size) (cell_below hb0 hg1 hci)
  have HB0 := hid hb0
  have HI := hid hin
  rw [← hw0]
  clear hw0 hx0 hck hci hb0 hin
  (refine wp_region_later (by kernel_rfl) (by kernel_rfl) ?_; (repeat (go_big_quiet_step ((fail)))); refine wpQuiet_nil ?_; rintro _ ⟨e1, rfl⟩)
  have hci1 := l3 e1
  obtain ⟨wx, hwx⟩ : ∃ wx : World, wx = e1.w := ⟨_, rfl⟩
  have HBX := hid (show Below w0.heap.size w0 wx from hwx ▸ e1.below)
  rw [← hwx] at hci1 ⊢
  clear hwx l1 l2 l3
  have Y2 := hid y2
  clear m1 y1 y2 p z2 z3
  go_wp2_with fail
  rw [IntWalk.wrap64_in (x + 1) (by have := HI.out; have := Y2.out; omega), Y2.out]
  refine (rbit_any i _ (by have := HI.out; omega)).mono ?_
  rintro e w2 ⟨rfl, rfl⟩
  go_wp2_with fail
  go_ret
  exact ⟨ret_int (by rw [HV.out]; rfl), bstep HB0.out HBX.out⟩

/-- Does a term hold? -/
def holdT (c : List Int) (t : Term) : Bool := valN c t.unit.toNat &&& nm t.mask != 0
theorem valN_lt {ns : List Nat} (ho : NsOk ns) {c : List Int} (hc : ChoiceOk ns c) {u : Nat} (hu : u < ns.length) : valN c u ≤ 16 := by
  have h1 := hc.val u hu
  have h2 := ho.le u hu
  unfold valN
  have : 2 ^ (c.getD u 0 + 1).toNat ≤ 2 ^ 4 := Nat.pow_le_pow_right (by decide) (by omega)
  exact this
theorem two_boxes {w w0 : World} {x : Value} {y z : Value} {t t' : TypeId} (h : w0 = (w.alloc (.cells #[x] t)).alloc (.cells #[y, z] t')) :
    Below w.heap.size w w0 ∧ w0.heap.size = w.heap.size + 2 ∧ w0.cell? ⟨w.heap.size, 0, none⟩ = some x ∧ w0.cell? ⟨w.heap.size + 1, 0, none⟩ = some y ∧ w0.cell? ⟨w.heap.size + 1, 1, none⟩ = some z := by
  subst h
  refine ⟨balloc (balloc (b0 w) _) _, by simp, ?_, ?_, ?_⟩
  · exact cell_below (balloc (b0 (w.alloc (.cells #[x] t))) _) (by simp) ((alloc_cell w _ _ 0).trans rfl)
  · have := alloc_cell (w.alloc (.cells #[x] t)) #[y, z] t' 0
    rw [World.size_alloc] at this
    exact this
  · have := alloc_cell (w.alloc (.cells #[x] t)) #[y, z] t' 1
    rw [World.size_alloc] at this
    exact this
set_option maxHeartbeats 1000000 in
theorem rholds_any (v cv : Value) (ns : List Nat) (c : List Int) (t : Term) (w : World) (h : UniRd w (Lt w.heap.size) v ns) (ho : NsOk ns) (hcv : SliceRd tInt w (Lt w.heap.size) cv c) (hc : ChoiceOk ns c) (hu : 0 ≤ t.unit ∧ t.unit < ns.length) :
    Calls Tryz.prog 73 #[v, .agg #[.int .i64 t.unit, .int .i64 t.mask], cv] w fun e w' => e = .returned (.bool (holdT c t)) ∧ Below w.heap.size w w' := by
  obtain ⟨m, hm⟩ : ∃ m, t.mask = m := ⟨_, rfl⟩
  obtain ⟨u, hun⟩ : ∃ u : Nat, t.unit = u := ⟨t.unit.toNat, by omega⟩
  have hun2 : u < ns.length := by omega
  have HT : Hid (holdT c t = !(bits .and .i64 (valN c u : Nat) m == 0)) := hid (by
    have h1 := valN_lt ho hc hun2
    have h2 : nm ((valN c u : Nat) : Int) = valN c u := nm_nat (by omega)
    have h3 : valN c u &&& nm m ≤ 16 := Nat.le_trans Nat.and_le_left h1
    rw [band _ _ (by rw [h2]; omega), h2]
    unfold holdT
    rw [hm, hun, Int.toNat_natCast]
    by_cases h0 : valN c u &&& nm m = 0
    · rw [h0]; rfl
    · have h4 : ¬ (((valN c u &&& nm m : Nat) : Int) = 0) := by omega
      simp only [bne, beq_eq_false_iff_ne.2 h0, beq_eq_false_iff_ne.2 h4])
  rw [hm, hun]
  have HH := hid h
  have HO := hid ho
  have HC := hid hcv
  have HCO := hid hc
  obtain ⟨g, cap0, rfl, -, -⟩ := h
  obtain ⟨A, cap, rfl, -, -, -⟩ := hcv.ints
  clear hcv hc ho hm hun hu
  go_enter Tryz.func73, Tryz.ntmps73
  go_wp2
  obtain ⟨w0, hw0⟩ : ∃ w0 : World, w0 = (w.alloc (.cells #[.slice (some ⟨g, 0, none⟩) ns.length cap0] 26)).alloc (.cells #[.int .i64 u, .int .i64 m] 35) := ⟨_, rfl⟩
  obtain ⟨hb0, hs0, q0, q1, q2⟩ := two_boxes hw0
  have l0 := later_cell (by omega) q0
  have l1 := later_cell (by omega) q1
  have l2 := later_cell (by omega) q2
  have HU0 := hid (uni_later HH.out hb0)
  have HC0 := hid (HC.out.lift hb0 hb0.size)
  have HB0 := hid hb0
  rw [← hw0]
  clear hw0 hs0 q0 q1 q2 hb0
  (refine wp_region_later (by kernel_rfl) (by kernel_rfl) ?_; (repeat (go_big_quiet_step ((go_at_call 86; exact Calls.later (rvalue_any _ _ ns c u _ (uni_lat HU0.out _) HO.out (HC0.out.lift (Later.below _) (Later.below _).size) HCO.out hun2) rfl)))); refine wpQuiet_nil ?_; rintro _ ⟨⟨w1, hb1⟩, rfl⟩)
  go_wp2
  go_ret
  exact ⟨ret_bool (by rw [HT.out]; rfl), bstep HB0.out hb1⟩
end Go.Proofs.YtmghlakedaigpaaGreatDoor
end
section
/- Contracts at the first values of a choice: ref21.Value, ref21.Holds. -/
namespace Go.Proofs.YtmghlakedaigpaaGreatDoor
open Go Go.RowKit

/-- The first values of a choice. -/
structure PreOk (ns : List Nat) (c : List Int) : Prop where
  len : c.length ≤ ns.length
  val : ∀ u, u < c.length → -1 ≤ c.getD u 0 ∧ c.getD u 0 < ns.getD u 0
theorem pre_at {w : World} {F : Nat → Prop} {cv : Value} {c : List Int} {ns : List Nat} (h : SliceRd tInt w F cv c) (hc : PreOk ns c) {u : Nat} (hu : u < c.length) :
    ∃ A cap g o i, cv = .slice A c.length cap ∧ A = some ⟨g, o, none⟩ ∧ F g ∧ w.cell? ⟨g, o + u, none⟩ = some (.int .i64 ((i : Nat) - 1)) ∧ i ≤ ns.getD u 0 ∧ valN c u = 2 ^ i := by
  obtain ⟨A, cap, rfl, hcap, hmax, hat⟩ := h.ints
  obtain ⟨g, o, hA, hF, hcell, -⟩ := hat u hu
  have hv := hc.val u hu
  rw [List.getD_eq_getElem?_getD, List.getElem?_eq_getElem hu] at hv
  simp only [Option.getD_some] at hv
  refine ⟨A, cap, g, o, (c[u] + 1).toNat, rfl, hA, hF, ?_, by omega, ?_⟩
  · rw [hcell]
    congr 2
    omega
  · unfold valN
    rw [List.getD_eq_getElem?_getD, List.getElem?_eq_getElem hu]
    rfl
theorem valN_pre {ns : List Nat} (ho : NsOk ns) {c : List Int} (hc : PreOk ns c) {u : Nat} (hu : u < c.length) : valN c u ≤ 16 := by
  have hun : u < ns.length := Nat.lt_of_lt_of_le hu hc.len
  have h1 := hc.val u hu
  have h2 := ho.le u hun
  rw [List.getD_eq_getElem?_getD (l := ns), List.getElem?_eq_getElem hun] at h1
  simp only [Option.getD_some] at h1
  unfold valN
  have : 2 ^ (c.getD u 0 + 1).toNat ≤ 2 ^ 4 := Nat.pow_le_pow_right (by decide) (by omega)
  exact this
set_option maxRecDepth 100000 in
set_option maxHeartbeats 1000000 in
theorem rvalue_pre (v cv : Value) (ns : List Nat) (c : List Int) (u : Nat) (w : World) (h : UniRd w (Lt w.heap.size) v ns) (ho : NsOk ns) (hcv : SliceRd tInt w (Lt w.heap.size) cv c) (hc : PreOk ns c) (hu : u < c.length) :
    Calls Tryz.prog 86 #[v, cv, .int .i64 u] w fun e w' => e = .returned (.int .i64 (valN c u : Nat)) ∧ Below w.heap.size w w' := by
  obtain ⟨A, cap, g1, o1, i, rfl, rfl, hg1, hci, hin, hval⟩ := pre_at hcv hc hu
  have hun : u < ns.length := Nat.lt_of_lt_of_le hu hc.len
  obtain ⟨g, cap0, rfl, hg, hat⟩ := h
  obtain ⟨Ak, ck, hck⟩ := hat u hun
  have hn := ho.le u hun
  rw [List.getD_eq_getElem?_getD, List.getElem?_eq_getElem hun] at hin
  simp only [Option.getD_some] at hin
  generalize ns[u] = n at *
  have k1 : (0 : Int) ≤ ↑u := by omega
  have k2 : (↑u : Int) < ↑ns.length := by omega
  have k3 : (↑u : Int) < ↑c.length := by omega
  obtain ⟨x, hx⟩ : ∃ x : Int, x = (i : Int) - 1 := ⟨_, rfl⟩
  have HX := hid hx
  rw [← hx] at hci
  have p := pw_bd (i := i) (by omega)
  have HV := hid hval
  have z2 : decide (x < -1) = false := decide_eq_false (by omega)
  have z3 : decide ((n : Int) ≤ x) = false := decide_eq_false (by omega)
  have m1 : min (n : Int) 16 = n := by omega
  have y1 : IntKind.i64.wrap (x + 1) = x + 1 := IntWalk.i64_in _ (by omega)
  have y2 : x + 1 = i := by omega
  clear hat hcv hc hval hx
  go_enter Tryz.func86, Tryz.ntmps86
  go_wp2
  obtain ⟨w0, hw0⟩ : ∃ w0 : World, w0 = w.alloc (.cells #[.slice (some ⟨g, 0, none⟩) ns.length cap0] 26) := ⟨_, rfl⟩
  have hb0 : Below w.heap.size w w0 := hw0 ▸ balloc (b0 w) _
  have hl0 : w.heap.size < w0.heap.size := by rw [hw0]; simp
  have hx0 : w0.cell? ⟨w.heap.size, 0, none⟩ = some (.slice (some ⟨g, 0, none⟩) ns.length cap0) := by rw [hw0, alloc_cell]; rfl
  have l1 := later_cell hl0 hx0
  have l2 := later_cell (Nat.lt_of_lt_of_le hg hb0.size) (cell_below hb0 hg hck)
  have l3 := later_cell (Nat.lt_of_lt_of_le hg1 hb0.size) (cell_below hb0 hg1 hci)
  have HB0 := hid hb0
  have HI := hid hin
  rw [← hw0]
  clear hw0 hx0 hck hci hb0 hin
  (refine wp_region_later (by kernel_rfl) (by kernel_rfl) ?_; (repeat (go_big_quiet_step ((fail)))); refine wpQuiet_nil ?_; rintro _ ⟨e1, rfl⟩)
  have hci1 := l3 e1
  obtain ⟨wx, hwx⟩ : ∃ wx : World, wx = e1.w := ⟨_, rfl⟩
  have HBX := hid (show Below w0.heap.size w0 wx from hwx ▸ e1.below)
  rw [← hwx] at hci1 ⊢
  clear hwx l1 l2 l3
  have Y2 := hid y2
  clear m1 y1 y2 p z2 z3
  go_wp2_with fail
  rw [IntWalk.wrap64_in (x + 1) (by have := HI.out; have := Y2.out; omega), Y2.out]
  refine (rbit_any i _ (by have := HI.out; omega)).mono ?_
  rintro e w2 ⟨rfl, rfl⟩
  go_wp2_with fail
  go_ret
  exact ⟨ret_int (by rw [HV.out]; rfl), bstep HB0.out HBX.out⟩

set_option maxRecDepth 100000 in
set_option maxHeartbeats 1000000 in
theorem rholds_pre (v cv : Value) (ns : List Nat) (c : List Int) (t : Term) (w : World) (h : UniRd w (Lt w.heap.size) v ns) (ho : NsOk ns) (hcv : SliceRd tInt w (Lt w.heap.size) cv c) (hc : PreOk ns c) (hu : 0 ≤ t.unit ∧ t.unit < c.length) :
    Calls Tryz.prog 73 #[v, .agg #[.int .i64 t.unit, .int .i64 t.mask], cv] w fun e w' => e = .returned (.bool (holdT c t)) ∧ Below w.heap.size w w' := by
  obtain ⟨m, hm⟩ : ∃ m, t.mask = m := ⟨_, rfl⟩
  obtain ⟨u, hun⟩ : ∃ u : Nat, t.unit = u := ⟨t.unit.toNat, by omega⟩
  have hun2 : u < c.length := by omega
  have HT : Hid (holdT c t = !(bits .and .i64 (valN c u : Nat) m == 0)) := hid (by
    have h1 := valN_pre ho hc hun2
    have h2 : nm ((valN c u : Nat) : Int) = valN c u := nm_nat (by omega)
    have h3 : valN c u &&& nm m ≤ 16 := Nat.le_trans Nat.and_le_left h1
    rw [band _ _ (by rw [h2]; omega), h2]
    unfold holdT
    rw [hm, hun, Int.toNat_natCast]
    by_cases h0 : valN c u &&& nm m = 0
    · rw [h0]; rfl
    · have h4 : ¬ (((valN c u &&& nm m : Nat) : Int) = 0) := by omega
      simp only [bne, beq_eq_false_iff_ne.2 h0, beq_eq_false_iff_ne.2 h4])
  rw [hm, hun]
  have HH := hid h
  have HO := hid ho
  have HC := hid hcv
  have HCO := hid hc
  obtain ⟨g, cap0, rfl, -, -⟩ := h
  obtain ⟨A, cap, rfl, -, -, -⟩ := hcv.ints
  clear hcv hc ho hm hun hu
  go_enter Tryz.func73, Tryz.ntmps73
  go_wp2
  obtain ⟨w0, hw0⟩ : ∃ w0 : World, w0 = (w.alloc (.cells #[.slice (some ⟨g, 0, none⟩) ns.length cap0] 26)).alloc (.cells #[.int .i64 u, .int .i64 m] 35) := ⟨_, rfl⟩
  obtain ⟨hb0, hs0, q0, q1, q2⟩ := two_boxes hw0
  have l0 := later_cell (by omega) q0
  have l1 := later_cell (by omega) q1
  have l2 := later_cell (by omega) q2
  have HU0 := hid (uni_later HH.out hb0)
  have HC0 := hid (HC.out.lift hb0 hb0.size)
  have HB0 := hid hb0
  rw [← hw0]
  clear hw0 hs0 q0 q1 q2 hb0
  (refine wp_region_later (by kernel_rfl) (by kernel_rfl) ?_; (repeat (go_big_quiet_step ((go_at_call 86; exact Calls.later (rvalue_pre _ _ ns c u _ (uni_lat HU0.out _) HO.out (HC0.out.lift (Later.below _) (Later.below _).size) HCO.out hun2) rfl)))); refine wpQuiet_nil ?_; rintro _ ⟨⟨w1, hb1⟩, rfl⟩)
  go_wp2
  go_ret
  exact ⟨ret_bool (by rw [HT.out]; rfl), bstep HB0.out hb1⟩
end Go.Proofs.YtmghlakedaigpaaGreatDoor
end
