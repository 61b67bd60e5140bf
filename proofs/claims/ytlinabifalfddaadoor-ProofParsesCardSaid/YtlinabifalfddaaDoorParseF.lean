/- What proof.Parse reads, and that it inverts proof.Print. No program stands here. -/
import Derived.Test.YtlinabifalfddaaDoorInj
import Derived.Lib.Split
import Derived.Lib.IndexBytes
namespace Go.Proofs.YtlinabifalfddaaDoor
open Go Go.RowKit

/-- A text at the first sign c. -/
def cutC (c : UInt8) : List UInt8 → List UInt8 × List UInt8 × Bool
  | [] => ([], [], false)
  | x :: s => if x = c then ([], s, true) else (x :: (cutC c s).1, (cutC c s).2.1, (cutC c s).2.2)
/-- A text at each sign c. -/
def splitC (c : UInt8) : List UInt8 → List (List UInt8)
  | [] => [[]]
  | x :: s => if x = c then [] :: splitC c s else match splitC c s with | w :: ws => (x :: w) :: ws | [] => [[x]]

theorem cut_spec (c : UInt8) : ∀ s : List UInt8, c ∉ (cutC c s).1 ∧ (((cutC c s).2.2 = true ∧ s = (cutC c s).1 ++ c :: (cutC c s).2.1) ∨ ((cutC c s).2.2 = false ∧ s = (cutC c s).1 ∧ (cutC c s).2.1 = []))
  | [] => by simp [cutC]
  | x :: s => by
    by_cases h : x = c
    · subst h; simp [cutC]
    · obtain ⟨h1, h2⟩ := cut_spec c s
      simp only [cutC, if_neg h]
      refine ⟨?_, ?_⟩
      · intro hm
        rcases List.mem_cons.1 hm with e | e
        · exact h e.symm
        · exact h1 e
      · rcases h2 with ⟨a, b⟩ | ⟨a, b, d⟩
        · exact .inl ⟨a, by rw [List.cons_append, ← b]⟩
        · exact .inr ⟨a, by rw [← b], d⟩
theorem cut_len (c : UInt8) (s : List UInt8) (h : (cutC c s).2.2 = true) : (cutC c s).2.1.length < s.length := by
  rcases (cut_spec c s).2 with ⟨_, h2⟩ | ⟨h1, _⟩
  · have := congrArg List.length h2
    simp only [List.length_append, List.length_cons] at this
    omega
  · rw [h] at h1; cases h1
theorem cut_of {c : UInt8} : ∀ {a b : List UInt8}, c ∉ a → cutC c (a ++ c :: b) = (a, b, true)
  | [], b, _ => by simp [cutC]
  | x :: a, b, h => by
    have hx : x ≠ c := fun e => h (by rw [e]; simp)
    have := cut_of (a := a) (b := b) (fun hm => h (List.mem_cons_of_mem _ hm))
    simp only [List.cons_append, cutC, if_neg hx, this]
theorem cut_no {c : UInt8} : ∀ {a : List UInt8}, c ∉ a → cutC c a = (a, [], false)
  | [], _ => rfl
  | x :: a, h => by
    have hx : x ≠ c := fun e => h (by rw [e]; simp)
    have := cut_no (a := a) (fun hm => h (List.mem_cons_of_mem _ hm))
    simp only [cutC, if_neg hx, this]
theorem split_ne (c : UInt8) (s : List UInt8) : splitC c s ≠ [] := by
  cases s with
  | nil => simp [splitC]
  | cons x s =>
    unfold splitC
    split
    · simp
    · split <;> simp
theorem split_cut (c : UInt8) : ∀ s : List UInt8, splitC c s = if (cutC c s).2.2 = true then (cutC c s).1 :: splitC c (cutC c s).2.1 else [(cutC c s).1]
  | [] => by simp [splitC, cutC]
  | x :: s => by
    by_cases h : x = c
    · subst h; simp [splitC, cutC]
    · have ih := split_cut c s
      simp only [splitC, if_neg h, cutC]
      rw [ih]
      by_cases hf : (cutC c s).2.2 = true
      · simp only [hf, if_true]
      · simp only [if_neg hf]
theorem split_of {c : UInt8} {a b : List UInt8} (h : c ∉ a) : splitC c (a ++ c :: b) = a :: splitC c b := by
  rw [split_cut, cut_of h]; simp
theorem split_no {c : UInt8} {a : List UInt8} (h : c ∉ a) : splitC c a = [a] := by
  rw [split_cut, cut_no h]; simp
theorem split_join {c : UInt8} : ∀ {w : List UInt8} {ws : List (List UInt8)}, c ∉ w → (∀ x ∈ ws, c ∉ x) → splitC c (w ++ ws.flatMap fun x => c :: x) = w :: ws
  | w, [], h, _ => by simpa using split_no h
  | w, y :: ws, h, hs => by
    rw [List.flatMap_cons, List.cons_append, split_of h, split_join (hs y (by simp)) (fun x hx => hs x (by simp [hx]))]
theorem join_split (c : UInt8) : ∀ (n : Nat) (s : List UInt8), s.length < n → ∃ w ws, splitC c s = w :: ws ∧ s = w ++ ws.flatMap fun x => c :: x
  | 0, s, h => absurd h (by omega)
  | n + 1, s, h => by
    rw [split_cut]
    rcases (cut_spec c s).2 with ⟨h1, h2⟩ | ⟨h1, h2, h3⟩
    · rw [if_pos h1]
      obtain ⟨w, ws, e1, e2⟩ := join_split c n (cutC c s).2.1 (by have := cut_len c s h1; omega)
      refine ⟨_, _, rfl, ?_⟩
      rw [e1]
      simp only [List.flatMap_cons, List.cons_append]
      rw [← e2]
      exact h2
    · rw [if_neg (by rw [h1]; simp)]
      exact ⟨_, _, rfl, by simpa using h2⟩

/-! The library's words. -/
theorem index_cut (c : UInt8) (s : List UInt8) : ((cutC c s).2.2 = true → Lib.index s [c] = ((cutC c s).1.length : Nat)) ∧ ((cutC c s).2.2 = false → Lib.index s [c] = -1) := by
  obtain ⟨h0, h⟩ := cut_spec c s
  refine ⟨fun hf => ?_, fun hf => ?_⟩
  · rcases h with ⟨_, h2⟩ | ⟨h1, _⟩
    · generalize (cutC c s).1 = a at h0 h2 ⊢
      generalize (cutC c s).2.1 = b at h2
      subst h2
      refine Lib.index_first (by simp) ?_ (fun j hj => ?_)
      · simp [Lib.occAt]
      · unfold Lib.occAt
        rw [List.drop_append_of_le_length (by omega)]
        have hd : a.drop j = a[j] :: a.drop (j + 1) := List.drop_eq_getElem_cons hj
        rw [hd]
        simp only [List.cons_append, List.isPrefixOf]
        have : (c == a[j]) = false := by
          rw [beq_eq_false_iff_ne]
          exact fun e => h0 (e ▸ List.getElem_mem hj)
        rw [this]; rfl
    · rw [hf] at h1; cases h1
  · rcases h with ⟨h1, _⟩ | ⟨_, h2, _⟩
    · rw [hf] at h1; cases h1
    · rw [← h2] at h0
      refine Lib.index_none (fun j hj => ?_)
      unfold Lib.occAt
      cases hd : s.drop j with
      | nil => rfl
      | cons x t =>
        simp only [List.isPrefixOf]
        have : (c == x) = false := by
          rw [beq_eq_false_iff_ne]
          intro e
          subst e
          exact h0 (List.mem_of_mem_drop (i := j) (by rw [hd]; simp))
        rw [this]; rfl
theorem app_take (a b : List UInt8) (c : UInt8) : (a ++ c :: b).take a.length = a ∧ (a ++ c :: b).drop (a.length + 1) = b := by
  refine ⟨by simp, ?_⟩
  rw [show a ++ c :: b = (a ++ [c]) ++ b by simp, show a.length + 1 = (a ++ [c]).length by simp, List.drop_left]
theorem cut_td {c : UInt8} {s : List UInt8} (e : s = (cutC c s).1 ++ c :: (cutC c s).2.1) : s.take (cutC c s).1.length = (cutC c s).1 ∧ s.drop ((cutC c s).1.length + 1) = (cutC c s).2.1 := by
  have h := app_take (cutC c s).1 (cutC c s).2.1 c
  rw [← e] at h
  exact h
theorem lib_cut (c : UInt8) (s : List UInt8) : Lib.cut s [c] = cutC c s := by
  obtain ⟨h1, h2⟩ := index_cut c s
  rcases (cut_spec c s).2 with ⟨hf, e⟩ | ⟨hf, e, e2⟩
  · have hi := h1 hf
    unfold Lib.cut
    rw [hi, if_pos (by omega)]
    obtain ⟨ht, hd⟩ := cut_td e
    simp only [Int.toNat_natCast, List.length_cons, List.length_nil, Nat.zero_add]
    rw [ht, hd]
    exact Prod.ext rfl (Prod.ext rfl hf.symm)
  · have hi := h2 hf
    unfold Lib.cut
    rw [hi, if_neg (by omega)]
    exact Prod.ext e (Prod.ext e2.symm hf.symm)
theorem splitK_eq (c : UInt8) : ∀ (fuel : Nat) (s : List UInt8), s.length < fuel → ∀ k, Lib.countFrom [c] fuel s ≤ k → Lib.splitK [c] 0 k s = splitC c s
  | 0, s, h, _, _ => absurd h (by omega)
  | fuel + 1, s, h, k, hk => by
    obtain ⟨h1, h2⟩ := index_cut c s
    rw [split_cut]
    rcases (cut_spec c s).2 with ⟨hf, e⟩ | ⟨hf, e, e2⟩
    · have hi := h1 hf
      obtain ⟨ht, hd⟩ := cut_td e
      have hb : (Lib.index s [c] == -1) = false := by rw [hi, beq_eq_false_iff_ne]; omega
      unfold Lib.countFrom at hk
      rw [hb] at hk
      simp only [Bool.false_eq_true, if_false, hi, Int.toNat_natCast, List.length_cons, List.length_nil, Nat.zero_add, hd] at hk
      obtain ⟨k', rfl⟩ : ∃ k', k = k' + 1 := ⟨k - 1, by omega⟩
      unfold Lib.splitK
      rw [hb, if_pos hf]
      simp only [Bool.false_eq_true, if_false, hi, Int.toNat_natCast, List.length_cons, List.length_nil, Nat.zero_add, Nat.add_zero, ht, hd]
      rw [splitK_eq c fuel _ (by have := cut_len c s hf; omega) k' (by omega)]
    · have hi := h2 hf
      have hb : (Lib.index s [c] == -1) = true := by rw [hi]; rfl
      rw [if_neg (by rw [hf]; simp), ← e]
      cases k with
      | zero => rfl
      | succ k => unfold Lib.splitK; rw [hb]; rfl

/-! Numbers. -/
def digC (c : UInt8) : Bool := decide (48 ≤ c.toNat) && decide (c.toNat ≤ 57)
def valF (s : List UInt8) : Nat := s.foldl (fun n c => 10 * n + (c.toNat - 48)) 0
def numOk (s : List UInt8) : Prop := 1 ≤ s.length ∧ s.length ≤ 7 ∧ (1 < s.length → s.head? ≠ some 48) ∧ s.all digC = true
instance (s : List UInt8) : Decidable (numOk s) := by unfold numOk; infer_instance
def numberF (s : List UInt8) : Option Nat := if numOk s then some (valF s) else none
theorem val_snoc (s : List UInt8) (c : UInt8) : valF (s ++ [c]) = 10 * valF s + (c.toNat - 48) := by simp [valF]
theorem val_lt : ∀ s : List UInt8, s.all digC = true → valF s < 10 ^ s.length := by
  intro s
  induction s using snoc_ind with
  | h0 => intro _; simp [valF]
  | h1 s c ih =>
    intro h
    rw [List.all_append, Bool.and_eq_true] at h
    have h1 := ih h.1
    have h2 : digC c = true := by simpa using h.2
    simp only [digC, Bool.and_eq_true, decide_eq_true_eq] at h2
    rw [val_snoc, List.length_append, List.length_cons, List.length_nil, Nat.zero_add, Nat.pow_succ]
    omega
theorem digC_of {k : Nat} (h : k < 10) : digC (UInt8.ofNat (48 + k)) = true ∧ (UInt8.ofNat (48 + k)).toNat - 48 = k := by
  match k, h with
  | 0, _ => decide
  | 1, _ => decide
  | 2, _ => decide
  | 3, _ => decide
  | 4, _ => decide
  | 5, _ => decide
  | 6, _ => decide
  | 7, _ => decide
  | 8, _ => decide
  | 9, _ => decide
theorem dec_dig (u : Nat) : (Lib.decDigits u).all digC = true ∧ valF (Lib.decDigits u) = u ∧ (1 ≤ u → (Lib.decDigits u).head? ≠ some 48) := by
  induction u using Nat.strongRecOn with
  | _ u ih =>
    by_cases h : u < 10
    · rw [Lib.decDigits, dif_pos h]
      obtain ⟨h1, h2⟩ := digC_of h
      refine ⟨by simpa using h1, by simp only [valF, List.foldl_cons, List.foldl_nil]; omega, fun h0 he => ?_⟩
      have e : UInt8.ofNat (48 + u) = 48 := by simpa using he
      rw [e] at h2
      have : (48 : UInt8).toNat - 48 = 0 := by decide
      omega
    · obtain ⟨h1, h2, h3⟩ := ih (u / 10) (by omega)
      obtain ⟨d1, d2⟩ := digC_of (k := u % 10) (by omega)
      rw [Lib.decDigits, dif_neg h]
      refine ⟨by rw [List.all_append, h1]; simpa using d1, by rw [val_snoc, h2, d2]; omega, fun _ => ?_⟩
      obtain ⟨x, xs, hx⟩ := List.exists_cons_of_ne_nil (dec_ne (u / 10))
      rw [hx] at h3 ⊢
      simpa using h3 (by omega)
theorem number_dec {n : Nat} (h : n < 10000000) : numberF (Lib.decDigits n) = some n := by
  obtain ⟨h1, h2, h3⟩ := dec_dig n
  have h4 := Lib.nDigits_pos n
  have h5 := nDigits_le7 h
  rw [numberF, if_pos, h2]
  refine ⟨by rw [Lib.decDigits_length]; exact h4, by rw [Lib.decDigits_length]; exact h5, fun hl => ?_, h1⟩
  refine h3 ?_
  rcases Nat.eq_zero_or_pos n with h0 | h0
  · subst h0
    rw [Lib.decDigits, dif_pos (by omega)] at hl
    simp at hl
  · exact h0
theorem dec_val : ∀ s : List UInt8, s ≠ [] → s.all digC = true → (s.head? ≠ some 48 ∨ s.length = 1) → Lib.decDigits (valF s) = s ∧ (s.head? ≠ some 48 → 1 ≤ valF s) := by
  intro s
  induction s using snoc_ind with
  | h0 => intro h; exact absurd rfl h
  | h1 s c ih =>
    intro _ ha hh
    rw [List.all_append, Bool.and_eq_true] at ha
    have hc : digC c = true := by simpa using ha.2
    have hcd := hc
    simp only [digC, Bool.and_eq_true, decide_eq_true_eq] at hcd
    have hcc : UInt8.ofNat (48 + (c.toNat - 48)) = c := by
      rw [show 48 + (c.toNat - 48) = c.toNat by omega]; simp
    rw [val_snoc]
    cases s with
    | nil =>
      refine ⟨?_, fun h => ?_⟩
      · simp only [valF, List.foldl_nil, Nat.mul_zero, Nat.zero_add, List.nil_append]
        rw [Lib.decDigits, dif_pos (by omega), hcc]
      · have : c ≠ 48 := by simpa using h
        have : c.toNat ≠ 48 := fun e => this (UInt8.toNat_inj.1 (by rw [e]; rfl))
        omega
    | cons x s =>
      have hx : (x :: s).head? ≠ some 48 := by
        rcases hh with h | h
        · simpa using h
        · simp at h
      obtain ⟨h1, h2⟩ := ih (by simp) ha.1 (.inl hx)
      have h3 := h2 hx
      refine ⟨?_, fun _ => by omega⟩
      rw [Lib.decDigits, dif_neg (by omega)]
      have e1 : (10 * valF (x :: s) + (c.toNat - 48)) / 10 = valF (x :: s) := by omega
      have e2 : (10 * valF (x :: s) + (c.toNat - 48)) % 10 = c.toNat - 48 := by omega
      rw [e1, e2, h1, hcc]
theorem dec_number {s : List UInt8} {n : Nat} (h : numberF s = some n) : Lib.decDigits n = s ∧ n < 10000000 := by
  unfold numberF at h
  split at h
  · rename_i ho
    obtain ⟨h1, h2, h3, h4⟩ := ho
    have e := Option.some.inj h
    subst e
    have hv := val_lt s h4
    have : (10 : Nat) ^ s.length ≤ 10 ^ 7 := Nat.pow_le_pow_right (by omega) h2
    refine ⟨(dec_val s (fun e => by subst e; simp at h1) h4 ?_).1, by omega⟩
    by_cases hl : 1 < s.length
    · exact .inl (h3 hl)
    · exact .inr (by omega)
  · cases h
theorem number_no {s : List UInt8} (h : ∃ c ∈ s, digC c = false) : numberF s = none := by
  obtain ⟨c, hc, hd⟩ := h
  rw [numberF, if_neg]
  rintro ⟨_, _, _, h4⟩
  have := List.all_eq_true.1 h4 c hc
  rw [hd] at this; cases this

/-! Rows. -/
def termR (w : List UInt8) : Option Term := match numberF (cutC 58 w).1, numberF (cutC 58 w).2.1 with
  | some u, some m => some ⟨u, m⟩
  | _, _ => none
def kindNum (w : List UInt8) : Nat := if w = [114, 111, 111, 116] then 1 else if w = [110, 101, 101, 100] then 2 else if w = [98, 97, 114] then 3 else if w = [97, 115, 107] then 4 else if w = [98, 111, 116, 104] then 5 else 0
def allF {α β : Type} (f : α → Option β) : List α → Option (List β)
  | [] => some []
  | x :: l => match f x with
    | some y => match allF f l with
      | some r => some (y :: r)
      | none => none
    | none => none
def needs (k : Nat) : Nat := if k = 5 then 4 else 2
def rowOf (k : Nat) (ns : List Nat) (ts : List Term) : Row := ⟨k, (ns.getD 0 0 : Nat), (ns.getD 1 0 : Nat), (ns.getD 2 0 : Nat), ts⟩
def rowK (k : Nat) (ws : List (List UInt8)) : Option Row :=
  if k = 0 ∨ ws.length < needs k then none
  else match allF numberF ((ws.drop 1).take (needs k - 1)), allF termR (ws.drop (needs k)) with
    | some ns, some ts => some (rowOf k ns ts)
    | _, _ => none
def rowW (ws : List (List UInt8)) : Option Row := rowK (kindNum (ws.headD [])) ws
def rowR (s : List UInt8) : Option Row := rowW (splitC 32 s)

theorem allF_some {α β : Type} {f : α → Option β} {g : β → α} : ∀ {l : List β}, (∀ y ∈ l, f (g y) = some y) → allF f (l.map g) = some l
  | [], _ => rfl
  | y :: l, h => by
    simp only [List.map_cons, allF]
    rw [h y (by simp), allF_some (fun z hz => h z (by simp [hz]))]
theorem allF_map {α β : Type} {f : α → Option β} {g : β → α} (hg : ∀ x y, f x = some y → g y = x) : ∀ {l : List α} {r : List β}, allF f l = some r → r.map g = l
  | [], r, h => by
    have : r = [] := (Option.some.inj h).symm
    subst this; rfl
  | x :: l, r, h => by
    simp only [allF] at h
    cases hx : f x with
    | none => rw [hx] at h; cases h
    | some y =>
      rw [hx] at h
      cases hl : allF f l with
      | none => rw [hl] at h; cases h
      | some t =>
        rw [hl] at h
        have : r = y :: t := (Option.some.inj h).symm
        subst this
        rw [List.map_cons, hg _ _ hx, allF_map hg hl]
theorem termR_of {t : Term} (h : 0 ≤ t.unit ∧ t.unit < 10000000 ∧ 0 ≤ t.mask ∧ t.mask < 10000000) : termR (termW t) = some t := by
  obtain ⟨u, m⟩ := t
  obtain ⟨h1, h2, h3, h4⟩ := h
  simp only at h1 h2 h3 h4
  obtain ⟨u, rfl⟩ := Int.eq_ofNat_of_zero_le h1
  obtain ⟨m, rfl⟩ := Int.eq_ofNat_of_zero_le h3
  have e : cutC 58 (termW ⟨u, m⟩) = (Lib.itoa u, Lib.itoa m, true) := cut_of (fun hm => (itoa_no _ _ hm).2 rfl)
  unfold termR
  rw [e]
  simp only [itoa_nat]
  rw [number_dec (by omega), number_dec (by omega)]
theorem termR_back {w : List UInt8} {t : Term} (h : termR w = some t) : termW t = w ∧ 0 ≤ t.unit ∧ t.unit < 10000000 ∧ 0 ≤ t.mask ∧ t.mask < 10000000 := by
  unfold termR at h
  split at h
  · rename_i u m hu hm
    have : t = ⟨u, m⟩ := (Option.some.inj h).symm
    subst this
    obtain ⟨e1, l1⟩ := dec_number hu
    obtain ⟨e2, l2⟩ := dec_number hm
    refine ⟨?_, by simp only; omega, by simp only; omega, by simp only; omega, by simp only; omega⟩
    rcases (cut_spec 58 w).2 with ⟨_, e⟩ | ⟨_, _, e⟩
    · unfold termW
      simp only [itoa_nat]
      rw [e1, e2]; exact e.symm
    · rw [e] at e2
      exact absurd e2 (dec_ne _)
  · cases h
theorem kind_back {w : List UInt8} (h : kindNum w ≠ 0) : kindWord (kindNum w) = w ∧ kindNum w ≤ 5 := by
  unfold kindNum at h ⊢
  split
  · rename_i e; subst e; exact ⟨rfl, by omega⟩
  · split
    · rename_i e; subst e; exact ⟨rfl, by omega⟩
    · split
      · rename_i e; subst e; exact ⟨rfl, by omega⟩
      · split
        · rename_i e; subst e; exact ⟨rfl, by omega⟩
        · split
          · rename_i e; subst e; exact ⟨rfl, by omega⟩
          · rename_i h1 h2 h3 h4 h5
            rw [if_neg h1, if_neg h2, if_neg h3, if_neg h4, if_neg h5] at h
            exact absurd rfl h
theorem kind_num {k : Int} (h1 : 1 ≤ k) (h5 : k ≤ 5) : (kindNum (kindWord k) : Int) = k := by
  have : k = 1 ∨ k = 2 ∨ k = 3 ∨ k = 4 ∨ k = 5 := by omega
  rcases this with rfl | rfl | rfl | rfl | rfl <;> rfl
/-- The words of a row's line behind its first one. -/
def tailW (r : Row) : List (List UInt8) := Lib.itoa r.unit :: (if r.kind = 5 then [Lib.itoa r.a, Lib.itoa r.b] else []) ++ r.terms.map termW
theorem lineF_words (r : Row) : lineF r = kindWord r.kind ++ (tailW r).flatMap fun x => 32 :: x := by
  unfold lineF headF bothF tailW
  by_cases h5 : r.kind = 5
  · simp [h5, List.flatMap_map]
    rfl
  · simp [h5, List.flatMap_map]
    rfl
theorem kindWord_no (k : Int) : (32 : UInt8) ∉ kindWord k ∧ (10 : UInt8) ∉ kindWord k := by
  unfold kindWord
  repeat' split
  all_goals decide
theorem itoa_no10 (n : Int) : (10 : UInt8) ∉ Lib.itoa n := by
  intro hm
  unfold Lib.itoa at hm
  have hd : ∀ u : Nat, (10 : UInt8) ∉ Lib.decDigits u := by
    intro u hu
    have := List.all_eq_true.1 (dec_dig u).1 _ hu
    exact absurd this (by decide)
  split at hm
  · rcases List.mem_cons.1 hm with e | hm
    · exact absurd e (by decide)
    · exact hd _ hm
  · exact hd _ hm
theorem termW_no (t : Term) : (32 : UInt8) ∉ termW t ∧ (10 : UInt8) ∉ termW t := by
  refine ⟨fun hm => ?_, fun hm => ?_⟩
  · rcases List.mem_append.1 hm with hm | hm
    · exact (itoa_no _ _ hm).1 rfl
    · rcases List.mem_cons.1 hm with hm | hm
      · exact absurd hm (by decide)
      · exact (itoa_no _ _ hm).1 rfl
  · rcases List.mem_append.1 hm with hm | hm
    · exact itoa_no10 _ hm
    · rcases List.mem_cons.1 hm with hm | hm
      · exact absurd hm (by decide)
      · exact itoa_no10 _ hm
theorem tailW_no (r : Row) : ∀ x ∈ tailW r, (32 : UInt8) ∉ x ∧ (10 : UInt8) ∉ x := by
  have hi : ∀ n : Int, (32 : UInt8) ∉ Lib.itoa n ∧ (10 : UInt8) ∉ Lib.itoa n := fun n => ⟨fun hm => (itoa_no _ _ hm).1 rfl, itoa_no10 n⟩
  intro x hx
  unfold tailW at hx
  rcases List.mem_append.1 hx with hx | hx
  · rcases List.mem_cons.1 hx with rfl | hx
    · exact hi _
    · split at hx
      · simp only [List.mem_cons, List.not_mem_nil, or_false] at hx
        rcases hx with rfl | rfl <;> exact hi _
      · cases hx
  · obtain ⟨t, _, rfl⟩ := List.mem_map.1 hx
    exact termW_no t
theorem lineF_no10 (r : Row) : (10 : UInt8) ∉ lineF r := by
  rw [lineF_words]
  intro hm
  rcases List.mem_append.1 hm with hm | hm
  · exact (kindWord_no _).2 hm
  · obtain ⟨x, hx, hm⟩ := List.mem_flatMap.1 hm
    rcases List.mem_cons.1 hm with e | hm
    · exact absurd e (by decide)
    · exact (tailW_no r x hx).2 hm
theorem row_of_line {r : Row} {n len : Nat} (h : FitsP r n len) (hn : n ≤ 20000) : rowR (lineF r) = some r := by
  obtain ⟨⟨h1, h2, h3, h4, h5, h6, h7, h8, h9⟩, _⟩ := h
  obtain ⟨_, htt⟩ := terms_le h5
  have hterm : allF termR (r.terms.map termW) = some r.terms := allF_some (fun t ht => termR_of (by have := htt t ht; omega))
  have hnum : ∀ z : Int, 0 ≤ z → z < 10000000 → numberF (Lib.itoa z) = some z.toNat := fun z hz hz2 => by
    obtain ⟨m, rfl⟩ := Int.eq_ofNat_of_zero_le hz
    rw [itoa_nat, number_dec (by omega)]; rfl
  unfold rowR
  rw [lineF_words, split_join (kindWord_no _).1 (fun x hx => (tailW_no r x hx).1)]
  have hk := kind_num h1 h2
  show rowK (kindNum (kindWord r.kind)) (kindWord r.kind :: tailW r) = some r
  by_cases hk5 : r.kind = 5
  · have e5 : kindNum (kindWord r.kind) = 5 := by omega
    have ht : tailW r = Lib.itoa r.unit :: Lib.itoa r.a :: Lib.itoa r.b :: r.terms.map termW := by unfold tailW; rw [if_pos hk5]; rfl
    have hab := h6 hk5
    rw [e5, ht]
    unfold rowK
    rw [if_neg (by simp [needs])]
    simp only [needs, if_true, List.drop_succ_cons, List.drop_zero, List.take_succ_cons, List.take_zero, allF, hnum r.unit h3 (by omega), hnum r.a hab.1 (by omega), hnum r.b hab.2.2.1 (by omega), hterm]
    obtain ⟨k, u, a, b, t⟩ := r
    simp only at hk5 h3 hab
    simp [rowOf, hk5]
    omega
  · have e5 : kindNum (kindWord r.kind) ≠ 5 := by omega
    have e0 : kindNum (kindWord r.kind) ≠ 0 := by omega
    have ht : tailW r = Lib.itoa r.unit :: r.terms.map termW := by unfold tailW; rw [if_neg hk5]; rfl
    have hab := h7 hk5
    have hnd : needs (kindNum (kindWord r.kind)) = 2 := by unfold needs; rw [if_neg e5]
    rw [ht]
    generalize hkn : kindNum (kindWord r.kind) = kn at hk e5 e0 hnd ⊢
    unfold rowK
    rw [hnd, if_neg (by simp [e0])]
    simp only [List.drop_succ_cons, List.drop_zero, List.take_succ_cons, List.take_zero, allF, hnum r.unit h3 (by omega), hterm]
    obtain ⟨k, u, a, b, t⟩ := r
    simp only at hk h3 hab
    simp [rowOf, hab, hk]
    omega
theorem line_of_row {s : List UInt8} {r : Row} (h : rowR s = some r) : lineF r = s := by
  obtain ⟨w, ws, e1, e2⟩ := join_split 32 (s.length + 1) s (by omega)
  unfold rowR at h
  rw [e1] at h
  change rowK (kindNum w) (w :: ws) = some r at h
  unfold rowK at h
  split at h
  · cases h
  · rename_i hc
    simp only [not_or, Nat.not_lt] at hc
    obtain ⟨hk0, hlen⟩ := hc
    obtain ⟨hkw, hk5⟩ := kind_back hk0
    have hn : ∀ (x : List UInt8) (y : Nat), numberF x = some y → Lib.itoa (y : Int) = x := fun x y hy => by rw [itoa_nat]; exact (dec_number hy).1
    have htm : ∀ (x : List UInt8) (y : Term), termR x = some y → termW y = x := fun x y hy => (termR_back hy).1
    split at h
    · rename_i ns ts h1 h2
      have hr : r = rowOf (kindNum w) ns ts := (Option.some.inj h).symm
      have q1 := allF_map (g := fun n : Nat => Lib.itoa (n : Int)) hn h1
      have q2 := allF_map htm h2
      rw [lineF_words, hr]
      have hkk : kindWord (rowOf (kindNum w) ns ts).kind = w := hkw
      rw [hkk, e2]
      congr 2
      unfold tailW
      by_cases h5 : kindNum w = 5
      · have hnd : needs (kindNum w) = 4 := by unfold needs; rw [if_pos h5]
        rw [hnd] at q1 q2 hlen
        match ws, hlen with
        | x :: y :: z :: ws, _ =>
          simp only [List.drop_succ_cons, List.drop_zero, List.take_succ_cons, List.take_zero] at q1 q2
          match ns, q1 with
          | [n0, n1, n2], q1 =>
            simp only [List.map_cons, List.map_nil, List.cons.injEq, and_true] at q1
            simp [rowOf, h5, q1, q2]
      · have hnd : needs (kindNum w) = 2 := by unfold needs; rw [if_neg h5]
        rw [hnd] at q1 q2 hlen
        match ws, hlen with
        | x :: ws, _ =>
          simp only [List.drop_succ_cons, List.drop_zero, List.take_succ_cons, List.take_zero] at q1 q2
          match ns, q1 with
          | [n0], q1 =>
            simp only [List.map_cons, List.map_nil, List.cons.injEq, and_true] at q1
            have h5' : ¬ ((kindNum w : Nat) : Int) = 5 := by omega
            simp [rowOf, h5', q1, q2]
    · cases h

/-! The whole text. -/
inductive PR where
  | ok (l : List Row)
  | bad (n : Nat)
def parseGo : Nat → List UInt8 → List Row → PR
  | 0, _, out => .ok out
  | f + 1, s, out => if s = [] then .ok out else match rowR (cutC 10 s).1 with
    | some r => if (cutC 10 s).2.2 = true ∧ out.length < 20000 then parseGo f (cutC 10 s).2.1 (out ++ [r]) else .bad (out.length + 1)
    | none => .bad (out.length + 1)
def parsed (p : PR) : List Row × Int × Int := match p with
  | .ok l => if MayP l then (l, 0, 0) else ([], 33, 0)
  | .bad n => ([], 2, (n : Nat))
def parseF (s : List UInt8) : List Row × Int × Int := parsed (parseGo (s.length + 1) s [])

theorem parse_print : ∀ (l out : List Row) (f : Nat), (∀ i, (h : i < l.length) → ∃ n len, FitsP l[i] n len ∧ n ≤ 20000) → out.length + l.length ≤ 20000 → (printF l).length < f → parseGo f (printF l) out = .ok (out ++ l)
  | [], out, f, _, _, hf => by
    obtain ⟨f', rfl⟩ : ∃ f', f = f' + 1 := ⟨f - 1, by simp [printF] at hf; omega⟩
    simp [parseGo, printF]
  | r :: l, out, f, h, hl, hf => by
    have e : printF (r :: l) = lineF r ++ 10 :: printF l := by simp [printF]
    rw [e] at hf ⊢
    obtain ⟨f', rfl⟩ : ∃ f', f = f' + 1 := ⟨f - 1, by omega⟩
    obtain ⟨n, len, h0, hn⟩ := h 0 (by simp)
    have hc : cutC 10 (lineF r ++ 10 :: printF l) = (lineF r, printF l, true) := cut_of (lineF_no10 r)
    unfold parseGo
    have hr : rowR (lineF r) = some r := row_of_line h0 hn
    rw [if_neg (by simp), hc]
    simp only [hr]
    simp only [List.length_cons] at hl
    rw [if_pos ⟨trivial, by omega⟩, parse_print l (out ++ [r]) f' (fun i hi => h (i + 1) (by simpa using hi)) (by simp; omega) (by simp at hf; omega)]
    simp
theorem parse_back : ∀ (f : Nat) (s : List UInt8) (out m : List Row), s.length < f → parseGo f s out = .ok m → ∃ l, m = out ++ l ∧ printF l = s
  | 0, s, out, m, h, _ => absurd h (by omega)
  | f + 1, s, out, m, hf, h => by
    unfold parseGo at h
    by_cases hs : s = []
    · rw [if_pos hs] at h
      injection h with h
      exact ⟨[], by simp [h], by simp [printF, hs]⟩
    · rw [if_neg hs] at h
      split at h
      · rename_i r hr
        split at h
        · rename_i hc
          obtain ⟨l, e1, e2⟩ := parse_back f _ _ _ (by have := cut_len 10 s hc.1; omega) h
          refine ⟨r :: l, by rw [e1]; simp, ?_⟩
          have hline := line_of_row hr
          have : printF (r :: l) = lineF r ++ 10 :: printF l := by simp [printF]
          rw [this, hline, e2]
          rcases (cut_spec 10 s).2 with ⟨_, e⟩ | ⟨e, _⟩
          · exact e.symm
          · rw [hc.1] at e; cases e
        · cases h
      · cases h
/-- P29.3, the one way. -/
theorem parseF_print {l : List Row} (hm : MayP l) : parseF (printF l) = (l, 0, 0) := by
  unfold parseF
  rw [parse_print l [] _ (fun i hi => ⟨i, l.length, hm.2.2 i hi, by have := hm.2.1; omega⟩) (by have := hm.2.1; simpa using this) (by omega)]
  simp [parsed, hm]
/-- P29.3, the other way. -/
theorem print_parseF {s : List UInt8} {m : List Row} {n : Int} (h : parseF s = (m, 0, n)) : MayP m ∧ printF m = s ∧ n = 0 := by
  unfold parseF parsed at h
  split at h
  · rename_i l hl
    split at h
    · rename_i hm
      simp only [Prod.mk.injEq, true_and] at h
      obtain ⟨rfl, rfl⟩ := h
      obtain ⟨l', e1, e2⟩ := parse_back _ _ _ _ (by omega) hl
      simp only [List.nil_append] at e1
      subst e1
      exact ⟨hm, e2, rfl⟩
    · simp at h
  · simp at h
theorem parseF_cases (s : List UInt8) : (∃ m, MayP m ∧ parseF s = (m, 0, 0)) ∨ (∃ e n, e ≠ 0 ∧ parseF s = ([], e, n)) := by
  unfold parseF parsed
  split
  · rename_i l hl
    split
    · rename_i hm; exact .inl ⟨l, hm, rfl⟩
    · exact .inr ⟨33, 0, by omega, rfl⟩
  · exact .inr ⟨2, _, by omega, rfl⟩
end Go.Proofs.YtlinabifalfddaaDoor
