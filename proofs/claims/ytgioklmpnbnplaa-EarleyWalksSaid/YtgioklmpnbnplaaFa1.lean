/- The plain laws of a grammar's facts: which nonterminals derive the empty word or any word, how short a one; The plain laws of closing a set by a work list, and of spreading; The walk of math/bits.Mul at 1 and a small number; The walks of slices.IndexFunc and ContainsFunc at int, of plain.distinct and plain.Sound; The walks of facts.length, slices.Repeat and facts.Shortest; The walks of facts.uses, facts.close, Nullable and Generating; The walks of slices.Clone at int and of facts.spread. Conditions: none. -/
import Derived.Test.YtgioklmpnbnplaaKr2
import Derived.Test.YtgioklmpnbnplaaTy
set_option linter.unusedSimpArgs false
set_option linter.unusedVariables false
set_option maxRecDepth 100000
namespace Go.Proofs.Ytgioklmpnbnplaa
open Go.V

/-- A nonterminal derives a word of terminals that are let in (T), or the empty one. -/
inductive Gen (T : Bool) (ps : List (Int × List Int)) : Int → Prop
  | mk (p : Int × List Int) (hp : p ∈ ps) (h : ∀ s ∈ p.2, s < 0 → T = true) (h2 : ∀ s ∈ p.2, 0 ≤ s → Gen T ps s) : Gen T ps p.1
/-- The row of bits tells a set of nonterminals below n. -/
def Tells (n : Nat) (S : Int → Prop) (l : List Bool) : Prop := l.length = n ∧ ∀ i : Nat, i < n → (l[i]? = some true ↔ S i)
theorem Tells.uniq {n : Nat} {S : Int → Prop} {l m : List Bool} (h : Tells n S l) (k : Tells n S m) : l = m := by
  refine List.ext_getElem (by rw [h.1, k.1]) fun i h1 h2 => ?_
  have a := h.2 i (h.1 ▸ h1)
  have b := k.2 i (h.1 ▸ h1)
  rw [List.getElem?_eq_getElem h1] at a
  rw [List.getElem?_eq_getElem h2] at b
  rw [Bool.eq_iff_iff]
  simp only [Option.some.injEq] at a b
  exact a.trans b.symm
/-- All symbols lie where they may. -/
def InR (n : Nat) (ps : List (Int × List Int)) : Prop := ∀ p ∈ ps, (0 ≤ p.1 ∧ p.1 < n) ∧ ∀ s ∈ p.2, s < n
theorem gen_closed {T : Bool} {ps : List (Int × List Int)} {l : List Bool}
    (hc : ∀ p ∈ ps, (∀ s ∈ p.2, (s < 0 → T = true) ∧ (0 ≤ s → l[s.toNat]? = some true)) → l[p.1.toNat]? = some true) {a : Int} (h : Gen T ps a) : l[a.toNat]? = some true := by
  induction h with
  | mk p hp h h2 ih => exact hc p hp fun s hs => ⟨h s hs, ih s hs⟩
theorem tells_gen {n : Nat} {T : Bool} {ps : List (Int × List Int)} {l : List Bool} (hn : l.length = n) (hs : ∀ i : Nat, i < n → l[i]? = some true → Gen T ps i)
    (hc : ∀ p ∈ ps, (∀ s ∈ p.2, (s < 0 → T = true) ∧ (0 ≤ s → l[s.toNat]? = some true)) → l[p.1.toNat]? = some true) : Tells n (Gen T ps) l :=
  ⟨hn, fun i hi => ⟨hs i hi, fun h => by have := gen_closed hc h; simpa using this⟩⟩
theorem Gen.weak {ps : List (Int × List Int)} {a : Int} (h : Gen false ps a) : Gen true ps a := by
  induction h with
  | mk p hp h h2 ih => exact .mk p hp (fun _ _ _ => rfl) ih

/-! lengths -/
def costN (c : Int → Nat) (n : Nat) (s : Int) : Nat := min (n + if 0 ≤ s then c s else 1) 1099511627776
def costOf (c : Int → Nat) (l : List Int) : Nat := l.foldl (costN c) 0
theorem costN_pos (c : Int → Nat) (n : Nat) (s : Int) (h : 0 ≤ s) : ((costN c n s : Nat) : Int) = if (1099511627776 : Int) < ((n + c s : Nat) : Int) then 1099511627776 else ((n + c s : Nat) : Int) := by
  unfold costN
  rw [if_pos h, Nat.min_def]
  generalize n + c s = m
  split <;> split <;> omega
theorem costN_neg (c : Int → Nat) (n : Nat) (s : Int) (h : ¬ 0 ≤ s) : ((costN c n s : Nat) : Int) = if (1099511627776 : Int) < ((n + 1 : Nat) : Int) then 1099511627776 else ((n + 1 : Nat) : Int) := by
  unfold costN
  rw [if_neg h, Nat.min_def]
  generalize n + 1 = m
  split <;> split <;> omega
theorem costF_mono {c d : Int → Nat} : ∀ (l : List Int) (n m : Nat), n ≤ m → (∀ s ∈ l, 0 ≤ s → c s ≤ d s) → l.foldl (costN c) n ≤ l.foldl (costN d) m
  | [], n, m, h, _ => h
  | s :: l, n, m, h, hc => by
    simp only [List.foldl_cons]
    refine costF_mono l _ _ ?_ fun s hs => hc s (List.mem_cons_of_mem _ hs)
    have := hc s (List.mem_cons_self ..)
    unfold costN; split <;> omega
theorem costOf_mono {c d : Int → Nat} {l : List Int} (h : ∀ s ∈ l, 0 ≤ s → c s ≤ d s) : costOf c l ≤ costOf d l := costF_mono l 0 0 (Nat.le_refl _) h
theorem costF_le (c : Int → Nat) : ∀ (l : List Int) (n : Nat), n ≤ 1099511627776 → l.foldl (costN c) n ≤ 1099511627776
  | [], n, h => h
  | s :: l, n, h => costF_le c l _ (by unfold costN; omega)
theorem costOf_le (c : Int → Nat) (l : List Int) : costOf c l ≤ 1099511627776 := costF_le c l 0 (by omega)
theorem costF_ge (c : Int → Nat) : ∀ (l : List Int) (n : Nat), n ≤ 1099511627776 → n ≤ l.foldl (costN c) n
  | [], n, h => Nat.le_refl _
  | s :: l, n, h => by
    simp only [List.foldl_cons]
    have := costF_ge c l (costN c n s) (by unfold costN; omega)
    have h2 : n ≤ costN c n s := by unfold costN; omega
    omega
theorem costF_zero {c : Int → Nat} : ∀ (l : List Int) (n : Nat), l.foldl (costN c) n = 0 ↔ n = 0 ∧ ∀ s ∈ l, 0 ≤ s ∧ c s = 0
  | [], n => by simp
  | s :: l, n => by
    simp only [List.foldl_cons, costF_zero l, List.mem_cons, forall_eq_or_imp]
    unfold costN; split <;> constructor <;> rintro ⟨h1, h2⟩ <;> refine ⟨by omega, ?_⟩
    · exact ⟨⟨by assumption, by omega⟩, h2⟩
    · exact h2.2
    · omega
    · omega
theorem costOf_zero {c : Int → Nat} {l : List Int} : costOf c l = 0 ↔ ∀ s ∈ l, 0 ≤ s ∧ c s = 0 := by
  unfold costOf; rw [costF_zero]; simp
theorem costOf_snoc (c : Int → Nat) (l : List Int) (s : Int) : costOf c (l ++ [s]) = costN c (costOf c l) s := by simp [costOf]
/-- A nonterminal derives a word of so many terminals (so many or more, at the bound). -/
inductive Cost (ps : List (Int × List Int)) : Int → Nat → Prop
  | mk (p : Int × List Int) (hp : p ∈ ps) (c : Int → Nat) (h : ∀ s ∈ p.2, 0 ≤ s → Cost ps s (c s)) : Cost ps p.1 (costOf c p.2)
theorem Cost.gen {ps : List (Int × List Int)} {a : Int} {n : Nat} (h : Cost ps a n) : Gen true ps a := by
  induction h with
  | mk p hp c h ih => exact .mk p hp (fun _ _ _ => rfl) ih
theorem Gen.cost {ps : List (Int × List Int)} {a : Int} (h : Gen true ps a) : ∃ n, Cost ps a n := by
  induction h with
  | mk p hp h h2 ih =>
    have : ∀ s : Int, ∃ m, s ∈ p.2 → 0 ≤ s → Cost ps s m := fun s => by
      by_cases h1 : s ∈ p.2 ∧ 0 ≤ s
      · obtain ⟨m, hm⟩ := ih s h1.1 h1.2; exact ⟨m, fun _ _ => hm⟩
      · exact ⟨0, fun a b => absurd ⟨a, b⟩ h1⟩
    exact ⟨_, .mk p hp (fun s => (this s).choose) fun s => (this s).choose_spec⟩
theorem cost_zero {ps : List (Int × List Int)} {a : Int} : Cost ps a 0 ↔ Gen false ps a := by
  constructor
  · intro h
    generalize hn : 0 = n at h
    induction h with
    | mk p hp c h ih =>
      have h0 := costOf_zero.1 hn.symm
      exact .mk p hp (fun s hs hn => by have := (h0 s hs).1; omega) fun s hs h1 => ih s hs h1 (h0 s hs).2.symm
  · intro h
    induction h with
    | mk p hp h h2 ih =>
      have : costOf (fun _ => 0) p.2 = 0 := costOf_zero.2 fun s hs => ⟨by
        rcases Int.lt_or_le s 0 with h1 | h1
        · exact absurd (h s hs h1) (by simp)
        · exact h1, rfl⟩
      rw [← this]
      exact .mk p hp (fun _ => 0) ih
/-- The row of numbers tells the least length of each nonterminal below n; -1. -/
def Short (n : Nat) (ps : List (Int × List Int)) (l : List Int) : Prop :=
  l.length = n ∧ (∀ (i : Nat) (x : Int), l[i]? = some x → x = -1 ∨ ∃ m : Nat, x = m ∧ m ≤ 1099511627776 ∧ Cost ps i m) ∧ ∀ (i m : Nat), Cost ps i m → ∃ k : Nat, l[i]? = some (k : Int) ∧ k ≤ m
theorem Short.uniq {n : Nat} {ps : List (Int × List Int)} {l m : List Int} (h : Short n ps l) (k : Short n ps m) : l = m := by
  refine List.ext_getElem (by rw [h.1, k.1]) fun i h1 h2 => ?_
  have a1 := h.2.1 i _ (List.getElem?_eq_getElem h1)
  have b1 := k.2.1 i _ (List.getElem?_eq_getElem h2)
  have a2 := h.2.2 i
  have b2 := k.2.2 i
  rw [List.getElem?_eq_getElem h1] at a2
  rw [List.getElem?_eq_getElem h2] at b2
  simp only [Option.some.injEq] at a2 b2
  rcases a1 with a1 | ⟨x, a1, _, a3⟩ <;> rcases b1 with b1 | ⟨y, b1, _, b3⟩
  · rw [a1, b1]
  · obtain ⟨k, h, _⟩ := a2 y b3; omega
  · obtain ⟨k, h, _⟩ := b2 x a3; omega
  · obtain ⟨k, h, h'⟩ := a2 y b3; obtain ⟨k2, h2, h2'⟩ := b2 x a3; omega
def natAt (l : List Int) (s : Int) : Nat := (l.getD s.toNat (-1)).toNat
/-- What each round keeps. -/
def ShortI (n : Nat) (ps : List (Int × List Int)) (l : List Int) : Prop :=
  l.length = n ∧ ∀ (i : Nat) (x : Int), l[i]? = some x → x = -1 ∨ ∃ m : Nat, x = m ∧ m ≤ 1099511627776 ∧ Cost ps i m
/-- The symbols' lengths are known. -/
def Known (l : List Int) (r : List Int) : Prop := ∀ s ∈ r, 0 ≤ s → 0 ≤ l.getD s.toNat (-1)
theorem ShortI.start (n : Nat) (ps : List (Int × List Int)) : ShortI n ps (List.replicate n (-1)) :=
  ⟨by simp, fun i x h => .inl (by rw [List.getElem?_replicate] at h; split at h <;> simp_all)⟩
theorem ShortI.set {n : Nat} {ps : List (Int × List Int)} {l : List Int} (h : ShortI n ps l) {p : Int × List Int} (hp : p ∈ ps) (h1 : 0 ≤ p.1) (hk : Known l p.2) (hr : InR n ps) : ShortI n ps (l.set p.1.toNat (costOf (natAt l) p.2 : Nat)) := by
  refine ⟨by simpa using h.1, fun i x hx => ?_⟩
  rw [List.getElem?_set] at hx
  split at hx
  · rename_i hi
    split at hx
    · right
      simp only [Option.some.injEq] at hx
      refine ⟨_, hx.symm, costOf_le _ _, ?_⟩
      have : ((i : Nat) : Int) = p.1 := by omega
      rw [this]
      refine .mk p hp _ fun s hs h0 => ?_
      have h2 := hk s hs h0
      have h3 : s.toNat < l.length := by have := (hr p hp).2 s hs; have := h.1; omega
      rw [List.getD_eq_getElem?_getD, List.getElem?_eq_getElem h3] at h2
      simp only [Option.getD_some] at h2
      rcases h.2 s.toNat _ (List.getElem?_eq_getElem h3) with h4 | ⟨m, h4, _, h5⟩
      · omega
      · rw [show ((s.toNat : Nat) : Int) = s by omega] at h5
        have : natAt l s = m := by
          unfold natAt; rw [List.getD_eq_getElem?_getD, List.getElem?_eq_getElem h3, Option.getD_some, h4]; rfl
        rw [this]; exact h5
    · cases hx
  · exact h.2 i x hx
theorem ShortI.done {n : Nat} {ps : List (Int × List Int)} {l : List Int} (h : ShortI n ps l) (hr : InR n ps)
    (hc : ∀ p ∈ ps, Known l p.2 → 0 ≤ l.getD p.1.toNat (-1) ∧ l.getD p.1.toNat (-1) ≤ (costOf (natAt l) p.2 : Nat)) : Short n ps l := by
  have key : ∀ (a : Int) (m : Nat), Cost ps a m → 0 ≤ l.getD a.toNat (-1) ∧ l.getD a.toNat (-1) ≤ m := by
    intro a m hC
    induction hC with
    | mk p hp c hh ih =>
      obtain ⟨h1, h2⟩ := hc p hp fun s hs h0 => (ih s hs h0).1
      have : costOf (natAt l) p.2 ≤ costOf c p.2 := costOf_mono fun s hs h0 => by have := (ih s hs h0).2; unfold natAt; omega
      exact ⟨h1, by omega⟩
  refine ⟨h.1, h.2, fun i m hC => ?_⟩
  obtain ⟨h1, h2⟩ := key i m hC
  simp only [Int.toNat_natCast] at h1 h2
  rw [List.getD_eq_getElem?_getD] at h1 h2
  cases hx : l[i]? with
  | none => rw [hx] at h1; simp at h1
  | some x => rw [hx] at h1 h2; simp only [Option.getD_some] at h1 h2; exact ⟨x.toNat, by congr 1; omega, by omega⟩
/-- How much may still be taken away: what makes the rounds end. -/
def left (l : List Int) : Nat := (l.map fun x => if x < 0 then 1099511627777 else x.toNat).sum
theorem left_set {l : List Int} {i : Nat} {x : Int} {m : Nat} (h : l[i]? = some x) (hm : m ≤ 1099511627776) (hx : x < 0 ∨ (m : Int) < x) : left (l.set i (m : Nat)) < left l := by
  induction l generalizing i with
  | nil => simp at h
  | cons y l ih =>
    cases i with
    | zero =>
      simp only [List.getElem?_cons_zero, Option.some.injEq] at h
      simp only [left, List.set_cons_zero, List.map_cons, List.sum_cons]
      split <;> split <;> omega
    | succ i =>
      have := ih (i := i) (by simpa using h)
      simp only [left, List.set_cons_succ, List.map_cons, List.sum_cons] at this ⊢
      omega
end Go.Proofs.Ytgioklmpnbnplaa
namespace Go.Proofs.Ytgioklmpnbnplaa
open Go.V

/-- How many symbols are not in yet. -/
def miss (T : Bool) (D : Int → Bool) (r : List Int) : Nat := r.countP fun s => if 0 ≤ s then !D s else !T
theorem miss_zero {T : Bool} {D : Int → Bool} {r : List Int} : miss T D r = 0 ↔ ∀ s ∈ r, (s < 0 → T = true) ∧ (0 ≤ s → D s = true) := by
  unfold miss
  rw [List.countP_eq_zero]
  constructor
  · intro h s hs
    have := h s hs
    by_cases h0 : 0 ≤ s
    · simp [h0] at this; exact ⟨fun h => by omega, fun _ => this⟩
    · simp [h0] at this; exact ⟨fun _ => this, fun h => absurd h h0⟩
  · intro h s hs
    have := h s hs
    by_cases h0 : 0 ≤ s
    · simp [h0, this.2 h0]
    · simp [h0, this.1 (by omega)]
def addD (D : Int → Bool) (s : Int) : Int → Bool := fun x => D x || decide (x = s)
theorem miss_add {T : Bool} {D : Int → Bool} {s : Int} (h0 : 0 ≤ s) (hs : D s = false) : ∀ (r : List Int), miss T (addD D s) r + r.count s = miss T D r
  | [] => rfl
  | x :: r => by
    have ih := miss_add (T := T) h0 hs r
    unfold miss at ih ⊢
    rw [List.countP_cons, List.countP_cons, List.count_cons]
    by_cases hx : x = s
    · subst hx; simp [h0, hs, addD]; simp [addD] at ih; omega
    · have : addD D s x = D x := by simp [addD, hx]
      rw [this]
      simp only [beq_iff_eq, hx, if_false]
      omega
theorem miss_le_count {T : Bool} {D : Int → Bool} {s : Int} (h0 : 0 ≤ s) (hs : D s = false) (r : List Int) : r.count s ≤ miss T D r := by have := miss_add (T := T) h0 hs r; omega
/-- Where the symbol s stands, in the first i productions. -/
def usesUp (ps : List (Int × List Int)) (s : Int) : Nat → List Int
  | 0 => []
  | i + 1 => usesUp ps s i ++ List.replicate ((ps.getD i (0, [])).2.count s) (i : Int)
theorem usesUp_mem {ps : List (Int × List Int)} {s : Int} : ∀ {m : Nat} {i : Int}, i ∈ usesUp ps s m → 0 ≤ i ∧ i < m
  | 0, _, h => by simp [usesUp] at h
  | m + 1, i, h => by
    rcases List.mem_append.1 h with h | h
    · have := usesUp_mem h; omega
    · have := List.eq_of_mem_replicate h; omega
theorem usesUp_count {ps : List (Int × List Int)} {s : Int} (i : Nat) : ∀ (m : Nat), (usesUp ps s m).count (i : Int) = if i < m then (ps.getD i (0, [])).2.count s else 0
  | 0 => by simp [usesUp]
  | m + 1 => by
    rw [usesUp, List.count_append, usesUp_count i m, List.count_replicate]
    by_cases h1 : i < m
    · have : ¬ ((m : Int) == (i : Int)) = true := by simp; omega
      rw [if_pos h1, if_neg this, if_pos (by omega)]; rfl
    · by_cases h2 : i = m
      · subst h2; simp
      · have : ¬ ((m : Int) == (i : Int)) = true := by simp; omega
        rw [if_neg h1, if_neg this, if_neg (by omega)]
theorem nodup_len : ∀ (n : Nat) (l : List Int), l.Nodup → (∀ x ∈ l, 0 ≤ x ∧ x < n) → l.length ≤ n
  | 0, l, _, h => by
    cases l with
    | nil => simp
    | cons x l => have := h x (by simp); omega
  | n + 1, l, hn, h => by
    by_cases hm : (n : Int) ∈ l
    · have h1 := nodup_len n (l.erase n) (hn.erase _) fun x hx => by
        have h2 := h x (List.mem_of_mem_erase hx)
        have h3 : x ≠ n := (hn.mem_erase_iff.1 hx).1
        omega
      rw [List.length_erase_of_mem hm] at h1
      omega
    · have := nodup_len n l hn fun x hx => by
        have h2 := h x hx
        have h3 : x ≠ n := fun e => hm (e ▸ hx)
        omega
      omega
/-- What the work list keeps; mis: what is missing still at each production. -/
structure CloI (n : Nat) (T : Bool) (ps : List (Int × List Int)) (D : Int → Bool) (l : List Bool) (work : List Int) (mis : Nat → Nat) (m : Nat) : Prop where
  len : l.length = n
  rng : ∀ a ∈ work, 0 ≤ a ∧ a < n
  mem : ∀ i : Nat, i < n → (l[i]? = some true ↔ (i : Int) ∈ work ∨ D i = true)
  dom : ∀ a, D a = true → 0 ≤ a ∧ a < n
  nd : work.Nodup
  dis : ∀ a ∈ work, D a = false
  gen : ∀ i : Nat, i < n → l[i]? = some true → Gen T ps i
  low : ∀ i, i < m → mis i = 0 → l[((ps.getD i (0, [])).1).toNat]? = some true
theorem CloI.start (n : Nat) (T : Bool) (ps : List (Int × List Int)) (mis : Nat → Nat) : CloI n T ps (fun _ => false) (List.replicate n false) [] mis 0 :=
  ⟨by simp, by simp, fun i hi => by simp [List.getElem?_replicate, hi], by simp, by simp, by simp, fun i hi h => by simp [List.getElem?_replicate, hi] at h, fun i hi => by omega⟩
theorem CloI.mis_eq {n : Nat} {T : Bool} {ps : List (Int × List Int)} {D : Int → Bool} {l : List Bool} {work : List Int} {mis mis' : Nat → Nat} {m : Nat} (h : CloI n T ps D l work mis m) (he : ∀ i, i < m → mis' i = 0 → mis i = 0) : CloI n T ps D l work mis' m :=
  { h with low := fun i hi h0 => h.low i hi (he i hi h0) }
/-- A nonterminal comes in. -/
theorem CloI.add {n : Nat} {T : Bool} {ps : List (Int × List Int)} {D : Int → Bool} {l : List Bool} {work : List Int} {mis : Nat → Nat} {m : Nat} (h : CloI n T ps D l work mis m) {a : Nat} (ha : a < n) (hl : l[a]? = some false) (hg : Gen T ps a) :
    CloI n T ps D (l.set a true) (work ++ [(a : Int)]) mis m := by
  have hal : a < l.length := h.len ▸ ha
  have hna : ¬ ((a : Int) ∈ work ∨ D a = true) := fun hh => by have := (h.mem a ha).2 hh; rw [hl] at this; simp at this
  have get : ∀ i : Nat, (l.set a true)[i]? = if a = i then some true else l[i]? := fun i => by rw [List.getElem?_set]; split <;> simp_all
  refine ⟨by simpa using h.len, fun x hx => ?_, fun i hi => ?_, h.dom, ?_, fun x hx => ?_, fun i hi hh => ?_, fun i hi h0 => ?_⟩
  · rcases List.mem_append.1 hx with hx | hx
    · exact h.rng x hx
    · simp at hx; omega
  · rw [get]
    by_cases e : a = i
    · subst e; simp
    · have e' : ¬ (i : Int) = (a : Int) := by omega
      simp only [e, if_false, h.mem i hi, List.mem_append, List.mem_singleton, e', or_false]
  · rw [List.nodup_append]
    exact ⟨h.nd, by simp, fun x hx y hy e => by simp at hy; subst hy e; exact hna (.inl hx)⟩
  · rcases List.mem_append.1 hx with hx | hx
    · exact h.dis x hx
    · simp at hx; subst hx
      cases hd : D a with
      | false => rfl
      | true => exact absurd (.inr hd) hna
  · rw [get] at hh
    by_cases e : a = i
    · subst e; exact hg
    · rw [if_neg e] at hh; exact h.gen i hi hh
  · rw [get]
    split
    · rfl
    · exact h.low i hi h0
/-- The last of the work is taken. -/
theorem CloI.take {n : Nat} {T : Bool} {ps : List (Int × List Int)} {D : Int → Bool} {l : List Bool} {work : List Int} {s : Int} {mis : Nat → Nat} {m : Nat} (h : CloI n T ps D l (work ++ [s]) mis m) :
    (0 ≤ s ∧ s < n) ∧ D s = false ∧ CloI n T ps (addD D s) l work mis m := by
  have hs := h.rng s (by simp)
  have hd := h.dis s (by simp)
  have hnd := List.nodup_append.1 h.nd
  have hsw : s ∉ work := fun hh => hnd.2.2 s hh s (by simp) rfl
  refine ⟨hs, hd, h.len, fun a ha => h.rng a (by simp [ha]), fun i hi => ?_, fun a ha => ?_, hnd.1, fun a ha => ?_, h.gen, h.low⟩
  · rw [h.mem i hi]
    simp only [List.mem_append, List.mem_singleton, addD, Bool.or_eq_true, decide_eq_true_eq]
    constructor
    · rintro ((h | h) | h)
      · exact .inl h
      · exact .inr (.inr h)
      · exact .inr (.inl h)
    · rintro (h | h | h)
      · exact .inl (.inl h)
      · exact .inr h
      · exact .inl (.inr h)
  · simp only [addD, Bool.or_eq_true, decide_eq_true_eq] at ha
    rcases ha with ha | rfl
    · exact h.dom a ha
    · exact hs
  · have := h.dis a (by simp [ha])
    have hne : a ≠ s := fun e => hsw (e ▸ ha)
    simp [addD, this, hne]
/-- Nothing is left to do. -/
theorem CloI.done {n : Nat} {T : Bool} {ps : List (Int × List Int)} {D : Int → Bool} {l : List Bool} {mis : Nat → Nat} (h : CloI n T ps D l [] mis ps.length) (hm : ∀ i, i < ps.length → mis i = miss T D (ps.getD i (0, [])).2) (hr : InR n ps) : Tells n (Gen T ps) l := by
  refine tells_gen h.len h.gen fun p hp hall => ?_
  obtain ⟨i, hi, rfl⟩ := List.mem_iff_getElem.1 hp
  have hD : ps.getD i (0, []) = ps[i] := by simp [List.getD_eq_getElem?_getD, List.getElem?_eq_getElem hi]
  have := h.low i hi (by
    rw [hm i hi, hD, miss_zero]
    intro s hs
    refine ⟨(hall s hs).1, fun h0 => ?_⟩
    have h1 := (hall s hs).2 h0
    have h2 := (hr _ hp).2 s hs
    have h3 := (h.mem s.toNat (by omega)).1 h1
    simpa [Int.toNat_of_nonneg h0] using h3)
  rw [hD] at this; exact this
/-- A production of which nothing is missing brings its left side in. -/
theorem CloI.ready {n : Nat} {T : Bool} {ps : List (Int × List Int)} {D : Int → Bool} {l : List Bool} {work : List Int} {mis : Nat → Nat} {m : Nat} (h : CloI n T ps D l work mis m) {p : Int × List Int} (hp : p ∈ ps) (h0 : miss T D p.2 = 0) : Gen T ps p.1 := by
  have := miss_zero.1 h0
  refine .mk p hp (fun s hs => (this s hs).1) fun s hs hn => ?_
  have hd := (this s hs).2 hn
  have hr := h.dom s hd
  have hg := h.gen s.toNat (by omega) ((h.mem s.toNat (by omega)).2 (.inr (by simpa [Int.toNat_of_nonneg hn] using hd)))
  simpa [Int.toNat_of_nonneg hn] using hg
theorem CloI.few {n : Nat} {T : Bool} {ps : List (Int × List Int)} {D : Int → Bool} {l : List Bool} {work : List Int} {mis : Nat → Nat} {m : Nat} (h : CloI n T ps D l work mis m) : work.length ≤ n := nodup_len n work h.nd h.rng
theorem CloI.put {n : Nat} {T : Bool} {ps : List (Int × List Int)} {D : Int → Bool} {l : List Bool} {work : List Int} {mis mis' : Nat → Nat} {m m' : Nat} (h : CloI n T ps D l work mis m) (i' : Nat) (hne : ∀ x, x < m' → x ≠ i' → mis' x = 0 → x < m ∧ mis x = 0)
    (hi : mis' i' = 0 → l[((ps.getD i' (0, [])).1).toNat]? = some true) : CloI n T ps D l work mis' m' :=
  ⟨h.len, h.rng, h.mem, h.dom, h.nd, h.dis, h.gen, fun i hi' h0 => by
    by_cases e : i = i'
    · subst e; exact hi h0
    · have := hne i hi' e h0; exact h.low i this.1 this.2⟩
theorem CloI.more {n : Nat} {T : Bool} {ps : List (Int × List Int)} {D : Int → Bool} {l : List Bool} {work : List Int} {mis : Nat → Nat} {m : Nat} (h : CloI n T ps D l work mis m) (hm : mis m = 0 → l[((ps.getD m (0, [])).1).toNat]? = some true) : CloI n T ps D l work mis (m + 1) :=
  h.put m (fun x hx hne h0 => ⟨by omega, h0⟩) hm
def falses (l : List Bool) : Nat := l.countP fun b => !b
theorem falses_set {l : List Bool} {a : Nat} (h : l[a]? = some false) : falses (l.set a true) + 1 = falses l := countF_set l a h

/-! spreading -/
inductive Reach (S : Int → Int → Prop) (start : List Int) : Int → Prop
  | base {a : Int} (h : a ∈ start) : Reach S start a
  | step {a b : Int} (h : Reach S start a) (h2 : S a b) : Reach S start b
structure SprI (n : Nat) (S : Int → Int → Prop) (start : List Int) (l : List Bool) (work : List Int) : Prop where
  len : l.length = n
  rng : ∀ a ∈ work, 0 ≤ a ∧ a < n
  ok : ∀ i : Nat, i < n → l[i]? = some true → Reach S start i
  okw : ∀ a ∈ work, Reach S start a
  base : ∀ a ∈ start, a ∈ work ∨ l[a.toNat]? = some true
  step : ∀ (i : Nat) (b : Int), i < n → l[i]? = some true → S i b → b ∈ work ∨ l[b.toNat]? = some true
theorem SprI.start {n : Nat} {S : Int → Int → Prop} {start : List Int} (hs : ∀ a ∈ start, 0 ≤ a ∧ a < n) : SprI n S start (List.replicate n false) start :=
  ⟨by simp, hs, fun i hi h => by simp [List.getElem?_replicate, hi] at h, fun a h => .base h, fun a h => .inl h, fun i b hi h => by simp [List.getElem?_replicate, hi] at h⟩
theorem SprI.old {n : Nat} {S : Int → Int → Prop} {start : List Int} {l : List Bool} {work : List Int} {s : Int} (h : SprI n S start l (work ++ [s])) (hs : l[s.toNat]? = some true) : SprI n S start l work := by
  refine ⟨h.len, fun a ha => h.rng a (by simp [ha]), h.ok, fun a ha => h.okw a (by simp [ha]), fun a ha => ?_, fun i b hi hl hS => ?_⟩
  · rcases h.base a ha with h | h
    · rcases List.mem_append.1 h with h | h
      · exact .inl h
      · simp at h; subst h; exact .inr hs
    · exact .inr h
  · rcases h.step i b hi hl hS with h | h
    · rcases List.mem_append.1 h with h | h
      · exact .inl h
      · simp at h; subst h; exact .inr hs
    · exact .inr h
theorem SprI.new {n : Nat} {S : Int → Int → Prop} {start : List Int} {l : List Bool} {work row : List Int} {s : Int} (h : SprI n S start l (work ++ [s])) (hrow : ∀ b, b ∈ row ↔ S s b) (hrr : ∀ b ∈ row, 0 ≤ b ∧ b < n) : SprI n S start (l.set s.toNat true) (work ++ row) := by
  have hs := h.rng s (by simp)
  have hsR := h.okw s (by simp)
  have hsl : s.toNat < l.length := by rw [h.len]; omega
  have hsn : ((s.toNat : Nat) : Int) = s := by omega
  have get : ∀ i : Nat, (l.set s.toNat true)[i]? = if s.toNat = i then some true else l[i]? := fun i => by rw [List.getElem?_set]; split <;> simp_all
  have keep : ∀ (b : Int), (b ∈ work ++ [s] ∨ l[b.toNat]? = some true) → b ∈ work ++ row ∨ (l.set s.toNat true)[b.toNat]? = some true := by
    intro b hb
    rw [get]
    rcases hb with hb | hb
    · rcases List.mem_append.1 hb with hb | hb
      · exact .inl (List.mem_append_left _ hb)
      · simp at hb; subst hb; simp
    · right; split <;> simp_all
  refine ⟨by simpa using h.len, fun a ha => ?_, fun i hi hl => ?_, fun a ha => ?_, fun a ha => keep a (h.base a ha), fun i b hi hl hS => ?_⟩
  · rcases List.mem_append.1 ha with ha | ha
    · exact h.rng a (by simp [ha])
    · exact hrr a ha
  · rw [get] at hl
    by_cases e : s.toNat = i
    · subst e; rw [hsn]; exact hsR
    · rw [if_neg e] at hl; exact h.ok i hi hl
  · rcases List.mem_append.1 ha with ha | ha
    · exact h.okw a (by simp [ha])
    · exact .step hsR ((hrow a).1 ha)
  · rw [get] at hl
    by_cases e : s.toNat = i
    · subst e
      rw [hsn] at hS
      exact .inl (List.mem_append_right _ ((hrow b).2 hS))
    · rw [if_neg e] at hl; exact keep b (h.step i b hi hl hS)
theorem SprI.done {n : Nat} {S : Int → Int → Prop} {start : List Int} {l : List Bool} (h : SprI n S start l []) (hd : ∀ a b, S a b → 0 ≤ a ∧ a < n) (hs : ∀ a ∈ start, 0 ≤ a ∧ a < n) : Tells n (Reach S start) l := by
  refine ⟨h.len, fun i hi => ⟨h.ok i hi, fun hr => ?_⟩⟩
  have : ∀ a, Reach S start a → l[a.toNat]? = some true := by
    intro a ha
    induction ha with
    | base hb => simpa using h.base _ hb
    | @step a b ha hS ih =>
      have := hd a b hS
      have h3 := h.step a.toNat b (by omega) ih (by simpa [Int.toNat_of_nonneg this.1] using hS)
      simpa using h3
  simpa using this i hr
end Go.Proofs.Ytgioklmpnbnplaa
namespace Go.Proofs.Ytgioklmpnbnplaa
open Go.V
theorem andU (n : Nat) (h : n < 4294967296) : IntKind.u64.wrap ((BitVec.ofInt IntKind.u64.bits (n : Int) &&& BitVec.ofInt IntKind.u64.bits 4294967295).toNat : Int) = (n : Int) := by
  have h1 : (BitVec.ofInt IntKind.u64.bits (n : Int) &&& BitVec.ofInt IntKind.u64.bits 4294967295).toNat = n := by
    rw [BitVec.toNat_and]
    have e1 : (BitVec.ofInt IntKind.u64.bits (n : Int)).toNat = n := by
      rw [BitVec.toNat_ofInt]
      show ((n : Int) % ((2 ^ 64 : Nat) : Int)).toNat = n
      omega
    have e2 : (BitVec.ofInt IntKind.u64.bits 4294967295).toNat = 4294967295 := rfl
    rw [e1, e2]
    have := Nat.and_two_pow_sub_one_eq_mod n 32
    have e3 : (2 ^ 32 - 1 : Nat) = 4294967295 := rfl
    rw [e3] at this
    rw [this]; omega
  rw [h1]; exact u64_wrap (by omega) (by omega)
theorem shrU (n : Nat) (h : n < 4294967296) : ((n : Nat) : Int).fdiv (2 ^ min 32 IntKind.u64.bits) = 0 := by
  have e : min 32 IntKind.u64.bits = 32 := rfl
  rw [e, Int.fdiv_eq_ediv_of_nonneg _ (Int.pow_nonneg (by decide))]
  omega
theorem mul64_ok (n : Nat) (hn : n ≤ 1000000) (w : World) : Ok Try.prog 162 #[.int .u64 1, .int .u64 n] w fun v w' => v = .tuple #[.int .u64 0, .int .u64 n] ∧ w' = w := by
  have a1 : IntKind.u64.wrap ((BitVec.ofInt IntKind.u64.bits 1 &&& BitVec.ofInt IntKind.u64.bits 4294967295).toNat : Int) = 1 := andU 1 (by omega)
  have a0 : IntKind.u64.wrap ((BitVec.ofInt IntKind.u64.bits 0 &&& BitVec.ofInt IntKind.u64.bits 4294967295).toNat : Int) = 0 := andU 0 (by omega)
  have an := andU n (by omega)
  have s1 : (1 : Int).fdiv (2 ^ min 32 IntKind.u64.bits) = 0 := shrU 1 (by omega)
  have s0 : (0 : Int).fdiv (2 ^ min 32 IntKind.u64.bits) = 0 := shrU 0 (by omega)
  have sn := shrU n (by omega)
  (refine Ok.enter Try.func162 rfl (by kernel_rfl) (Nat.le_of_ble_eq_true rfl) ?_; simp only [Try.f162, S7])
  simp (disch := first | omega | assumption | (simp only [O1, World.size_alloc, World.size_setCell, World.size_drew]; first | done | omega)) only [O1, D2, ↓H0, S0, ↓S1, ↓S2, ↓S3, ↓S4, S5, S5b, S5c, ↓S6, S6b, M0, E0, ty, tl, te, tc, i64_wrap, u64_wrap, iaV_sl, iaV_arr, faV_pa, nck_pa, heap_new, heap_old, heap_set, ↓reduceIte, Nat.reduceEqDiff, Nat.reduceLT, Nat.reduceAdd, Int.reduceLT, Int.reduceLE, decide_false, decide_true, dec_true, dec_false, true_and, and_true, true_imp_iff, Bool.not_true, Bool.not_false, Option.map_none, Int.reduceToNat, Int.toNat_zero, Int.toNat_one, lkV_false, lkV_true, a1, a0, an, s1, s0, sn, Int.one_mul, Int.zero_mul, Int.mul_zero, Int.zero_add, Int.add_zero]
theorem mul_ok (n : Nat) (hn : n ≤ 1000000) (w : World) : Ok Try.prog 133 #[.int .u64 1, .int .u64 n] w fun v w' => v = .tuple #[.int .u64 0, .int .u64 n] ∧ w' = w := by
  (refine Ok.enter Try.func133 rfl (by kernel_rfl) (Nat.le_of_ble_eq_true rfl) ?_; simp only [Try.f133, S7])
  simp (disch := first | omega | assumption | (simp only [O1, World.size_alloc, World.size_setCell, World.size_drew]; first | done | omega)) only [O1, D2, ↓H0, S0, ↓S1, ↓S2, ↓S3, ↓S4, S5, S5b, S5c, ↓S6, S6b, M0, E0, ty, tl, te, tc, i64_wrap, u64_wrap, iaV_sl, iaV_arr, faV_pa, nck_pa, heap_new, heap_old, heap_set, ↓reduceIte, Nat.reduceEqDiff, Nat.reduceLT, Nat.reduceAdd, Int.reduceLT, Int.reduceLE, decide_false, decide_true, dec_true, dec_false, true_and, and_true, true_imp_iff, Bool.not_true, Bool.not_false, Option.map_none, Int.reduceToNat, Int.toNat_zero, Int.toNat_one, lkV_false, lkV_true]
  refine (mul64_ok n hn w).then ?_; rintro _ w ⟨rfl, rfl⟩
  simp (disch := first | omega | assumption | (simp only [O1, World.size_alloc, World.size_setCell, World.size_drew]; first | done | omega)) only [O1, D2, ↓H0, S0, ↓S1, ↓S2, ↓S3, ↓S4, S5, S5b, S5c, ↓S6, S6b, M0, E0, ty, tl, te, tc, i64_wrap, u64_wrap, iaV_sl, iaV_arr, faV_pa, nck_pa, heap_new, heap_old, heap_set, ↓reduceIte, Nat.reduceEqDiff, Nat.reduceLT, Nat.reduceAdd, Int.reduceLT, Int.reduceLE, decide_false, decide_true, dec_true, dec_false, true_and, and_true, true_imp_iff, Bool.not_true, Bool.not_false, Option.map_none, Int.reduceToNat, Int.toNat_zero, Int.toNat_one, lkV_false, lkV_true]
end Go.Proofs.Ytgioklmpnbnplaa
namespace Go.Proofs.Ytgioklmpnbnplaa
open Go.V

/-- A function value that answers a test of a number and leaves the world alone. -/
def Tests (f : Value) (p : Int → Bool) (w : World) : Prop := ∃ g b c, f = .func (.func g) b c ∧ ∀ s, Ok Try.prog g (b ++ #[.int .i64 s] ++ c) w fun v w' => v = .bool (p s) ∧ w' = w
theorem index_ok (v f : Value) (l : List Int) (p : Int → Bool) (w : World) (hl : Ints w v l) (hf : Tests f p w) (hn : l.length ≤ 1000000000) :
    Ok Try.prog 136 #[v, f] w fun v w' => v = .int .i64 (match l.findIdx? p with | some i => (i : Int) | none => -1) ∧ w' = w := by
  obtain ⟨A, c, rfl, hc, hA⟩ := hl
  obtain ⟨g, fb, fc, rfl, hf⟩ := hf
  (refine Ok.enter Try.func136 rfl (by kernel_rfl) (Nat.le_of_ble_eq_true rfl) ?_; simp only [Try.f136, S7])
  simp (disch := first | omega | assumption | (simp only [O1, World.size_alloc, World.size_setCell, World.size_drew]; first | done | omega)) only [O1, D2, ↓H0, S0, ↓S1, ↓S2, ↓S3, ↓S4, S5, S5b, S5c, ↓S6, S6b, M0, E0, ty, tl, te, tc, i64_wrap, u64_wrap, iaV_sl, iaV_arr, faV_pa, nck_pa, heap_new, heap_old, heap_set, ↓reduceIte, Nat.reduceEqDiff, Nat.reduceLT, Nat.reduceAdd, Int.reduceLT, Int.reduceLE, decide_false, decide_true, dec_true, dec_false, true_and, and_true, true_imp_iff, Bool.not_true, Bool.not_false, Option.map_none, Int.reduceToNat, Int.toNat_zero, Int.toNat_one, lkV_false, lkV_true]
  refine ⟨fun k t W => ∃ i : Nat, k + i = l.length ∧ (∀ j (h : j < l.length), j < i → p l[j] = false) ∧ W = w ∧ t 0 = .slice A l.length c ∧ t 1 = .func (.func g) fb fc ∧ t 7 = .int .i64 l.length ∧ t 8 = .int .i64 i, ⟨l.length, 0, by omega, fun j _ h => by omega, rfl, ?_⟩, ?_⟩
  · simp (disch := first | omega | assumption | (simp only [O1, World.size_alloc, World.size_setCell, World.size_drew]; first | done | omega)) only [O1, D2, ↓H0, S0, ↓S1, ↓S2, ↓S3, ↓S4, S5, S5b, S5c, ↓S6, S6b, M0, E0, ty, tl, te, tc, i64_wrap, u64_wrap, iaV_sl, iaV_arr, faV_pa, nck_pa, heap_new, heap_old, heap_set, ↓reduceIte, Nat.reduceEqDiff, Nat.reduceLT, Nat.reduceAdd, Int.reduceLT, Int.reduceLE, decide_false, decide_true, dec_true, dec_false, true_and, and_true, true_imp_iff, Bool.not_true, Bool.not_false, Option.map_none, Int.reduceToNat, Int.toNat_zero, Int.toNat_one, lkV_false, lkV_true]; rfl
  rintro k t W ⟨i, hk, hno, rfl, f0, f1, f7, f8⟩
  simp (disch := first | omega | assumption | (simp only [O1, World.size_alloc, World.size_setCell, World.size_drew]; first | done | omega)) only [O1, D2, ↓H0, S0, ↓S1, ↓S2, ↓S3, ↓S4, S5, S5b, S5c, ↓S6, S6b, M0, E0, ty, tl, te, tc, i64_wrap, u64_wrap, iaV_sl, iaV_arr, faV_pa, nck_pa, heap_new, heap_old, heap_set, ↓reduceIte, Nat.reduceEqDiff, Nat.reduceLT, Nat.reduceAdd, Int.reduceLT, Int.reduceLE, decide_false, decide_true, dec_true, dec_false, true_and, and_true, true_imp_iff, Bool.not_true, Bool.not_false, Option.map_none, Int.reduceToNat, Int.toNat_zero, Int.toNat_one, lkV_false, lkV_true, f0, f1, f7, f8]
  refine Br_if (fun h => ?_) (fun h' => ?_) <;> (try simp (disch := first | omega | assumption | (simp only [O1, World.size_alloc, World.size_setCell, World.size_drew]; first | done | omega)) only [O1, D2, ↓H0, S0, ↓S1, ↓S2, ↓S3, ↓S4, S5, S5b, S5c, ↓S6, S6b, M0, E0, ty, tl, te, tc, i64_wrap, u64_wrap, iaV_sl, iaV_arr, faV_pa, nck_pa, heap_new, heap_old, heap_set, ↓reduceIte, Nat.reduceEqDiff, Nat.reduceLT, Nat.reduceAdd, Int.reduceLT, Int.reduceLE, decide_false, decide_true, dec_true, dec_false, true_and, and_true, true_imp_iff, Bool.not_true, Bool.not_false, Option.map_none, Int.reduceToNat, Int.toNat_zero, Int.toNat_one, lkV_false, lkV_true, f0, f1, f7, f8])
  · have hi : i < l.length := by omega
    have hs := hA i hi
    have hAs := rd_isSome hs
    simp (disch := first | omega | assumption | (simp only [O1, World.size_alloc, World.size_setCell, World.size_drew]; first | done | omega)) only [O1, D2, ↓H0, S0, ↓S1, ↓S2, ↓S3, ↓S4, S5, S5b, S5c, ↓S6, S6b, M0, E0, ty, tl, te, tc, i64_wrap, u64_wrap, iaV_sl, iaV_arr, faV_pa, nck_pa, heap_new, heap_old, heap_set, ↓reduceIte, Nat.reduceEqDiff, Nat.reduceLT, Nat.reduceAdd, Int.reduceLT, Int.reduceLE, decide_false, decide_true, dec_true, dec_false, true_and, and_true, true_imp_iff, Bool.not_true, Bool.not_false, Option.map_none, Int.reduceToNat, Int.toNat_zero, Int.toNat_one, lkV_false, lkV_true, f0, f1, f7, f8, hs, CallV_func]
    refine (hf l[i]).then ?_; rintro _ _ ⟨rfl, rfl⟩
    cases hp : p l[i] with
    | true =>
      simp (disch := first | omega | assumption | (simp only [O1, World.size_alloc, World.size_setCell, World.size_drew]; first | done | omega)) only [O1, D2, ↓H0, S0, ↓S1, ↓S2, ↓S3, ↓S4, S5, S5b, S5c, ↓S6, S6b, M0, E0, ty, tl, te, tc, i64_wrap, u64_wrap, iaV_sl, iaV_arr, faV_pa, nck_pa, heap_new, heap_old, heap_set, ↓reduceIte, Nat.reduceEqDiff, Nat.reduceLT, Nat.reduceAdd, Int.reduceLT, Int.reduceLE, decide_false, decide_true, dec_true, dec_false, true_and, and_true, true_imp_iff, Bool.not_true, Bool.not_false, Option.map_none, Int.reduceToNat, Int.toNat_zero, Int.toNat_one, lkV_false, lkV_true, f0, f1, f7, f8]
      have : l.findIdx? p = some i := by
        rw [List.findIdx?_eq_some_iff_getElem]
        exact ⟨hi, hp, fun j hj => by simp [hno j (by omega) hj]⟩
      rw [this]
    | false =>
      simp (disch := first | omega | assumption | (simp only [O1, World.size_alloc, World.size_setCell, World.size_drew]; first | done | omega)) only [O1, D2, ↓H0, S0, ↓S1, ↓S2, ↓S3, ↓S4, S5, S5b, S5c, ↓S6, S6b, M0, E0, ty, tl, te, tc, i64_wrap, u64_wrap, iaV_sl, iaV_arr, faV_pa, nck_pa, heap_new, heap_old, heap_set, ↓reduceIte, Nat.reduceEqDiff, Nat.reduceLT, Nat.reduceAdd, Int.reduceLT, Int.reduceLE, decide_false, decide_true, dec_true, dec_false, true_and, and_true, true_imp_iff, Bool.not_true, Bool.not_false, Option.map_none, Int.reduceToNat, Int.toNat_zero, Int.toNat_one, lkV_false, lkV_true, f0, f1, f7, f8]
      refine ⟨k - 1, by omega, i + 1, by omega, fun j hj hji => ?_, rfl⟩
      by_cases e : j = i
      · subst e; exact hp
      · exact hno j hj (by omega)
  · have : l.findIdx? p = none := by
      rw [List.findIdx?_eq_none_iff]
      intro x hx
      obtain ⟨j, hj, rfl⟩ := List.mem_iff_getElem.1 hx
      exact hno j hj (by omega)
    rw [this]
theorem contains_ok (v f : Value) (l : List Int) (p : Int → Bool) (w : World) (hl : Ints w v l) (hf : Tests f p w) (hn : l.length ≤ 1000000000) :
    Ok Try.prog 92 #[v, f] w fun v w' => v = .bool (l.any p) ∧ w' = w := by
  (refine Ok.enter Try.func92 rfl (by kernel_rfl) (Nat.le_of_ble_eq_true rfl) ?_; simp only [Try.f92, S7])
  simp (disch := first | omega | assumption | (simp only [O1, World.size_alloc, World.size_setCell, World.size_drew]; first | done | omega)) only [O1, D2, ↓H0, S0, ↓S1, ↓S2, ↓S3, ↓S4, S5, S5b, S5c, ↓S6, S6b, M0, E0, ty, tl, te, tc, i64_wrap, u64_wrap, iaV_sl, iaV_arr, faV_pa, nck_pa, heap_new, heap_old, heap_set, ↓reduceIte, Nat.reduceEqDiff, Nat.reduceLT, Nat.reduceAdd, Int.reduceLT, Int.reduceLE, decide_false, decide_true, dec_true, dec_false, true_and, and_true, true_imp_iff, Bool.not_true, Bool.not_false, Option.map_none, Int.reduceToNat, Int.toNat_zero, Int.toNat_one, lkV_false, lkV_true]
  refine (index_ok v f l p w hl hf hn).then ?_; rintro _ _ ⟨rfl, rfl⟩
  cases hq : l.findIdx? p with
  | none =>
    simp (disch := first | omega | assumption | (simp only [O1, World.size_alloc, World.size_setCell, World.size_drew]; first | done | omega)) only [O1, D2, ↓H0, S0, ↓S1, ↓S2, ↓S3, ↓S4, S5, S5b, S5c, ↓S6, S6b, M0, E0, ty, tl, te, tc, i64_wrap, u64_wrap, iaV_sl, iaV_arr, faV_pa, nck_pa, heap_new, heap_old, heap_set, ↓reduceIte, Nat.reduceEqDiff, Nat.reduceLT, Nat.reduceAdd, Int.reduceLT, Int.reduceLE, decide_false, decide_true, dec_true, dec_false, true_and, and_true, true_imp_iff, Bool.not_true, Bool.not_false, Option.map_none, Int.reduceToNat, Int.toNat_zero, Int.toNat_one, lkV_false, lkV_true]
    have := List.findIdx?_eq_none_iff.1 hq
    congr 1
    rw [eq_comm, List.any_eq_false]
    intro x hx; simp [this x hx]
  | some i =>
    simp (disch := first | omega | assumption | (simp only [O1, World.size_alloc, World.size_setCell, World.size_drew]; first | done | omega)) only [O1, D2, ↓H0, S0, ↓S1, ↓S2, ↓S3, ↓S4, S5, S5b, S5c, ↓S6, S6b, M0, E0, ty, tl, te, tc, i64_wrap, u64_wrap, iaV_sl, iaV_arr, faV_pa, nck_pa, heap_new, heap_old, heap_set, ↓reduceIte, Nat.reduceEqDiff, Nat.reduceLT, Nat.reduceAdd, Int.reduceLT, Int.reduceLE, decide_false, decide_true, dec_true, dec_false, true_and, and_true, true_imp_iff, Bool.not_true, Bool.not_false, Option.map_none, Int.reduceToNat, Int.toNat_zero, Int.toNat_one, lkV_false, lkV_true]
    rw [List.findIdx?_eq_some_iff_getElem] at hq
    obtain ⟨hi, hp, _⟩ := hq
    congr 1
    rw [eq_comm, List.any_eq_true]
    exact ⟨_, List.getElem_mem _, hp⟩
def memB (l : List ByteArray) (s : ByteArray) : Bool := l.any fun x => decide (x = s)
theorem memB_iff {l : List ByteArray} {s : ByteArray} : memB l s = true ↔ s ∈ l := by simp [memB]
/-- Texts that are no two alike, none of them empty or too long. -/
def Dist (l : List ByteArray) (most : Int) : Prop := l.Nodup ∧ ∀ s ∈ l, s ≠ ByteArray.empty ∧ (s.size : Int) ≤ most
theorem distinct_ok (v : Value) (l : List ByteArray) (most : Int) (w : World) (hl : Strs w v l) (hn : l.length ≤ 1000000000) :
    Ok Try.prog 131 #[v, .int .i64 most] w fun v w' => (∃ b, v = .bool b ∧ (b = true ↔ Dist l most)) ∧ Ext w w' := by
  obtain ⟨A, c, rfl, hc, hA⟩ := hl
  (refine Ok.enter Try.func131 rfl (by kernel_rfl) (Nat.le_of_ble_eq_true rfl) ?_; simp only [Try.f131, S7])
  simp (disch := first | omega | assumption | (simp only [O1, World.size_alloc, World.size_setCell, World.size_drew]; first | done | omega)) only [O1, D2, ↓H0, S0, ↓S1, ↓S2, ↓S3, ↓S4, S5, S5b, S5c, ↓S6, S6b, M0, E0, ty, tl, te, tc, i64_wrap, u64_wrap, iaV_sl, iaV_arr, faV_pa, nck_pa, heap_new, heap_old, heap_set, ↓reduceIte, Nat.reduceEqDiff, Nat.reduceLT, Nat.reduceAdd, Int.reduceLT, Int.reduceLE, decide_false, decide_true, dec_true, dec_false, true_and, and_true, true_imp_iff, Bool.not_true, Bool.not_false, Option.map_none, Int.reduceToNat, Int.toNat_zero, Int.toNat_one, lkV_false, lkV_true]
  have hx0 := (Ext.rfl' w).al (.map #[] 0)
  refine ⟨fun k t W => ∃ i : Nat, k + i = l.length ∧ (l.take i).Nodup ∧ (∀ s ∈ l.take i, s ≠ ByteArray.empty ∧ (s.size : Int) ≤ most) ∧ Ext w W ∧ MapB W w.heap.size (fun s => if memB (l.take i) s = true then some (.bool true) else none) ∧
    t 1 = .int .i64 most ∧ t 5 = .map (some w.heap.size) ∧ t 9 = .slice A l.length c ∧ t 10 = .int .i64 l.length ∧ t 11 = .int .i64 i, ⟨l.length, 0, by omega, by simp, by simp, hx0, ?_, ?_⟩, ?_⟩
  · simpa [memB] using MapF.new _ w
  · simp (disch := first | omega | assumption | (simp only [O1, World.size_alloc, World.size_setCell, World.size_drew]; first | done | omega)) only [O1, D2, ↓H0, S0, ↓S1, ↓S2, ↓S3, ↓S4, S5, S5b, S5c, ↓S6, S6b, M0, E0, ty, tl, te, tc, i64_wrap, u64_wrap, iaV_sl, iaV_arr, faV_pa, nck_pa, heap_new, heap_old, heap_set, ↓reduceIte, Nat.reduceEqDiff, Nat.reduceLT, Nat.reduceAdd, Int.reduceLT, Int.reduceLE, decide_false, decide_true, dec_true, dec_false, true_and, and_true, true_imp_iff, Bool.not_true, Bool.not_false, Option.map_none, Int.reduceToNat, Int.toNat_zero, Int.toNat_one, lkV_false, lkV_true]; rfl
  rintro k t W ⟨i, hk, hnd, hne, hx, hm, f1, f5, f9, f10, f11⟩
  simp (disch := first | omega | assumption | (simp only [O1, World.size_alloc, World.size_setCell, World.size_drew]; first | done | omega)) only [O1, D2, ↓H0, S0, ↓S1, ↓S2, ↓S3, ↓S4, S5, S5b, S5c, ↓S6, S6b, M0, E0, ty, tl, te, tc, i64_wrap, u64_wrap, iaV_sl, iaV_arr, faV_pa, nck_pa, heap_new, heap_old, heap_set, ↓reduceIte, Nat.reduceEqDiff, Nat.reduceLT, Nat.reduceAdd, Int.reduceLT, Int.reduceLE, decide_false, decide_true, dec_true, dec_false, true_and, and_true, true_imp_iff, Bool.not_true, Bool.not_false, Option.map_none, Int.reduceToNat, Int.toNat_zero, Int.toNat_one, lkV_false, lkV_true, f1, f5, f9, f10, f11]
  refine Br_if (fun h => ?_) (fun h' => ?_) <;> (try simp (disch := first | omega | assumption | (simp only [O1, World.size_alloc, World.size_setCell, World.size_drew]; first | done | omega)) only [O1, D2, ↓H0, S0, ↓S1, ↓S2, ↓S3, ↓S4, S5, S5b, S5c, ↓S6, S6b, M0, E0, ty, tl, te, tc, i64_wrap, u64_wrap, iaV_sl, iaV_arr, faV_pa, nck_pa, heap_new, heap_old, heap_set, ↓reduceIte, Nat.reduceEqDiff, Nat.reduceLT, Nat.reduceAdd, Int.reduceLT, Int.reduceLE, decide_false, decide_true, dec_true, dec_false, true_and, and_true, true_imp_iff, Bool.not_true, Bool.not_false, Option.map_none, Int.reduceToNat, Int.toNat_zero, Int.toNat_one, lkV_false, lkV_true, f1, f5, f9, f10, f11])
  · have hi : i < l.length := by omega
    have hs := hx.rd (hA i hi)
    have hAs := rd_isSome hs
    have htk : l.take (i + 1) = l.take i ++ [l[i]] := List.take_succ_eq_append_getElem hi
    have hmem : l[i] ∈ l := List.getElem_mem _
    generalize hse : l[i] = s at *
    have hlk := lkO_str mp193 kStr hm s
    have no : ∀ {W' : World}, Ext w W' → ¬ Dist l most → (∃ b, Value.bool false = .bool b ∧ (b = true ↔ Dist l most)) ∧ Ext w W' := fun hx h => ⟨⟨false, rfl, by simp [h]⟩, hx⟩
    simp (disch := first | omega | assumption | (simp only [O1, World.size_alloc, World.size_setCell, World.size_drew]; first | done | omega)) only [O1, D2, ↓H0, S0, ↓S1, ↓S2, ↓S3, ↓S4, S5, S5b, S5c, ↓S6, S6b, M0, E0, ty, tl, te, tc, i64_wrap, u64_wrap, iaV_sl, iaV_arr, faV_pa, nck_pa, heap_new, heap_old, heap_set, ↓reduceIte, Nat.reduceEqDiff, Nat.reduceLT, Nat.reduceAdd, Int.reduceLT, Int.reduceLE, decide_false, decide_true, dec_true, dec_false, true_and, and_true, true_imp_iff, Bool.not_true, Bool.not_false, Option.map_none, Int.reduceToNat, Int.toNat_zero, Int.toNat_one, lkV_false, lkV_true, f1, f5, f9, f10, f11, hs]
    refine Br_if (fun h1 => ?_) (fun h1 => ?_) <;> (try simp (disch := first | omega | assumption | (simp only [O1, World.size_alloc, World.size_setCell, World.size_drew]; first | done | omega)) only [O1, D2, ↓H0, S0, ↓S1, ↓S2, ↓S3, ↓S4, S5, S5b, S5c, ↓S6, S6b, M0, E0, ty, tl, te, tc, i64_wrap, u64_wrap, iaV_sl, iaV_arr, faV_pa, nck_pa, heap_new, heap_old, heap_set, ↓reduceIte, Nat.reduceEqDiff, Nat.reduceLT, Nat.reduceAdd, Int.reduceLT, Int.reduceLE, decide_false, decide_true, dec_true, dec_false, true_and, and_true, true_imp_iff, Bool.not_true, Bool.not_false, Option.map_none, Int.reduceToNat, Int.toNat_zero, Int.toNat_one, lkV_false, lkV_true, f1, f5, f9, f10, f11])
    · exact no hx fun hd => (hd.2 s hmem).1 (by rw [h1]; rfl)
    refine Br_if (fun h2 => ?_) (fun h2 => ?_) <;> (try simp (disch := first | omega | assumption | (simp only [O1, World.size_alloc, World.size_setCell, World.size_drew]; first | done | omega)) only [O1, D2, ↓H0, S0, ↓S1, ↓S2, ↓S3, ↓S4, S5, S5b, S5c, ↓S6, S6b, M0, E0, ty, tl, te, tc, i64_wrap, u64_wrap, iaV_sl, iaV_arr, faV_pa, nck_pa, heap_new, heap_old, heap_set, ↓reduceIte, Nat.reduceEqDiff, Nat.reduceLT, Nat.reduceAdd, Int.reduceLT, Int.reduceLE, decide_false, decide_true, dec_true, dec_false, true_and, and_true, true_imp_iff, Bool.not_true, Bool.not_false, Option.map_none, Int.reduceToNat, Int.toNat_zero, Int.toNat_one, lkV_false, lkV_true, f1, f5, f9, f10, f11])
    · exact no hx fun hd => by have := (hd.2 s hmem).2; omega
    by_cases h3 : memB (l.take i) s = true
    · simp only [h3, if_true] at hlk
      simp (disch := first | omega | assumption | (simp only [O1, World.size_alloc, World.size_setCell, World.size_drew]; first | done | omega)) only [O1, D2, ↓H0, S0, ↓S1, ↓S2, ↓S3, ↓S4, S5, S5b, S5c, ↓S6, S6b, M0, E0, ty, tl, te, tc, i64_wrap, u64_wrap, iaV_sl, iaV_arr, faV_pa, nck_pa, heap_new, heap_old, heap_set, ↓reduceIte, Nat.reduceEqDiff, Nat.reduceLT, Nat.reduceAdd, Int.reduceLT, Int.reduceLE, decide_false, decide_true, dec_true, dec_false, true_and, and_true, true_imp_iff, Bool.not_true, Bool.not_false, Option.map_none, Int.reduceToNat, Int.toNat_zero, Int.toNat_one, lkV_false, lkV_true, f1, f5, f9, f10, f11, hlk, Option.getD_some]
      refine no hx fun hd => ?_
      have := hd.1.sublist (List.take_sublist (i + 1) l)
      rw [htk, List.nodup_append] at this
      exact this.2.2 s (memB_iff.1 h3) s (by simp) rfl
    · simp only [h3, Bool.false_eq_true, if_false] at hlk
      simp (disch := first | omega | assumption | (simp only [O1, World.size_alloc, World.size_setCell, World.size_drew]; first | done | omega)) only [O1, D2, ↓H0, S0, ↓S1, ↓S2, ↓S3, ↓S4, S5, S5b, S5c, ↓S6, S6b, M0, E0, ty, tl, te, tc, i64_wrap, u64_wrap, iaV_sl, iaV_arr, faV_pa, nck_pa, heap_new, heap_old, heap_set, ↓reduceIte, Nat.reduceEqDiff, Nat.reduceLT, Nat.reduceAdd, Int.reduceLT, Int.reduceLE, decide_false, decide_true, dec_true, dec_false, true_and, and_true, true_imp_iff, Bool.not_true, Bool.not_false, Option.map_none, Int.reduceToNat, Int.toNat_zero, Int.toNat_one, lkV_false, lkV_true, f1, f5, f9, f10, f11, hlk, Option.getD_none]
      refine RunU_map mp193 kStr hm s _ ?_
      intro W2 hm2 hg2 hs2
      simp (disch := first | omega | assumption | (simp only [O1, World.size_alloc, World.size_setCell, World.size_drew]; first | done | omega)) only [O1, D2, ↓H0, S0, ↓S1, ↓S2, ↓S3, ↓S4, S5, S5b, S5c, ↓S6, S6b, M0, E0, ty, tl, te, tc, i64_wrap, u64_wrap, iaV_sl, iaV_arr, faV_pa, nck_pa, heap_new, heap_old, heap_set, ↓reduceIte, Nat.reduceEqDiff, Nat.reduceLT, Nat.reduceAdd, Int.reduceLT, Int.reduceLE, decide_false, decide_true, dec_true, dec_false, true_and, and_true, true_imp_iff, Bool.not_true, Bool.not_false, Option.map_none, Int.reduceToNat, Int.toNat_zero, Int.toNat_one, lkV_false, lkV_true, f1, f5, f9, f10, f11]
      refine ⟨k - 1, by omega, i + 1, by omega, ?_, ?_, hx.grown' hg2 (fun k hk => by cases hk; omega), ?_, rfl⟩
      · rw [htk, List.nodup_append]
        exact ⟨hnd, by simp, fun a ha b hb e => by simp at hb; subst hb e; exact h3 (memB_iff.2 ha)⟩
      · rw [htk]
        intro x hx'
        simp only [List.mem_append, List.mem_singleton] at hx'
        rcases hx' with hx' | rfl
        · exact hne x hx'
        · exact ⟨h1, by omega⟩
      · have e : (fun k' => if k' = s then some (Value.bool true) else if memB (l.take i) k' = true then some (.bool true) else none) = fun k' => if memB (l.take (i + 1)) k' = true then some (.bool true) else none := by
          funext k'
          rw [htk]
          have e3 : memB (l.take i ++ [s]) k' = (memB (l.take i) k' || decide (s = k')) := by simp [memB]
          rw [e3]
          by_cases e1 : k' = s
          · subst e1; simp
          · have e2 : ¬ s = k' := fun h => e1 h.symm
            simp [e1, e2]
        rw [e] at hm2; exact hm2
  · rw [List.take_of_length_le (by omega)] at hnd hne
    exact ⟨⟨true, rfl, fun _ => ⟨hnd, hne⟩, fun _ => rfl⟩, hx⟩

/-- A plain grammar. -/
structure PG where
  start : Int
  rules : Int
  names : List ByteArray
  terms : List ByteArray
  prods : List (Int × List Int)
def RepPG (w : World) (v : Value) (g : PG) : Prop := ∃ nv tv pv, v = .agg #[.int .i64 g.start, .int .i64 g.rules, nv, tv, pv] ∧ Strs w nv g.names ∧ Strs w tv g.terms ∧ Prods w pv g.prods
theorem RepPG.ext {w w' : World} {v : Value} {g : PG} (h : RepPG w v g) (hx : Ext w w') : RepPG w' v g := by
  obtain ⟨nv, tv, pv, hv, hn, ht, hp⟩ := h; exact ⟨nv, tv, pv, hv, hn.ext hx, ht.ext hx, hp.ext hx⟩
def SoundAt (g : PG) (i : Nat) (p : Int × List Int) : Prop :=
  0 ≤ p.1 ∧ p.1 < g.names.length ∧ p.2.length ≤ 16 ∧ (0 < i → (g.prods.getD (i - 1) (0, [])).1 ≤ p.1) ∧ ∀ s ∈ p.2, s < g.names.length ∧ -(g.terms.length : Int) ≤ s
def SoundP (g : PG) : Prop :=
  (1 ≤ g.names.length ∧ g.names.length ≤ 256 ∧ 0 ≤ g.rules ∧ g.rules ≤ g.names.length ∧ Dist g.names 65536) ∧ (g.terms.length ≤ 256 ∧ Dist g.terms 16 ∧ g.prods.length ≤ 256 ∧ 0 ≤ g.start ∧ g.start < g.names.length) ∧
    ∀ i (h : i < g.prods.length), SoundAt g i g.prods[i]
/-- Lengths that a machine may have. -/
def SmallP (g : PG) : Prop := g.names.length ≤ 1000000000 ∧ g.terms.length ≤ 1000000000 ∧ g.prods.length ≤ 1000000000 ∧ ∀ p ∈ g.prods, p.2.length ≤ 1000000000
theorem sound1_ok (b : Nat) (s : Int) (x0 x1 x4 : Value) (A B : Option Addr) (n m c d : Nat) (w : World) (hn : n ≤ 1000000000) (hm : m ≤ 1000000000) (hb : w.heap[b]? = some (.cells #[x0, x1, .slice A n c, .slice B m d, x4] 41 (0, 0))) :
    Ok Try.prog 132 (#[] ++ #[.int .i64 s] ++ #[pa (some ⟨b, 0, none⟩) 0]) w fun v w' => v = .bool (decide ((n : Int) ≤ s ∨ s < -(m : Int))) ∧ w' = w := by
  show Ok Try.prog 132 #[.int .i64 s, pa (some ⟨b, 0, none⟩) 0] w _
  (refine Ok.enter Try.func132 rfl (by kernel_rfl) (Nat.le_of_ble_eq_true rfl) ?_; simp only [Try.f132, S7])
  simp (disch := first | omega | assumption | (simp only [O1, World.size_alloc, World.size_setCell, World.size_drew]; first | done | omega)) only [O1, D2, ↓H0, S0, ↓S1, ↓S2, ↓S3, ↓S4, S5, S5b, S5c, ↓S6, S6b, M0, E0, ty, tl, te, tc, i64_wrap, u64_wrap, iaV_sl, iaV_arr, faV_pa, nck_pa, heap_new, heap_old, heap_set, ↓reduceIte, Nat.reduceEqDiff, Nat.reduceLT, Nat.reduceAdd, Int.reduceLT, Int.reduceLE, decide_false, decide_true, dec_true, dec_false, true_and, and_true, true_imp_iff, Bool.not_true, Bool.not_false, Option.map_none, Int.reduceToNat, Int.toNat_zero, Int.toNat_one, lkV_false, lkV_true, hb]
  refine Br_if (fun h => ?_) (fun h => ?_) <;> (try simp (disch := first | omega | assumption | (simp only [O1, World.size_alloc, World.size_setCell, World.size_drew]; first | done | omega)) only [O1, D2, ↓H0, S0, ↓S1, ↓S2, ↓S3, ↓S4, S5, S5b, S5c, ↓S6, S6b, M0, E0, ty, tl, te, tc, i64_wrap, u64_wrap, iaV_sl, iaV_arr, faV_pa, nck_pa, heap_new, heap_old, heap_set, ↓reduceIte, Nat.reduceEqDiff, Nat.reduceLT, Nat.reduceAdd, Int.reduceLT, Int.reduceLE, decide_false, decide_true, dec_true, dec_false, true_and, and_true, true_imp_iff, Bool.not_true, Bool.not_false, Option.map_none, Int.reduceToNat, Int.toNat_zero, Int.toNat_one, lkV_false, lkV_true, hb])
  congr 1
  rw [decide_eq_decide]; omega
set_option maxHeartbeats 2000000 in
theorem sound_ok (v : Value) (g : PG) (w : World) (hg : RepPG w v g) (hs : SmallP g) : Ok Try.prog 88 #[v] w fun v w' => (∃ b, v = .bool b ∧ (b = true ↔ SoundP g)) ∧ Ext w w' := by
  obtain ⟨nv, tv, pv, rfl, hN, hT, hp⟩ := hg
  have hN0 := hN; have hT0 := hT
  obtain ⟨A, a, rfl, ha, hA⟩ := hN
  obtain ⟨B, b, rfl, hb, hB⟩ := hT
  obtain ⟨C, c, rfl, hc, hC⟩ := hp
  obtain ⟨s1, s2, s3, s4⟩ := hs
  have no : ∀ {W : World}, Ext w W → ¬ SoundP g → (∃ b, Value.bool false = .bool b ∧ (b = true ↔ SoundP g)) ∧ Ext w W := fun hx h => ⟨⟨false, rfl, by simp [h]⟩, hx⟩
  (refine Ok.enter Try.func88 rfl (by kernel_rfl) (Nat.le_of_ble_eq_true rfl) ?_; simp only [Try.f88, S7])
  simp (disch := first | omega | assumption | (simp only [O1, World.size_alloc, World.size_setCell, World.size_drew]; first | done | omega)) only [O1, D2, ↓H0, S0, ↓S1, ↓S2, ↓S3, ↓S4, S5, S5b, S5c, ↓S6, S6b, M0, E0, ty, tl, te, tc, i64_wrap, u64_wrap, iaV_sl, iaV_arr, faV_pa, nck_pa, heap_new, heap_old, heap_set, ↓reduceIte, Nat.reduceEqDiff, Nat.reduceLT, Nat.reduceAdd, Int.reduceLT, Int.reduceLE, decide_false, decide_true, dec_true, dec_false, true_and, and_true, true_imp_iff, Bool.not_true, Bool.not_false, Option.map_none, Int.reduceToNat, Int.toNat_zero, Int.toNat_one, lkV_false, lkV_true]
  have hx0 := (Ext.rfl' w).al (.cells #[.int .i64 g.start, .int .i64 g.rules, .slice A g.names.length a, .slice B g.terms.length b, .slice C g.prods.length c] 41)
  have hg0 := heap_new (w := w) (.cells #[.int .i64 g.start, .int .i64 g.rules, .slice A g.names.length a, .slice B g.terms.length b, .slice C g.prods.length c] 41) rfl
  refine Br_if (fun h1 => ?_) (fun h1 => ?_) <;> (try simp (disch := first | omega | assumption | (simp only [O1, World.size_alloc, World.size_setCell, World.size_drew]; first | done | omega)) only [O1, D2, ↓H0, S0, ↓S1, ↓S2, ↓S3, ↓S4, S5, S5b, S5c, ↓S6, S6b, M0, E0, ty, tl, te, tc, i64_wrap, u64_wrap, iaV_sl, iaV_arr, faV_pa, nck_pa, heap_new, heap_old, heap_set, ↓reduceIte, Nat.reduceEqDiff, Nat.reduceLT, Nat.reduceAdd, Int.reduceLT, Int.reduceLE, decide_false, decide_true, dec_true, dec_false, true_and, and_true, true_imp_iff, Bool.not_true, Bool.not_false, Option.map_none, Int.reduceToNat, Int.toNat_zero, Int.toNat_one, lkV_false, lkV_true])
  · exact no hx0 fun h => by have := h.1.1; omega
  refine Br_if (fun h2 => ?_) (fun h2 => ?_) <;> (try simp (disch := first | omega | assumption | (simp only [O1, World.size_alloc, World.size_setCell, World.size_drew]; first | done | omega)) only [O1, D2, ↓H0, S0, ↓S1, ↓S2, ↓S3, ↓S4, S5, S5b, S5c, ↓S6, S6b, M0, E0, ty, tl, te, tc, i64_wrap, u64_wrap, iaV_sl, iaV_arr, faV_pa, nck_pa, heap_new, heap_old, heap_set, ↓reduceIte, Nat.reduceEqDiff, Nat.reduceLT, Nat.reduceAdd, Int.reduceLT, Int.reduceLE, decide_false, decide_true, dec_true, dec_false, true_and, and_true, true_imp_iff, Bool.not_true, Bool.not_false, Option.map_none, Int.reduceToNat, Int.toNat_zero, Int.toNat_one, lkV_false, lkV_true])
  · exact no hx0 fun h => by have := h.1.2.1; omega
  refine Br_if (fun h3 => ?_) (fun h3 => ?_) <;> (try simp (disch := first | omega | assumption | (simp only [O1, World.size_alloc, World.size_setCell, World.size_drew]; first | done | omega)) only [O1, D2, ↓H0, S0, ↓S1, ↓S2, ↓S3, ↓S4, S5, S5b, S5c, ↓S6, S6b, M0, E0, ty, tl, te, tc, i64_wrap, u64_wrap, iaV_sl, iaV_arr, faV_pa, nck_pa, heap_new, heap_old, heap_set, ↓reduceIte, Nat.reduceEqDiff, Nat.reduceLT, Nat.reduceAdd, Int.reduceLT, Int.reduceLE, decide_false, decide_true, dec_true, dec_false, true_and, and_true, true_imp_iff, Bool.not_true, Bool.not_false, Option.map_none, Int.reduceToNat, Int.toNat_zero, Int.toNat_one, lkV_false, lkV_true])
  · exact no hx0 fun h => by have := h.1.2.2.1; omega
  refine Br_if (fun h4 => ?_) (fun h4 => ?_) <;> (try simp (disch := first | omega | assumption | (simp only [O1, World.size_alloc, World.size_setCell, World.size_drew]; first | done | omega)) only [O1, D2, ↓H0, S0, ↓S1, ↓S2, ↓S3, ↓S4, S5, S5b, S5c, ↓S6, S6b, M0, E0, ty, tl, te, tc, i64_wrap, u64_wrap, iaV_sl, iaV_arr, faV_pa, nck_pa, heap_new, heap_old, heap_set, ↓reduceIte, Nat.reduceEqDiff, Nat.reduceLT, Nat.reduceAdd, Int.reduceLT, Int.reduceLE, decide_false, decide_true, dec_true, dec_false, true_and, and_true, true_imp_iff, Bool.not_true, Bool.not_false, Option.map_none, Int.reduceToNat, Int.toNat_zero, Int.toNat_one, lkV_false, lkV_true])
  · exact no hx0 fun h => by have := h.1.2.2.2.1; omega
  refine (distinct_ok _ g.names 65536 _ (hN0.ext hx0) s1).then ?_; rintro _ W ⟨⟨bn, rfl, hbn⟩, hx1⟩
  have hxW := hx0.tr hx1
  have hgW := hx1.hp hg0
  cases bn with
  | false => simp (disch := first | omega | assumption | (simp only [O1, World.size_alloc, World.size_setCell, World.size_drew]; first | done | omega)) only [O1, D2, ↓H0, S0, ↓S1, ↓S2, ↓S3, ↓S4, S5, S5b, S5c, ↓S6, S6b, M0, E0, ty, tl, te, tc, i64_wrap, u64_wrap, iaV_sl, iaV_arr, faV_pa, nck_pa, heap_new, heap_old, heap_set, ↓reduceIte, Nat.reduceEqDiff, Nat.reduceLT, Nat.reduceAdd, Int.reduceLT, Int.reduceLE, decide_false, decide_true, dec_true, dec_false, true_and, and_true, true_imp_iff, Bool.not_true, Bool.not_false, Option.map_none, Int.reduceToNat, Int.toNat_zero, Int.toNat_one, lkV_false, lkV_true]; exact no hxW fun h => by have := hbn.2 h.1.2.2.2.2; simp at this
  | true =>
    have hbn := hbn.1 rfl
    simp (disch := first | omega | assumption | (simp only [O1, World.size_alloc, World.size_setCell, World.size_drew]; first | done | omega)) only [O1, D2, ↓H0, S0, ↓S1, ↓S2, ↓S3, ↓S4, S5, S5b, S5c, ↓S6, S6b, M0, E0, ty, tl, te, tc, i64_wrap, u64_wrap, iaV_sl, iaV_arr, faV_pa, nck_pa, heap_new, heap_old, heap_set, ↓reduceIte, Nat.reduceEqDiff, Nat.reduceLT, Nat.reduceAdd, Int.reduceLT, Int.reduceLE, decide_false, decide_true, dec_true, dec_false, true_and, and_true, true_imp_iff, Bool.not_true, Bool.not_false, Option.map_none, Int.reduceToNat, Int.toNat_zero, Int.toNat_one, lkV_false, lkV_true, hgW]
    refine Br_if (fun h5 => ?_) (fun h5 => ?_) <;> (try simp (disch := first | omega | assumption | (simp only [O1, World.size_alloc, World.size_setCell, World.size_drew]; first | done | omega)) only [O1, D2, ↓H0, S0, ↓S1, ↓S2, ↓S3, ↓S4, S5, S5b, S5c, ↓S6, S6b, M0, E0, ty, tl, te, tc, i64_wrap, u64_wrap, iaV_sl, iaV_arr, faV_pa, nck_pa, heap_new, heap_old, heap_set, ↓reduceIte, Nat.reduceEqDiff, Nat.reduceLT, Nat.reduceAdd, Int.reduceLT, Int.reduceLE, decide_false, decide_true, dec_true, dec_false, true_and, and_true, true_imp_iff, Bool.not_true, Bool.not_false, Option.map_none, Int.reduceToNat, Int.toNat_zero, Int.toNat_one, lkV_false, lkV_true, hgW])
    · exact no hxW fun h => by have := h.2.1.1; omega
    refine (distinct_ok _ g.terms 16 _ (hT0.ext hxW) s2).then ?_; rintro _ W2 ⟨⟨bt, rfl, hbt⟩, hx2⟩
    have hxW := hxW.tr hx2
    have hgW := hx2.hp hgW
    cases bt with
    | false => simp (disch := first | omega | assumption | (simp only [O1, World.size_alloc, World.size_setCell, World.size_drew]; first | done | omega)) only [O1, D2, ↓H0, S0, ↓S1, ↓S2, ↓S3, ↓S4, S5, S5b, S5c, ↓S6, S6b, M0, E0, ty, tl, te, tc, i64_wrap, u64_wrap, iaV_sl, iaV_arr, faV_pa, nck_pa, heap_new, heap_old, heap_set, ↓reduceIte, Nat.reduceEqDiff, Nat.reduceLT, Nat.reduceAdd, Int.reduceLT, Int.reduceLE, decide_false, decide_true, dec_true, dec_false, true_and, and_true, true_imp_iff, Bool.not_true, Bool.not_false, Option.map_none, Int.reduceToNat, Int.toNat_zero, Int.toNat_one, lkV_false, lkV_true, hgW]; exact no hxW fun h => by have := hbt.2 h.2.1.2.1; simp at this
    | true =>
      have hbt := hbt.1 rfl
      simp (disch := first | omega | assumption | (simp only [O1, World.size_alloc, World.size_setCell, World.size_drew]; first | done | omega)) only [O1, D2, ↓H0, S0, ↓S1, ↓S2, ↓S3, ↓S4, S5, S5b, S5c, ↓S6, S6b, M0, E0, ty, tl, te, tc, i64_wrap, u64_wrap, iaV_sl, iaV_arr, faV_pa, nck_pa, heap_new, heap_old, heap_set, ↓reduceIte, Nat.reduceEqDiff, Nat.reduceLT, Nat.reduceAdd, Int.reduceLT, Int.reduceLE, decide_false, decide_true, dec_true, dec_false, true_and, and_true, true_imp_iff, Bool.not_true, Bool.not_false, Option.map_none, Int.reduceToNat, Int.toNat_zero, Int.toNat_one, lkV_false, lkV_true, hgW]
      refine Br_if (fun h6 => ?_) (fun h6 => ?_) <;> (try simp (disch := first | omega | assumption | (simp only [O1, World.size_alloc, World.size_setCell, World.size_drew]; first | done | omega)) only [O1, D2, ↓H0, S0, ↓S1, ↓S2, ↓S3, ↓S4, S5, S5b, S5c, ↓S6, S6b, M0, E0, ty, tl, te, tc, i64_wrap, u64_wrap, iaV_sl, iaV_arr, faV_pa, nck_pa, heap_new, heap_old, heap_set, ↓reduceIte, Nat.reduceEqDiff, Nat.reduceLT, Nat.reduceAdd, Int.reduceLT, Int.reduceLE, decide_false, decide_true, dec_true, dec_false, true_and, and_true, true_imp_iff, Bool.not_true, Bool.not_false, Option.map_none, Int.reduceToNat, Int.toNat_zero, Int.toNat_one, lkV_false, lkV_true, hgW])
      · exact no hxW fun h => by have := h.2.1.2.2.1; omega
      refine Br_if (fun h7 => ?_) (fun h7 => ?_) <;> (try simp (disch := first | omega | assumption | (simp only [O1, World.size_alloc, World.size_setCell, World.size_drew]; first | done | omega)) only [O1, D2, ↓H0, S0, ↓S1, ↓S2, ↓S3, ↓S4, S5, S5b, S5c, ↓S6, S6b, M0, E0, ty, tl, te, tc, i64_wrap, u64_wrap, iaV_sl, iaV_arr, faV_pa, nck_pa, heap_new, heap_old, heap_set, ↓reduceIte, Nat.reduceEqDiff, Nat.reduceLT, Nat.reduceAdd, Int.reduceLT, Int.reduceLE, decide_false, decide_true, dec_true, dec_false, true_and, and_true, true_imp_iff, Bool.not_true, Bool.not_false, Option.map_none, Int.reduceToNat, Int.toNat_zero, Int.toNat_one, lkV_false, lkV_true, hgW])
      · exact no hxW fun h => by have := h.2.1.2.2.2.1; omega
      refine Br_if (fun h8 => ?_) (fun h8 => ?_) <;> (try simp (disch := first | omega | assumption | (simp only [O1, World.size_alloc, World.size_setCell, World.size_drew]; first | done | omega)) only [O1, D2, ↓H0, S0, ↓S1, ↓S2, ↓S3, ↓S4, S5, S5b, S5c, ↓S6, S6b, M0, E0, ty, tl, te, tc, i64_wrap, u64_wrap, iaV_sl, iaV_arr, faV_pa, nck_pa, heap_new, heap_old, heap_set, ↓reduceIte, Nat.reduceEqDiff, Nat.reduceLT, Nat.reduceAdd, Int.reduceLT, Int.reduceLE, decide_false, decide_true, dec_true, dec_false, true_and, and_true, true_imp_iff, Bool.not_true, Bool.not_false, Option.map_none, Int.reduceToNat, Int.toNat_zero, Int.toNat_one, lkV_false, lkV_true, hgW])
      · exact no hxW fun h => by have := h.2.1.2.2.2.2; omega
      refine ⟨fun k t W => ∃ i : Nat, k + i = g.prods.length ∧ (∀ j (h : j < g.prods.length), j < i → SoundAt g j g.prods[j]) ∧ Ext w W ∧ W.heap[w.heap.size]? = some (.cells #[.int .i64 g.start, .int .i64 g.rules, .slice A g.names.length a, .slice B g.terms.length b, .slice C g.prods.length c] 41 (0, 0)) ∧
        t 1 = pa (some ⟨w.heap.size, 0, none⟩) 0 ∧ t 64 = .slice C g.prods.length c ∧ t 65 = .int .i64 g.prods.length ∧ t 66 = .int .i64 i, ⟨g.prods.length, 0, by omega, fun j _ h => by omega, hxW, hgW, ?_⟩, ?_⟩
      · simp (disch := first | omega | assumption | (simp only [O1, World.size_alloc, World.size_setCell, World.size_drew]; first | done | omega)) only [O1, D2, ↓H0, S0, ↓S1, ↓S2, ↓S3, ↓S4, S5, S5b, S5c, ↓S6, S6b, M0, E0, ty, tl, te, tc, i64_wrap, u64_wrap, iaV_sl, iaV_arr, faV_pa, nck_pa, heap_new, heap_old, heap_set, ↓reduceIte, Nat.reduceEqDiff, Nat.reduceLT, Nat.reduceAdd, Int.reduceLT, Int.reduceLE, decide_false, decide_true, dec_true, dec_false, true_and, and_true, true_imp_iff, Bool.not_true, Bool.not_false, Option.map_none, Int.reduceToNat, Int.toNat_zero, Int.toNat_one, lkV_false, lkV_true]; rfl
      clear hxW hgW hx2 hx1 hg0 hx0
      rintro k t W ⟨i, hk, hS, hx, hg, f1, f64, f65, f66⟩
      simp (disch := first | omega | assumption | (simp only [O1, World.size_alloc, World.size_setCell, World.size_drew]; first | done | omega)) only [O1, D2, ↓H0, S0, ↓S1, ↓S2, ↓S3, ↓S4, S5, S5b, S5c, ↓S6, S6b, M0, E0, ty, tl, te, tc, i64_wrap, u64_wrap, iaV_sl, iaV_arr, faV_pa, nck_pa, heap_new, heap_old, heap_set, ↓reduceIte, Nat.reduceEqDiff, Nat.reduceLT, Nat.reduceAdd, Int.reduceLT, Int.reduceLE, decide_false, decide_true, dec_true, dec_false, true_and, and_true, true_imp_iff, Bool.not_true, Bool.not_false, Option.map_none, Int.reduceToNat, Int.toNat_zero, Int.toNat_one, lkV_false, lkV_true, f1, f64, f65, f66]
      refine Br_if (fun h => ?_) (fun h' => ?_) <;> (try simp (disch := first | omega | assumption | (simp only [O1, World.size_alloc, World.size_setCell, World.size_drew]; first | done | omega)) only [O1, D2, ↓H0, S0, ↓S1, ↓S2, ↓S3, ↓S4, S5, S5b, S5c, ↓S6, S6b, M0, E0, ty, tl, te, tc, i64_wrap, u64_wrap, iaV_sl, iaV_arr, faV_pa, nck_pa, heap_new, heap_old, heap_set, ↓reduceIte, Nat.reduceEqDiff, Nat.reduceLT, Nat.reduceAdd, Int.reduceLT, Int.reduceLE, decide_false, decide_true, dec_true, dec_false, true_and, and_true, true_imp_iff, Bool.not_true, Bool.not_false, Option.map_none, Int.reduceToNat, Int.toNat_zero, Int.toNat_one, lkV_false, lkV_true, f1, f64, f65, f66])
      · have hi : i < g.prods.length := by omega
        obtain ⟨hl, r, hr, hR⟩ := hC i hi
        have hR0 := hR
        obtain ⟨D, d, rfl, hd, hD⟩ := hR
        have hl' := hx.rd hl
        have hr' := hx.rd hr
        have hAs := rd_isSome hl
        have hz := lt_heap hg
        generalize hp : g.prods[i] = p at *
        have hp1 : ∀ {q : Prop}, (SoundAt g i p → q) → (SoundP g → q) := fun h hn => h (hp ▸ hn.2.2 i hi)
        simp (disch := first | omega | assumption | (simp only [O1, World.size_alloc, World.size_setCell, World.size_drew]; first | done | omega)) only [O1, D2, ↓H0, S0, ↓S1, ↓S2, ↓S3, ↓S4, S5, S5b, S5c, ↓S6, S6b, M0, E0, ty, tl, te, tc, i64_wrap, u64_wrap, iaV_sl, iaV_arr, faV_pa, nck_pa, heap_new, heap_old, heap_set, ↓reduceIte, Nat.reduceEqDiff, Nat.reduceLT, Nat.reduceAdd, Int.reduceLT, Int.reduceLE, decide_false, decide_true, dec_true, dec_false, true_and, and_true, true_imp_iff, Bool.not_true, Bool.not_false, Option.map_none, Int.reduceToNat, Int.toNat_zero, Int.toNat_one, lkV_false, lkV_true, f1, f64, f65, f66, hl', hr', ldA2, st35]
        have hx1 := (hx.al (.cells #[.int .i64 p.1, .slice D p.2.length d] 35))
        have hx2 := hx1.dr
        have hW2 := ((Ext.rfl' W).al (.cells #[.int .i64 p.1, .slice D p.2.length d] 35)).dr
        have hg2 := hW2.hp hg
        refine Dr_plan [] (fun _ => true) [0, 1, 2, 3, 4, 5, 6, 7, 8, 9, 10, 11, 12, 13, 14, 15, 16, 17, 18, 19, 20, 21, 22, 23, 24, 25, 26, 27, 28, 29, 30, 31, 32] mixed (by kernel_rfl) ?_
        simp (disch := first | omega | assumption | (simp only [O1, World.size_alloc, World.size_setCell, World.size_drew]; first | done | omega)) only [↓D1, ↓D3, ↓D4, List.not_mem_nil, not_false_eq_true, Bool.false_eq_true, false_imp_iff, upto, O1, D2, ↓H0, S0, ↓S1, ↓S2, ↓S3, ↓S4, S5, S5b, S5c, ↓S6, S6b, M0, E0, ty, tl, te, tc, i64_wrap, u64_wrap, iaV_sl, iaV_arr, faV_pa, nck_pa, heap_new, heap_old, heap_set, ↓reduceIte, Nat.reduceEqDiff, Nat.reduceLT, Nat.reduceAdd, Int.reduceLT, Int.reduceLE, decide_false, decide_true, dec_true, dec_false, true_and, and_true, true_imp_iff, Bool.not_true, Bool.not_false, Option.map_none, Int.reduceToNat, Int.toNat_zero, Int.toNat_one, lkV_false, lkV_true, f1, f64, f65, f66, hg, hz]
        refine Br_if (fun h4 => ?_) (fun h4 => ?_) <;> (try simp (disch := first | omega | assumption | (simp only [O1, World.size_alloc, World.size_setCell, World.size_drew]; first | done | omega)) only [↓D1, ↓D3, ↓D4, List.not_mem_nil, not_false_eq_true, Bool.false_eq_true, false_imp_iff, upto, O1, D2, ↓H0, S0, ↓S1, ↓S2, ↓S3, ↓S4, S5, S5b, S5c, ↓S6, S6b, M0, E0, ty, tl, te, tc, i64_wrap, u64_wrap, iaV_sl, iaV_arr, faV_pa, nck_pa, heap_new, heap_old, heap_set, ↓reduceIte, Nat.reduceEqDiff, Nat.reduceLT, Nat.reduceAdd, Int.reduceLT, Int.reduceLE, decide_false, decide_true, dec_true, dec_false, true_and, and_true, true_imp_iff, Bool.not_true, Bool.not_false, Option.map_none, Int.reduceToNat, Int.toNat_zero, Int.toNat_one, lkV_false, lkV_true, f1, f64, f65, f66, hg, hz])
        · exact no hx2 (hp1 fun hn => by have := hn.1; omega)
        refine Br_if (fun h5 => ?_) (fun h5 => ?_) <;> (try simp (disch := first | omega | assumption | (simp only [O1, World.size_alloc, World.size_setCell, World.size_drew]; first | done | omega)) only [↓D1, ↓D3, ↓D4, List.not_mem_nil, not_false_eq_true, Bool.false_eq_true, false_imp_iff, upto, O1, D2, ↓H0, S0, ↓S1, ↓S2, ↓S3, ↓S4, S5, S5b, S5c, ↓S6, S6b, M0, E0, ty, tl, te, tc, i64_wrap, u64_wrap, iaV_sl, iaV_arr, faV_pa, nck_pa, heap_new, heap_old, heap_set, ↓reduceIte, Nat.reduceEqDiff, Nat.reduceLT, Nat.reduceAdd, Int.reduceLT, Int.reduceLE, decide_false, decide_true, dec_true, dec_false, true_and, and_true, true_imp_iff, Bool.not_true, Bool.not_false, Option.map_none, Int.reduceToNat, Int.toNat_zero, Int.toNat_one, lkV_false, lkV_true, f1, f64, f65, f66, hg, hz])
        · exact no hx2 (hp1 fun hn => by have := hn.2.1; omega)
        refine Br_if (fun h6 => ?_) (fun h6 => ?_) <;> (try simp (disch := first | omega | assumption | (simp only [O1, World.size_alloc, World.size_setCell, World.size_drew]; first | done | omega)) only [↓D1, ↓D3, ↓D4, List.not_mem_nil, not_false_eq_true, Bool.false_eq_true, false_imp_iff, upto, O1, D2, ↓H0, S0, ↓S1, ↓S2, ↓S3, ↓S4, S5, S5b, S5c, ↓S6, S6b, M0, E0, ty, tl, te, tc, i64_wrap, u64_wrap, iaV_sl, iaV_arr, faV_pa, nck_pa, heap_new, heap_old, heap_set, ↓reduceIte, Nat.reduceEqDiff, Nat.reduceLT, Nat.reduceAdd, Int.reduceLT, Int.reduceLE, decide_false, decide_true, dec_true, dec_false, true_and, and_true, true_imp_iff, Bool.not_true, Bool.not_false, Option.map_none, Int.reduceToNat, Int.toNat_zero, Int.toNat_one, lkV_false, lkV_true, f1, f64, f65, f66, hg, hz])
        · exact no hx2 (hp1 fun hn => by have := hn.2.2.1; omega)
        have hlen := s4 p (hp ▸ List.getElem_mem _)
        have hq : ((g.terms.length : Nat) : Int) ≤ 1000000000 := by omega
        refine Br_if (fun h7 => ?_) (fun h7' => ?_) <;> (try simp (disch := first | omega | assumption | (simp only [O1, World.size_alloc, World.size_setCell, World.size_drew]; first | done | omega)) only [↓D1, ↓D3, ↓D4, List.not_mem_nil, not_false_eq_true, Bool.false_eq_true, false_imp_iff, upto, O1, D2, ↓H0, S0, ↓S1, ↓S2, ↓S3, ↓S4, S5, S5b, S5c, ↓S6, S6b, M0, E0, ty, tl, te, tc, i64_wrap, u64_wrap, iaV_sl, iaV_arr, faV_pa, nck_pa, heap_new, heap_old, heap_set, ↓reduceIte, Nat.reduceEqDiff, Nat.reduceLT, Nat.reduceAdd, Int.reduceLT, Int.reduceLE, decide_false, decide_true, dec_true, dec_false, true_and, and_true, true_imp_iff, Bool.not_true, Bool.not_false, Option.map_none, Int.reduceToNat, Int.toNat_zero, Int.toNat_one, lkV_false, lkV_true, f1, f64, f65, f66, hg, hz])
        · obtain ⟨hl2, _⟩ := hC (i - 1) (by omega)
          have hl2' := hx2.rd hl2
          have ht : ((i : Int) - 1).toNat = i - 1 := by omega
          have hD2 : g.prods.getD (i - 1) (0, []) = g.prods[i - 1] := by simp [List.getD_eq_getElem?_getD, List.getElem?_eq_getElem (show i - 1 < g.prods.length by omega)]
          simp (disch := first | omega | assumption | (simp only [O1, World.size_alloc, World.size_setCell, World.size_drew]; first | done | omega)) only [↓D1, ↓D3, ↓D4, List.not_mem_nil, not_false_eq_true, Bool.false_eq_true, false_imp_iff, upto, O1, D2, ↓H0, S0, ↓S1, ↓S2, ↓S3, ↓S4, S5, S5b, S5c, ↓S6, S6b, M0, E0, ty, tl, te, tc, i64_wrap, u64_wrap, iaV_sl, iaV_arr, faV_pa, nck_pa, heap_new, heap_old, heap_set, ↓reduceIte, Nat.reduceEqDiff, Nat.reduceLT, Nat.reduceAdd, Int.reduceLT, Int.reduceLE, decide_false, decide_true, dec_true, dec_false, true_and, and_true, true_imp_iff, Bool.not_true, Bool.not_false, Option.map_none, Int.reduceToNat, Int.toNat_zero, Int.toNat_one, lkV_false, lkV_true, f1, f64, f65, f66, hg, hz, ht, hl2']
          refine Br_if (fun h8 => ?_) (fun h8 => ?_) <;> (try simp (disch := first | omega | assumption | (simp only [O1, World.size_alloc, World.size_setCell, World.size_drew]; first | done | omega)) only [↓D1, ↓D3, ↓D4, List.not_mem_nil, not_false_eq_true, Bool.false_eq_true, false_imp_iff, upto, O1, D2, ↓H0, S0, ↓S1, ↓S2, ↓S3, ↓S4, S5, S5b, S5c, ↓S6, S6b, M0, E0, ty, tl, te, tc, i64_wrap, u64_wrap, iaV_sl, iaV_arr, faV_pa, nck_pa, heap_new, heap_old, heap_set, ↓reduceIte, Nat.reduceEqDiff, Nat.reduceLT, Nat.reduceAdd, Int.reduceLT, Int.reduceLE, decide_false, decide_true, dec_true, dec_false, true_and, and_true, true_imp_iff, Bool.not_true, Bool.not_false, Option.map_none, Int.reduceToNat, Int.toNat_zero, Int.toNat_one, lkV_false, lkV_true, f1, f64, f65, f66, hg, hz])
          · exact no hx2 (hp1 fun hn => by have := hn.2.2.2.1 (by omega); rw [hD2] at this; omega)
          refine (contains_ok _ _ p.2 (fun s => decide ((g.names.length : Int) ≤ s ∨ s < -(g.terms.length : Int))) _ (hR0.ext hx2) ⟨_, _, _, rfl, fun s => sound1_ok _ s _ _ _ A B _ _ _ _ _ s1 s2 hg2⟩ hlen).then ?_; rintro _ _ ⟨rfl, rfl⟩
          cases hany : p.2.any (fun s => decide ((g.names.length : Int) ≤ s ∨ s < -(g.terms.length : Int))) with
          | true =>
            simp (disch := first | omega | assumption | (simp only [O1, World.size_alloc, World.size_setCell, World.size_drew]; first | done | omega)) only [O1, D2, ↓H0, S0, ↓S1, ↓S2, ↓S3, ↓S4, S5, S5b, S5c, ↓S6, S6b, M0, E0, ty, tl, te, tc, i64_wrap, u64_wrap, iaV_sl, iaV_arr, faV_pa, nck_pa, heap_new, heap_old, heap_set, ↓reduceIte, Nat.reduceEqDiff, Nat.reduceLT, Nat.reduceAdd, Int.reduceLT, Int.reduceLE, decide_false, decide_true, dec_true, dec_false, true_and, and_true, true_imp_iff, Bool.not_true, Bool.not_false, Option.map_none, Int.reduceToNat, Int.toNat_zero, Int.toNat_one, lkV_false, lkV_true, f1, f64, f65, f66, hg, hz]
            refine no hx2 (hp1 fun hn => ?_)
            obtain ⟨s, hs, hs2⟩ := List.any_eq_true.1 hany
            have := hn.2.2.2.2 s hs
            simp only [decide_eq_true_eq] at hs2
            omega
          | false =>
            simp (disch := first | omega | assumption | (simp only [O1, World.size_alloc, World.size_setCell, World.size_drew]; first | done | omega)) only [O1, D2, ↓H0, S0, ↓S1, ↓S2, ↓S3, ↓S4, S5, S5b, S5c, ↓S6, S6b, M0, E0, ty, tl, te, tc, i64_wrap, u64_wrap, iaV_sl, iaV_arr, faV_pa, nck_pa, heap_new, heap_old, heap_set, ↓reduceIte, Nat.reduceEqDiff, Nat.reduceLT, Nat.reduceAdd, Int.reduceLT, Int.reduceLE, decide_false, decide_true, dec_true, dec_false, true_and, and_true, true_imp_iff, Bool.not_true, Bool.not_false, Option.map_none, Int.reduceToNat, Int.toNat_zero, Int.toNat_one, lkV_false, lkV_true, f1, f64, f65, f66, hg, hz]
            refine ⟨k - 1, by omega, i + 1, by omega, fun j hj hji => ?_, hx2, rfl⟩
            by_cases e : j = i
            · subst e
              rw [hp]
              refine ⟨by omega, by omega, by omega, fun h0 => by rw [hD2]; omega, fun s hs => ?_⟩
              have := List.any_eq_false.1 hany s hs
              simp only [decide_eq_true_eq] at this
              omega
            · exact hS j hj (by omega)
        · refine (contains_ok _ _ p.2 (fun s => decide ((g.names.length : Int) ≤ s ∨ s < -(g.terms.length : Int))) _ (hR0.ext hx2) ⟨_, _, _, rfl, fun s => sound1_ok _ s _ _ _ A B _ _ _ _ _ s1 s2 hg2⟩ hlen).then ?_; rintro _ _ ⟨rfl, rfl⟩
          cases hany : p.2.any (fun s => decide ((g.names.length : Int) ≤ s ∨ s < -(g.terms.length : Int))) with
          | true =>
            simp (disch := first | omega | assumption | (simp only [O1, World.size_alloc, World.size_setCell, World.size_drew]; first | done | omega)) only [O1, D2, ↓H0, S0, ↓S1, ↓S2, ↓S3, ↓S4, S5, S5b, S5c, ↓S6, S6b, M0, E0, ty, tl, te, tc, i64_wrap, u64_wrap, iaV_sl, iaV_arr, faV_pa, nck_pa, heap_new, heap_old, heap_set, ↓reduceIte, Nat.reduceEqDiff, Nat.reduceLT, Nat.reduceAdd, Int.reduceLT, Int.reduceLE, decide_false, decide_true, dec_true, dec_false, true_and, and_true, true_imp_iff, Bool.not_true, Bool.not_false, Option.map_none, Int.reduceToNat, Int.toNat_zero, Int.toNat_one, lkV_false, lkV_true, f1, f64, f65, f66, hg, hz]
            refine no hx2 (hp1 fun hn => ?_)
            obtain ⟨s, hs, hs2⟩ := List.any_eq_true.1 hany
            have := hn.2.2.2.2 s hs
            simp only [decide_eq_true_eq] at hs2
            omega
          | false =>
            simp (disch := first | omega | assumption | (simp only [O1, World.size_alloc, World.size_setCell, World.size_drew]; first | done | omega)) only [O1, D2, ↓H0, S0, ↓S1, ↓S2, ↓S3, ↓S4, S5, S5b, S5c, ↓S6, S6b, M0, E0, ty, tl, te, tc, i64_wrap, u64_wrap, iaV_sl, iaV_arr, faV_pa, nck_pa, heap_new, heap_old, heap_set, ↓reduceIte, Nat.reduceEqDiff, Nat.reduceLT, Nat.reduceAdd, Int.reduceLT, Int.reduceLE, decide_false, decide_true, dec_true, dec_false, true_and, and_true, true_imp_iff, Bool.not_true, Bool.not_false, Option.map_none, Int.reduceToNat, Int.toNat_zero, Int.toNat_one, lkV_false, lkV_true, f1, f64, f65, f66, hg, hz]
            refine ⟨k - 1, by omega, i + 1, by omega, fun j hj hji => ?_, hx2, rfl⟩
            by_cases e : j = i
            · subst e
              rw [hp]
              refine ⟨by omega, by omega, by omega, fun h0 => by omega, fun s hs => ?_⟩
              have := List.any_eq_false.1 hany s hs
              simp only [decide_eq_true_eq] at this
              omega
            · exact hS j hj (by omega)
      · exact ⟨⟨true, rfl, fun _ => ⟨⟨by omega, by omega, by omega, by omega, hbn⟩, ⟨by omega, hbt, by omega, by omega, by omega⟩, fun j hj => hS j hj (by omega)⟩, fun _ => rfl⟩, hx⟩
end Go.Proofs.Ytgioklmpnbnplaa
namespace Go.Proofs.Ytgioklmpnbnplaa
open Go.V

theorem length_ok (p : Int × List Int) (rv kv : Value) (known : List Int) (w : World) (hr : Ints w rv p.2) (hk : Ints w kv known) (hin : ∀ s ∈ p.2, s < known.length) (hb : ∀ x ∈ known, -1 ≤ x ∧ x ≤ 1099511627776) (hn : p.2.length ≤ 1000000000) :
    Ok Try.prog 90 #[.agg #[.int .i64 p.1, rv], kv] w fun v w' => ((v = .tuple #[.int .i64 0, .bool false] ∧ ¬ Known known p.2) ∨ (v = .tuple #[.int .i64 (costOf (natAt known) p.2 : Nat), .bool true] ∧ Known known p.2)) ∧ Ext w w' := by
  obtain ⟨A, a, rfl, ha, hA⟩ := hr
  obtain ⟨B, b, rfl, hb', hB⟩ := hk
  (refine Ok.enter Try.func90 rfl (by kernel_rfl) (Nat.le_of_ble_eq_true rfl) ?_; simp only [Try.f90, S7])
  simp (disch := first | omega | assumption | (simp only [O1, World.size_alloc, World.size_setCell, World.size_drew]; first | done | omega)) only [O1, D2, ↓H0, S0, ↓S1, ↓S2, ↓S3, ↓S4, S5, S5b, S5c, ↓S6, S6b, M0, E0, ty, tl, te, tc, i64_wrap, u64_wrap, iaV_sl, iaV_arr, faV_pa, nck_pa, heap_new, heap_old, heap_set, ↓reduceIte, Nat.reduceEqDiff, Nat.reduceLT, Nat.reduceAdd, Int.reduceLT, Int.reduceLE, decide_false, decide_true, dec_true, dec_false, true_and, and_true, true_imp_iff, Bool.not_true, Bool.not_false, Option.map_none, Int.reduceToNat, Int.toNat_zero, Int.toNat_one, lkV_false, lkV_true]
  have hx := (Ext.rfl' w).al (.cells #[.int .i64 p.1, .slice A p.2.length a] 35)
  refine ⟨fun k t W => ∃ i : Nat, k + i = p.2.length ∧ Known known (p.2.take i) ∧ W = w.alloc (.cells #[.int .i64 p.1, .slice A p.2.length a] 35) ∧ t 1 = .slice B known.length b ∧ t 6 = .int .i64 (costOf (natAt known) (p.2.take i) : Nat) ∧ t 11 = .slice A p.2.length a ∧ t 12 = .int .i64 p.2.length ∧ t 13 = .int .i64 i,
    ⟨p.2.length, 0, by omega, fun s hs => by simp at hs, rfl, ?_⟩, ?_⟩
  · simp (disch := first | omega | assumption | (simp only [O1, World.size_alloc, World.size_setCell, World.size_drew]; first | done | omega)) only [O1, D2, ↓H0, S0, ↓S1, ↓S2, ↓S3, ↓S4, S5, S5b, S5c, ↓S6, S6b, M0, E0, ty, tl, te, tc, i64_wrap, u64_wrap, iaV_sl, iaV_arr, faV_pa, nck_pa, heap_new, heap_old, heap_set, ↓reduceIte, Nat.reduceEqDiff, Nat.reduceLT, Nat.reduceAdd, Int.reduceLT, Int.reduceLE, decide_false, decide_true, dec_true, dec_false, true_and, and_true, true_imp_iff, Bool.not_true, Bool.not_false, Option.map_none, Int.reduceToNat, Int.toNat_zero, Int.toNat_one, lkV_false, lkV_true]; exact ⟨rfl, rfl⟩
  rintro k t W ⟨i, hk, hK, rfl, f1, f6, f11, f12, f13⟩
  simp (disch := first | omega | assumption | (simp only [O1, World.size_alloc, World.size_setCell, World.size_drew]; first | done | omega)) only [O1, D2, ↓H0, S0, ↓S1, ↓S2, ↓S3, ↓S4, S5, S5b, S5c, ↓S6, S6b, M0, E0, ty, tl, te, tc, i64_wrap, u64_wrap, iaV_sl, iaV_arr, faV_pa, nck_pa, heap_new, heap_old, heap_set, ↓reduceIte, Nat.reduceEqDiff, Nat.reduceLT, Nat.reduceAdd, Int.reduceLT, Int.reduceLE, decide_false, decide_true, dec_true, dec_false, true_and, and_true, true_imp_iff, Bool.not_true, Bool.not_false, Option.map_none, Int.reduceToNat, Int.toNat_zero, Int.toNat_one, lkV_false, lkV_true, f1, f6, f11, f12, f13]
  refine Br_if (fun h => ?_) (fun h' => ?_) <;> (try simp (disch := first | omega | assumption | (simp only [O1, World.size_alloc, World.size_setCell, World.size_drew]; first | done | omega)) only [O1, D2, ↓H0, S0, ↓S1, ↓S2, ↓S3, ↓S4, S5, S5b, S5c, ↓S6, S6b, M0, E0, ty, tl, te, tc, i64_wrap, u64_wrap, iaV_sl, iaV_arr, faV_pa, nck_pa, heap_new, heap_old, heap_set, ↓reduceIte, Nat.reduceEqDiff, Nat.reduceLT, Nat.reduceAdd, Int.reduceLT, Int.reduceLE, decide_false, decide_true, dec_true, dec_false, true_and, and_true, true_imp_iff, Bool.not_true, Bool.not_false, Option.map_none, Int.reduceToNat, Int.toNat_zero, Int.toNat_one, lkV_false, lkV_true, f1, f6, f11, f12, f13])
  · have hi : i < p.2.length := by omega
    have hs := hx.rd (hA i hi)
    have hAs := rd_isSome hs
    have htk : p.2.take (i + 1) = p.2.take i ++ [p.2[i]] := List.take_succ_eq_append_getElem hi
    have hmem : p.2[i] ∈ p.2 := List.getElem_mem _
    generalize hse : p.2[i] = s at *
    have hsn := hin s hmem
    have hco := costOf_le (natAt known) (p.2.take i)
    have hstep : Known known (p.2.take (i + 1)) ↔ (0 ≤ s → 0 ≤ known.getD s.toNat (-1)) := by
      rw [htk]
      constructor
      · intro h; exact h s (by simp)
      · intro h x hx
        simp only [List.mem_append, List.mem_singleton] at hx
        rcases hx with hx | rfl
        · exact hK x hx
        · exact h
    have notK : ¬ (0 ≤ s → 0 ≤ known.getD s.toNat (-1)) → ¬ Known known p.2 := fun h hh => h (hh s hmem)
    simp (disch := first | omega | assumption | (simp only [O1, World.size_alloc, World.size_setCell, World.size_drew]; first | done | omega)) only [O1, D2, ↓H0, S0, ↓S1, ↓S2, ↓S3, ↓S4, S5, S5b, S5c, ↓S6, S6b, M0, E0, ty, tl, te, tc, i64_wrap, u64_wrap, iaV_sl, iaV_arr, faV_pa, nck_pa, heap_new, heap_old, heap_set, ↓reduceIte, Nat.reduceEqDiff, Nat.reduceLT, Nat.reduceAdd, Int.reduceLT, Int.reduceLE, decide_false, decide_true, dec_true, dec_false, true_and, and_true, true_imp_iff, Bool.not_true, Bool.not_false, Option.map_none, Int.reduceToNat, Int.toNat_zero, Int.toNat_one, lkV_false, lkV_true, f1, f6, f11, f12, f13, hs]
    refine Br_if (fun h1 => ?_) (fun h1 => ?_) <;> (try simp (disch := first | omega | assumption | (simp only [O1, World.size_alloc, World.size_setCell, World.size_drew]; first | done | omega)) only [O1, D2, ↓H0, S0, ↓S1, ↓S2, ↓S3, ↓S4, S5, S5b, S5c, ↓S6, S6b, M0, E0, ty, tl, te, tc, i64_wrap, u64_wrap, iaV_sl, iaV_arr, faV_pa, nck_pa, heap_new, heap_old, heap_set, ↓reduceIte, Nat.reduceEqDiff, Nat.reduceLT, Nat.reduceAdd, Int.reduceLT, Int.reduceLE, decide_false, decide_true, dec_true, dec_false, true_and, and_true, true_imp_iff, Bool.not_true, Bool.not_false, Option.map_none, Int.reduceToNat, Int.toNat_zero, Int.toNat_one, lkV_false, lkV_true, f1, f6, f11, f12, f13])
    · have hsl : s.toNat < known.length := by omega
      have hs2 := hx.rd (hB s.toNat hsl)
      have hBs := rd_isSome hs2
      have hD : known.getD s.toNat (-1) = known[s.toNat] := by simp [List.getD_eq_getElem?_getD, List.getElem?_eq_getElem hsl]
      have hbd := hb known[s.toNat] (List.getElem_mem _)
      have hnat : natAt known s = known[s.toNat].toNat := by unfold natAt; rw [hD]
      generalize known[s.toNat] = x at *
      simp (disch := first | omega | assumption | (simp only [O1, World.size_alloc, World.size_setCell, World.size_drew]; first | done | omega)) only [O1, D2, ↓H0, S0, ↓S1, ↓S2, ↓S3, ↓S4, S5, S5b, S5c, ↓S6, S6b, M0, E0, ty, tl, te, tc, i64_wrap, u64_wrap, iaV_sl, iaV_arr, faV_pa, nck_pa, heap_new, heap_old, heap_set, ↓reduceIte, Nat.reduceEqDiff, Nat.reduceLT, Nat.reduceAdd, Int.reduceLT, Int.reduceLE, decide_false, decide_true, dec_true, dec_false, true_and, and_true, true_imp_iff, Bool.not_true, Bool.not_false, Option.map_none, Int.reduceToNat, Int.toNat_zero, Int.toNat_one, lkV_false, lkV_true, f1, f6, f11, f12, f13, hs2]
      refine Br_if (fun h2 => ?_) (fun h2 => ?_) <;> (try simp (disch := first | omega | assumption | (simp only [O1, World.size_alloc, World.size_setCell, World.size_drew]; first | done | omega)) only [O1, D2, ↓H0, S0, ↓S1, ↓S2, ↓S3, ↓S4, S5, S5b, S5c, ↓S6, S6b, M0, E0, ty, tl, te, tc, i64_wrap, u64_wrap, iaV_sl, iaV_arr, faV_pa, nck_pa, heap_new, heap_old, heap_set, ↓reduceIte, Nat.reduceEqDiff, Nat.reduceLT, Nat.reduceAdd, Int.reduceLT, Int.reduceLE, decide_false, decide_true, dec_true, dec_false, true_and, and_true, true_imp_iff, Bool.not_true, Bool.not_false, Option.map_none, Int.reduceToNat, Int.toNat_zero, Int.toNat_one, lkV_false, lkV_true, f1, f6, f11, f12, f13])
      · exact ⟨.inl (notK (by rw [hD]; omega)), hx⟩
      · refine ⟨k - 1, by omega, i + 1, by omega, hstep.2 (by rw [hD]; omega), ?_, rfl⟩
        have e2 : x = ((x.toNat : Nat) : Int) := by omega
        rw [htk, costOf_snoc, costN_pos _ _ _ h1, hnat, Int.natCast_add, ← e2]
    · refine ⟨k - 1, by omega, i + 1, by omega, hstep.2 (by omega), ?_, rfl⟩
      rw [htk, costOf_snoc, costN_neg _ _ _ h1]
  · have : p.2.take i = p.2 := List.take_of_length_le (by omega)
    rw [this] at f6 hK ⊢
    exact ⟨.inr ⟨rfl, hK⟩, hx⟩
theorem repeat_ok (c : Int) (n : Nat) (xv : Value) (w : World) (hx : Ints w xv [c]) (hn1 : 1 ≤ n) (hn : n ≤ 1000000) :
    Ok Try.prog 89 #[xv, .int .i64 n] w fun v w' => (∃ G, v = sl G n ∧ w.heap.size ≤ G ∧ Own (.int .i64) 3 w' G (List.replicate n c)) ∧ Ext w w' := by
  obtain ⟨A, a, rfl, ha, hA⟩ := hx
  have hA0 := hA 0 (by simp)
  simp only [List.length_cons, List.length_nil, Nat.zero_add] at ha ⊢
  (refine Ok.enter Try.func89 rfl (by kernel_rfl) (Nat.le_of_ble_eq_true rfl) ?_; simp only [Try.f89, S7])
  have e1 : ((1 : Nat) : Int) = 1 := rfl
  simp (disch := first | omega | assumption | (simp only [O1, World.size_alloc, World.size_setCell, World.size_drew]; first | done | omega)) only [O1, D2, ↓H0, S0, ↓S1, ↓S2, ↓S3, ↓S4, S5, S5b, S5c, ↓S6, S6b, M0, E0, ty, tl, te, tc, i64_wrap, u64_wrap, iaV_sl, iaV_arr, faV_pa, nck_pa, heap_new, heap_old, heap_set, ↓reduceIte, Nat.reduceEqDiff, Nat.reduceLT, Nat.reduceAdd, Int.reduceLT, Int.reduceLE, decide_false, decide_true, dec_true, dec_false, true_and, and_true, true_imp_iff, Bool.not_true, Bool.not_false, Option.map_none, Int.reduceToNat, Int.toNat_zero, Int.toNat_one, lkV_false, lkV_true, e1]
  refine (mul_ok n hn w).then ?_; rintro _ w ⟨rfl, rfl⟩
  simp (disch := first | omega | assumption | (simp only [O1, World.size_alloc, World.size_setCell, World.size_drew]; first | done | omega)) only [O1, D2, ↓H0, S0, ↓S1, ↓S2, ↓S3, ↓S4, S5, S5b, S5c, ↓S6, S6b, M0, E0, ty, tl, te, tc, i64_wrap, u64_wrap, iaV_sl, iaV_arr, faV_pa, nck_pa, heap_new, heap_old, heap_set, ↓reduceIte, Nat.reduceEqDiff, Nat.reduceLT, Nat.reduceAdd, Int.reduceLT, Int.reduceLE, decide_false, decide_true, dec_true, dec_false, true_and, and_true, true_imp_iff, Bool.not_true, Bool.not_false, Option.map_none, Int.reduceToNat, Int.toNat_zero, Int.toNat_one, lkV_false, lkV_true]
  refine RunM_own (enc := Value.int .i64) (z := 0) sl23 rfl (by omega) (by omega) ?_
  intro W hWs hxW hO
  generalize hG : w.heap.size = G at hO ⊢
  simp (disch := first | omega | assumption | (simp only [O1, World.size_alloc, World.size_setCell, World.size_drew]; first | done | omega)) only [O1, D2, ↓H0, S0, ↓S1, ↓S2, ↓S3, ↓S4, S5, S5b, S5c, ↓S6, S6b, M0, E0, ty, tl, te, tc, i64_wrap, u64_wrap, iaV_sl, iaV_arr, faV_pa, nck_pa, heap_new, heap_old, heap_set, ↓reduceIte, Nat.reduceEqDiff, Nat.reduceLT, Nat.reduceAdd, Int.reduceLT, Int.reduceLE, decide_false, decide_true, dec_true, dec_false, true_and, and_true, true_imp_iff, Bool.not_true, Bool.not_false, Option.map_none, Int.reduceToNat, Int.toNat_zero, Int.toNat_one, lkV_false, lkV_true, vop_copy, sl]
  refine RunC_own (r := [c]) sl23 hO (fun _ => rfl) (fun j hj => ?_) (by simp; omega) (by simp) (by simp; omega) ?_
  · have hj0 : j = 0 := by simpa using hj
    subst hj0; exact hxW.rd hA0
  intro W2 hg2 hO2
  have hx2 : Ext w W2 := hxW.grown' hg2 (fun k hk => by cases hk; omega)
  simp (disch := first | omega | assumption | (simp only [O1, World.size_alloc, World.size_setCell, World.size_drew]; first | done | omega)) only [O1, D2, ↓H0, S0, ↓S1, ↓S2, ↓S3, ↓S4, S5, S5b, S5c, ↓S6, S6b, M0, E0, ty, tl, te, tc, i64_wrap, u64_wrap, iaV_sl, iaV_arr, faV_pa, nck_pa, heap_new, heap_old, heap_set, ↓reduceIte, Nat.reduceEqDiff, Nat.reduceLT, Nat.reduceAdd, Int.reduceLT, Int.reduceLE, decide_false, decide_true, dec_true, dec_false, true_and, and_true, true_imp_iff, Bool.not_true, Bool.not_false, Option.map_none, Int.reduceToNat, Int.toNat_zero, Int.toNat_one, lkV_false, lkV_true, List.length_cons, List.length_nil]
  refine ⟨fun k t W => ∃ bp : Nat, k + bp = n ∧ 1 ≤ bp ∧ Ext w W ∧ Own (.int .i64) 3 W G (List.replicate bp c ++ List.replicate (n - bp) 0) ∧ t 7 = .slice (some ⟨G, 0, none⟩) n n ∧ t 8 = .int .i64 bp, ⟨n - 1, 1, by omega, by omega, hx2, ?_, ?_⟩, ?_⟩
  · have : List.replicate 1 c ++ List.replicate (n - 1) 0 = List.take 0 (List.replicate n 0) ++ [c] ++ List.drop (0 + [c].length) (List.replicate n (0 : Int)) := by simp
    rw [this]; exact hO2
  · simp (disch := first | omega | assumption | (simp only [O1, World.size_alloc, World.size_setCell, World.size_drew]; first | done | omega)) only [O1, D2, ↓H0, S0, ↓S1, ↓S2, ↓S3, ↓S4, S5, S5b, S5c, ↓S6, S6b, M0, E0, ty, tl, te, tc, i64_wrap, u64_wrap, iaV_sl, iaV_arr, faV_pa, nck_pa, heap_new, heap_old, heap_set, ↓reduceIte, Nat.reduceEqDiff, Nat.reduceLT, Nat.reduceAdd, Int.reduceLT, Int.reduceLE, decide_false, decide_true, dec_true, dec_false, true_and, and_true, true_imp_iff, Bool.not_true, Bool.not_false, Option.map_none, Int.reduceToNat, Int.toNat_zero, Int.toNat_one, lkV_false, lkV_true]
  clear hO hg2 hO2 hx2 hxW
  rintro k t W ⟨bp, hk, hb1, hx, hO, f7, f8⟩
  simp (disch := first | omega | assumption | (simp only [O1, World.size_alloc, World.size_setCell, World.size_drew]; first | done | omega)) only [O1, D2, ↓H0, S0, ↓S1, ↓S2, ↓S3, ↓S4, S5, S5b, S5c, ↓S6, S6b, M0, E0, ty, tl, te, tc, i64_wrap, u64_wrap, iaV_sl, iaV_arr, faV_pa, nck_pa, heap_new, heap_old, heap_set, ↓reduceIte, Nat.reduceEqDiff, Nat.reduceLT, Nat.reduceAdd, Int.reduceLT, Int.reduceLE, decide_false, decide_true, dec_true, dec_false, true_and, and_true, true_imp_iff, Bool.not_true, Bool.not_false, Option.map_none, Int.reduceToNat, Int.toNat_zero, Int.toNat_one, lkV_false, lkV_true, f7, f8]
  refine Br_if (fun h => ?_) (fun h' => ?_) <;> (try simp (disch := first | omega | assumption | (simp only [O1, World.size_alloc, World.size_setCell, World.size_drew]; first | done | omega)) only [O1, D2, ↓H0, S0, ↓S1, ↓S2, ↓S3, ↓S4, S5, S5b, S5c, ↓S6, S6b, M0, E0, ty, tl, te, tc, i64_wrap, u64_wrap, iaV_sl, iaV_arr, faV_pa, nck_pa, heap_new, heap_old, heap_set, ↓reduceIte, Nat.reduceEqDiff, Nat.reduceLT, Nat.reduceAdd, Int.reduceLT, Int.reduceLE, decide_false, decide_true, dec_true, dec_false, true_and, and_true, true_imp_iff, Bool.not_true, Bool.not_false, Option.map_none, Int.reduceToNat, Int.toNat_zero, Int.toNat_one, lkV_false, lkV_true, f7, f8])
  · have hbn : bp < n := by omega
    have s1 := slV_lo (g := G) (o := 0) (k := .i64) sl23 (show bp ≤ n by omega) (Nat.le_refl n) (by omega)
    have s2 := slV_hi (A := some ⟨G, 0, none⟩) (k := .i64) sl23 (show bp ≤ n by omega) (Nat.le_refl n)
    obtain ⟨m, hm⟩ : ∃ m, m = min bp (n - bp) := ⟨_, rfl⟩
    have hGx := hO.lt
    refine Dr_plan [G] (fun _ => true) [0, 1, 2, 3, 4, 5, 6, 7, 8, 9] mixed (by kernel_rfl) ?_
    simp (disch := first | omega | assumption | (simp only [O1, World.size_alloc, World.size_setCell, World.size_drew]; first | done | omega)) only [↓D1, ↓D3, ↓D4, List.not_mem_nil, not_false_eq_true, Bool.false_eq_true, false_imp_iff, upto, O1, D2, ↓H0, S0, ↓S1, ↓S2, ↓S3, ↓S4, S5, S5b, S5c, ↓S6, S6b, M0, E0, ty, tl, te, tc, i64_wrap, u64_wrap, iaV_sl, iaV_arr, faV_pa, nck_pa, heap_new, heap_old, heap_set, ↓reduceIte, Nat.reduceEqDiff, Nat.reduceLT, Nat.reduceAdd, Int.reduceLT, Int.reduceLE, decide_false, decide_true, dec_true, dec_false, true_and, and_true, true_imp_iff, Bool.not_true, Bool.not_false, Option.map_none, Int.reduceToNat, Int.toNat_zero, Int.toNat_one, lkV_false, lkV_true, f7, f8, s1, s2, vopK_copy]
    refine RunC_own (r := List.replicate m c) sl23 (hO : Own (.int .i64) 3 W.drew G _) (fun _ => rfl) (fun j hj => ?_) (by simp; omega) (by simp; omega) (by simp; omega) ?_
    · have hjm : j < m := by simpa using hj
      have := Own.rd (w := W.drew) hO j (by simp; omega)
      rw [this]
      congr 2
      rw [List.getElem_replicate, List.getElem_append_left (by simp; omega), List.getElem_replicate]
    intro W3 hg3 hO3
    have hK3 : Keep [G] W.drew W3 := Keep.of_grown hg3 (fun g hg => by cases hg; simp)
    simp (disch := first | omega | assumption | (simp only [O1, World.size_alloc, World.size_setCell, World.size_drew]; first | done | omega)) only [↓D1, ↓D3, ↓D4, List.not_mem_nil, not_false_eq_true, Bool.false_eq_true, false_imp_iff, upto, O1, D2, ↓H0, S0, ↓S1, ↓S2, ↓S3, ↓S4, S5, S5b, S5c, ↓S6, S6b, M0, E0, ty, tl, te, tc, i64_wrap, u64_wrap, iaV_sl, iaV_arr, faV_pa, nck_pa, heap_new, heap_old, heap_set, ↓reduceIte, Nat.reduceEqDiff, Nat.reduceLT, Nat.reduceAdd, Int.reduceLT, Int.reduceLE, decide_false, decide_true, dec_true, dec_false, true_and, and_true, true_imp_iff, Bool.not_true, Bool.not_false, Option.map_none, Int.reduceToNat, Int.toNat_zero, Int.toNat_one, lkV_false, lkV_true, f7, f8, hK3, List.length_replicate]
    have hx3 : Ext w W3 := (hx.dr).grown' hg3 (fun k hk => by cases hk; omega)
    refine ⟨k - m, by omega, bp + m, by omega, by omega, hx3, ?_, ?_⟩
    · have : List.replicate (bp + m) c ++ List.replicate (n - (bp + m)) 0 = List.take bp (List.replicate bp c ++ List.replicate (n - bp) 0) ++ List.replicate m c ++ List.drop (bp + (List.replicate m c).length) (List.replicate bp c ++ List.replicate (n - bp) (0 : Int)) := by
        rw [List.take_append_of_le_length (by simp), List.take_of_length_le (by simp), List.length_replicate, List.drop_append]
        simp [List.replicate_append_replicate, Nat.sub_sub]
      rw [this]; simpa using hO3
    · rfl
  · obtain rfl : bp = n := by omega
    refine ⟨⟨G, rfl, by omega, by simpa using hO⟩, hx⟩
/-- What a production says of the lengths. -/
def ClosedAt (l : List Int) (p : Int × List Int) : Prop := Known l p.2 → 0 ≤ l.getD p.1.toNat (-1) ∧ l.getD p.1.toNat (-1) ≤ (costOf (natAt l) p.2 : Nat)
theorem SoundP.inR {g : PG} (h : SoundP g) : InR g.names.length g.prods := by
  intro p hp
  obtain ⟨i, hi, rfl⟩ := List.mem_iff_getElem.1 hp
  have := h.2.2 i hi
  exact ⟨⟨this.1, this.2.1⟩, fun s hs => (this.2.2.2.2 s hs).1⟩
theorem ShortI.bounds {n : Nat} {ps : List (Int × List Int)} {l : List Int} (h : ShortI n ps l) : ∀ x ∈ l, -1 ≤ x ∧ x ≤ 1099511627776 := by
  intro x hx
  obtain ⟨i, hi⟩ := List.getElem?_of_mem hx
  rcases h.2 i x hi with rfl | ⟨m, rfl, hm, _⟩
  · omega
  · omega
set_option maxHeartbeats 2000000 in
theorem shortest_ok (v : Value) (g : PG) (w : World) (hg : RepPG w v g) (hs : SmallP g) :
    Ok Try.prog 32 #[v] w fun v w' => ((¬ SoundP g ∧ v = .slice none 0 0) ∨ (SoundP g ∧ ∃ l, Ints w' v l ∧ Short g.names.length g.prods l)) ∧ Ext w w' := by
  have hg0 := hg
  obtain ⟨nv, tv, pv, rfl, hN, hT, hp⟩ := hg
  obtain ⟨A, a, rfl, ha, hA⟩ := hN
  obtain ⟨C, c, rfl, hc, hC⟩ := hp
  obtain ⟨s1, s2, s3, s4⟩ := hs
  (refine Ok.enter Try.func32 rfl (by kernel_rfl) (Nat.le_of_ble_eq_true rfl) ?_; simp only [Try.f32, S7])
  simp (disch := first | omega | assumption | (simp only [O1, World.size_alloc, World.size_setCell, World.size_drew]; first | done | omega)) only [O1, D2, ↓H0, S0, ↓S1, ↓S2, ↓S3, ↓S4, S5, S5b, S5c, ↓S6, S6b, M0, E0, ty, tl, te, tc, i64_wrap, u64_wrap, iaV_sl, iaV_arr, faV_pa, nck_pa, heap_new, heap_old, heap_set, ↓reduceIte, Nat.reduceEqDiff, Nat.reduceLT, Nat.reduceAdd, Int.reduceLT, Int.reduceLE, decide_false, decide_true, dec_true, dec_false, true_and, and_true, true_imp_iff, Bool.not_true, Bool.not_false, Option.map_none, Int.reduceToNat, Int.toNat_zero, Int.toNat_one, lkV_false, lkV_true]
  have hx0 := (Ext.rfl' w).al (.cells #[.int .i64 g.start, .int .i64 g.rules, .slice A g.names.length a, tv, .slice C g.prods.length c] 41)
  have hb0 := heap_new (w := w) (.cells #[.int .i64 g.start, .int .i64 g.rules, .slice A g.names.length a, tv, .slice C g.prods.length c] 41) rfl
  simp (disch := first | omega | assumption | (simp only [O1, World.size_alloc, World.size_setCell, World.size_drew]; first | done | omega)) only [O1, D2, ↓H0, S0, ↓S1, ↓S2, ↓S3, ↓S4, S5, S5b, S5c, ↓S6, S6b, M0, E0, ty, tl, te, tc, i64_wrap, u64_wrap, iaV_sl, iaV_arr, faV_pa, nck_pa, heap_new, heap_old, heap_set, ↓reduceIte, Nat.reduceEqDiff, Nat.reduceLT, Nat.reduceAdd, Int.reduceLT, Int.reduceLE, decide_false, decide_true, dec_true, dec_false, true_and, and_true, true_imp_iff, Bool.not_true, Bool.not_false, Option.map_none, Int.reduceToNat, Int.toNat_zero, Int.toNat_one, lkV_false, lkV_true, ldA5]
  refine (sound_ok _ g _ (hg0.ext hx0) ⟨s1, s2, s3, s4⟩).then ?_; rintro _ W ⟨⟨b, rfl, hb⟩, hx1⟩
  have hxW := hx0.tr hx1
  have hbW := hx1.hp hb0
  cases b with
  | false =>
    simp (disch := first | omega | assumption | (simp only [O1, World.size_alloc, World.size_setCell, World.size_drew]; first | done | omega)) only [O1, D2, ↓H0, S0, ↓S1, ↓S2, ↓S3, ↓S4, S5, S5b, S5c, ↓S6, S6b, M0, E0, ty, tl, te, tc, i64_wrap, u64_wrap, iaV_sl, iaV_arr, faV_pa, nck_pa, heap_new, heap_old, heap_set, ↓reduceIte, Nat.reduceEqDiff, Nat.reduceLT, Nat.reduceAdd, Int.reduceLT, Int.reduceLE, decide_false, decide_true, dec_true, dec_false, true_and, and_true, true_imp_iff, Bool.not_true, Bool.not_false, Option.map_none, Int.reduceToNat, Int.toNat_zero, Int.toNat_one, lkV_false, lkV_true]
    exact ⟨.inl fun h => by have := hb.2 h; simp at this, hxW⟩
  | true =>
    have hS := hb.1 rfl
    have hin := hS.inR
    have hx0s : w.heap.size < W.heap.size := lt_heap hbW
    simp (disch := first | omega | assumption | (simp only [O1, World.size_alloc, World.size_setCell, World.size_drew]; first | done | omega)) only [O1, D2, ↓H0, S0, ↓S1, ↓S2, ↓S3, ↓S4, S5, S5b, S5c, ↓S6, S6b, M0, E0, ty, tl, te, tc, i64_wrap, u64_wrap, iaV_sl, iaV_arr, faV_pa, nck_pa, heap_new, heap_old, heap_set, ↓reduceIte, Nat.reduceEqDiff, Nat.reduceLT, Nat.reduceAdd, Int.reduceLT, Int.reduceLE, decide_false, decide_true, dec_true, dec_false, true_and, and_true, true_imp_iff, Bool.not_true, Bool.not_false, Option.map_none, Int.reduceToNat, Int.toNat_zero, Int.toNat_one, lkV_false, lkV_true, hbW, bsl1 sl23]
    have hx2 := (Ext.rfl' W).al (.cells #[.int .i64 (-1)] 3)
    refine (repeat_ok (-1) g.names.length _ _ ⟨some ⟨W.heap.size, 0, none⟩, 1, rfl, by simp, fun i hi => ?_⟩ (by have := hS.1.1; omega) (by have := hS.1.2.1; omega)).then ?_
    · rw [rd_own, heap_new _ rfl]
      have hi0 : i = 0 := by simpa using hi
      subst hi0; rfl
    rintro _ W2 ⟨⟨G, rfl, hGl, hO⟩, hx3⟩
    simp only [World.size_alloc] at hGl
    have hxs := hxW.size
    have hb2 := (hx2.tr hx3).hp hbW
    have hxW2 := (hxW.tr hx2).tr hx3
    simp (disch := first | omega | assumption | (simp only [O1, World.size_alloc, World.size_setCell, World.size_drew]; first | done | omega)) only [O1, D2, ↓H0, S0, ↓S1, ↓S2, ↓S3, ↓S4, S5, S5b, S5c, ↓S6, S6b, M0, E0, ty, tl, te, tc, i64_wrap, u64_wrap, iaV_sl, iaV_arr, faV_pa, nck_pa, heap_new, heap_old, heap_set, ↓reduceIte, Nat.reduceEqDiff, Nat.reduceLT, Nat.reduceAdd, Int.reduceLT, Int.reduceLE, decide_false, decide_true, dec_true, dec_false, true_and, and_true, true_imp_iff, Bool.not_true, Bool.not_false, Option.map_none, Int.reduceToNat, Int.toNat_zero, Int.toNat_one, lkV_false, lkV_true, sl]
    refine ⟨fun k t U => ∃ (l : List Int) (m : Bool), k = 2 * left l + (if m then 1 else 0) ∧ ShortI g.names.length g.prods l ∧ (m = false → ∀ p ∈ g.prods, ClosedAt l p) ∧ Ext w U ∧ Own (.int .i64) 3 U G l ∧
      U.heap[w.heap.size]? = some (.cells #[.int .i64 g.start, .int .i64 g.rules, .slice A g.names.length a, tv, .slice C g.prods.length c] 41 (0, 0)) ∧
      t 1 = pa (some ⟨w.heap.size, 0, none⟩) 0 ∧ t 3 = .slice (some ⟨G, 0, none⟩) g.names.length g.names.length ∧ t 4 = .bool m, ⟨_, List.replicate g.names.length (-1), true, rfl, ShortI.start _ _, by simp, hxW2, hO, hb2, ?_⟩, ?_⟩
    · simp (disch := first | omega | assumption | (simp only [O1, World.size_alloc, World.size_setCell, World.size_drew]; first | done | omega)) only [O1, D2, ↓H0, S0, ↓S1, ↓S2, ↓S3, ↓S4, S5, S5b, S5c, ↓S6, S6b, M0, E0, ty, tl, te, tc, i64_wrap, u64_wrap, iaV_sl, iaV_arr, faV_pa, nck_pa, heap_new, heap_old, heap_set, ↓reduceIte, Nat.reduceEqDiff, Nat.reduceLT, Nat.reduceAdd, Int.reduceLT, Int.reduceLE, decide_false, decide_true, dec_true, dec_false, true_and, and_true, true_imp_iff, Bool.not_true, Bool.not_false, Option.map_none, Int.reduceToNat, Int.toNat_zero, Int.toNat_one, lkV_false, lkV_true]
    clear hxW2 hb2 hx3 hx2 hbW hxW hb0 hx0
    rintro k t U ⟨l, m, rfl, hI, hcl, hx, hO, hbx, f1, f3, f4⟩
    simp (disch := first | omega | assumption | (simp only [O1, World.size_alloc, World.size_setCell, World.size_drew]; first | done | omega)) only [O1, D2, ↓H0, S0, ↓S1, ↓S2, ↓S3, ↓S4, S5, S5b, S5c, ↓S6, S6b, M0, E0, ty, tl, te, tc, i64_wrap, u64_wrap, iaV_sl, iaV_arr, faV_pa, nck_pa, heap_new, heap_old, heap_set, ↓reduceIte, Nat.reduceEqDiff, Nat.reduceLT, Nat.reduceAdd, Int.reduceLT, Int.reduceLE, decide_false, decide_true, dec_true, dec_false, true_and, and_true, true_imp_iff, Bool.not_true, Bool.not_false, Option.map_none, Int.reduceToNat, Int.toNat_zero, Int.toNat_one, lkV_false, lkV_true, f1, f3, f4]
    cases m with
    | false =>
      simp (disch := first | omega | assumption | (simp only [O1, World.size_alloc, World.size_setCell, World.size_drew]; first | done | omega)) only [O1, D2, ↓H0, S0, ↓S1, ↓S2, ↓S3, ↓S4, S5, S5b, S5c, ↓S6, S6b, M0, E0, ty, tl, te, tc, i64_wrap, u64_wrap, iaV_sl, iaV_arr, faV_pa, nck_pa, heap_new, heap_old, heap_set, ↓reduceIte, Nat.reduceEqDiff, Nat.reduceLT, Nat.reduceAdd, Int.reduceLT, Int.reduceLE, decide_false, decide_true, dec_true, dec_false, true_and, and_true, true_imp_iff, Bool.not_true, Bool.not_false, Option.map_none, Int.reduceToNat, Int.toNat_zero, Int.toNat_one, lkV_false, lkV_true, f1, f3, f4]
      have := hO.sq
      rw [hI.1] at this
      exact ⟨.inr ⟨hS, l, this, hI.done hin (hcl rfl)⟩, hx⟩
    | true =>
      simp (disch := first | omega | assumption | (simp only [O1, World.size_alloc, World.size_setCell, World.size_drew]; first | done | omega)) only [O1, D2, ↓H0, S0, ↓S1, ↓S2, ↓S3, ↓S4, S5, S5b, S5c, ↓S6, S6b, M0, E0, ty, tl, te, tc, i64_wrap, u64_wrap, iaV_sl, iaV_arr, faV_pa, nck_pa, heap_new, heap_old, heap_set, ↓reduceIte, Nat.reduceEqDiff, Nat.reduceLT, Nat.reduceAdd, Int.reduceLT, Int.reduceLE, decide_false, decide_true, dec_true, dec_false, true_and, and_true, true_imp_iff, Bool.not_true, Bool.not_false, Option.map_none, Int.reduceToNat, Int.toNat_zero, Int.toNat_one, lkV_false, lkV_true, f1, f3, f4, hbx]
      refine ⟨fun k2 t U => ∃ (j : Nat) (l2 : List Int) (m : Bool), k2 + j = g.prods.length ∧ (m = true → left l2 < left l) ∧ left l2 ≤ left l ∧ ShortI g.names.length g.prods l2 ∧ (m = false → ∀ i (h : i < g.prods.length), i < j → ClosedAt l2 g.prods[i]) ∧ Ext w U ∧ Own (.int .i64) 3 U G l2 ∧
        U.heap[w.heap.size]? = some (.cells #[.int .i64 g.start, .int .i64 g.rules, .slice A g.names.length a, tv, .slice C g.prods.length c] 41 (0, 0)) ∧
        t 1 = pa (some ⟨w.heap.size, 0, none⟩) 0 ∧ t 3 = .slice (some ⟨G, 0, none⟩) g.names.length g.names.length ∧ t 4 = .bool m ∧ t 19 = .slice C g.prods.length c ∧ t 20 = .int .i64 g.prods.length ∧ t 21 = .int .i64 j,
        ⟨g.prods.length, 0, l, false, by omega, by simp, Nat.le_refl _, hI, fun _ i _ h => by omega, hx, hO, hbx, ?_⟩, ?_⟩
      · simp (disch := first | omega | assumption | (simp only [O1, World.size_alloc, World.size_setCell, World.size_drew]; first | done | omega)) only [O1, D2, ↓H0, S0, ↓S1, ↓S2, ↓S3, ↓S4, S5, S5b, S5c, ↓S6, S6b, M0, E0, ty, tl, te, tc, i64_wrap, u64_wrap, iaV_sl, iaV_arr, faV_pa, nck_pa, heap_new, heap_old, heap_set, ↓reduceIte, Nat.reduceEqDiff, Nat.reduceLT, Nat.reduceAdd, Int.reduceLT, Int.reduceLE, decide_false, decide_true, dec_true, dec_false, true_and, and_true, true_imp_iff, Bool.not_true, Bool.not_false, Option.map_none, Int.reduceToNat, Int.toNat_zero, Int.toNat_one, lkV_false, lkV_true, f1, f3, f4]
        rfl
      clear hI hcl hx hO hbx f1 f3 f4
      rintro k2 t U ⟨j, l2, m, hk2, hm1, hm2, hI, hcl, hx, hO, hbx, f1, f3, f4, f19, f20, f21⟩
      simp (disch := first | omega | assumption | (simp only [O1, World.size_alloc, World.size_setCell, World.size_drew]; first | done | omega)) only [O1, D2, ↓H0, S0, ↓S1, ↓S2, ↓S3, ↓S4, S5, S5b, S5c, ↓S6, S6b, M0, E0, ty, tl, te, tc, i64_wrap, u64_wrap, iaV_sl, iaV_arr, faV_pa, nck_pa, heap_new, heap_old, heap_set, ↓reduceIte, Nat.reduceEqDiff, Nat.reduceLT, Nat.reduceAdd, Int.reduceLT, Int.reduceLE, decide_false, decide_true, dec_true, dec_false, true_and, and_true, true_imp_iff, Bool.not_true, Bool.not_false, Option.map_none, Int.reduceToNat, Int.toNat_zero, Int.toNat_one, lkV_false, lkV_true, f1, f3, f4, f19, f20, f21]
      refine Br_if (fun h => ?_) (fun h' => ?_) <;> (try simp (disch := first | omega | assumption | (simp only [O1, World.size_alloc, World.size_setCell, World.size_drew]; first | done | omega)) only [O1, D2, ↓H0, S0, ↓S1, ↓S2, ↓S3, ↓S4, S5, S5b, S5c, ↓S6, S6b, M0, E0, ty, tl, te, tc, i64_wrap, u64_wrap, iaV_sl, iaV_arr, faV_pa, nck_pa, heap_new, heap_old, heap_set, ↓reduceIte, Nat.reduceEqDiff, Nat.reduceLT, Nat.reduceAdd, Int.reduceLT, Int.reduceLE, decide_false, decide_true, dec_true, dec_false, true_and, and_true, true_imp_iff, Bool.not_true, Bool.not_false, Option.map_none, Int.reduceToNat, Int.toNat_zero, Int.toNat_one, lkV_false, lkV_true, f1, f3, f4, f19, f20, f21])
      · have hj : j < g.prods.length := by omega
        obtain ⟨hl, r, hr, hR⟩ := hC j hj
        have hR0 := hR
        obtain ⟨D, d, rfl, hd, hD⟩ := hR
        have hl' := hx.rd hl
        have hr' := hx.rd hr
        have hAs := rd_isSome hl
        have hmem : g.prods[j] ∈ g.prods := List.getElem_mem _
        generalize hp : g.prods[j] = p at *
        obtain ⟨⟨hp0, hp1⟩, hps⟩ := hin p hmem
        have hlen := s4 p hmem
        simp (disch := first | omega | assumption | (simp only [O1, World.size_alloc, World.size_setCell, World.size_drew]; first | done | omega)) only [O1, D2, ↓H0, S0, ↓S1, ↓S2, ↓S3, ↓S4, S5, S5b, S5c, ↓S6, S6b, M0, E0, ty, tl, te, tc, i64_wrap, u64_wrap, iaV_sl, iaV_arr, faV_pa, nck_pa, heap_new, heap_old, heap_set, ↓reduceIte, Nat.reduceEqDiff, Nat.reduceLT, Nat.reduceAdd, Int.reduceLT, Int.reduceLE, decide_false, decide_true, dec_true, dec_false, true_and, and_true, true_imp_iff, Bool.not_true, Bool.not_false, Option.map_none, Int.reduceToNat, Int.toNat_zero, Int.toNat_one, lkV_false, lkV_true, f1, f3, f4, f19, f20, f21, hl', hr', ldA2, st35]
        have hU1 := (Ext.rfl' U).al (.cells #[.int .i64 p.1, .slice D p.2.length d] 35)
        have hU1' := hU1
        refine (length_ok p _ _ l2 _ (hR0.ext (hx.tr hU1)) (by have := (hO.ext hU1).sq; rw [hI.1] at this; exact this) (fun s hs => by rw [hI.1]; exact hps s hs) hI.bounds hlen).then ?_
        rintro _ V ⟨hlv, hxV⟩
        have hUV := hU1.tr hxV
        have hOV := hO.ext hUV
        have hbV := hUV.hp hbx
        have hqV := hxV.hp (heap_new (w := U) (.cells #[.int .i64 p.1, .slice D p.2.length d] 35) rfl)
        have hxV' := hx.tr hUV
        have hGV := hOV.lt
        have hp1' : p.1.toNat < l2.length := by rw [hI.1]; omega
        have hrdG := hOV.rd p.1.toNat hp1'
        have hgD : l2.getD p.1.toNat (-1) = l2[p.1.toNat] := by simp [List.getD_eq_getElem?_getD, List.getElem?_eq_getElem hp1']
        have hsz := hO.lt
        have stay : ClosedAt l2 p → m = false → ∀ i (h : i < g.prods.length), i < j + 1 → ClosedAt l2 g.prods[i] := fun hc hm i hi hij => by
          by_cases e : i = j
          · subst e; rw [hp]; exact hc
          · exact hcl hm i hi (by omega)
        rcases hlv with ⟨rfl, hK⟩ | ⟨rfl, hK⟩
        · simp (disch := first | omega | assumption | (simp only [O1, World.size_alloc, World.size_setCell, World.size_drew]; first | done | omega)) only [O1, D2, ↓H0, S0, ↓S1, ↓S2, ↓S3, ↓S4, S5, S5b, S5c, ↓S6, S6b, M0, E0, ty, tl, te, tc, i64_wrap, u64_wrap, iaV_sl, iaV_arr, faV_pa, nck_pa, heap_new, heap_old, heap_set, ↓reduceIte, Nat.reduceEqDiff, Nat.reduceLT, Nat.reduceAdd, Int.reduceLT, Int.reduceLE, decide_false, decide_true, dec_true, dec_false, true_and, and_true, true_imp_iff, Bool.not_true, Bool.not_false, Option.map_none, Int.reduceToNat, Int.toNat_zero, Int.toNat_one, lkV_false, lkV_true, f1, f3, f4, f19, f20, f21]
          exact ⟨k2 - 1, by omega, j + 1, l2, m, by omega, hm1, hm2, hI, stay fun h => absurd h hK, hxV', hOV, hbV, rfl, rfl⟩
        · have hcle := costOf_le (natAt l2) p.2
          generalize hco : costOf (natAt l2) p.2 = n at *
          have hold : l2[p.1.toNat]? = some l2[p.1.toNat] := List.getElem?_eq_getElem hp1'
          have upd' : (l2[p.1.toNat] < 0 ∨ (n : Int) < l2[p.1.toNat]) → ShortI g.names.length g.prods (l2.set p.1.toNat (n : Nat)) ∧ left (l2.set p.1.toNat (n : Nat)) < left l2 := fun h => ⟨hco ▸ hI.set hmem hp0 hK hin, left_set hold hcle h⟩
          have hst := fun (hn : True) => Own.sto (P := Try.prog) (t := 3) hOV (by simp only [ty]) p.1.toNat hp1' (n : Int) rfl
          have hst := hst trivial
          have hO3 := hOV.set p.1.toNat (n : Int)
          have hx3 : Ext w (V.setCell ⟨G, p.1.toNat, none⟩ (.int .i64 (n : Int))) := hxV'.st (by omega) _
          have hb3 : (V.setCell ⟨G, p.1.toNat, none⟩ (.int .i64 (n : Int))).heap[w.heap.size]? = _ := (heap_set _ (by omega)).trans hbV
          generalize hy : l2[p.1.toNat] = y at *
          simp (disch := first | omega | assumption | (simp only [O1, World.size_alloc, World.size_setCell, World.size_drew]; first | done | omega)) only [O1, D2, ↓H0, S0, ↓S1, ↓S2, ↓S3, ↓S4, S5, S5b, S5c, ↓S6, S6b, M0, E0, ty, tl, te, tc, i64_wrap, u64_wrap, iaV_sl, iaV_arr, faV_pa, nck_pa, heap_new, heap_old, heap_set, ↓reduceIte, Nat.reduceEqDiff, Nat.reduceLT, Nat.reduceAdd, Int.reduceLT, Int.reduceLE, decide_false, decide_true, dec_true, dec_false, true_and, and_true, true_imp_iff, Bool.not_true, Bool.not_false, Option.map_none, Int.reduceToNat, Int.toNat_zero, Int.toNat_one, lkV_false, lkV_true, f1, f3, f4, f19, f20, f21, hqV, hrdG]
          refine Br_if (fun h1 => ?_) (fun h1 => ?_) <;> (try simp (disch := first | omega | assumption | (simp only [O1, World.size_alloc, World.size_setCell, World.size_drew]; first | done | omega)) only [O1, D2, ↓H0, S0, ↓S1, ↓S2, ↓S3, ↓S4, S5, S5b, S5c, ↓S6, S6b, M0, E0, ty, tl, te, tc, i64_wrap, u64_wrap, iaV_sl, iaV_arr, faV_pa, nck_pa, heap_new, heap_old, heap_set, ↓reduceIte, Nat.reduceEqDiff, Nat.reduceLT, Nat.reduceAdd, Int.reduceLT, Int.reduceLE, decide_false, decide_true, dec_true, dec_false, true_and, and_true, true_imp_iff, Bool.not_true, Bool.not_false, Option.map_none, Int.reduceToNat, Int.toNat_zero, Int.toNat_one, lkV_false, lkV_true, f1, f3, f4, f19, f20, f21, hqV, hrdG, hst])
          · obtain ⟨i1, i2⟩ := upd' (.inl h1)
            exact ⟨k2 - 1, by omega, j + 1, _, true, by omega, fun _ => by omega, by omega, i1, by simp, hx3, hO3, hbV, rfl, rfl⟩
          · refine Br_if (fun h2 => ?_) (fun h2 => ?_) <;> (try simp (disch := first | omega | assumption | (simp only [O1, World.size_alloc, World.size_setCell, World.size_drew]; first | done | omega)) only [O1, D2, ↓H0, S0, ↓S1, ↓S2, ↓S3, ↓S4, S5, S5b, S5c, ↓S6, S6b, M0, E0, ty, tl, te, tc, i64_wrap, u64_wrap, iaV_sl, iaV_arr, faV_pa, nck_pa, heap_new, heap_old, heap_set, ↓reduceIte, Nat.reduceEqDiff, Nat.reduceLT, Nat.reduceAdd, Int.reduceLT, Int.reduceLE, decide_false, decide_true, dec_true, dec_false, true_and, and_true, true_imp_iff, Bool.not_true, Bool.not_false, Option.map_none, Int.reduceToNat, Int.toNat_zero, Int.toNat_one, lkV_false, lkV_true, f1, f3, f4, f19, f20, f21, hqV, hrdG, hst])
            · obtain ⟨i1, i2⟩ := upd' (.inr h2)
              exact ⟨k2 - 1, by omega, j + 1, _, true, by omega, fun _ => by omega, by omega, i1, by simp, hx3, hO3, hbV, rfl, rfl⟩
            · refine ⟨k2 - 1, by omega, j + 1, l2, m, by omega, hm1, hm2, hI, stay fun _ => ?_, hxV', hOV, hbV, rfl, rfl⟩
              rw [hgD, hco]; omega
      · have hj : j = g.prods.length := by omega
        refine ⟨2 * left l2 + (if m then 1 else 0), ?_, l2, m, rfl, hI, fun hm p hp => ?_, hx, hO, hbx, rfl⟩
        · cases m with
          | true => have := hm1 rfl; simp; omega
          | false => simp; omega
        · obtain ⟨i, hi, rfl⟩ := List.mem_iff_getElem.1 hp
          exact hcl hm i hi (by omega)
end Go.Proofs.Ytgioklmpnbnplaa
namespace Go.Proofs.Ytgioklmpnbnplaa
open Go.V

abbrev IV := Value.int .i64
theorem close1_ok (a : Int) (n bi bw I base : Nat) (l : List Bool) (wv : Value) (work : List Int) (w : World) (h1 : w.heap[bi]? = some (.cells #[.slice (some ⟨I, 0, none⟩) n n] 53 (0, 0))) (hI : Own Value.bool 4 w I l) (hl : l.length = n)
    (h2 : w.heap[bw]? = some (.cells #[wv] 23 (0, 0))) (hW : Row IV base 3 w wv work) (hb : base ≤ w.heap.size) (hn : work.length < 1000000000) (ha0 : 0 ≤ a) (ha : a < n) :
    Ok Try.prog 134 (#[] ++ #[.int .i64 a] ++ #[pa (some ⟨bi, 0, none⟩) 0, pa (some ⟨bw, 0, none⟩) 0]) w fun v w' =>
      (l[a.toNat]? = some true ∧ w' = w) ∨ (l[a.toNat]? = some false ∧ ∃ wv', Own Value.bool 4 w' I (l.set a.toNat true) ∧ w'.heap[bw]? = some (.cells #[wv'] 23 (0, 0)) ∧ Row IV base 3 w' wv' (work ++ [a]) ∧
        Chg (fun k => k = I ∨ k = bw ∨ wv.ownBlock = some k) w w' ∧ (wv'.ownBlock = wv.ownBlock ∨ ∃ b, wv'.ownBlock = some b ∧ w.heap.size ≤ b)) := by
  show Ok Try.prog 134 #[.int .i64 a, pa (some ⟨bi, 0, none⟩) 0, pa (some ⟨bw, 0, none⟩) 0] w _
  have hal : a.toNat < l.length := by omega
  have hr := hI.rd a.toNat hal
  have hla : l[a.toNat]? = some l[a.toNat] := List.getElem?_eq_getElem hal
  (refine Ok.enter Try.func134 rfl (by kernel_rfl) (Nat.le_of_ble_eq_true rfl) ?_; simp only [Try.f134, S7])
  generalize hy : l[a.toNat] = y at *
  cases y with
  | true =>
    simp (disch := first | omega | assumption | (simp only [O1, World.size_alloc, World.size_setCell, World.size_drew]; first | done | omega)) only [O1, D2, ↓H0, S0, ↓S1, ↓S2, ↓S3, ↓S4, S5, S5b, S5c, ↓S6, S6b, M0, E0, ty, tl, te, tc, i64_wrap, u64_wrap, iaV_sl, iaV_arr, faV_pa, nck_pa, heap_new, heap_old, heap_set, ↓reduceIte, Nat.reduceEqDiff, Nat.reduceLT, Nat.reduceAdd, Int.reduceLT, Int.reduceLE, decide_false, decide_true, dec_true, dec_false, true_and, and_true, true_imp_iff, Bool.not_true, Bool.not_false, Option.map_none, Int.reduceToNat, Int.toNat_zero, Int.toNat_one, lkV_false, lkV_true, h1, h2, hr]
    exact .inl hla
  | false =>
    have hst := hI.sto (P := Try.prog) (t := 4) (by simp only [ty]) a.toNat hal true rfl
    have hIlt := hI.lt
    have hne1 : bi ≠ I := hI.ne h1 (by decide)
    have hne2 : bw ≠ I := hI.ne h2 (by decide)
    have hne3 : wv.ownBlock ≠ some I := hW.ne hI (by decide)
    have hne4 : wv.ownBlock ≠ some bw := hW.ne h2 (by decide)
    have hbw := lt_heap h2
    simp (disch := first | omega | assumption | (simp only [O1, World.size_alloc, World.size_setCell, World.size_drew]; first | done | omega)) only [O1, D2, ↓H0, S0, ↓S1, ↓S2, ↓S3, ↓S4, S5, S5b, S5c, ↓S6, S6b, M0, E0, ty, tl, te, tc, i64_wrap, u64_wrap, iaV_sl, iaV_arr, faV_pa, nck_pa, heap_new, heap_old, heap_set, ↓reduceIte, Nat.reduceEqDiff, Nat.reduceLT, Nat.reduceAdd, Int.reduceLT, Int.reduceLE, decide_false, decide_true, dec_true, dec_false, true_and, and_true, true_imp_iff, Bool.not_true, Bool.not_false, Option.map_none, Int.reduceToNat, Int.toNat_zero, Int.toNat_one, lkV_false, lkV_true, h1, h2, hr, hst, bsl1 sl23]
    have hg1 : w.grownBy (w.setCell ⟨I, a.toNat, none⟩ (.bool true)) (some I) := set_grown
    have hW1 : Row IV base 3 (w.setCell ⟨I, a.toNat, none⟩ (.bool true)) wv work := hW.kept hg1 (.inr hne3)
    have hI1 := hI.set a.toNat true
    have hs1 : (w.setCell ⟨I, a.toNat, none⟩ (.bool true)).heap.size = w.heap.size := by simp
    generalize hX : w.setCell ⟨I, a.toNat, none⟩ (Value.bool true) = X at *
    have h2X : X.heap[bw]? = some (.cells #[wv] 23 (0, 0)) := (hg1.block bw hbw (by simpa using hne2)).trans h2
    rw [← hs1]
    refine RunA_row (enc := IV) sl23 hW1 rfl (by omega) (by omega) (by omega) ?_
    intro wv' Y hR hg2 hsz hv
    have h2Y : Y.heap[bw]? = some (.cells #[wv] 23 (0, 0)) := (hg2.block bw (by omega) (fun e => hne4 e.symm)).trans h2X
    have hIY : Own Value.bool 4 Y I (l.set a.toNat true) := hI1.hp (hg2.block I (by omega) (fun e => hne3 e.symm))
    have hst2 := sto_own (P := Try.prog) (T := 23) (w := Y) (g := bw) (o := 0) (k := 0) (x := wv') (by simp only [ty]) h2Y (by simp) hR.one
    have hneR : wv'.ownBlock ≠ some bw := hR.ne h2Y (by decide)
    simp (disch := first | omega | assumption | (simp only [O1, World.size_alloc, World.size_setCell, World.size_drew]; first | done | omega)) only [O1, D2, ↓H0, S0, ↓S1, ↓S2, ↓S3, ↓S4, S5, S5b, S5c, ↓S6, S6b, M0, E0, ty, tl, te, tc, i64_wrap, u64_wrap, iaV_sl, iaV_arr, faV_pa, nck_pa, heap_new, heap_old, heap_set, ↓reduceIte, Nat.reduceEqDiff, Nat.reduceLT, Nat.reduceAdd, Int.reduceLT, Int.reduceLE, decide_false, decide_true, dec_true, dec_false, true_and, and_true, true_imp_iff, Bool.not_true, Bool.not_false, Option.map_none, Int.reduceToNat, Int.toNat_zero, Int.toNat_one, lkV_false, lkV_true, hst2]
    refine .inr ⟨hla, wv', hIY.hp (heap_set _ (by omega)), by rw [h2Y]; rfl, hR.kept set_grown (.inr hneR), ?_, ?_⟩
    · exact ((Chg.grown hg1 (fun k hk => by cases hk; exact .inl rfl)).tr (Chg.grown hg2 (M := fun k => wv.ownBlock = some k) (fun k hk => hk)) (fun x _ h => .inr (.inr h))).tr (Chg.grown (row := some bw) set_grown (M := fun k => k = bw) (fun k hk => by cases hk; rfl)) (fun x _ h => .inr (.inl h))
    · rcases hv with hv | ⟨b, h, h'⟩
      · exact .inl hv
      · exact .inr ⟨b, h, by omega⟩
theorem usesUp_len {ps : List (Int × List Int)} {s : Int} {m : Nat} (h : ∀ p ∈ ps, p.2.length ≤ 16) : (usesUp ps s m).length ≤ 16 * m := by
  induction m with
  | zero => simp [usesUp]
  | succ m ih =>
    rw [usesUp, List.length_append, List.length_replicate]
    have : (ps.getD m (0, [])).2.count s ≤ 16 := by
      rw [List.getD_eq_getElem?_getD]
      cases hq : ps[m]? with
      | none => simp
      | some p => exact Nat.le_trans List.count_le_length (h p (List.mem_of_getElem? hq))
    omega
theorem SoundP.sides {g : PG} (h : SoundP g) : ∀ p ∈ g.prods, p.2.length ≤ 16 := by
  intro p hp
  obtain ⟨i, hi, rfl⟩ := List.mem_iff_getElem.1 hp
  exact (h.2.2 i hi).2.2.1
set_option maxHeartbeats 1000000 in
theorem uses_ok (v : Value) (g : PG) (w : World) (hg : RepPG w v g) (hS : SoundP g) :
    Ok Try.prog 135 #[v] w fun v w' => (∃ G, v = .slice (some ⟨G, 0, none⟩) g.names.length g.names.length ∧ w.heap.size ≤ G ∧ RowsO IV w.heap.size 3 23 w' G ((List.range g.names.length).map fun s : Nat => usesUp g.prods s g.prods.length)) ∧ Ext w w' := by
  have hin := hS.inR
  have hside := hS.sides
  have hn1 := hS.1.2.1
  have hn2 := hS.2.1.2.2.1
  obtain ⟨nv, tv, pv, rfl, hN, hT, hp⟩ := hg
  obtain ⟨A, a, rfl, ha, hA⟩ := hN
  obtain ⟨C, c, rfl, hc, hC⟩ := hp
  (refine Ok.enter Try.func135 rfl (by kernel_rfl) (Nat.le_of_ble_eq_true rfl) ?_; simp only [Try.f135, S7])
  simp (disch := first | omega | assumption | (simp only [O1, World.size_alloc, World.size_setCell, World.size_drew]; first | done | omega)) only [O1, D2, ↓H0, S0, ↓S1, ↓S2, ↓S3, ↓S4, S5, S5b, S5c, ↓S6, S6b, M0, E0, ty, tl, te, tc, i64_wrap, u64_wrap, iaV_sl, iaV_arr, faV_pa, nck_pa, heap_new, heap_old, heap_set, ↓reduceIte, Nat.reduceEqDiff, Nat.reduceLT, Nat.reduceAdd, Int.reduceLT, Int.reduceLE, decide_false, decide_true, dec_true, dec_false, true_and, and_true, true_imp_iff, Bool.not_true, Bool.not_false, Option.map_none, Int.reduceToNat, Int.toNat_zero, Int.toNat_one, lkV_false, lkV_true]
  have hx0 := (Ext.rfl' w).al (.cells #[.int .i64 g.start, .int .i64 g.rules, .slice A g.names.length a, tv, .slice C g.prods.length c] 41)
  refine RunM_one sl44 rfl (by omega) (by omega) ?_
  have hx1 := hx0.al (.cells (List.replicate g.names.length (.slice none 0 0)).toArray 23)
  have hO := RowsO.new (enc := IV) (base := w.heap.size) (e := 3) (T := 23) (g := w.heap.size + 1) ((w.alloc (.cells #[.int .i64 g.start, .int .i64 g.rules, .slice A g.names.length a, tv, .slice C g.prods.length c] 41)).alloc (.cells (List.replicate g.names.length (.slice none 0 0)).toArray 23)) g.names.length (heap_new _ (by simp))
  simp (disch := first | omega | assumption | (simp only [O1, World.size_alloc, World.size_setCell, World.size_drew]; first | done | omega)) only [O1, D2, ↓H0, S0, ↓S1, ↓S2, ↓S3, ↓S4, S5, S5b, S5c, ↓S6, S6b, M0, E0, ty, tl, te, tc, i64_wrap, u64_wrap, iaV_sl, iaV_arr, faV_pa, nck_pa, heap_new, heap_old, heap_set, ↓reduceIte, Nat.reduceEqDiff, Nat.reduceLT, Nat.reduceAdd, Int.reduceLT, Int.reduceLE, decide_false, decide_true, dec_true, dec_false, true_and, and_true, true_imp_iff, Bool.not_true, Bool.not_false, Option.map_none, Int.reduceToNat, Int.toNat_zero, Int.toNat_one, lkV_false, lkV_true]
  generalize hG : w.heap.size + 1 = G at *
  refine ⟨fun k t U => ∃ (i : Nat) (F : List (List Int)), k + i = g.prods.length ∧ RowsO IV w.heap.size 3 23 U G F ∧ F.length = g.names.length ∧ (∀ s : Nat, s < g.names.length → F[s]? = some (usesUp g.prods s i)) ∧ Ext w U ∧
    t 3 = .slice (some ⟨G, 0, none⟩) g.names.length g.names.length ∧ t 13 = .slice C g.prods.length c ∧ t 14 = .int .i64 g.prods.length ∧ t 15 = .int .i64 i, ⟨g.prods.length, 0, _, by omega, hO, by simp, fun s hs => by simp [usesUp, List.getElem?_replicate, hs], hx1, ?_⟩, ?_⟩
  · simp (disch := first | omega | assumption | (simp only [O1, World.size_alloc, World.size_setCell, World.size_drew]; first | done | omega)) only [O1, D2, ↓H0, S0, ↓S1, ↓S2, ↓S3, ↓S4, S5, S5b, S5c, ↓S6, S6b, M0, E0, ty, tl, te, tc, i64_wrap, u64_wrap, iaV_sl, iaV_arr, faV_pa, nck_pa, heap_new, heap_old, heap_set, ↓reduceIte, Nat.reduceEqDiff, Nat.reduceLT, Nat.reduceAdd, Int.reduceLT, Int.reduceLE, decide_false, decide_true, dec_true, dec_false, true_and, and_true, true_imp_iff, Bool.not_true, Bool.not_false, Option.map_none, Int.reduceToNat, Int.toNat_zero, Int.toNat_one, lkV_false, lkV_true] <;> rfl
  clear hO hx1 hx0
  rintro k t U ⟨i, F, hk, hO, hFl, hF, hx, f3, f13, f14, f15⟩
  simp (disch := first | omega | assumption | (simp only [O1, World.size_alloc, World.size_setCell, World.size_drew]; first | done | omega)) only [O1, D2, ↓H0, S0, ↓S1, ↓S2, ↓S3, ↓S4, S5, S5b, S5c, ↓S6, S6b, M0, E0, ty, tl, te, tc, i64_wrap, u64_wrap, iaV_sl, iaV_arr, faV_pa, nck_pa, heap_new, heap_old, heap_set, ↓reduceIte, Nat.reduceEqDiff, Nat.reduceLT, Nat.reduceAdd, Int.reduceLT, Int.reduceLE, decide_false, decide_true, dec_true, dec_false, true_and, and_true, true_imp_iff, Bool.not_true, Bool.not_false, Option.map_none, Int.reduceToNat, Int.toNat_zero, Int.toNat_one, lkV_false, lkV_true, f3, f13, f14, f15]
  refine Br_if (fun h => ?_) (fun h' => ?_) <;> (try simp (disch := first | omega | assumption | (simp only [O1, World.size_alloc, World.size_setCell, World.size_drew]; first | done | omega)) only [O1, D2, ↓H0, S0, ↓S1, ↓S2, ↓S3, ↓S4, S5, S5b, S5c, ↓S6, S6b, M0, E0, ty, tl, te, tc, i64_wrap, u64_wrap, iaV_sl, iaV_arr, faV_pa, nck_pa, heap_new, heap_old, heap_set, ↓reduceIte, Nat.reduceEqDiff, Nat.reduceLT, Nat.reduceAdd, Int.reduceLT, Int.reduceLE, decide_false, decide_true, dec_true, dec_false, true_and, and_true, true_imp_iff, Bool.not_true, Bool.not_false, Option.map_none, Int.reduceToNat, Int.toNat_zero, Int.toNat_one, lkV_false, lkV_true, f3, f13, f14, f15])
  · have hi : i < g.prods.length := by omega
    obtain ⟨hl, r, hr, hR⟩ := hC i hi
    obtain ⟨D, d, rfl, hd, hD⟩ := hR
    have hl' := hx.rd hl
    have hr' := hx.rd hr
    have hAs := rd_isSome hl
    have hmem : g.prods[i] ∈ g.prods := List.getElem_mem _
    have hgD : g.prods.getD i (0, []) = g.prods[i] := by simp [List.getD_eq_getElem?_getD, List.getElem?_eq_getElem hi]
    generalize hp : g.prods[i] = p at *
    have hps := (hin p hmem).2
    have hlen := hside p hmem
    have hU1 := (Ext.rfl' U).al (.cells #[.int .i64 p.1, .slice D p.2.length d] 35)
    have hUs := hx.size
    simp (disch := first | omega | assumption | (simp only [O1, World.size_alloc, World.size_setCell, World.size_drew]; first | done | omega)) only [O1, D2, ↓H0, S0, ↓S1, ↓S2, ↓S3, ↓S4, S5, S5b, S5c, ↓S6, S6b, M0, E0, ty, tl, te, tc, i64_wrap, u64_wrap, iaV_sl, iaV_arr, faV_pa, nck_pa, heap_new, heap_old, heap_set, ↓reduceIte, Nat.reduceEqDiff, Nat.reduceLT, Nat.reduceAdd, Int.reduceLT, Int.reduceLE, decide_false, decide_true, dec_true, dec_false, true_and, and_true, true_imp_iff, Bool.not_true, Bool.not_false, Option.map_none, Int.reduceToNat, Int.toNat_zero, Int.toNat_one, lkV_false, lkV_true, f3, f13, f14, f15, hl', hr', ldA2, st35]
    refine ⟨fun k2 t V => ∃ (j : Nat) (F : List (List Int)), k2 + j = p.2.length ∧ RowsO IV w.heap.size 3 23 V G F ∧ F.length = g.names.length ∧ (∀ s : Nat, s < g.names.length → F[s]? = some (usesUp g.prods s i ++ List.replicate ((p.2.take j).count (s : Int)) (i : Int))) ∧ Ext w V ∧
      t 3 = .slice (some ⟨G, 0, none⟩) g.names.length g.names.length ∧ t 13 = .slice C g.prods.length c ∧ t 14 = .int .i64 g.prods.length ∧ t 15 = .int .i64 i ∧ t 4 = .int .i64 i ∧ t 21 = .slice D p.2.length d ∧ t 22 = .int .i64 p.2.length ∧ t 23 = .int .i64 j,
      ⟨p.2.length, 0, F, by omega, hO.ext hU1, hFl, fun s hs => by simpa using hF s hs, hx.tr hU1, ?_⟩, ?_⟩
    · simp (disch := first | omega | assumption | (simp only [O1, World.size_alloc, World.size_setCell, World.size_drew]; first | done | omega)) only [O1, D2, ↓H0, S0, ↓S1, ↓S2, ↓S3, ↓S4, S5, S5b, S5c, ↓S6, S6b, M0, E0, ty, tl, te, tc, i64_wrap, u64_wrap, iaV_sl, iaV_arr, faV_pa, nck_pa, heap_new, heap_old, heap_set, ↓reduceIte, Nat.reduceEqDiff, Nat.reduceLT, Nat.reduceAdd, Int.reduceLT, Int.reduceLE, decide_false, decide_true, dec_true, dec_false, true_and, and_true, true_imp_iff, Bool.not_true, Bool.not_false, Option.map_none, Int.reduceToNat, Int.toNat_zero, Int.toNat_one, lkV_false, lkV_true, f3, f13, f14, f15] <;> rfl
    clear hO hFl hF hU1 hl' hr' f3 f13 f14 f15
    rintro k2 t V ⟨j, F, hk2, hO, hFl, hF, hxV, f3, f13, f14, f15, f4, f21, f22, f23⟩
    simp (disch := first | omega | assumption | (simp only [O1, World.size_alloc, World.size_setCell, World.size_drew]; first | done | omega)) only [O1, D2, ↓H0, S0, ↓S1, ↓S2, ↓S3, ↓S4, S5, S5b, S5c, ↓S6, S6b, M0, E0, ty, tl, te, tc, i64_wrap, u64_wrap, iaV_sl, iaV_arr, faV_pa, nck_pa, heap_new, heap_old, heap_set, ↓reduceIte, Nat.reduceEqDiff, Nat.reduceLT, Nat.reduceAdd, Int.reduceLT, Int.reduceLE, decide_false, decide_true, dec_true, dec_false, true_and, and_true, true_imp_iff, Bool.not_true, Bool.not_false, Option.map_none, Int.reduceToNat, Int.toNat_zero, Int.toNat_one, lkV_false, lkV_true, f3, f13, f14, f15, f4, f21, f22, f23]
    refine Br_if (fun h2 => ?_) (fun h2' => ?_) <;> (try simp (disch := first | omega | assumption | (simp only [O1, World.size_alloc, World.size_setCell, World.size_drew]; first | done | omega)) only [O1, D2, ↓H0, S0, ↓S1, ↓S2, ↓S3, ↓S4, S5, S5b, S5c, ↓S6, S6b, M0, E0, ty, tl, te, tc, i64_wrap, u64_wrap, iaV_sl, iaV_arr, faV_pa, nck_pa, heap_new, heap_old, heap_set, ↓reduceIte, Nat.reduceEqDiff, Nat.reduceLT, Nat.reduceAdd, Int.reduceLT, Int.reduceLE, decide_false, decide_true, dec_true, dec_false, true_and, and_true, true_imp_iff, Bool.not_true, Bool.not_false, Option.map_none, Int.reduceToNat, Int.toNat_zero, Int.toNat_one, lkV_false, lkV_true, f3, f13, f14, f15, f4, f21, f22, f23])
    · have hj : j < p.2.length := by omega
      have hs := hxV.rd (hD j hj)
      have hDs := rd_isSome hs
      have htk : p.2.take (j + 1) = p.2.take j ++ [p.2[j]] := List.take_succ_eq_append_getElem hj
      have hxm : p.2[j] ∈ p.2 := List.getElem_mem _
      generalize hse : p.2[j] = x at *
      have hxn := hps x hxm
      simp (disch := first | omega | assumption | (simp only [O1, World.size_alloc, World.size_setCell, World.size_drew]; first | done | omega)) only [O1, D2, ↓H0, S0, ↓S1, ↓S2, ↓S3, ↓S4, S5, S5b, S5c, ↓S6, S6b, M0, E0, ty, tl, te, tc, i64_wrap, u64_wrap, iaV_sl, iaV_arr, faV_pa, nck_pa, heap_new, heap_old, heap_set, ↓reduceIte, Nat.reduceEqDiff, Nat.reduceLT, Nat.reduceAdd, Int.reduceLT, Int.reduceLE, decide_false, decide_true, dec_true, dec_false, true_and, and_true, true_imp_iff, Bool.not_true, Bool.not_false, Option.map_none, Int.reduceToNat, Int.toNat_zero, Int.toNat_one, lkV_false, lkV_true, f3, f13, f14, f15, f4, f21, f22, f23, hs]
      refine Br_if (fun h3 => ?_) (fun h3 => ?_) <;> (try simp (disch := first | omega | assumption | (simp only [O1, World.size_alloc, World.size_setCell, World.size_drew]; first | done | omega)) only [O1, D2, ↓H0, S0, ↓S1, ↓S2, ↓S3, ↓S4, S5, S5b, S5c, ↓S6, S6b, M0, E0, ty, tl, te, tc, i64_wrap, u64_wrap, iaV_sl, iaV_arr, faV_pa, nck_pa, heap_new, heap_old, heap_set, ↓reduceIte, Nat.reduceEqDiff, Nat.reduceLT, Nat.reduceAdd, Int.reduceLT, Int.reduceLE, decide_false, decide_true, dec_true, dec_false, true_and, and_true, true_imp_iff, Bool.not_true, Bool.not_false, Option.map_none, Int.reduceToNat, Int.toNat_zero, Int.toNat_one, lkV_false, lkV_true, f3, f13, f14, f15, f4, f21, f22, f23])
      · have hxF : x.toNat < F.length := by omega
        have hFx := hF x.toNat (by omega)
        rw [List.getElem?_eq_getElem hxF] at hFx
        simp only [Option.some.injEq] at hFx
        obtain ⟨u, hu, hRu, hug, hput⟩ := hO.at (by decide) x.toNat hxF
        rw [rd_own, Nat.zero_add] at hu
        have hVs := hxV.size
        have hlenF : F[x.toNat].length < 1000000000000 := by
          rw [hFx, List.length_append, List.length_replicate]
          have h1 := usesUp_len (s := ((x.toNat : Nat) : Int)) (m := i) hside
          have h2 : (p.2.take j).count ((x.toNat : Nat) : Int) ≤ 16 := Nat.le_trans List.count_le_length (by rw [List.length_take]; omega)
          omega
        simp (disch := first | omega | assumption | (simp only [O1, World.size_alloc, World.size_setCell, World.size_drew]; first | done | omega)) only [O1, D2, ↓H0, S0, ↓S1, ↓S2, ↓S3, ↓S4, S5, S5b, S5c, ↓S6, S6b, M0, E0, ty, tl, te, tc, i64_wrap, u64_wrap, iaV_sl, iaV_arr, faV_pa, nck_pa, heap_new, heap_old, heap_set, ↓reduceIte, Nat.reduceEqDiff, Nat.reduceLT, Nat.reduceAdd, Int.reduceLT, Int.reduceLE, decide_false, decide_true, dec_true, dec_false, true_and, and_true, true_imp_iff, Bool.not_true, Bool.not_false, Option.map_none, Int.reduceToNat, Int.toNat_zero, Int.toNat_one, lkV_false, lkV_true, f3, f13, f14, f15, f4, f21, f22, f23, hu, bsl1 sl23]
        refine RunA_row (enc := IV) (x := (i : Int)) sl23 hRu rfl hlenF (by omega) (by omega) ?_
        intro v' Y hR' hg2 hsz hv
        obtain ⟨cs, hY, hcs, hO2, hone⟩ := hput v' Y _ hR' hg2 hv
        have hst := sto_own (P := Try.prog) (T := 23) (w := Y) (g := G) (o := 0) (k := x.toNat) (x := v') (by simp only [ty]) hY (by simpa using hcs) hone
        rw [Nat.zero_add] at hst
        have hGw : w.heap.size ≤ G := by omega
        have hxY : Ext w Y := hxV.grown' hg2 (fun k hk => (hRu.lt k hk).1)
        simp (disch := first | omega | assumption | (simp only [O1, World.size_alloc, World.size_setCell, World.size_drew]; first | done | omega)) only [O1, D2, ↓H0, S0, ↓S1, ↓S2, ↓S3, ↓S4, S5, S5b, S5c, ↓S6, S6b, M0, E0, ty, tl, te, tc, i64_wrap, u64_wrap, iaV_sl, iaV_arr, faV_pa, nck_pa, heap_new, heap_old, heap_set, ↓reduceIte, Nat.reduceEqDiff, Nat.reduceLT, Nat.reduceAdd, Int.reduceLT, Int.reduceLE, decide_false, decide_true, dec_true, dec_false, true_and, and_true, true_imp_iff, Bool.not_true, Bool.not_false, Option.map_none, Int.reduceToNat, Int.toNat_zero, Int.toNat_one, lkV_false, lkV_true, f3, f13, f14, f15, f4, f21, f22, f23, hst]
        refine ⟨k2 - 1, by omega, j + 1, _, by omega, hO2, by simpa using hFl, fun s hs => ?_, hxY.st hGw _, rfl⟩
        rw [List.getElem?_set, htk, List.count_append]
        by_cases e : x.toNat = s
        · subst e
          have e2 : ((x.toNat : Nat) : Int) = x := by omega
          rw [if_pos rfl, if_pos hxF, hFx, e2]
          simp [List.replicate_succ']
        · have e2 : ¬ x = (s : Int) := by omega
          rw [if_neg e, hF s hs]
          simp [List.count_cons, e2]
      · refine ⟨k2 - 1, by omega, j + 1, F, by omega, hO, hFl, fun s hs => ?_, hxV, rfl⟩
        have e2 : ¬ x = (s : Int) := by omega
        rw [hF s hs, htk, List.count_append]
        simp [List.count_cons, e2]
    · rw [List.take_of_length_le (by omega)] at hF
      refine ⟨k - 1, by omega, i + 1, F, by omega, hO, hFl, fun s hs => ?_, hxV, rfl⟩
      rw [hF s hs, usesUp, hgD]
  · have : i = g.prods.length := by omega
    subst this
    have hFe : F = (List.range g.names.length).map fun s : Nat => usesUp g.prods s g.prods.length := by
      apply List.ext_getElem?
      intro s
      by_cases hs : s < g.names.length
      · rw [hF s hs]; simp [hs]
      · rw [List.getElem?_eq_none (by omega), List.getElem?_eq_none (by simp; omega)]
    rw [hFe] at hO
    exact ⟨⟨G, rfl, by omega, hO⟩, hx⟩
/-- What stands while a set is closed. -/
structure CloW (w U : World) (bx : Array Value) (n B0 I bi Mi bw base : Nat) (l : List Bool) (mis : List Int) (wv : Value) (work : List Int) : Prop where
  ext : Ext w U
  box : U.heap[B0]? = some (.cells bx 41 (0, 0))
  inn : U.heap[bi]? = some (.cells #[.slice (some ⟨I, 0, none⟩) n n] 53 (0, 0))
  bits : Own Value.bool 4 U I l
  nums : Own IV 3 U Mi mis
  wrk : U.heap[bw]? = some (.cells #[wv] 23 (0, 0))
  row : Row IV base 3 U wv work
  lt : Mi < base
  le : base ≤ U.heap.size
  iw : w.heap.size ≤ I
  mw : w.heap.size ≤ Mi
  ww : w.heap.size ≤ bw
  im : I ≠ Mi
theorem CloW.ext' {w U V : World} {bx : Array Value} {n B0 I bi Mi bw base : Nat} {l : List Bool} {mis : List Int} {wv : Value} {work : List Int} (h : CloW w U bx n B0 I bi Mi bw base l mis wv work) (hx : Ext U V) : CloW w V bx n B0 I bi Mi bw base l mis wv work :=
  ⟨h.ext.tr hx, hx.hp h.box, hx.hp h.inn, h.bits.ext hx, h.nums.ext hx, hx.hp h.wrk, h.row.ext hx, h.lt, Nat.le_trans h.le hx.size, h.iw, h.mw, h.ww, h.im⟩
/-- A number is written. -/
theorem CloW.num {w U : World} {bx : Array Value} {n B0 I bi Mi bw base : Nat} {l : List Bool} {mis : List Int} {wv : Value} {work : List Int} (h : CloW w U bx n B0 I bi Mi bw base l mis wv work) (i : Nat) (x : Int) :
    CloW w (U.setCell ⟨Mi, i, none⟩ (.int .i64 x)) bx n B0 I bi Mi bw base l (mis.set i x) wv work := by
  have hM := h.nums
  have e1 : B0 ≠ Mi := hM.ne h.box (by decide)
  have e2 : bi ≠ Mi := hM.ne h.inn (by decide)
  have e3 : bw ≠ Mi := hM.ne h.wrk (by decide)
  exact ⟨h.ext.st h.mw _, (heap_set _ e1).trans h.box, (heap_set _ e2).trans h.inn, h.bits.hp (heap_set _ h.im), hM.set i x, (heap_set _ e3).trans h.wrk, h.row.kept (row := some Mi) set_grown (.inr (h.row.ne_lt h.lt)), h.lt, by simpa using h.le, h.iw, h.mw, h.ww, h.im⟩
/-- A nonterminal is brought in. -/
theorem CloW.call {w U : World} {bx : Array Value} {n B0 I bi Mi bw base : Nat} {l : List Bool} {mis : List Int} {wv : Value} {work : List Int} (h : CloW w U bx n B0 I bi Mi bw base l mis wv work) (hl : l.length = n) (hn : work.length < 1000000000) {a : Int} (ha0 : 0 ≤ a) (ha : a < n) :
    Ok Try.prog 134 (#[] ++ #[.int .i64 a] ++ #[pa (some ⟨bi, 0, none⟩) 0, pa (some ⟨bw, 0, none⟩) 0]) U fun v V =>
      (l[a.toNat]? = some true ∧ V = U) ∨ (l[a.toNat]? = some false ∧ ∃ wv', CloW w V bx n B0 I bi Mi bw base (l.set a.toNat true) mis wv' (work ++ [a]) ∧ Chg (fun k => k = I ∨ k = bw ∨ wv.ownBlock = some k) U V ∧ (wv'.ownBlock = wv.ownBlock ∨ ∃ b, wv'.ownBlock = some b ∧ U.heap.size ≤ b)) := by
  refine (close1_ok a n bi bw I base l wv work U h.inn h.bits hl h.wrk h.row h.le hn ha0 ha).then ?_
  rintro v V (⟨h1, h2⟩ | ⟨h1, wv', hI, hw, hR, hc, hv⟩)
  · exact .inl ⟨h1, h2⟩
  · refine .inr ⟨h1, wv', ⟨h.ext.chg hc ?_, hc.hp h.box ?_, hc.hp h.inn ?_, hI, h.nums.hp (hc.block _ h.nums.lt ?_), hw, hR, h.lt, Nat.le_trans h.le hc.size, h.iw, h.mw, h.ww, h.im⟩, hc, hv⟩
    · rintro x (rfl | rfl | hx)
      · exact h.iw
      · exact h.ww
      · have := h.row.lt x hx; have := h.lt; have := h.mw; omega
    · rintro (e | e | e)
      · exact h.bits.ne h.box (by decide) e
      · have h1 := h.box; have h2 := h.wrk; rw [e, h2] at h1; simp at h1
      · exact h.row.ne h.box (by decide) e
    · rintro (e | e | e)
      · exact h.bits.ne h.inn (by decide) e
      · have h1 := h.inn; have h2 := h.wrk; rw [e, h2] at h1; simp at h1
      · exact h.row.ne h.inn (by decide) e
    · rintro (e | e | e)
      · exact h.im e.symm
      · exact h.nums.ne h.wrk (by decide) e.symm
      · exact h.row.ne_lt h.lt e
/-- The last of the work is taken off. -/
theorem CloW.pop {w U : World} {bx : Array Value} {n B0 I bi Mi bw base : Nat} {l : List Bool} {mis : List Int} {wv : Value} {work : List Int} {s : Int} (h : CloW w U bx n B0 I bi Mi bw base l mis wv (work ++ [s])) :
    ∃ v', slV Try.prog 23 wv none (some (.int .i64 work.length)) none = some v' ∧ v'.ownBlock = wv.ownBlock ∧ v'.oneCell' = true ∧ CloW w (U.setCell ⟨bw, 0, none⟩ v') bx n B0 I bi Mi bw base l mis v' work := by
  obtain ⟨v', h1, h2, h3⟩ := h.row.pop sl23 (k := .i64)
  have hw := h.wrk
  have e1 : B0 ≠ bw := fun e => by have h1 := h.box; rw [e, hw] at h1; simp at h1
  have e2 : bi ≠ bw := fun e => by have h1 := h.inn; rw [e, hw] at h1; simp at h1
  have e3 : bw ≠ Mi := h.nums.ne hw (by decide)
  have e4 : bw ≠ I := h.bits.ne hw (by decide)
  refine ⟨v', h1, h3, h2.one, h.ext.st h.ww _, (heap_set _ e1).trans h.box, (heap_set _ e2).trans h.inn, h.bits.hp (heap_set _ e4.symm), h.nums.hp (heap_set _ e3.symm), by rw [heap_set_same, hw]; rfl, h2.kept (row := some bw) set_grown (.inr (h2.ne hw (by decide))), h.lt, by simpa using h.le, h.iw, h.mw, h.ww, h.im⟩
set_option maxHeartbeats 4000000 in
theorem close2_ok (v : Value) (g : PG) (T : Bool) (w : World) (hg : RepPG w v g) (hs : SmallP g) :
    Ok Try.prog 91 #[v, .bool T] w fun v w' => ((¬ SoundP g ∧ v = .slice none 0 0) ∨ (SoundP g ∧ ∃ G l, v = .slice (some ⟨G, 0, none⟩) g.names.length g.names.length ∧ w.heap.size ≤ G ∧ Own Value.bool 4 w' G l ∧ Tells g.names.length (Gen T g.prods) l)) ∧ Ext w w' := by
  have hg0 := hg
  obtain ⟨nv, tv, pv, rfl, hN, hT, hp⟩ := hg
  obtain ⟨A, a, rfl, ha, hA⟩ := hN
  obtain ⟨C, c, rfl, hc, hC⟩ := hp
  (refine Ok.enter Try.func91 rfl (by kernel_rfl) (Nat.le_of_ble_eq_true rfl) ?_; simp only [Try.f91, S7])
  simp (disch := first | omega | assumption | (simp only [O1, World.size_alloc, World.size_setCell, World.size_drew]; first | done | omega)) only [O1, D2, ↓H0, S0, ↓S1, ↓S2, ↓S3, ↓S4, S5, S5b, S5c, ↓S6, S6b, M0, E0, ty, tl, te, tc, i64_wrap, u64_wrap, iaV_sl, iaV_arr, faV_pa, nck_pa, heap_new, heap_old, heap_set, ↓reduceIte, Nat.reduceEqDiff, Nat.reduceLT, Nat.reduceAdd, Int.reduceLT, Int.reduceLE, decide_false, decide_true, dec_true, dec_false, true_and, and_true, true_imp_iff, Bool.not_true, Bool.not_false, Option.map_none, Int.reduceToNat, Int.toNat_zero, Int.toNat_one, lkV_false, lkV_true]
  obtain ⟨bx, hbx⟩ : ∃ bx, bx = #[Value.int .i64 g.start, .int .i64 g.rules, .slice A g.names.length a, tv, .slice C g.prods.length c] := ⟨_, rfl⟩
  have hx0 := (Ext.rfl' w).al (.cells bx 41)
  have hb0 := heap_new (w := w) (.cells bx 41) rfl
  rw [hbx] at hx0 hb0
  simp (disch := first | omega | assumption | (simp only [O1, World.size_alloc, World.size_setCell, World.size_drew]; first | done | omega)) only [O1, D2, ↓H0, S0, ↓S1, ↓S2, ↓S3, ↓S4, S5, S5b, S5c, ↓S6, S6b, M0, E0, ty, tl, te, tc, i64_wrap, u64_wrap, iaV_sl, iaV_arr, faV_pa, nck_pa, heap_new, heap_old, heap_set, ↓reduceIte, Nat.reduceEqDiff, Nat.reduceLT, Nat.reduceAdd, Int.reduceLT, Int.reduceLE, decide_false, decide_true, dec_true, dec_false, true_and, and_true, true_imp_iff, Bool.not_true, Bool.not_false, Option.map_none, Int.reduceToNat, Int.toNat_zero, Int.toNat_one, lkV_false, lkV_true, ldA5]
  refine (sound_ok _ g _ (hg0.ext hx0) hs).then ?_; rintro _ W ⟨⟨b, rfl, hb⟩, hx1⟩
  have hxW := hx0.tr hx1
  have hbW := hx1.hp hb0
  cases b with
  | false =>
    simp (disch := first | omega | assumption | (simp only [O1, World.size_alloc, World.size_setCell, World.size_drew]; first | done | omega)) only [O1, D2, ↓H0, S0, ↓S1, ↓S2, ↓S3, ↓S4, S5, S5b, S5c, ↓S6, S6b, M0, E0, ty, tl, te, tc, i64_wrap, u64_wrap, iaV_sl, iaV_arr, faV_pa, nck_pa, heap_new, heap_old, heap_set, ↓reduceIte, Nat.reduceEqDiff, Nat.reduceLT, Nat.reduceAdd, Int.reduceLT, Int.reduceLE, decide_false, decide_true, dec_true, dec_false, true_and, and_true, true_imp_iff, Bool.not_true, Bool.not_false, Option.map_none, Int.reduceToNat, Int.toNat_zero, Int.toNat_one, lkV_false, lkV_true]
    exact ⟨.inl fun h => by have := hb.2 h; simp at this, hxW⟩
  | true =>
    have hS := hb.1 rfl
    have hin := hS.inR
    have hside := hS.sides
    have hn1 := hS.1.2.1
    have hn2 := hS.2.1.2.2.1
    have hx0s : w.heap.size < W.heap.size := lt_heap hbW
    simp (disch := first | omega | assumption | (simp only [O1, World.size_alloc, World.size_setCell, World.size_drew]; first | done | omega)) only [O1, D2, ↓H0, S0, ↓S1, ↓S2, ↓S3, ↓S4, S5, S5b, S5c, ↓S6, S6b, M0, E0, ty, tl, te, tc, i64_wrap, u64_wrap, iaV_sl, iaV_arr, faV_pa, nck_pa, heap_new, heap_old, heap_set, ↓reduceIte, Nat.reduceEqDiff, Nat.reduceLT, Nat.reduceAdd, Int.reduceLT, Int.reduceLE, decide_false, decide_true, dec_true, dec_false, true_and, and_true, true_imp_iff, Bool.not_true, Bool.not_false, Option.map_none, Int.reduceToNat, Int.toNat_zero, Int.toNat_one, lkV_false, lkV_true, hbW]
    refine RunM_own (enc := Value.bool) (z := false) sl53 rfl (by omega) (by omega) ?_
    intro W1 hs1 hx2 hI
    have hbW1 := hx2.hp hbW
    have hs53 : szT Try.prog 53 = some 1 := by simp only [ty]
    simp (disch := first | omega | assumption | (simp only [O1, World.size_alloc, World.size_setCell, World.size_drew]; first | done | omega)) only [O1, D2, ↓H0, S0, ↓S1, ↓S2, ↓S3, ↓S4, S5, S5b, S5c, ↓S6, S6b, M0, E0, ty, tl, te, tc, i64_wrap, u64_wrap, iaV_sl, iaV_arr, faV_pa, nck_pa, heap_new, heap_old, heap_set, ↓reduceIte, Nat.reduceEqDiff, Nat.reduceLT, Nat.reduceAdd, Int.reduceLT, Int.reduceLE, decide_false, decide_true, dec_true, dec_false, true_and, and_true, true_imp_iff, Bool.not_true, Bool.not_false, Option.map_none, Int.reduceToNat, Int.toNat_zero, Int.toNat_one, lkV_false, lkV_true, sto1 hs53, hbW1, sl]
    refine RunM_own (enc := IV) (z := 0) sl23 rfl (by omega) (by omega) ?_
    intro W2 hs2 hx3 hM
    have hi2 := hx3.hp (heap_new (w := W1) (.cells #[Value.slice (some ⟨W.heap.size, 0, none⟩) g.names.length g.names.length] 53) rfl)
    have hx12 := ((Ext.rfl' W1).al (.cells #[Value.slice (some ⟨W.heap.size, 0, none⟩) g.names.length g.names.length] 53)).tr hx3
    have hbW2 := hx12.hp hbW1
    simp only [World.size_alloc] at hs2 hM ⊢
    simp (disch := first | omega | assumption | (simp only [O1, World.size_alloc, World.size_setCell, World.size_drew]; first | done | omega)) only [O1, D2, ↓H0, S0, ↓S1, ↓S2, ↓S3, ↓S4, S5, S5b, S5c, ↓S6, S6b, M0, E0, ty, tl, te, tc, i64_wrap, u64_wrap, iaV_sl, iaV_arr, faV_pa, nck_pa, heap_new, heap_old, heap_set, ↓reduceIte, Nat.reduceEqDiff, Nat.reduceLT, Nat.reduceAdd, Int.reduceLT, Int.reduceLE, decide_false, decide_true, dec_true, dec_false, true_and, and_true, true_imp_iff, Bool.not_true, Bool.not_false, Option.map_none, Int.reduceToNat, Int.toNat_zero, Int.toNat_one, lkV_false, lkV_true, hbW2, sl]
    have hws : w.heap.size < W.heap.size := hx0s
    have hW0 : CloW w (W2.alloc (.cells #[.slice none 0 0] 23)) bx g.names.length w.heap.size W.heap.size W1.heap.size (W1.heap.size + 1) W2.heap.size W2.heap.size (List.replicate g.names.length false) (List.replicate g.prods.length 0) (.slice none 0 0) [] := by
      have hxn := (Ext.rfl' W2).al (.cells #[.slice none 0 0] 23)
      refine ⟨((hxW.tr hx2).tr hx12).tr hxn, hbx ▸ hxn.hp hbW2, hxn.hp hi2, (hI.ext hx12).ext hxn, hM.ext hxn, heap_new _ rfl, Row.nil _, by omega, by simp, by omega, by omega, by omega, by omega⟩
    generalize W.heap.size = I at hW0 ⊢
    generalize W1.heap.size + 1 = Mi at hW0 ⊢
    generalize W1.heap.size = bi at hW0 ⊢
    generalize W2.heap.size = bw at hW0 ⊢
    generalize hB0 : w.heap.size = B0 at hW0 ⊢
    generalize W2.alloc (.cells #[.slice none 0 0] 23) = U0 at hW0 ⊢
    clear hx12 hbW2 hi2 hM hx3 hs2 hbW1 hx2 hI hs1 hx0s hws hxW hbW hx1 hx0 hb0
    have hD0 : ∀ i, (h : i < g.prods.length) → g.prods.getD i (0, []) = g.prods[i] := fun i h => by simp [List.getD_eq_getElem?_getD, List.getElem?_eq_getElem h]
    refine ⟨fun k t U => ∃ (i : Nat) (l : List Bool) (mis : List Int) (wv : Value) (work : List Int), k + i = g.prods.length ∧ CloW w U bx g.names.length B0 I bi Mi bw bw l mis wv work ∧
      CloI g.names.length T g.prods (fun _ => false) l work (fun i => miss T (fun _ => false) (g.prods.getD i (0, [])).2) i ∧ mis.length = g.prods.length ∧ (∀ i' : Nat, i' < g.prods.length → mis[i']? = some (if i' < i then ((miss T (fun _ => false) (g.prods.getD i' (0, [])).2 : Nat) : Int) else 0)) ∧
      t 1 = .bool T ∧ t 2 = pa (some ⟨B0, 0, none⟩) 0 ∧ t 5 = pa (some ⟨bi, 0, none⟩) 0 ∧ t 6 = .slice (some ⟨Mi, 0, none⟩) g.prods.length g.prods.length ∧ t 7 = pa (some ⟨bw, 0, none⟩) 0 ∧ t 8 = .func (.func 134) #[] #[pa (some ⟨bi, 0, none⟩) 0, pa (some ⟨bw, 0, none⟩) 0] ∧
      t 30 = .slice C g.prods.length c ∧ t 31 = .int .i64 g.prods.length ∧ t 32 = .int .i64 i, ⟨g.prods.length, 0, _, _, _, _, by omega, hW0, CloI.start _ _ _ _, by simp, fun i' hi' => by simp [List.getElem?_replicate, hi'], ?_⟩, ?_⟩
    · simp (disch := first | omega | assumption | (simp only [O1, World.size_alloc, World.size_setCell, World.size_drew]; first | done | omega)) only [O1, D2, ↓H0, S0, ↓S1, ↓S2, ↓S3, ↓S4, S5, S5b, S5c, ↓S6, S6b, M0, E0, ty, tl, te, tc, i64_wrap, u64_wrap, iaV_sl, iaV_arr, faV_pa, nck_pa, heap_new, heap_old, heap_set, ↓reduceIte, Nat.reduceEqDiff, Nat.reduceLT, Nat.reduceAdd, Int.reduceLT, Int.reduceLE, decide_false, decide_true, dec_true, dec_false, true_and, and_true, true_imp_iff, Bool.not_true, Bool.not_false, Option.map_none, Int.reduceToNat, Int.toNat_zero, Int.toNat_one, lkV_false, lkV_true] <;> rfl
    clear hW0
    rintro k t U ⟨i, l, mis, wv, work, hk, hW, hI, hml, hm, f1, f2, f5, f6, f7, f8, f30, f31, f32⟩
    simp (disch := first | omega | assumption | (simp only [O1, World.size_alloc, World.size_setCell, World.size_drew]; first | done | omega)) only [O1, D2, ↓H0, S0, ↓S1, ↓S2, ↓S3, ↓S4, S5, S5b, S5c, ↓S6, S6b, M0, E0, ty, tl, te, tc, i64_wrap, u64_wrap, iaV_sl, iaV_arr, faV_pa, nck_pa, heap_new, heap_old, heap_set, ↓reduceIte, Nat.reduceEqDiff, Nat.reduceLT, Nat.reduceAdd, Int.reduceLT, Int.reduceLE, decide_false, decide_true, dec_true, dec_false, true_and, and_true, true_imp_iff, Bool.not_true, Bool.not_false, Option.map_none, Int.reduceToNat, Int.toNat_zero, Int.toNat_one, lkV_false, lkV_true, f1, f2, f5, f6, f7, f8, f30, f31, f32]
    refine Br_if (fun h => ?_) (fun h' => ?_) <;> (try simp (disch := first | omega | assumption | (simp only [O1, World.size_alloc, World.size_setCell, World.size_drew]; first | done | omega)) only [O1, D2, ↓H0, S0, ↓S1, ↓S2, ↓S3, ↓S4, S5, S5b, S5c, ↓S6, S6b, M0, E0, ty, tl, te, tc, i64_wrap, u64_wrap, iaV_sl, iaV_arr, faV_pa, nck_pa, heap_new, heap_old, heap_set, ↓reduceIte, Nat.reduceEqDiff, Nat.reduceLT, Nat.reduceAdd, Int.reduceLT, Int.reduceLE, decide_false, decide_true, dec_true, dec_false, true_and, and_true, true_imp_iff, Bool.not_true, Bool.not_false, Option.map_none, Int.reduceToNat, Int.toNat_zero, Int.toNat_one, lkV_false, lkV_true, f1, f2, f5, f6, f7, f8, f30, f31, f32])
    · have hi : i < g.prods.length := by omega
      have hx := hW.ext
      obtain ⟨hl, r, hr, hR⟩ := hC i hi
      obtain ⟨D, d, rfl, hd, hD⟩ := hR
      have hl' := hx.rd hl
      have hr' := hx.rd hr
      have hAs := rd_isSome hl
      have hmem : g.prods[i] ∈ g.prods := List.getElem_mem _
      have hgD := hD0 i hi
      generalize hp : g.prods[i] = p at *
      obtain ⟨⟨hp0, hp1⟩, hps⟩ := hin p hmem
      have hlen := hside p hmem
      have hmi := hm i hi
      rw [if_neg (by omega)] at hmi
      have hU1 := (Ext.rfl' U).al (.cells #[.int .i64 p.1, .slice D p.2.length d] 35)
      have hW1 := hW.ext' hU1
      simp (disch := first | omega | assumption | (simp only [O1, World.size_alloc, World.size_setCell, World.size_drew]; first | done | omega)) only [O1, D2, ↓H0, S0, ↓S1, ↓S2, ↓S3, ↓S4, S5, S5b, S5c, ↓S6, S6b, M0, E0, ty, tl, te, tc, i64_wrap, u64_wrap, iaV_sl, iaV_arr, faV_pa, nck_pa, heap_new, heap_old, heap_set, ↓reduceIte, Nat.reduceEqDiff, Nat.reduceLT, Nat.reduceAdd, Int.reduceLT, Int.reduceLE, decide_false, decide_true, dec_true, dec_false, true_and, and_true, true_imp_iff, Bool.not_true, Bool.not_false, Option.map_none, Int.reduceToNat, Int.toNat_zero, Int.toNat_one, lkV_false, lkV_true, f1, f2, f5, f6, f7, f8, f30, f31, f32, hl', hr', ldA2, st35]
      generalize hq : U.heap.size = q at *
      have hqb : (U.alloc (.cells #[.int .i64 p.1, .slice D p.2.length d] 35)).heap[q]? = some (.cells #[.int .i64 p.1, .slice D p.2.length d] 35 (0, 0)) := heap_new _ hq.symm
      refine ⟨fun k2 t V => ∃ j : Nat, k2 + j = p.2.length ∧ CloW w V bx g.names.length B0 I bi Mi bw bw l (mis.set i ((miss T (fun _ => false) (p.2.take j) : Nat) : Int)) wv work ∧ V.heap[q]? = some (.cells #[.int .i64 p.1, .slice D p.2.length d] 35 (0, 0)) ∧
        t 1 = .bool T ∧ t 2 = pa (some ⟨B0, 0, none⟩) 0 ∧ t 5 = pa (some ⟨bi, 0, none⟩) 0 ∧ t 6 = .slice (some ⟨Mi, 0, none⟩) g.prods.length g.prods.length ∧ t 7 = pa (some ⟨bw, 0, none⟩) 0 ∧ t 8 = .func (.func 134) #[] #[pa (some ⟨bi, 0, none⟩) 0, pa (some ⟨bw, 0, none⟩) 0] ∧
        t 30 = .slice C g.prods.length c ∧ t 31 = .int .i64 g.prods.length ∧ t 32 = .int .i64 i ∧ t 9 = .int .i64 i ∧ t 10 = pa (some ⟨q, 0, none⟩) 0 ∧ t 38 = .slice D p.2.length d ∧ t 39 = .int .i64 p.2.length ∧ t 40 = .int .i64 j,
        ⟨p.2.length, 0, by omega, ?_, hqb, ?_⟩, ?_⟩
      · have : mis.set i ((miss T (fun _ => false) (p.2.take 0) : Nat) : Int) = mis := by
          show mis.set i 0 = mis
          apply List.ext_getElem?
          intro i'
          rw [List.getElem?_set]
          split
          · rename_i e; subst e; rw [if_pos (by omega), hmi]
          · rfl
        rw [this]; exact hW1
      · simp (disch := first | omega | assumption | (simp only [O1, World.size_alloc, World.size_setCell, World.size_drew]; first | done | omega)) only [O1, D2, ↓H0, S0, ↓S1, ↓S2, ↓S3, ↓S4, S5, S5b, S5c, ↓S6, S6b, M0, E0, ty, tl, te, tc, i64_wrap, u64_wrap, iaV_sl, iaV_arr, faV_pa, nck_pa, heap_new, heap_old, heap_set, ↓reduceIte, Nat.reduceEqDiff, Nat.reduceLT, Nat.reduceAdd, Int.reduceLT, Int.reduceLE, decide_false, decide_true, dec_true, dec_false, true_and, and_true, true_imp_iff, Bool.not_true, Bool.not_false, Option.map_none, Int.reduceToNat, Int.toNat_zero, Int.toNat_one, lkV_false, lkV_true, f1, f2, f5, f6, f7, f8, f30, f31, f32] <;> rfl
      clear hW1 hqb hU1 hl' hr' hx hq f1 f2 f5 f6 f7 f8 f30 f31 f32
      have hil : i < mis.length := by omega
      rintro k2 t V ⟨j, hk2, hWV, hqb, f1, f2, f5, f6, f7, f8, f30, f31, f32, f9, f10, f38, f39, f40⟩
      have hxV := hWV.ext
      have hgi : (mis.set i ((miss T (fun _ => false) (p.2.take j) : Nat) : Int))[i]'(by simpa using hil) = ((miss T (fun _ => false) (p.2.take j) : Nat) : Int) := by simp
      have hrd := hWV.nums.rd i (by simpa using hil)
      have hce := hWV.nums.cell i (by simpa using hil)
      rw [hgi] at hrd hce
      have hmb : miss T (fun _ => false) (p.2.take j) ≤ 16 := Nat.le_trans (List.countP_le_length) (by rw [List.length_take]; omega)
      have hil2 : (i : Int) < (g.prods.length : Int) := by omega
      simp (disch := first | omega | assumption | (simp only [O1, World.size_alloc, World.size_setCell, World.size_drew]; first | done | omega)) only [O1, D2, ↓H0, S0, ↓S1, ↓S2, ↓S3, ↓S4, S5, S5b, S5c, ↓S6, S6b, M0, E0, ty, tl, te, tc, i64_wrap, u64_wrap, iaV_sl, iaV_arr, faV_pa, nck_pa, heap_new, heap_old, heap_set, ↓reduceIte, Nat.reduceEqDiff, Nat.reduceLT, Nat.reduceAdd, Int.reduceLT, Int.reduceLE, decide_false, decide_true, dec_true, dec_false, true_and, and_true, true_imp_iff, Bool.not_true, Bool.not_false, Option.map_none, Int.reduceToNat, Int.toNat_zero, Int.toNat_one, lkV_false, lkV_true, f1, f2, f5, f6, f7, f8, f30, f31, f32, f9, f10, f38, f39, f40]
      refine Br_if (fun h2 => ?_) (fun h2' => ?_) <;> (try simp (disch := first | omega | assumption | (simp only [O1, World.size_alloc, World.size_setCell, World.size_drew]; first | done | omega)) only [O1, D2, ↓H0, S0, ↓S1, ↓S2, ↓S3, ↓S4, S5, S5b, S5c, ↓S6, S6b, M0, E0, ty, tl, te, tc, i64_wrap, u64_wrap, iaV_sl, iaV_arr, faV_pa, nck_pa, heap_new, heap_old, heap_set, ↓reduceIte, Nat.reduceEqDiff, Nat.reduceLT, Nat.reduceAdd, Int.reduceLT, Int.reduceLE, decide_false, decide_true, dec_true, dec_false, true_and, and_true, true_imp_iff, Bool.not_true, Bool.not_false, Option.map_none, Int.reduceToNat, Int.toNat_zero, Int.toNat_one, lkV_false, lkV_true, f1, f2, f5, f6, f7, f8, f30, f31, f32, f9, f10, f38, f39, f40])
      · have hj : j < p.2.length := by omega
        have hs := hxV.rd (hD j hj)
        have hDs := rd_isSome hs
        have htk : p.2.take (j + 1) = p.2.take j ++ [p.2[j]] := List.take_succ_eq_append_getElem hj
        have hms : miss T (fun _ => false) (p.2.take (j + 1)) = miss T (fun _ => false) (p.2.take j) + (if 0 ≤ p.2[j] then 1 else if T = true then 0 else 1) := by
          rw [htk]; unfold miss; rw [List.countP_append]
          congr 1
          by_cases h0 : 0 ≤ p.2[j]
          · simp [List.countP_cons, h0]
          · cases T <;> simp [List.countP_cons, h0]
        generalize hse : p.2[j] = x at *
        have hst := hWV.nums.sto (P := Try.prog) (t := 3) (by simp only [ty]) i (by simpa using hil) ((miss T (fun _ => false) (p.2.take j) + 1 : Nat) : Int) rfl
        have hWn := hWV.num i ((miss T (fun _ => false) (p.2.take j) + 1 : Nat) : Int)
        rw [List.set_set] at hWn
        have hqn : (V.setCell ⟨Mi, i, none⟩ (.int .i64 ((miss T (fun _ => false) (p.2.take j) + 1 : Nat) : Int))).heap[q]? = _ := (heap_set _ (hWV.nums.ne hqb (by decide))).trans hqb
        simp (disch := first | omega | assumption | (simp only [O1, World.size_alloc, World.size_setCell, World.size_drew]; first | done | omega)) only [O1, D2, ↓H0, S0, ↓S1, ↓S2, ↓S3, ↓S4, S5, S5b, S5c, ↓S6, S6b, M0, E0, ty, tl, te, tc, i64_wrap, u64_wrap, iaV_sl, iaV_arr, faV_pa, nck_pa, heap_new, heap_old, heap_set, ↓reduceIte, Nat.reduceEqDiff, Nat.reduceLT, Nat.reduceAdd, Int.reduceLT, Int.reduceLE, decide_false, decide_true, dec_true, dec_false, true_and, and_true, true_imp_iff, Bool.not_true, Bool.not_false, Option.map_none, Int.reduceToNat, Int.toNat_zero, Int.toNat_one, lkV_false, lkV_true, f1, f2, f5, f6, f7, f8, f30, f31, f32, f9, f10, f38, f39, f40, hs]
        refine Br_if (fun h3 => ?_) (fun h3 => ?_) <;> (try simp (disch := first | omega | assumption | (simp only [O1, World.size_alloc, World.size_setCell, World.size_drew]; first | done | omega)) only [O1, D2, ↓H0, S0, ↓S1, ↓S2, ↓S3, ↓S4, S5, S5b, S5c, ↓S6, S6b, M0, E0, ty, tl, te, tc, i64_wrap, u64_wrap, iaV_sl, iaV_arr, faV_pa, nck_pa, heap_new, heap_old, heap_set, ↓reduceIte, Nat.reduceEqDiff, Nat.reduceLT, Nat.reduceAdd, Int.reduceLT, Int.reduceLE, decide_false, decide_true, dec_true, dec_false, true_and, and_true, true_imp_iff, Bool.not_true, Bool.not_false, Option.map_none, Int.reduceToNat, Int.toNat_zero, Int.toNat_one, lkV_false, lkV_true, f1, f2, f5, f6, f7, f8, f30, f31, f32, f9, f10, f38, f39, f40, hrd, hce, hst])
        · rw [if_pos h3] at hms
          refine ⟨k2 - 1, by omega, j + 1, by omega, ?_, hqn, rfl⟩
          rw [hms]; exact hWn
        · cases T with
          | true =>
            simp (disch := first | omega | assumption | (simp only [O1, World.size_alloc, World.size_setCell, World.size_drew]; first | done | omega)) only [O1, D2, ↓H0, S0, ↓S1, ↓S2, ↓S3, ↓S4, S5, S5b, S5c, ↓S6, S6b, M0, E0, ty, tl, te, tc, i64_wrap, u64_wrap, iaV_sl, iaV_arr, faV_pa, nck_pa, heap_new, heap_old, heap_set, ↓reduceIte, Nat.reduceEqDiff, Nat.reduceLT, Nat.reduceAdd, Int.reduceLT, Int.reduceLE, decide_false, decide_true, dec_true, dec_false, true_and, and_true, true_imp_iff, Bool.not_true, Bool.not_false, Option.map_none, Int.reduceToNat, Int.toNat_zero, Int.toNat_one, lkV_false, lkV_true, f1, f2, f5, f6, f7, f8, f30, f31, f32, f9, f10, f38, f39, f40, hrd, hce, hst]
            refine ⟨k2 - 1, by omega, j + 1, by omega, ?_, hqb, rfl⟩
            rw [hms, if_neg h3]; exact hWV
          | false =>
            simp (disch := first | omega | assumption | (simp only [O1, World.size_alloc, World.size_setCell, World.size_drew]; first | done | omega)) only [O1, D2, ↓H0, S0, ↓S1, ↓S2, ↓S3, ↓S4, S5, S5b, S5c, ↓S6, S6b, M0, E0, ty, tl, te, tc, i64_wrap, u64_wrap, iaV_sl, iaV_arr, faV_pa, nck_pa, heap_new, heap_old, heap_set, ↓reduceIte, Nat.reduceEqDiff, Nat.reduceLT, Nat.reduceAdd, Int.reduceLT, Int.reduceLE, decide_false, decide_true, dec_true, dec_false, true_and, and_true, true_imp_iff, Bool.not_true, Bool.not_false, Option.map_none, Int.reduceToNat, Int.toNat_zero, Int.toNat_one, lkV_false, lkV_true, f1, f2, f5, f6, f7, f8, f30, f31, f32, f9, f10, f38, f39, f40, hrd, hce, hst]
            refine ⟨k2 - 1, by omega, j + 1, by omega, ?_, hqn, rfl⟩
            rw [hms, if_neg h3]; exact hWn
      · have hj : p.2.take j = p.2 := List.take_of_length_le (by omega)
        rw [hj] at hWV hrd hce
        have hm' : ∀ i' : Nat, i' < g.prods.length → (mis.set i ((miss T (fun _ => false) p.2 : Nat) : Int))[i']? = some (if i' < i + 1 then ((miss T (fun _ => false) (g.prods.getD i' (0, [])).2 : Nat) : Int) else 0) := by
          intro i' hi'
          rw [List.getElem?_set]
          by_cases e : i = i'
          · subst e; rw [if_pos rfl, if_pos (by omega), if_pos (by omega), hgD]
          · rw [if_neg e, hm i' hi']
            by_cases e2 : i' < i
            · rw [if_pos e2, if_pos (by omega)]
            · rw [if_neg e2, if_neg (by omega)]
        have hfew := hI.few
        simp (disch := first | omega | assumption | (simp only [O1, World.size_alloc, World.size_setCell, World.size_drew]; first | done | omega)) only [O1, D2, ↓H0, S0, ↓S1, ↓S2, ↓S3, ↓S4, S5, S5b, S5c, ↓S6, S6b, M0, E0, ty, tl, te, tc, i64_wrap, u64_wrap, iaV_sl, iaV_arr, faV_pa, nck_pa, heap_new, heap_old, heap_set, ↓reduceIte, Nat.reduceEqDiff, Nat.reduceLT, Nat.reduceAdd, Int.reduceLT, Int.reduceLE, decide_false, decide_true, dec_true, dec_false, true_and, and_true, true_imp_iff, Bool.not_true, Bool.not_false, Option.map_none, Int.reduceToNat, Int.toNat_zero, Int.toNat_one, lkV_false, lkV_true, f1, f2, f5, f6, f7, f8, f30, f31, f32, f9, f10, f38, f39, f40, hrd, hce]
        refine Br_if (fun h4 => ?_) (fun h4 => ?_) <;> (try simp (disch := first | omega | assumption | (simp only [O1, World.size_alloc, World.size_setCell, World.size_drew]; first | done | omega)) only [O1, D2, ↓H0, S0, ↓S1, ↓S2, ↓S3, ↓S4, S5, S5b, S5c, ↓S6, S6b, M0, E0, ty, tl, te, tc, i64_wrap, u64_wrap, iaV_sl, iaV_arr, faV_pa, nck_pa, heap_new, heap_old, heap_set, ↓reduceIte, Nat.reduceEqDiff, Nat.reduceLT, Nat.reduceAdd, Int.reduceLT, Int.reduceLE, decide_false, decide_true, dec_true, dec_false, true_and, and_true, true_imp_iff, Bool.not_true, Bool.not_false, Option.map_none, Int.reduceToNat, Int.toNat_zero, Int.toNat_one, lkV_false, lkV_true, f1, f2, f5, f6, f7, f8, f30, f31, f32, f9, f10, f38, f39, f40, hqb, CallV_func])
        · have h0 : miss T (fun _ => false) p.2 = 0 := by omega
          refine (hWV.call hI.len (by omega) hp0 hp1).then ?_
          rintro v Y (⟨hl1, rfl⟩ | ⟨hl1, wv', hWY, _, _⟩)
          · simp (disch := first | omega | assumption | (simp only [O1, World.size_alloc, World.size_setCell, World.size_drew]; first | done | omega)) only [O1, D2, ↓H0, S0, ↓S1, ↓S2, ↓S3, ↓S4, S5, S5b, S5c, ↓S6, S6b, M0, E0, ty, tl, te, tc, i64_wrap, u64_wrap, iaV_sl, iaV_arr, faV_pa, nck_pa, heap_new, heap_old, heap_set, ↓reduceIte, Nat.reduceEqDiff, Nat.reduceLT, Nat.reduceAdd, Int.reduceLT, Int.reduceLE, decide_false, decide_true, dec_true, dec_false, true_and, and_true, true_imp_iff, Bool.not_true, Bool.not_false, Option.map_none, Int.reduceToNat, Int.toNat_zero, Int.toNat_one, lkV_false, lkV_true, f1, f2, f5, f6, f7, f8, f30, f31, f32, f9, f10, f38, f39, f40]
            exact ⟨k - 1, by omega, i + 1, l, _, wv, work, by omega, hWV, hI.more fun _ => by rw [hgD]; exact hl1, by simpa using hml, hm', rfl⟩
          · simp (disch := first | omega | assumption | (simp only [O1, World.size_alloc, World.size_setCell, World.size_drew]; first | done | omega)) only [O1, D2, ↓H0, S0, ↓S1, ↓S2, ↓S3, ↓S4, S5, S5b, S5c, ↓S6, S6b, M0, E0, ty, tl, te, tc, i64_wrap, u64_wrap, iaV_sl, iaV_arr, faV_pa, nck_pa, heap_new, heap_old, heap_set, ↓reduceIte, Nat.reduceEqDiff, Nat.reduceLT, Nat.reduceAdd, Int.reduceLT, Int.reduceLE, decide_false, decide_true, dec_true, dec_false, true_and, and_true, true_imp_iff, Bool.not_true, Bool.not_false, Option.map_none, Int.reduceToNat, Int.toNat_zero, Int.toNat_one, lkV_false, lkV_true, f1, f2, f5, f6, f7, f8, f30, f31, f32, f9, f10, f38, f39, f40]
            have hadd := hI.add (a := p.1.toNat) (by omega) hl1 (by rw [Int.toNat_of_nonneg hp0]; exact hI.ready hmem h0)
            rw [Int.toNat_of_nonneg hp0] at hadd
            exact ⟨k - 1, by omega, i + 1, _, _, wv', _, by omega, hWY, hadd.more fun _ => by rw [hgD, List.getElem?_set, if_pos rfl, if_pos (by rw [hI.len]; omega)], by simpa using hml, hm', rfl⟩
        · exact ⟨k - 1, by omega, i + 1, l, _, wv, work, by omega, hWV, hI.more fun h0 => by rw [hgD] at h0; omega, by simpa using hml, hm', rfl⟩
    · have hil : i = g.prods.length := by omega
      subst hil
      have hbU := hbx ▸ hW.box
      simp (disch := first | omega | assumption | (simp only [O1, World.size_alloc, World.size_setCell, World.size_drew]; first | done | omega)) only [O1, D2, ↓H0, S0, ↓S1, ↓S2, ↓S3, ↓S4, S5, S5b, S5c, ↓S6, S6b, M0, E0, ty, tl, te, tc, i64_wrap, u64_wrap, iaV_sl, iaV_arr, faV_pa, nck_pa, heap_new, heap_old, heap_set, ↓reduceIte, Nat.reduceEqDiff, Nat.reduceLT, Nat.reduceAdd, Int.reduceLT, Int.reduceLE, decide_false, decide_true, dec_true, dec_false, true_and, and_true, true_imp_iff, Bool.not_true, Bool.not_false, Option.map_none, Int.reduceToNat, Int.toNat_zero, Int.toNat_one, lkV_false, lkV_true, f1, f2, f5, f6, f7, f8, f30, f31, f32, hbU, ldA5]
      refine (uses_ok _ g U (hg0.ext hW.ext) hS).then ?_
      rintro _ V ⟨⟨G, rfl, hGl, hRO⟩, hxV⟩
      have hWV := hW.ext' hxV
      have hUV := hxV.size
      have hbwU := lt_heap hW.wrk
      simp (disch := first | omega | assumption | (simp only [O1, World.size_alloc, World.size_setCell, World.size_drew]; first | done | omega)) only [O1, D2, ↓H0, S0, ↓S1, ↓S2, ↓S3, ↓S4, S5, S5b, S5c, ↓S6, S6b, M0, E0, ty, tl, te, tc, i64_wrap, u64_wrap, iaV_sl, iaV_arr, faV_pa, nck_pa, heap_new, heap_old, heap_set, ↓reduceIte, Nat.reduceEqDiff, Nat.reduceLT, Nat.reduceAdd, Int.reduceLT, Int.reduceLE, decide_false, decide_true, dec_true, dec_false, true_and, and_true, true_imp_iff, Bool.not_true, Bool.not_false, Option.map_none, Int.reduceToNat, Int.toNat_zero, Int.toNat_one, lkV_false, lkV_true, f1, f2, f5, f6, f7, f8, f30, f31, f32]
      have hus := hn2
      have hread : ∀ s : Nat, s < g.names.length → ∃ R c, (usesUp g.prods s g.prods.length).length ≤ c ∧ ∀ w', (∀ k, U.heap.size ≤ k → k < V.heap.size → w'.heap[k]? = V.heap[k]?) → rd w' (some ⟨G, 0, none⟩) s = some (.slice R (usesUp g.prods s g.prods.length).length c) ∧
          ∀ j (hj : j < (usesUp g.prods s g.prods.length).length), rd w' R j = some (IV (usesUp g.prods s g.prods.length)[j]) := by
        intro s hs
        have := hRO.read hGl s (by simpa using hs)
        simpa using this
      refine ⟨fun k t X => ∃ (D : Int → Bool) (l : List Bool) (mis : List Int) (wv : Value) (work : List Int), k = 2 * falses l + work.length ∧ CloW w X bx g.names.length B0 I bi Mi bw bw l mis wv work ∧ CloI g.names.length T g.prods D l work (fun i => miss T D (g.prods.getD i (0, [])).2) g.prods.length ∧
        mis.length = g.prods.length ∧ (∀ i' : Nat, i' < g.prods.length → mis[i']? = some ((miss T D (g.prods.getD i' (0, [])).2 : Nat) : Int)) ∧ (∀ b, wv.ownBlock = some b → b < U.heap.size ∨ V.heap.size ≤ b) ∧ (∀ k, U.heap.size ≤ k → k < V.heap.size → X.heap[k]? = V.heap[k]?) ∧ V.heap.size ≤ X.heap.size ∧
        t 2 = pa (some ⟨B0, 0, none⟩) 0 ∧ t 5 = pa (some ⟨bi, 0, none⟩) 0 ∧ t 6 = .slice (some ⟨Mi, 0, none⟩) g.prods.length g.prods.length ∧ t 7 = pa (some ⟨bw, 0, none⟩) 0 ∧ t 8 = .func (.func 134) #[] #[pa (some ⟨bi, 0, none⟩) 0, pa (some ⟨bw, 0, none⟩) 0] ∧ t 13 = .slice (some ⟨G, 0, none⟩) g.names.length g.names.length,
        ⟨_, fun _ => false, l, mis, wv, work, rfl, hWV, hI, hml, fun i' hi' => by rw [hm i' hi', if_pos hi'], fun b hb => .inl (hW.row.lt b hb).2, fun _ _ _ => rfl, Nat.le_refl _, ?_⟩, ?_⟩
      · simp (disch := first | omega | assumption | (simp only [O1, World.size_alloc, World.size_setCell, World.size_drew]; first | done | omega)) only [O1, D2, ↓H0, S0, ↓S1, ↓S2, ↓S3, ↓S4, S5, S5b, S5c, ↓S6, S6b, M0, E0, ty, tl, te, tc, i64_wrap, u64_wrap, iaV_sl, iaV_arr, faV_pa, nck_pa, heap_new, heap_old, heap_set, ↓reduceIte, Nat.reduceEqDiff, Nat.reduceLT, Nat.reduceAdd, Int.reduceLT, Int.reduceLE, decide_false, decide_true, dec_true, dec_false, true_and, and_true, true_imp_iff, Bool.not_true, Bool.not_false, Option.map_none, Int.reduceToNat, Int.toNat_zero, Int.toNat_one, lkV_false, lkV_true, f1, f2, f5, f6, f7, f8] <;> rfl
      clear hWV hI hm hml f1 f2 f5 f6 f7 f8 f30 f31 f32 hbU
      have hbw0 := lt_heap hW.wrk
      have hMi0 := hW.nums.lt
      have hI0 := hW.bits.lt
      clear hW
      rintro k t X ⟨D, l, mis, wv, work, rfl, hWX, hI, hml, hm, hwo, hsame, hXs, f2, f5, f6, f7, f8, f13⟩
      have hwk := hWX.wrk
      rcases List.eq_nil_or_concat work with rfl | ⟨work', s, hwe⟩
      · obtain ⟨QA, qc, rfl, hqc, hQ⟩ := hWX.row.sq
        have hin' := hWX.inn
        simp (disch := first | omega | assumption | (simp only [O1, World.size_alloc, World.size_setCell, World.size_drew]; first | done | omega)) only [O1, D2, ↓H0, S0, ↓S1, ↓S2, ↓S3, ↓S4, S5, S5b, S5c, ↓S6, S6b, M0, E0, ty, tl, te, tc, i64_wrap, u64_wrap, iaV_sl, iaV_arr, faV_pa, nck_pa, heap_new, heap_old, heap_set, ↓reduceIte, Nat.reduceEqDiff, Nat.reduceLT, Nat.reduceAdd, Int.reduceLT, Int.reduceLE, decide_false, decide_true, dec_true, dec_false, true_and, and_true, true_imp_iff, Bool.not_true, Bool.not_false, Option.map_none, Int.reduceToNat, Int.toNat_zero, Int.toNat_one, lkV_false, lkV_true, f2, f5, f6, f7, f8, f13, hwk, hin', List.length_nil]
        exact ⟨.inr ⟨hS, _, l, rfl, by have := hWX.iw; omega, hWX.bits, hI.done (fun _ _ => rfl) hin⟩, hWX.ext⟩
      · rw [List.concat_eq_append] at hwe
        subst hwe
        obtain ⟨hs, hDs, hI1⟩ := hI.take
        obtain ⟨v', hslv, hown, hone, hW1⟩ := hWX.pop
        obtain ⟨QA, qc, rfl, hQs, hQl⟩ := hWX.row.last
        have e1 : ((work'.length + 1 : Nat) : Int) - 1 = (work'.length : Int) := by omega
        have hst := sto_own (P := Try.prog) (T := 23) (w := X) (g := bw) (o := 0) (k := 0) (x := v') (by simp only [ty]) hwk (by simp) hone
        rw [Nat.zero_add] at hst
        obtain ⟨X1, hX1⟩ : ∃ X1, X1 = X.setCell ⟨bw, 0, none⟩ v' := ⟨_, rfl⟩
        rw [← hX1] at hst hW1
        have hX1s : X1.heap.size = X.heap.size := by rw [hX1]; simp
        have hsame1 : ∀ k, U.heap.size ≤ k → k < V.heap.size → X1.heap[k]? = V.heap[k]? := fun k h1 h2 => by rw [hX1, heap_set _ (by omega)]; exact hsame k h1 h2
        have hfew := hI1.few
        obtain ⟨R, rc, hrc, hrow⟩ := hread s.toNat (by omega)
        rw [Int.toNat_of_nonneg hs.1] at hrc hrow
        obtain ⟨hr1, hr2⟩ := hrow X1 hsame1
        have hr1' := hr1
        rw [rd_own, Nat.zero_add] at hr1'
        simp (disch := first | omega | assumption | (simp only [O1, World.size_alloc, World.size_setCell, World.size_drew]; first | done | omega)) only [O1, D2, ↓H0, S0, ↓S1, ↓S2, ↓S3, ↓S4, S5, S5b, S5c, ↓S6, S6b, M0, E0, ty, tl, te, tc, i64_wrap, u64_wrap, iaV_sl, iaV_arr, faV_pa, nck_pa, heap_new, heap_old, heap_set, ↓reduceIte, Nat.reduceEqDiff, Nat.reduceLT, Nat.reduceAdd, Int.reduceLT, Int.reduceLE, decide_false, decide_true, dec_true, dec_false, true_and, and_true, true_imp_iff, Bool.not_true, Bool.not_false, Option.map_none, Int.reduceToNat, Int.toNat_zero, Int.toNat_one, lkV_false, lkV_true, f2, f5, f6, f7, f8, f13, hwk, hQl, e1, hslv, hst, hr1, hr1']
        obtain ⟨row, hrw⟩ : ∃ row, row = usesUp g.prods s g.prods.length := ⟨_, rfl⟩
        rw [← hrw] at hrc hr1 hr1' ⊢
        have hrow' : ∀ w', (∀ k, U.heap.size ≤ k → k < V.heap.size → w'.heap[k]? = V.heap[k]?) → ∀ j (hj : j < row.length), rd w' R j = some (IV row[j]) := by rw [hrw]; exact fun w' h => (hrow w' h).2
        have hrl : row.length ≤ 16 * g.prods.length := by rw [hrw]; exact usesUp_len hside
        have hcnt : ∀ i : Nat, i < g.prods.length → row.count (i : Int) = (g.prods.getD i (0, [])).2.count s := fun i hi => by rw [hrw, usesUp_count, if_pos hi]
        refine ⟨fun k2 t Y => ∃ (j : Nat) (l2 : List Bool) (mis2 : List Int) (wv2 : Value) (work2 : List Int), k2 + j = row.length ∧ 2 * falses l2 + work2.length ≤ 2 * falses l + work'.length ∧ CloW w Y bx g.names.length B0 I bi Mi bw bw l2 mis2 wv2 work2 ∧
          CloI g.names.length T g.prods (addD D s) l2 work2 (fun i => miss T D (g.prods.getD i (0, [])).2 - (row.take j).count (i : Int)) g.prods.length ∧ mis2.length = g.prods.length ∧ (∀ i' : Nat, i' < g.prods.length → mis2[i']? = some ((miss T D (g.prods.getD i' (0, [])).2 - (row.take j).count (i' : Int) : Nat) : Int)) ∧
          (∀ b, wv2.ownBlock = some b → b < U.heap.size ∨ V.heap.size ≤ b) ∧ (∀ k, U.heap.size ≤ k → k < V.heap.size → Y.heap[k]? = V.heap[k]?) ∧ V.heap.size ≤ Y.heap.size ∧
          t 2 = pa (some ⟨B0, 0, none⟩) 0 ∧ t 5 = pa (some ⟨bi, 0, none⟩) 0 ∧ t 6 = .slice (some ⟨Mi, 0, none⟩) g.prods.length g.prods.length ∧ t 7 = pa (some ⟨bw, 0, none⟩) 0 ∧ t 8 = .func (.func 134) #[] #[pa (some ⟨bi, 0, none⟩) 0, pa (some ⟨bw, 0, none⟩) 0] ∧ t 13 = .slice (some ⟨G, 0, none⟩) g.names.length g.names.length ∧
          t 86 = .slice R row.length rc ∧ t 87 = .int .i64 row.length ∧ t 88 = .int .i64 j,
          ⟨row.length, 0, l, mis, v', work', by omega, Nat.le_refl _, hW1, by simpa using hI1, hml, by simpa using hm, fun b hb => hwo b (by rw [← hown]; exact hb), hsame1, by omega, ?_⟩, ?_⟩
        · simp (disch := first | omega | assumption | (simp only [O1, World.size_alloc, World.size_setCell, World.size_drew]; first | done | omega)) only [O1, D2, ↓H0, S0, ↓S1, ↓S2, ↓S3, ↓S4, S5, S5b, S5c, ↓S6, S6b, M0, E0, ty, tl, te, tc, i64_wrap, u64_wrap, iaV_sl, iaV_arr, faV_pa, nck_pa, heap_new, heap_old, heap_set, ↓reduceIte, Nat.reduceEqDiff, Nat.reduceLT, Nat.reduceAdd, Int.reduceLT, Int.reduceLE, decide_false, decide_true, dec_true, dec_false, true_and, and_true, true_imp_iff, Bool.not_true, Bool.not_false, Option.map_none, Int.reduceToNat, Int.toNat_zero, Int.toNat_one, lkV_false, lkV_true, f2, f5, f6, f7, f8, f13] <;> rfl
        clear hW1 hsame1 hr1 hr1' hst hwk hslv hQl hWX hI1 f2 f5 f6 f7 f8 f13
        rintro k2 t Y ⟨j, l2, mis2, wv2, work2, hk2, hle, hWY, hIY, hml2, hm2, hwo2, hsame2, hYs, f2, f5, f6, f7, f8, f13, f86, f87, f88⟩
        simp (disch := first | omega | assumption | (simp only [O1, World.size_alloc, World.size_setCell, World.size_drew]; first | done | omega)) only [O1, D2, ↓H0, S0, ↓S1, ↓S2, ↓S3, ↓S4, S5, S5b, S5c, ↓S6, S6b, M0, E0, ty, tl, te, tc, i64_wrap, u64_wrap, iaV_sl, iaV_arr, faV_pa, nck_pa, heap_new, heap_old, heap_set, ↓reduceIte, Nat.reduceEqDiff, Nat.reduceLT, Nat.reduceAdd, Int.reduceLT, Int.reduceLE, decide_false, decide_true, dec_true, dec_false, true_and, and_true, true_imp_iff, Bool.not_true, Bool.not_false, Option.map_none, Int.reduceToNat, Int.toNat_zero, Int.toNat_one, lkV_false, lkV_true, f2, f5, f6, f7, f8, f13, f86, f87, f88]
        refine Br_if (fun h2 => ?_) (fun h2' => ?_) <;> (try simp (disch := first | omega | assumption | (simp only [O1, World.size_alloc, World.size_setCell, World.size_drew]; first | done | omega)) only [O1, D2, ↓H0, S0, ↓S1, ↓S2, ↓S3, ↓S4, S5, S5b, S5c, ↓S6, S6b, M0, E0, ty, tl, te, tc, i64_wrap, u64_wrap, iaV_sl, iaV_arr, faV_pa, nck_pa, heap_new, heap_old, heap_set, ↓reduceIte, Nat.reduceEqDiff, Nat.reduceLT, Nat.reduceAdd, Int.reduceLT, Int.reduceLE, decide_false, decide_true, dec_true, dec_false, true_and, and_true, true_imp_iff, Bool.not_true, Bool.not_false, Option.map_none, Int.reduceToNat, Int.toNat_zero, Int.toNat_one, lkV_false, lkV_true, f2, f5, f6, f7, f8, f13, f86, f87, f88])
        · have hj : j < row.length := by omega
          have hrj := hrow' Y hsame2 j hj
          have hRs := rd_isSome hrj
          have htk : row.take (j + 1) = row.take j ++ [row[j]] := List.take_succ_eq_append_getElem hj
          have hrm := usesUp_mem (show row[j] ∈ usesUp g.prods s g.prods.length by rw [← hrw]; exact List.getElem_mem _)
          have hle1 : (row.take (j + 1)).count row[j] ≤ row.count row[j] := (List.take_sublist _ _).count_le _
          obtain ⟨i, hi, hie⟩ : ∃ i : Nat, i < g.prods.length ∧ row[j] = (i : Int) := ⟨row[j].toNat, by omega, by omega⟩
          rw [hie] at hrj htk hle1
          have hci := hcnt i hi
          have hms := miss_add (T := T) hs.1 hDs (g.prods.getD i (0, [])).2
          have hgD := hD0 i hi
          have hmem : g.prods[i] ∈ g.prods := List.getElem_mem _
          have hlen := hside _ hmem
          have hmb : miss T D (g.prods.getD i (0, [])).2 ≤ 16 := Nat.le_trans List.countP_le_length (by rw [hgD]; exact hlen)
          have hc1 : (row.take (j + 1)).count (i : Int) = (row.take j).count (i : Int) + 1 := by rw [htk, List.count_append]; simp
          have hcx : ∀ x : Nat, x ≠ i → (row.take (j + 1)).count (x : Int) = (row.take j).count (x : Int) := fun x hx => by
            rw [htk, List.count_append, List.count_cons]
            have : ¬ (i : Int) = (x : Int) := by omega
            simp [this]
          obtain ⟨Mv, hMv⟩ : ∃ Mv, Mv = miss T D (g.prods.getD i (0, [])).2 - (row.take j).count (i : Int) := ⟨_, rfl⟩
          have hil : i < mis2.length := by omega
          have hmi := hm2 i hi
          rw [← hMv, List.getElem?_eq_getElem hil] at hmi
          simp only [Option.some.injEq] at hmi
          have hrd := hWY.nums.rd i hil
          have hce := hWY.nums.cell i hil
          rw [hmi] at hrd hce
          have e2 : ((Mv : Nat) : Int) - 1 = ((Mv - 1 : Nat) : Int) := by omega
          have hst := hWY.nums.sto (P := Try.prog) (t := 3) (by simp only [ty]) i hil ((Mv - 1 : Nat) : Int) rfl
          have hWn := hWY.num i ((Mv - 1 : Nat) : Int)
          have hMi : Mi < U.heap.size := hMi0
          have hsame3 : ∀ k, U.heap.size ≤ k → k < V.heap.size → (Y.setCell ⟨Mi, i, none⟩ (IV ((Mv - 1 : Nat) : Int))).heap[k]? = V.heap[k]? := fun k h1 h2 => by rw [heap_set _ (by omega)]; exact hsame2 k h1 h2
          obtain ⟨Z, hZ⟩ : ∃ Z, Z = Y.setCell ⟨Mi, i, none⟩ (IV ((Mv - 1 : Nat) : Int)) := ⟨_, rfl⟩
          have hZs : Z.heap.size = Y.heap.size := by rw [hZ]; simp
          rw [← hZ] at hst hWn hsame3
          have hgi : (mis2.set i ((Mv - 1 : Nat) : Int))[i]'(by simpa using hil) = ((Mv - 1 : Nat) : Int) := by simp
          have hrd3 := hWn.nums.rd i (by simpa using hil)
          have hce3 := hWn.nums.cell i (by simpa using hil)
          rw [hgi] at hrd3 hce3
          have hm3 : ∀ i' : Nat, i' < g.prods.length → (mis2.set i ((Mv - 1 : Nat) : Int))[i']? = some ((miss T D (g.prods.getD i' (0, [])).2 - (row.take (j + 1)).count (i' : Int) : Nat) : Int) := by
            intro i' hi'
            rw [List.getElem?_set]
            by_cases e : i = i'
            · subst e
              rw [if_pos rfl, if_pos hil, hc1]
              congr 2; omega
            · rw [if_neg e, hm2 i' hi', hcx i' (fun h => e h.symm)]
          have hIn : ∀ {l3 : List Bool} {w3 : List Int}, CloI g.names.length T g.prods (addD D s) l3 w3 (fun i => miss T D (g.prods.getD i (0, [])).2 - (row.take j).count (i : Int)) g.prods.length → (Mv - 1 = 0 → l3[((g.prods.getD i (0, [])).1).toNat]? = some true) →
              CloI g.names.length T g.prods (addD D s) l3 w3 (fun i => miss T D (g.prods.getD i (0, [])).2 - (row.take (j + 1)).count (i : Int)) g.prods.length := by
            intro l3 w3 h hz
            refine h.put i (fun x hx hne h0 => ⟨hx, ?_⟩) (fun h0 => hz ?_)
            · rw [hcx x hne] at h0; exact h0
            · rw [hc1] at h0; omega
          have hfew2 := hIY.few
          have hilI : (i : Int) < (g.prods.length : Int) := by omega
          simp (disch := first | omega | assumption | (simp only [O1, World.size_alloc, World.size_setCell, World.size_drew]; first | done | omega)) only [O1, D2, ↓H0, S0, ↓S1, ↓S2, ↓S3, ↓S4, S5, S5b, S5c, ↓S6, S6b, M0, E0, ty, tl, te, tc, i64_wrap, u64_wrap, iaV_sl, iaV_arr, faV_pa, nck_pa, heap_new, heap_old, heap_set, ↓reduceIte, Nat.reduceEqDiff, Nat.reduceLT, Nat.reduceAdd, Int.reduceLT, Int.reduceLE, decide_false, decide_true, dec_true, dec_false, true_and, and_true, true_imp_iff, Bool.not_true, Bool.not_false, Option.map_none, Int.reduceToNat, Int.toNat_zero, Int.toNat_one, lkV_false, lkV_true, f2, f5, f6, f7, f8, f13, f86, f87, f88, hrj, hrd, hce, e2, hst, hrd3, hce3]
          refine Br_if (fun h3 => ?_) (fun h3 => ?_) <;> (try simp (disch := first | omega | assumption | (simp only [O1, World.size_alloc, World.size_setCell, World.size_drew]; first | done | omega)) only [O1, D2, ↓H0, S0, ↓S1, ↓S2, ↓S3, ↓S4, S5, S5b, S5c, ↓S6, S6b, M0, E0, ty, tl, te, tc, i64_wrap, u64_wrap, iaV_sl, iaV_arr, faV_pa, nck_pa, heap_new, heap_old, heap_set, ↓reduceIte, Nat.reduceEqDiff, Nat.reduceLT, Nat.reduceAdd, Int.reduceLT, Int.reduceLE, decide_false, decide_true, dec_true, dec_false, true_and, and_true, true_imp_iff, Bool.not_true, Bool.not_false, Option.map_none, Int.reduceToNat, Int.toNat_zero, Int.toNat_one, lkV_false, lkV_true, f2, f5, f6, f7, f8, f13, f86, f87, f88, hrj, hrd, hce, e2, hst, hrd3, hce3])
          · have hbZ := hbx ▸ hWn.box
            obtain ⟨hl, _⟩ := hC i hi
            have hl' := hWn.ext.rd hl
            have hAs := rd_isSome hl
            obtain ⟨⟨hp0, hp1⟩, hps⟩ := hin _ hmem
            simp (disch := first | omega | assumption | (simp only [O1, World.size_alloc, World.size_setCell, World.size_drew]; first | done | omega)) only [O1, D2, ↓H0, S0, ↓S1, ↓S2, ↓S3, ↓S4, S5, S5b, S5c, ↓S6, S6b, M0, E0, ty, tl, te, tc, i64_wrap, u64_wrap, iaV_sl, iaV_arr, faV_pa, nck_pa, heap_new, heap_old, heap_set, ↓reduceIte, Nat.reduceEqDiff, Nat.reduceLT, Nat.reduceAdd, Int.reduceLT, Int.reduceLE, decide_false, decide_true, dec_true, dec_false, true_and, and_true, true_imp_iff, Bool.not_true, Bool.not_false, Option.map_none, Int.reduceToNat, Int.toNat_zero, Int.toNat_one, lkV_false, lkV_true, f2, f5, f6, f7, f8, f13, f86, f87, f88, hbZ, hl', CallV_func]
            refine (hWn.call hIY.len (by omega) hp0 hp1).then ?_
            rintro v Q (⟨hl1, rfl⟩ | ⟨hl1, wv3, hWQ, hch, hv3⟩)
            · simp (disch := first | omega | assumption | (simp only [O1, World.size_alloc, World.size_setCell, World.size_drew]; first | done | omega)) only [O1, D2, ↓H0, S0, ↓S1, ↓S2, ↓S3, ↓S4, S5, S5b, S5c, ↓S6, S6b, M0, E0, ty, tl, te, tc, i64_wrap, u64_wrap, iaV_sl, iaV_arr, faV_pa, nck_pa, heap_new, heap_old, heap_set, ↓reduceIte, Nat.reduceEqDiff, Nat.reduceLT, Nat.reduceAdd, Int.reduceLT, Int.reduceLE, decide_false, decide_true, dec_true, dec_false, true_and, and_true, true_imp_iff, Bool.not_true, Bool.not_false, Option.map_none, Int.reduceToNat, Int.toNat_zero, Int.toNat_one, lkV_false, lkV_true, f2, f5, f6, f7, f8, f13, f86, f87, f88]
              exact ⟨k2 - 1, by omega, j + 1, l2, _, wv2, work2, by omega, hle, hWn, hIn hIY fun _ => by rw [hgD]; exact hl1, by simpa using hml2, hm3, hwo2, hsame3, by omega, rfl⟩
            · have hgen : Gen T g.prods g.prods[i].1 := hIY.ready hmem (by rw [← hgD]; omega)
              have hadd := hIY.add (a := g.prods[i].1.toNat) (by omega) hl1 (by rw [Int.toNat_of_nonneg hp0]; exact hgen)
              rw [Int.toNat_of_nonneg hp0] at hadd
              have hfs := falses_set hl1
              have hQs := hch.size
              have hsame4 : ∀ k, U.heap.size ≤ k → k < V.heap.size → Q.heap[k]? = V.heap[k]? := fun k h1 h2 => by
                rw [hch.block k (by omega) ?_]; exact hsame3 k h1 h2
                rintro (e | e | e)
                · omega
                · omega
                · have := hwo2 k e; omega
              simp (disch := first | omega | assumption | (simp only [O1, World.size_alloc, World.size_setCell, World.size_drew]; first | done | omega)) only [O1, D2, ↓H0, S0, ↓S1, ↓S2, ↓S3, ↓S4, S5, S5b, S5c, ↓S6, S6b, M0, E0, ty, tl, te, tc, i64_wrap, u64_wrap, iaV_sl, iaV_arr, faV_pa, nck_pa, heap_new, heap_old, heap_set, ↓reduceIte, Nat.reduceEqDiff, Nat.reduceLT, Nat.reduceAdd, Int.reduceLT, Int.reduceLE, decide_false, decide_true, dec_true, dec_false, true_and, and_true, true_imp_iff, Bool.not_true, Bool.not_false, Option.map_none, Int.reduceToNat, Int.toNat_zero, Int.toNat_one, lkV_false, lkV_true, f2, f5, f6, f7, f8, f13, f86, f87, f88]
              refine ⟨k2 - 1, by omega, j + 1, _, _, wv3, _, by omega, ?_, hWQ, hIn hadd fun _ => by rw [hgD, List.getElem?_set, if_pos rfl, if_pos (by rw [hIY.len]; omega)], by simpa using hml2, hm3, fun b hb => ?_, hsame4, by omega, rfl⟩
              · rw [List.length_append, List.length_cons, List.length_nil]; omega
              · rcases hv3 with h | ⟨b', h, h'⟩
                · exact hwo2 b (h ▸ hb)
                · rw [hb] at h; cases h; right; omega
          · exact ⟨k2 - 1, by omega, j + 1, l2, _, wv2, work2, by omega, hle, hWn, hIn hIY fun h0 => by omega, by simpa using hml2, hm3, hwo2, hsame3, by omega, rfl⟩
        · have hj : row.take j = row := List.take_of_length_le (by omega)
          rw [hj] at hIY hm2
          have hmD : ∀ i : Nat, i < g.prods.length → miss T D (g.prods.getD i (0, [])).2 - row.count (i : Int) = miss T (addD D s) (g.prods.getD i (0, [])).2 := fun i hi => by
            have := miss_add (T := T) hs.1 hDs (g.prods.getD i (0, [])).2
            rw [hcnt i hi]; omega
          refine ⟨2 * falses l2 + work2.length, ?_, addD D s, l2, mis2, wv2, work2, rfl, hWY, hIY.mis_eq (fun x hx h0 => by rw [hmD x hx]; exact h0), hml2, fun i' hi' => by rw [hm2 i' hi', hmD i' hi'], hwo2, hsame2, hYs⟩
          rw [List.length_append, List.length_cons, List.length_nil]; omega
theorem close_ok (v : Value) (g : PG) (T : Bool) (w : World) (hg : RepPG w v g) (hs : SmallP g) :
    Ok Try.prog 91 #[v, .bool T] w fun v w' => ((¬ SoundP g ∧ v = .slice none 0 0) ∨ (SoundP g ∧ ∃ l, Bools w' v l ∧ Tells g.names.length (Gen T g.prods) l)) ∧ Ext w w' := by
  refine (close2_ok v g T w hg hs).then ?_
  rintro u W ⟨h | ⟨h, G, l, rfl, _, h1, h2⟩, hx⟩
  · exact ⟨.inl h, hx⟩
  · have hsq := h1.sq
    rw [h2.1] at hsq
    exact ⟨.inr ⟨h, l, hsq, h2⟩, hx⟩
theorem nullable_ok (v : Value) (g : PG) (w : World) (hg : RepPG w v g) (hs : SmallP g) :
    Ok Try.prog 37 #[v] w fun v w' => ((¬ SoundP g ∧ v = .slice none 0 0) ∨ (SoundP g ∧ ∃ l, Bools w' v l ∧ Tells g.names.length (Gen false g.prods) l)) ∧ Ext w w' := by
  have hg0 := hg
  obtain ⟨nv, tv, pv, rfl, hN, hT, hp⟩ := hg
  (refine Ok.enter Try.func37 rfl (by kernel_rfl) (Nat.le_of_ble_eq_true rfl) ?_; simp only [Try.f37, S7])
  simp (disch := first | omega | assumption | (simp only [O1, World.size_alloc, World.size_setCell, World.size_drew]; first | done | omega)) only [O1, D2, ↓H0, S0, ↓S1, ↓S2, ↓S3, ↓S4, S5, S5b, S5c, ↓S6, S6b, M0, E0, ty, tl, te, tc, i64_wrap, u64_wrap, iaV_sl, iaV_arr, faV_pa, nck_pa, heap_new, heap_old, heap_set, ↓reduceIte, Nat.reduceEqDiff, Nat.reduceLT, Nat.reduceAdd, Int.reduceLT, Int.reduceLE, decide_false, decide_true, dec_true, dec_false, true_and, and_true, true_imp_iff, Bool.not_true, Bool.not_false, Option.map_none, Int.reduceToNat, Int.toNat_zero, Int.toNat_one, lkV_false, lkV_true, ldA5]
  have hx0 := (Ext.rfl' w).al (.cells #[.int .i64 g.start, .int .i64 g.rules, nv, tv, pv] 41)
  refine (close_ok _ g false _ (hg0.ext hx0) hs).then ?_
  rintro u W ⟨h, hx⟩
  simp (disch := first | omega | assumption | (simp only [O1, World.size_alloc, World.size_setCell, World.size_drew]; first | done | omega)) only [O1, D2, ↓H0, S0, ↓S1, ↓S2, ↓S3, ↓S4, S5, S5b, S5c, ↓S6, S6b, M0, E0, ty, tl, te, tc, i64_wrap, u64_wrap, iaV_sl, iaV_arr, faV_pa, nck_pa, heap_new, heap_old, heap_set, ↓reduceIte, Nat.reduceEqDiff, Nat.reduceLT, Nat.reduceAdd, Int.reduceLT, Int.reduceLE, decide_false, decide_true, dec_true, dec_false, true_and, and_true, true_imp_iff, Bool.not_true, Bool.not_false, Option.map_none, Int.reduceToNat, Int.toNat_zero, Int.toNat_one, lkV_false, lkV_true]
  exact ⟨h, hx0.tr hx⟩
theorem generating_ok (v : Value) (g : PG) (w : World) (hg : RepPG w v g) (hs : SmallP g) :
    Ok Try.prog 35 #[v] w fun v w' => ((¬ SoundP g ∧ v = .slice none 0 0) ∨ (SoundP g ∧ ∃ l, Bools w' v l ∧ Tells g.names.length (Gen true g.prods) l)) ∧ Ext w w' := by
  have hg0 := hg
  obtain ⟨nv, tv, pv, rfl, hN, hT, hp⟩ := hg
  (refine Ok.enter Try.func35 rfl (by kernel_rfl) (Nat.le_of_ble_eq_true rfl) ?_; simp only [Try.f35, S7])
  simp (disch := first | omega | assumption | (simp only [O1, World.size_alloc, World.size_setCell, World.size_drew]; first | done | omega)) only [O1, D2, ↓H0, S0, ↓S1, ↓S2, ↓S3, ↓S4, S5, S5b, S5c, ↓S6, S6b, M0, E0, ty, tl, te, tc, i64_wrap, u64_wrap, iaV_sl, iaV_arr, faV_pa, nck_pa, heap_new, heap_old, heap_set, ↓reduceIte, Nat.reduceEqDiff, Nat.reduceLT, Nat.reduceAdd, Int.reduceLT, Int.reduceLE, decide_false, decide_true, dec_true, dec_false, true_and, and_true, true_imp_iff, Bool.not_true, Bool.not_false, Option.map_none, Int.reduceToNat, Int.toNat_zero, Int.toNat_one, lkV_false, lkV_true, ldA5]
  have hx0 := (Ext.rfl' w).al (.cells #[.int .i64 g.start, .int .i64 g.rules, nv, tv, pv] 41)
  refine (close_ok _ g true _ (hg0.ext hx0) hs).then ?_
  rintro u W ⟨h, hx⟩
  simp (disch := first | omega | assumption | (simp only [O1, World.size_alloc, World.size_setCell, World.size_drew]; first | done | omega)) only [O1, D2, ↓H0, S0, ↓S1, ↓S2, ↓S3, ↓S4, S5, S5b, S5c, ↓S6, S6b, M0, E0, ty, tl, te, tc, i64_wrap, u64_wrap, iaV_sl, iaV_arr, faV_pa, nck_pa, heap_new, heap_old, heap_set, ↓reduceIte, Nat.reduceEqDiff, Nat.reduceLT, Nat.reduceAdd, Int.reduceLT, Int.reduceLE, decide_false, decide_true, dec_true, dec_false, true_and, and_true, true_imp_iff, Bool.not_true, Bool.not_false, Option.map_none, Int.reduceToNat, Int.toNat_zero, Int.toNat_one, lkV_false, lkV_true]
  exact ⟨h, hx0.tr hx⟩
theorem nullable2_ok (v : Value) (g : PG) (w : World) (hg : RepPG w v g) (hs : SmallP g) :
    Ok Try.prog 37 #[v] w fun v w' => ((¬ SoundP g ∧ v = .slice none 0 0) ∨ (SoundP g ∧ ∃ G l, v = .slice (some ⟨G, 0, none⟩) g.names.length g.names.length ∧ w.heap.size ≤ G ∧ Own Value.bool 4 w' G l ∧ Tells g.names.length (Gen false g.prods) l)) ∧ Ext w w' := by
  have hg0 := hg
  obtain ⟨nv, tv, pv, rfl, hN, hT, hp⟩ := hg
  (refine Ok.enter Try.func37 rfl (by kernel_rfl) (Nat.le_of_ble_eq_true rfl) ?_; simp only [Try.f37, S7])
  simp (disch := first | omega | assumption | (simp only [O1, World.size_alloc, World.size_setCell, World.size_drew]; first | done | omega)) only [O1, D2, ↓H0, S0, ↓S1, ↓S2, ↓S3, ↓S4, S5, S5b, S5c, ↓S6, S6b, M0, E0, ty, tl, te, tc, i64_wrap, u64_wrap, iaV_sl, iaV_arr, faV_pa, nck_pa, heap_new, heap_old, heap_set, ↓reduceIte, Nat.reduceEqDiff, Nat.reduceLT, Nat.reduceAdd, Int.reduceLT, Int.reduceLE, decide_false, decide_true, dec_true, dec_false, true_and, and_true, true_imp_iff, Bool.not_true, Bool.not_false, Option.map_none, Int.reduceToNat, Int.toNat_zero, Int.toNat_one, lkV_false, lkV_true, ldA5]
  have hx0 := (Ext.rfl' w).al (.cells #[.int .i64 g.start, .int .i64 g.rules, nv, tv, pv] 41)
  refine (close2_ok _ g false _ (hg0.ext hx0) hs).then ?_
  rintro u W ⟨h, hx⟩
  simp (disch := first | omega | assumption | (simp only [O1, World.size_alloc, World.size_setCell, World.size_drew]; first | done | omega)) only [O1, D2, ↓H0, S0, ↓S1, ↓S2, ↓S3, ↓S4, S5, S5b, S5c, ↓S6, S6b, M0, E0, ty, tl, te, tc, i64_wrap, u64_wrap, iaV_sl, iaV_arr, faV_pa, nck_pa, heap_new, heap_old, heap_set, ↓reduceIte, Nat.reduceEqDiff, Nat.reduceLT, Nat.reduceAdd, Int.reduceLT, Int.reduceLE, decide_false, decide_true, dec_true, dec_false, true_and, and_true, true_imp_iff, Bool.not_true, Bool.not_false, Option.map_none, Int.reduceToNat, Int.toNat_zero, Int.toNat_one, lkV_false, lkV_true]
  refine ⟨h.imp id fun ⟨h1, G, l, h2, h3, h4⟩ => ⟨h1, G, l, h2, Nat.le_trans hx0.size h3, h4⟩, hx0.tr hx⟩
theorem generating2_ok (v : Value) (g : PG) (w : World) (hg : RepPG w v g) (hs : SmallP g) :
    Ok Try.prog 35 #[v] w fun v w' => ((¬ SoundP g ∧ v = .slice none 0 0) ∨ (SoundP g ∧ ∃ G l, v = .slice (some ⟨G, 0, none⟩) g.names.length g.names.length ∧ w.heap.size ≤ G ∧ Own Value.bool 4 w' G l ∧ Tells g.names.length (Gen true g.prods) l)) ∧ Ext w w' := by
  have hg0 := hg
  obtain ⟨nv, tv, pv, rfl, hN, hT, hp⟩ := hg
  (refine Ok.enter Try.func35 rfl (by kernel_rfl) (Nat.le_of_ble_eq_true rfl) ?_; simp only [Try.f35, S7])
  simp (disch := first | omega | assumption | (simp only [O1, World.size_alloc, World.size_setCell, World.size_drew]; first | done | omega)) only [O1, D2, ↓H0, S0, ↓S1, ↓S2, ↓S3, ↓S4, S5, S5b, S5c, ↓S6, S6b, M0, E0, ty, tl, te, tc, i64_wrap, u64_wrap, iaV_sl, iaV_arr, faV_pa, nck_pa, heap_new, heap_old, heap_set, ↓reduceIte, Nat.reduceEqDiff, Nat.reduceLT, Nat.reduceAdd, Int.reduceLT, Int.reduceLE, decide_false, decide_true, dec_true, dec_false, true_and, and_true, true_imp_iff, Bool.not_true, Bool.not_false, Option.map_none, Int.reduceToNat, Int.toNat_zero, Int.toNat_one, lkV_false, lkV_true, ldA5]
  have hx0 := (Ext.rfl' w).al (.cells #[.int .i64 g.start, .int .i64 g.rules, nv, tv, pv] 41)
  refine (close2_ok _ g true _ (hg0.ext hx0) hs).then ?_
  rintro u W ⟨h, hx⟩
  simp (disch := first | omega | assumption | (simp only [O1, World.size_alloc, World.size_setCell, World.size_drew]; first | done | omega)) only [O1, D2, ↓H0, S0, ↓S1, ↓S2, ↓S3, ↓S4, S5, S5b, S5c, ↓S6, S6b, M0, E0, ty, tl, te, tc, i64_wrap, u64_wrap, iaV_sl, iaV_arr, faV_pa, nck_pa, heap_new, heap_old, heap_set, ↓reduceIte, Nat.reduceEqDiff, Nat.reduceLT, Nat.reduceAdd, Int.reduceLT, Int.reduceLE, decide_false, decide_true, dec_true, dec_false, true_and, and_true, true_imp_iff, Bool.not_true, Bool.not_false, Option.map_none, Int.reduceToNat, Int.toNat_zero, Int.toNat_one, lkV_false, lkV_true]
  refine ⟨h.imp id fun ⟨h1, G, l, h2, h3, h4⟩ => ⟨h1, G, l, h2, Nat.le_trans hx0.size h3, h4⟩, hx0.tr hx⟩
end Go.Proofs.Ytgioklmpnbnplaa
namespace Go.Proofs.Ytgioklmpnbnplaa
open Go.V

theorem Sq.none_nil {α : Type} {enc : α → Value} {w : World} {n c : Nat} {l : List α} (h : Sq enc w (.slice none n c) l) : l = [] := by
  obtain ⟨A, c', hv, hc, hA⟩ := h
  cases hv
  cases l with
  | nil => rfl
  | cons x l => have := hA 0 (by simp); simp [rd] at this
theorem clone_ok (v : Value) (l : List Int) (w : World) (h : Ints w v l) (hn : l.length ≤ 1000000000) :
    Ok Try.prog 94 #[v] w fun u w' => Row (.int .i64) w.heap.size 3 w' u l ∧ Ext w w' := by
  have h0 := h
  obtain ⟨A, c, rfl, hc, hA⟩ := h
  (refine Ok.enter Try.func94 rfl (by kernel_rfl) (Nat.le_of_ble_eq_true rfl) ?_; simp only [Try.f94, S7])
  simp (disch := first | omega | assumption | (simp only [O1, World.size_alloc, World.size_setCell, World.size_drew]; first | done | omega)) only [O1, D2, ↓H0, S0, ↓S1, ↓S2, ↓S3, ↓S4, S5, S5b, S5c, ↓S6, S6b, M0, E0, ty, tl, te, tc, i64_wrap, u64_wrap, iaV_sl, iaV_arr, faV_pa, nck_pa, heap_new, heap_old, heap_set, ↓reduceIte, Nat.reduceEqDiff, Nat.reduceLT, Nat.reduceAdd, Int.reduceLT, Int.reduceLE, decide_false, decide_true, dec_true, dec_false, true_and, and_true, true_imp_iff, Bool.not_true, Bool.not_false, Option.map_none, Int.reduceToNat, Int.toNat_zero, Int.toNat_one, lkV_false, lkV_true]
  cases A with
  | none =>
    have := Sq.none_nil h0
    subst this
    simp (disch := first | omega | assumption | (simp only [O1, World.size_alloc, World.size_setCell, World.size_drew]; first | done | omega)) only [O1, D2, ↓H0, S0, ↓S1, ↓S2, ↓S3, ↓S4, S5, S5b, S5c, ↓S6, S6b, M0, E0, ty, tl, te, tc, i64_wrap, u64_wrap, iaV_sl, iaV_arr, faV_pa, nck_pa, heap_new, heap_old, heap_set, ↓reduceIte, Nat.reduceEqDiff, Nat.reduceLT, Nat.reduceAdd, Int.reduceLT, Int.reduceLE, decide_false, decide_true, dec_true, dec_false, true_and, and_true, true_imp_iff, Bool.not_true, Bool.not_false, Option.map_none, Int.reduceToNat, Int.toNat_zero, Int.toNat_one, lkV_false, lkV_true, Option.isNone]
    exact ⟨Row.nil w, Ext.rfl' w⟩
  | some a =>
    simp (disch := first | omega | assumption | (simp only [O1, World.size_alloc, World.size_setCell, World.size_drew]; first | done | omega)) only [O1, D2, ↓H0, S0, ↓S1, ↓S2, ↓S3, ↓S4, S5, S5b, S5c, ↓S6, S6b, M0, E0, ty, tl, te, tc, i64_wrap, u64_wrap, iaV_sl, iaV_arr, faV_pa, nck_pa, heap_new, heap_old, heap_set, ↓reduceIte, Nat.reduceEqDiff, Nat.reduceLT, Nat.reduceAdd, Int.reduceLT, Int.reduceLE, decide_false, decide_true, dec_true, dec_false, true_and, and_true, true_imp_iff, Bool.not_true, Bool.not_false, Option.map_none, Int.reduceToNat, Int.toNat_zero, Int.toNat_one, lkV_false, lkV_true, Option.isNone, bsl0 sl23]
    have hx := (Ext.rfl' w).al (.cells #[] 3)
    have hR : Row (.int .i64) w.heap.size 3 (w.alloc (.cells #[] 3)) (.slice (some ⟨w.heap.size, 0, none⟩) 0 0) ([] : List Int) := World.ownsRow_lit (e := 3) (size := 1) w #[] 0 (base := w.heap.size) (Nat.le_refl _) (by decide) rfl
    refine RunA_sq sl23 hR (fun i hi => hx.rd (hA i hi)) (fun _ => rfl) (by simp; omega) (by omega) (by simp) ?_
    intro u W hRu hg hv
    simp (disch := first | omega | assumption | (simp only [O1, World.size_alloc, World.size_setCell, World.size_drew]; first | done | omega)) only [O1, D2, ↓H0, S0, ↓S1, ↓S2, ↓S3, ↓S4, S5, S5b, S5c, ↓S6, S6b, M0, E0, ty, tl, te, tc, i64_wrap, u64_wrap, iaV_sl, iaV_arr, faV_pa, nck_pa, heap_new, heap_old, heap_set, ↓reduceIte, Nat.reduceEqDiff, Nat.reduceLT, Nat.reduceAdd, Int.reduceLT, Int.reduceLE, decide_false, decide_true, dec_true, dec_false, true_and, and_true, true_imp_iff, Bool.not_true, Bool.not_false, Option.map_none, Int.reduceToNat, Int.toNat_zero, Int.toNat_one, lkV_false, lkV_true]
    exact ⟨by simpa using hRu, hx.grown' hg (fun k hk => by cases hk; exact Nat.le_refl _)⟩
/-- One step along rows. -/
def Sx (S : List (List Int)) (a b : Int) : Prop := 0 ≤ a ∧ b ∈ S.getD a.toNat []
set_option maxHeartbeats 1000000 in
theorem spread_ok (sv fv : Value) (S : List (List Int)) (start : List Int) (M : Nat) (w : World) (hS : IRows w sv S) (hf : Ints w fv start) (hn : S.length ≤ 256) (hM : M ≤ 1000000) (hMS : ∀ r ∈ S, r.length ≤ M) (hMs : start.length ≤ 1000000)
    (hr : ∀ r ∈ S, ∀ b ∈ r, 0 ≤ b ∧ b < S.length) (hs : ∀ a ∈ start, 0 ≤ a ∧ a < S.length) :
    Ok Try.prog 106 #[sv, fv] w fun v w' => (∃ G l, v = .slice (some ⟨G, 0, none⟩) S.length S.length ∧ Own .bool 4 w' G l ∧ Tells S.length (Reach (Sx S) start) l) ∧ Ext w w' := by
  obtain ⟨A, c, rfl, hc, hA⟩ := hS
  have hSx : ∀ a b, Sx S a b → 0 ≤ b ∧ b < S.length := by
    rintro a b ⟨h0, h1⟩
    rw [List.getD_eq_getElem?_getD] at h1
    cases hq : S[a.toNat]? with
    | none => rw [hq] at h1; simp at h1
    | some r => rw [hq] at h1; exact hr r (List.mem_of_getElem? hq) b h1
  have hSa : ∀ a b, Sx S a b → 0 ≤ a ∧ a < S.length := by
    rintro a b ⟨h0, h1⟩
    rw [List.getD_eq_getElem?_getD] at h1
    cases hq : S[a.toNat]? with
    | none => rw [hq] at h1; simp at h1
    | some r => have := (List.getElem?_eq_some_iff.1 hq).1; omega
  (refine Ok.enter Try.func106 rfl (by kernel_rfl) (Nat.le_of_ble_eq_true rfl) ?_; simp only [Try.f106, S7])
  simp (disch := first | omega | assumption | (simp only [O1, World.size_alloc, World.size_setCell, World.size_drew]; first | done | omega)) only [O1, D2, ↓H0, S0, ↓S1, ↓S2, ↓S3, ↓S4, S5, S5b, S5c, ↓S6, S6b, M0, E0, ty, tl, te, tc, i64_wrap, u64_wrap, iaV_sl, iaV_arr, faV_pa, nck_pa, heap_new, heap_old, heap_set, ↓reduceIte, Nat.reduceEqDiff, Nat.reduceLT, Nat.reduceAdd, Int.reduceLT, Int.reduceLE, decide_false, decide_true, dec_true, dec_false, true_and, and_true, true_imp_iff, Bool.not_true, Bool.not_false, Option.map_none, Int.reduceToNat, Int.toNat_zero, Int.toNat_one, lkV_false, lkV_true]
  refine RunM_own (enc := Value.bool) (z := false) sl53 rfl (by omega) (by omega) ?_
  intro W hWs hx1 hO
  generalize hG : w.heap.size = G at *
  simp (disch := first | omega | assumption | (simp only [O1, World.size_alloc, World.size_setCell, World.size_drew]; first | done | omega)) only [O1, D2, ↓H0, S0, ↓S1, ↓S2, ↓S3, ↓S4, S5, S5b, S5c, ↓S6, S6b, M0, E0, ty, tl, te, tc, i64_wrap, u64_wrap, iaV_sl, iaV_arr, faV_pa, nck_pa, heap_new, heap_old, heap_set, ↓reduceIte, Nat.reduceEqDiff, Nat.reduceLT, Nat.reduceAdd, Int.reduceLT, Int.reduceLE, decide_false, decide_true, dec_true, dec_false, true_and, and_true, true_imp_iff, Bool.not_true, Bool.not_false, Option.map_none, Int.reduceToNat, Int.toNat_zero, Int.toNat_one, lkV_false, lkV_true, sl]
  refine (clone_ok fv start W (hf.ext hx1) (by omega)).then ?_
  intro wv W2 ⟨hR, hx2⟩
  have hx12 := hx1.tr hx2
  simp (disch := first | omega | assumption | (simp only [O1, World.size_alloc, World.size_setCell, World.size_drew]; first | done | omega)) only [O1, D2, ↓H0, S0, ↓S1, ↓S2, ↓S3, ↓S4, S5, S5b, S5c, ↓S6, S6b, M0, E0, ty, tl, te, tc, i64_wrap, u64_wrap, iaV_sl, iaV_arr, faV_pa, nck_pa, heap_new, heap_old, heap_set, ↓reduceIte, Nat.reduceEqDiff, Nat.reduceLT, Nat.reduceAdd, Int.reduceLT, Int.reduceLE, decide_false, decide_true, dec_true, dec_false, true_and, and_true, true_imp_iff, Bool.not_true, Bool.not_false, Option.map_none, Int.reduceToNat, Int.toNat_zero, Int.toNat_one, lkV_false, lkV_true]
  obtain ⟨K0, hK0⟩ : ∃ K0, K0 = S.length * (M + 1) + start.length := ⟨_, rfl⟩
  have hK1 : S.length * (M + 1) ≤ 256 * 1000001 := Nat.mul_le_mul hn (by omega)
  refine ⟨fun k t U => ∃ (l : List Bool) (wv : Value) (work : List Int), k = falses l * (M + 1) + work.length ∧ k ≤ K0 ∧ Ext w U ∧ Own .bool 4 U G l ∧ Row (.int .i64) (G + 1) 3 U wv work ∧ SprI S.length (Sx S) start l work ∧
    t 0 = .slice A S.length c ∧ t 5 = .slice (some ⟨G, 0, none⟩) S.length S.length ∧ t 6 = wv, ⟨_, List.replicate S.length false, wv, start, rfl, ?_, hx12, hO.ext hx2, hWs ▸ hR, SprI.start hs, ?_⟩, ?_⟩
  · rw [hK0]; simp [falses, List.countP_replicate]
  · simp (disch := first | omega | assumption | (simp only [O1, World.size_alloc, World.size_setCell, World.size_drew]; first | done | omega)) only [O1, D2, ↓H0, S0, ↓S1, ↓S2, ↓S3, ↓S4, S5, S5b, S5c, ↓S6, S6b, M0, E0, ty, tl, te, tc, i64_wrap, u64_wrap, iaV_sl, iaV_arr, faV_pa, nck_pa, heap_new, heap_old, heap_set, ↓reduceIte, Nat.reduceEqDiff, Nat.reduceLT, Nat.reduceAdd, Int.reduceLT, Int.reduceLE, decide_false, decide_true, dec_true, dec_false, true_and, and_true, true_imp_iff, Bool.not_true, Bool.not_false, Option.map_none, Int.reduceToNat, Int.toNat_zero, Int.toNat_one, lkV_false, lkV_true] <;> rfl
  clear hO hx1 hx2 hx12 hR
  rintro k t U ⟨l, wv, work, rfl, hkK, hx, hO, hR, hI, f0, f5, f6⟩
  rcases List.eq_nil_or_concat work with rfl | ⟨work', s, hwe⟩
  · obtain ⟨QA, qc, rfl, hqc, hQ⟩ := hR.sq
    simp (disch := first | omega | assumption | (simp only [O1, World.size_alloc, World.size_setCell, World.size_drew]; first | done | omega)) only [O1, D2, ↓H0, S0, ↓S1, ↓S2, ↓S3, ↓S4, S5, S5b, S5c, ↓S6, S6b, M0, E0, ty, tl, te, tc, i64_wrap, u64_wrap, iaV_sl, iaV_arr, faV_pa, nck_pa, heap_new, heap_old, heap_set, ↓reduceIte, Nat.reduceEqDiff, Nat.reduceLT, Nat.reduceAdd, Int.reduceLT, Int.reduceLE, decide_false, decide_true, dec_true, dec_false, true_and, and_true, true_imp_iff, Bool.not_true, Bool.not_false, Option.map_none, Int.reduceToNat, Int.toNat_zero, Int.toNat_one, lkV_false, lkV_true, f0, f5, f6, List.length_nil]
    exact ⟨⟨G, l, rfl, hO, hI.done hSa hs⟩, hx⟩
  · rw [List.concat_eq_append] at hwe
    subst hwe
    obtain ⟨hs0, hs1⟩ := hI.rng s (by simp)
    obtain ⟨v', hslv, hR', hown⟩ := hR.pop sl23 (k := .i64)
    obtain ⟨QA, qc, rfl, hQs, hQl⟩ := hR.last
    have e1 : ((work'.length + 1 : Nat) : Int) - 1 = (work'.length : Int) := by omega
    have hsl : s.toNat < l.length := by rw [hI.len]; omega
    have hrd := hO.rd s.toNat hsl
    have hce := hO.cell s.toNat hsl
    have hgl : l[s.toNat]? = some l[s.toNat] := List.getElem?_eq_getElem hsl
    rw [List.length_append, List.length_cons, List.length_nil] at hkK
    generalize hy : l[s.toNat] = y at *
    cases y with
    | true =>
      simp (disch := first | omega | assumption | (simp only [O1, World.size_alloc, World.size_setCell, World.size_drew]; first | done | omega)) only [O1, D2, ↓H0, S0, ↓S1, ↓S2, ↓S3, ↓S4, S5, S5b, S5c, ↓S6, S6b, M0, E0, ty, tl, te, tc, i64_wrap, u64_wrap, iaV_sl, iaV_arr, faV_pa, nck_pa, heap_new, heap_old, heap_set, ↓reduceIte, Nat.reduceEqDiff, Nat.reduceLT, Nat.reduceAdd, Int.reduceLT, Int.reduceLE, decide_false, decide_true, dec_true, dec_false, true_and, and_true, true_imp_iff, Bool.not_true, Bool.not_false, Option.map_none, Int.reduceToNat, Int.toNat_zero, Int.toNat_one, lkV_false, lkV_true, f0, f5, f6, hQl, e1, hslv, hrd, hce]
      refine ⟨falses l * (M + 1) + work'.length, ?_, l, v', work', rfl, by omega, hx, hO, hR', hI.old hgl, rfl⟩
      rw [List.length_append, List.length_cons, List.length_nil]; omega
    | false =>
      have hst := hO.sto (P := Try.prog) (t := 4) (by simp only [ty]) s.toNat hsl true rfl
      have hsS : s.toNat < S.length := by omega
      obtain ⟨r, hr1, hr2⟩ := hA s.toNat hsS
      have hrM := hMS S[s.toNat] (List.getElem_mem _)
      have hrr := hr S[s.toNat] (List.getElem_mem _)
      have hgS : S.getD s.toNat [] = S[s.toNat] := by simp [List.getD_eq_getElem?_getD, List.getElem?_eq_getElem hsS]
      generalize hrow : S[s.toNat] = row at *
      obtain ⟨RA, rc, rfl, hrc, hRA⟩ := hr2
      obtain ⟨X, hX⟩ : ∃ X, X = U.setCell ⟨G, s.toNat, none⟩ (.bool true) := ⟨_, rfl⟩
      have hGw : w.heap.size ≤ G := by omega
      have hxX : Ext w X := by rw [hX]; exact hx.st hGw _
      have hOX : Own .bool 4 X G (l.set s.toNat true) := by rw [hX]; exact hO.set _ _
      have hRX : Row (.int .i64) (G + 1) 3 X v' work' := by rw [hX]; exact hR'.kept (row := some G) set_grown (.inr (hR'.ne_lt (by omega)))
      have hXs : X.heap.size = U.heap.size := by rw [hX]; simp
      have hGU := hO.lt
      rw [← hX] at hst
      have hr1' := hxX.rd hr1
      have hAs := rd_isSome hr1
      simp (disch := first | omega | assumption | (simp only [O1, World.size_alloc, World.size_setCell, World.size_drew]; first | done | omega)) only [O1, D2, ↓H0, S0, ↓S1, ↓S2, ↓S3, ↓S4, S5, S5b, S5c, ↓S6, S6b, M0, E0, ty, tl, te, tc, i64_wrap, u64_wrap, iaV_sl, iaV_arr, faV_pa, nck_pa, heap_new, heap_old, heap_set, ↓reduceIte, Nat.reduceEqDiff, Nat.reduceLT, Nat.reduceAdd, Int.reduceLT, Int.reduceLE, decide_false, decide_true, dec_true, dec_false, true_and, and_true, true_imp_iff, Bool.not_true, Bool.not_false, Option.map_none, Int.reduceToNat, Int.toNat_zero, Int.toNat_one, lkV_false, lkV_true, f0, f5, f6, hQl, e1, hslv, hrd, hce, hst, hr1']
      refine RunA_sq (enc := Value.int .i64) sl23 hRX (fun i hi => hxX.rd (hRA i hi)) (fun _ => rfl) (by omega) (by omega) (by omega) ?_
      intro v2 Y hRY hg hv
      simp (disch := first | omega | assumption | (simp only [O1, World.size_alloc, World.size_setCell, World.size_drew]; first | done | omega)) only [O1, D2, ↓H0, S0, ↓S1, ↓S2, ↓S3, ↓S4, S5, S5b, S5c, ↓S6, S6b, M0, E0, ty, tl, te, tc, i64_wrap, u64_wrap, iaV_sl, iaV_arr, faV_pa, nck_pa, heap_new, heap_old, heap_set, ↓reduceIte, Nat.reduceEqDiff, Nat.reduceLT, Nat.reduceAdd, Int.reduceLT, Int.reduceLE, decide_false, decide_true, dec_true, dec_false, true_and, and_true, true_imp_iff, Bool.not_true, Bool.not_false, Option.map_none, Int.reduceToNat, Int.toNat_zero, Int.toNat_one, lkV_false, lkV_true, f0, f5, f6]
      have hfs := falses_set hgl
      have hGY : Own .bool 4 Y G (l.set s.toNat true) := hOX.hp (hg.block G (by omega) (fun e => hRX.ne_lt (by omega) e.symm))
      have hxY : Ext w Y := hxX.grown' hg (fun k hk => by have := (hRX.lt k hk).1; omega)
      have hmul : falses l * (M + 1) = falses (l.set s.toNat true) * (M + 1) + (M + 1) := by rw [← hfs, Nat.add_mul, Nat.one_mul]
      refine ⟨falses (l.set s.toNat true) * (M + 1) + (work' ++ row).length, ?_, l.set s.toNat true, v2, work' ++ row, rfl, ?_, hxY, hGY, hRY, hI.new (fun b => ?_) hrr, rfl⟩
      · rw [List.length_append, List.length_append, List.length_cons, List.length_nil]; omega
      · rw [List.length_append]; omega
      · unfold Sx; rw [hgS]; exact ⟨fun h => ⟨hs0, h⟩, fun h => h.2⟩
end Go.Proofs.Ytgioklmpnbnplaa
