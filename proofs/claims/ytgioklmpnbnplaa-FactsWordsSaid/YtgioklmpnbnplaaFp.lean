/- The plain laws of a grammar's facts: which nonterminals derive the empty word or any word, how short a one. Conditions: none. -/
import Derived.Test.YtgioklmpnbnplaaVg
set_option linter.unusedSimpArgs false
set_option linter.unusedVariables false
namespace Go.Proofs.Ytgioklmpnbnplaa
open Go.V

/-- A nonterminal derives a word of terminals that are let in (T), or the empty one. -/
inductive Gen (T : Bool) (ps : List (Int × List Int)) : Int → Prop
  | mk (p : Int × List Int) (hp : p ∈ ps) (h : ∀ s ∈ p.2, s < 0 → T = true) (h2 : ∀ s ∈ p.2, 0 ≤ s → Gen T ps s) : Gen T ps p.1
/-- The row of bits tells a set of nonterminals below n. -/
def Tells (n : Nat) (S : Int → Prop) (l : List Bool) : Prop := l.length = n ∧ ∀ i : Nat, i < n → (l[i]? = some true ↔ S i)
theorem Tells.uniq {n : Nat} {S : Int → Prop} {l m : List Bool} (h : Tells n S l) (k : Tells n S m) : l = m := by
  refine List.ext_getElem (by rw [h.1, k.1]) fun i h1 h2 => ?_
  have a := h.2 i (h.1 ▸ h1)
  have b := k.2 i (h.1 ▸ h1)
  rw [List.getElem?_eq_getElem h1] at a
  rw [List.getElem?_eq_getElem h2] at b
  rw [Bool.eq_iff_iff]
  simp only [Option.some.injEq] at a b
  exact a.trans b.symm
/-- All symbols lie where they may. -/
def InR (n : Nat) (ps : List (Int × List Int)) : Prop := ∀ p ∈ ps, (0 ≤ p.1 ∧ p.1 < n) ∧ ∀ s ∈ p.2, s < n
theorem gen_closed {T : Bool} {ps : List (Int × List Int)} {l : List Bool}
    (hc : ∀ p ∈ ps, (∀ s ∈ p.2, (s < 0 → T = true) ∧ (0 ≤ s → l[s.toNat]? = some true)) → l[p.1.toNat]? = some true) {a : Int} (h : Gen T ps a) : l[a.toNat]? = some true := by
  induction h with
  | mk p hp h h2 ih => exact hc p hp fun s hs => ⟨h s hs, ih s hs⟩
theorem tells_gen {n : Nat} {T : Bool} {ps : List (Int × List Int)} {l : List Bool} (hn : l.length = n) (hs : ∀ i : Nat, i < n → l[i]? = some true → Gen T ps i)
    (hc : ∀ p ∈ ps, (∀ s ∈ p.2, (s < 0 → T = true) ∧ (0 ≤ s → l[s.toNat]? = some true)) → l[p.1.toNat]? = some true) : Tells n (Gen T ps) l :=
  ⟨hn, fun i hi => ⟨hs i hi, fun h => by have := gen_closed hc h; simpa using this⟩⟩
theorem Gen.weak {ps : List (Int × List Int)} {a : Int} (h : Gen false ps a) : Gen true ps a := by
  induction h with
  | mk p hp h h2 ih => exact .mk p hp (fun _ _ _ => rfl) ih

/-! lengths -/
def costN (c : Int → Nat) (n : Nat) (s : Int) : Nat := min (n + if 0 ≤ s then c s else 1) 1099511627776
def costOf (c : Int → Nat) (l : List Int) : Nat := l.foldl (costN c) 0
theorem costN_pos (c : Int → Nat) (n : Nat) (s : Int) (h : 0 ≤ s) : ((costN c n s : Nat) : Int) = if (1099511627776 : Int) < ((n + c s : Nat) : Int) then 1099511627776 else ((n + c s : Nat) : Int) := by
  unfold costN
  rw [if_pos h, Nat.min_def]
  generalize n + c s = m
  split <;> split <;> omega
theorem costN_neg (c : Int → Nat) (n : Nat) (s : Int) (h : ¬ 0 ≤ s) : ((costN c n s : Nat) : Int) = if (1099511627776 : Int) < ((n + 1 : Nat) : Int) then 1099511627776 else ((n + 1 : Nat) : Int) := by
  unfold costN
  rw [if_neg h, Nat.min_def]
  generalize n + 1 = m
  split <;> split <;> omega
theorem costF_mono {c d : Int → Nat} : ∀ (l : List Int) (n m : Nat), n ≤ m → (∀ s ∈ l, 0 ≤ s → c s ≤ d s) → l.foldl (costN c) n ≤ l.foldl (costN d) m
  | [], n, m, h, _ => h
  | s :: l, n, m, h, hc => by
    simp only [List.foldl_cons]
    refine costF_mono l _ _ ?_ fun s hs => hc s (List.mem_cons_of_mem _ hs)
    have := hc s (List.mem_cons_self ..)
    unfold costN; split <;> omega
theorem costOf_mono {c d : Int → Nat} {l : List Int} (h : ∀ s ∈ l, 0 ≤ s → c s ≤ d s) : costOf c l ≤ costOf d l := costF_mono l 0 0 (Nat.le_refl _) h
theorem costF_le (c : Int → Nat) : ∀ (l : List Int) (n : Nat), n ≤ 1099511627776 → l.foldl (costN c) n ≤ 1099511627776
  | [], n, h => h
  | s :: l, n, h => costF_le c l _ (by unfold costN; omega)
theorem costOf_le (c : Int → Nat) (l : List Int) : costOf c l ≤ 1099511627776 := costF_le c l 0 (by omega)
theorem costF_ge (c : Int → Nat) : ∀ (l : List Int) (n : Nat), n ≤ 1099511627776 → n ≤ l.foldl (costN c) n
  | [], n, h => Nat.le_refl _
  | s :: l, n, h => by
    simp only [List.foldl_cons]
    have := costF_ge c l (costN c n s) (by unfold costN; omega)
    have h2 : n ≤ costN c n s := by unfold costN; omega
    omega
theorem costF_zero {c : Int → Nat} : ∀ (l : List Int) (n : Nat), l.foldl (costN c) n = 0 ↔ n = 0 ∧ ∀ s ∈ l, 0 ≤ s ∧ c s = 0
  | [], n => by simp
  | s :: l, n => by
    simp only [List.foldl_cons, costF_zero l, List.mem_cons, forall_eq_or_imp]
    unfold costN; split <;> constructor <;> rintro ⟨h1, h2⟩ <;> refine ⟨by omega, ?_⟩
    · exact ⟨⟨by assumption, by omega⟩, h2⟩
    · exact h2.2
    · omega
    · omega
theorem costOf_zero {c : Int → Nat} {l : List Int} : costOf c l = 0 ↔ ∀ s ∈ l, 0 ≤ s ∧ c s = 0 := by
  unfold costOf; rw [costF_zero]; simp
theorem costOf_snoc (c : Int → Nat) (l : List Int) (s : Int) : costOf c (l ++ [s]) = costN c (costOf c l) s := by simp [costOf]
/-- A nonterminal derives a word of so many terminals (so many or more, at the bound). -/
inductive Cost (ps : List (Int × List Int)) : Int → Nat → Prop
  | mk (p : Int × List Int) (hp : p ∈ ps) (c : Int → Nat) (h : ∀ s ∈ p.2, 0 ≤ s → Cost ps s (c s)) : Cost ps p.1 (costOf c p.2)
theorem Cost.gen {ps : List (Int × List Int)} {a : Int} {n : Nat} (h : Cost ps a n) : Gen true ps a := by
  induction h with
  | mk p hp c h ih => exact .mk p hp (fun _ _ _ => rfl) ih
theorem Gen.cost {ps : List (Int × List Int)} {a : Int} (h : Gen true ps a) : ∃ n, Cost ps a n := by
  induction h with
  | mk p hp h h2 ih =>
    have : ∀ s : Int, ∃ m, s ∈ p.2 → 0 ≤ s → Cost ps s m := fun s => by
      by_cases h1 : s ∈ p.2 ∧ 0 ≤ s
      · obtain ⟨m, hm⟩ := ih s h1.1 h1.2; exact ⟨m, fun _ _ => hm⟩
      · exact ⟨0, fun a b => absurd ⟨a, b⟩ h1⟩
    exact ⟨_, .mk p hp (fun s => (this s).choose) fun s => (this s).choose_spec⟩
theorem cost_zero {ps : List (Int × List Int)} {a : Int} : Cost ps a 0 ↔ Gen false ps a := by
  constructor
  · intro h
    generalize hn : 0 = n at h
    induction h with
    | mk p hp c h ih =>
      have h0 := costOf_zero.1 hn.symm
      exact .mk p hp (fun s hs hn => by have := (h0 s hs).1; omega) fun s hs h1 => ih s hs h1 (h0 s hs).2.symm
  · intro h
    induction h with
    | mk p hp h h2 ih =>
      have : costOf (fun _ => 0) p.2 = 0 := costOf_zero.2 fun s hs => ⟨by
        rcases Int.lt_or_le s 0 with h1 | h1
        · exact absurd (h s hs h1) (by simp)
        · exact h1, rfl⟩
      rw [← this]
      exact .mk p hp (fun _ => 0) ih
/-- The row of numbers tells the least length of each nonterminal below n; -1. -/
def Short (n : Nat) (ps : List (Int × List Int)) (l : List Int) : Prop :=
  l.length = n ∧ (∀ (i : Nat) (x : Int), l[i]? = some x → x = -1 ∨ ∃ m : Nat, x = m ∧ m ≤ 1099511627776 ∧ Cost ps i m) ∧ ∀ (i m : Nat), Cost ps i m → ∃ k : Nat, l[i]? = some (k : Int) ∧ k ≤ m
theorem Short.uniq {n : Nat} {ps : List (Int × List Int)} {l m : List Int} (h : Short n ps l) (k : Short n ps m) : l = m := by
  refine List.ext_getElem (by rw [h.1, k.1]) fun i h1 h2 => ?_
  have a1 := h.2.1 i _ (List.getElem?_eq_getElem h1)
  have b1 := k.2.1 i _ (List.getElem?_eq_getElem h2)
  have a2 := h.2.2 i
  have b2 := k.2.2 i
  rw [List.getElem?_eq_getElem h1] at a2
  rw [List.getElem?_eq_getElem h2] at b2
  simp only [Option.some.injEq] at a2 b2
  rcases a1 with a1 | ⟨x, a1, _, a3⟩ <;> rcases b1 with b1 | ⟨y, b1, _, b3⟩
  · rw [a1, b1]
  · obtain ⟨k, h, _⟩ := a2 y b3; omega
  · obtain ⟨k, h, _⟩ := b2 x a3; omega
  · obtain ⟨k, h, h'⟩ := a2 y b3; obtain ⟨k2, h2, h2'⟩ := b2 x a3; omega
def natAt (l : List Int) (s : Int) : Nat := (l.getD s.toNat (-1)).toNat
/-- What each round keeps. -/
def ShortI (n : Nat) (ps : List (Int × List Int)) (l : List Int) : Prop :=
  l.length = n ∧ ∀ (i : Nat) (x : Int), l[i]? = some x → x = -1 ∨ ∃ m : Nat, x = m ∧ m ≤ 1099511627776 ∧ Cost ps i m
/-- The symbols' lengths are known. -/
def Known (l : List Int) (r : List Int) : Prop := ∀ s ∈ r, 0 ≤ s → 0 ≤ l.getD s.toNat (-1)
theorem ShortI.start (n : Nat) (ps : List (Int × List Int)) : ShortI n ps (List.replicate n (-1)) :=
  ⟨by simp, fun i x h => .inl (by rw [List.getElem?_replicate] at h; split at h <;> simp_all)⟩
theorem ShortI.set {n : Nat} {ps : List (Int × List Int)} {l : List Int} (h : ShortI n ps l) {p : Int × List Int} (hp : p ∈ ps) (h1 : 0 ≤ p.1) (hk : Known l p.2) (hr : InR n ps) : ShortI n ps (l.set p.1.toNat (costOf (natAt l) p.2 : Nat)) := by
  refine ⟨by simpa using h.1, fun i x hx => ?_⟩
  rw [List.getElem?_set] at hx
  split at hx
  · rename_i hi
    split at hx
    · right
      simp only [Option.some.injEq] at hx
      refine ⟨_, hx.symm, costOf_le _ _, ?_⟩
      have : ((i : Nat) : Int) = p.1 := by omega
      rw [this]
      refine .mk p hp _ fun s hs h0 => ?_
      have h2 := hk s hs h0
      have h3 : s.toNat < l.length := by have := (hr p hp).2 s hs; have := h.1; omega
      rw [List.getD_eq_getElem?_getD, List.getElem?_eq_getElem h3] at h2
      simp only [Option.getD_some] at h2
      rcases h.2 s.toNat _ (List.getElem?_eq_getElem h3) with h4 | ⟨m, h4, _, h5⟩
      · omega
      · rw [show ((s.toNat : Nat) : Int) = s by omega] at h5
        have : natAt l s = m := by
          unfold natAt; rw [List.getD_eq_getElem?_getD, List.getElem?_eq_getElem h3, Option.getD_some, h4]; rfl
        rw [this]; exact h5
    · cases hx
  · exact h.2 i x hx
theorem ShortI.done {n : Nat} {ps : List (Int × List Int)} {l : List Int} (h : ShortI n ps l) (hr : InR n ps)
    (hc : ∀ p ∈ ps, Known l p.2 → 0 ≤ l.getD p.1.toNat (-1) ∧ l.getD p.1.toNat (-1) ≤ (costOf (natAt l) p.2 : Nat)) : Short n ps l := by
  have key : ∀ (a : Int) (m : Nat), Cost ps a m → 0 ≤ l.getD a.toNat (-1) ∧ l.getD a.toNat (-1) ≤ m := by
    intro a m hC
    induction hC with
    | mk p hp c hh ih =>
      obtain ⟨h1, h2⟩ := hc p hp fun s hs h0 => (ih s hs h0).1
      have : costOf (natAt l) p.2 ≤ costOf c p.2 := costOf_mono fun s hs h0 => by have := (ih s hs h0).2; unfold natAt; omega
      exact ⟨h1, by omega⟩
  refine ⟨h.1, h.2, fun i m hC => ?_⟩
  obtain ⟨h1, h2⟩ := key i m hC
  simp only [Int.toNat_natCast] at h1 h2
  rw [List.getD_eq_getElem?_getD] at h1 h2
  cases hx : l[i]? with
  | none => rw [hx] at h1; simp at h1
  | some x => rw [hx] at h1 h2; simp only [Option.getD_some] at h1 h2; exact ⟨x.toNat, by congr 1; omega, by omega⟩
/-- How much may still be taken away: what makes the rounds end. -/
def left (l : List Int) : Nat := (l.map fun x => if x < 0 then 1099511627777 else x.toNat).sum
theorem left_set {l : List Int} {i : Nat} {x : Int} {m : Nat} (h : l[i]? = some x) (hm : m ≤ 1099511627776) (hx : x < 0 ∨ (m : Int) < x) : left (l.set i (m : Nat)) < left l := by
  induction l generalizing i with
  | nil => simp at h
  | cons y l ih =>
    cases i with
    | zero =>
      simp only [List.getElem?_cons_zero, Option.some.injEq] at h
      simp only [left, List.set_cons_zero, List.map_cons, List.sum_cons]
      split <;> split <;> omega
    | succ i =>
      have := ih (i := i) (by simpa using h)
      simp only [left, List.set_cons_succ, List.map_cons, List.sum_cons] at this ⊢
      omega
end Go.Proofs.Ytgioklmpnbnplaa
