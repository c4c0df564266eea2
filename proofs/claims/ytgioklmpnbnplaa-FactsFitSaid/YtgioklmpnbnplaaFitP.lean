/- The plain laws of FactsFit. Conditions: none. -/
import Derived.Test.YtgioklmpnbnplaaFa3
import Derived.Test.YtgioklmpnbnplaaFw
set_option linter.unusedSimpArgs false
set_option linter.unusedVariables false
namespace Go.Proofs.Ytgioklmpnbnplaa
open Go.V

theorem fst_gen {ps : List (Int × List Int)} {a : Int} {t : Nat} (h : Fst ps a t) : Gen true ps a := by
  cases h with
  | term p hp hu i s hi hn t ht => exact .mk p hp (fun _ _ _ => rfl) hu
  | more p hp hu i s hi hn t h0 h => exact .mk p hp (fun _ _ _ => rfl) hu
/-- The first place of a right side that is not surely empty. -/
theorem first_firm {ps : List (Int × List Int)} : ∀ (r : List Int), (¬ ∀ s ∈ r, 0 ≤ s ∧ Gen false ps s) → ∃ i s, r[i]? = some s ∧ Empties ps r i ∧ (s < 0 ∨ 0 ≤ s ∧ ¬ Gen false ps s)
  | [], h => by simp at h
  | x :: r, h => by
    by_cases h1 : 0 ≤ x ∧ Gen false ps x
    · obtain ⟨i, s, h2, h3, h4⟩ := first_firm r fun hh => h fun s hs => by
        rcases List.mem_cons.1 hs with rfl | hs
        · exact h1
        · exact hh s hs
      refine ⟨i + 1, s, by simpa using h2, fun j y hj hy => ?_, h4⟩
      cases j with
      | zero => simp at hy; subst hy; exact h1
      | succ j => exact h3 j y (by omega) (by simpa using hy)
    · refine ⟨0, x, rfl, fun j y hj => by omega, ?_⟩
      by_cases h0 : 0 ≤ x
      · exact .inr ⟨h0, fun h2 => h1 ⟨h0, h2⟩⟩
      · exact .inl (by omega)
theorem gen_fst {ps : List (Int × List Int)} {a : Int} (h : Gen true ps a) : ¬ Gen false ps a → ∃ t, Fst ps a t := by
  induction h with
  | mk p hp h h2 ih =>
    intro hne
    have hu : Usable ps p.2 := h2
    obtain ⟨i, s, h3, h4, h5⟩ := first_firm (ps := ps) p.2 fun hh => hne (.mk p hp (fun s hs h0 => by have := (hh s hs).1; omega) fun s hs h0 => (hh s hs).2)
    rcases h5 with h5 | ⟨h5, h6⟩
    · exact ⟨(-1 - s).toNat, .term p hp hu i s h3 h4 _ (by omega)⟩
    · obtain ⟨t, ht⟩ := ih s (List.mem_of_getElem? h3) h5 h6
      exact ⟨t, .more p hp hu i s h3 h4 t h5 ht⟩
theorem Short.zero {n : Nat} {ps : List (Int × List Int)} {l : List Int} (h : Short n ps l) {i : Nat} (hi : i < l.length) : l[i] = 0 ↔ Gen false ps i := by
  rw [← cost_zero]
  constructor
  · intro h0
    rcases h.2.1 i _ (List.getElem?_eq_getElem hi) with h1 | ⟨m, h1, _, h2⟩
    · omega
    · rw [h0] at h1
      have : m = 0 := by omega
      rwa [this] at h2
  · intro h0
    obtain ⟨k, h1, h2⟩ := h.2.2 i 0 h0
    rw [List.getElem?_eq_getElem hi] at h1
    simp only [Option.some.injEq] at h1
    omega
theorem Short.bnd {n : Nat} {ps : List (Int × List Int)} {l : List Int} (h : Short n ps l) {i : Nat} (hi : i < l.length) : -1 ≤ l[i] ∧ l[i] ≤ 1099511627776 := by
  rcases h.2.1 i _ (List.getElem?_eq_getElem hi) with h1 | ⟨m, h1, h2, _⟩ <;> omega
/-- The lengths of a right side, added up. -/
def sumF (l : List Int) (r : List Int) : Int := r.foldl (fun n s => if s < 0 then n + 1 else n + max (l.getD s.toNat (-1)) 0) 0
theorem sumF_snoc (l r : List Int) (s : Int) : sumF l (r ++ [s]) = if s < 0 then sumF l r + 1 else sumF l r + max (l.getD s.toNat (-1)) 0 := by simp [sumF]
theorem sumF_cost (l : List Int) : ∀ (r : List Int) (n : Nat) (m : Int), (n : Int) ≤ m → ((r.foldl (costN (natAt l)) n : Nat) : Int) ≤ r.foldl (fun n s => if s < 0 then n + 1 else n + max (l.getD s.toNat (-1)) 0) m
  | [], n, m, h => h
  | s :: r, n, m, h => by
    simp only [List.foldl_cons]
    refine sumF_cost l r _ _ ?_
    unfold costN natAt
    by_cases h0 : 0 ≤ s
    · rw [if_pos h0, if_neg (by omega)]; omega
    · rw [if_neg h0, if_pos (by omega)]; omega
/-- Where all symbols of a right side derive something, the left side derives it. -/
theorem Short.prod {n : Nat} {ps : List (Int × List Int)} {l : List Int} (h : Short n ps l) (hin : InR n ps) {p : Int × List Int} (hp : p ∈ ps) (hu : Usable ps p.2) (hi : p.1.toNat < l.length) : 0 ≤ l[p.1.toNat] ∧ l[p.1.toNat] ≤ sumF l p.2 := by
  obtain ⟨⟨hp0, hp1⟩, hps⟩ := hin p hp
  have hc : Cost ps p.1 (costOf (natAt l) p.2) := .mk p hp _ fun s hs h0 => by
    have hsl : s.toNat < l.length := by have := h.1; have := hps s hs; omega
    have hg := (h.gen hsl).2 (by rw [Int.toNat_of_nonneg h0]; exact hu s hs h0)
    rcases h.2.1 s.toNat _ (List.getElem?_eq_getElem hsl) with h1 | ⟨m, h1, _, h2⟩
    · omega
    · rw [Int.toNat_of_nonneg h0] at h2
      have : natAt l s = m := by
        unfold natAt; rw [List.getD_eq_getElem?_getD, List.getElem?_eq_getElem hsl, Option.getD_some, h1]; rfl
      rwa [this]
  obtain ⟨k, h1, h2⟩ := h.2.2 p.1.toNat _ (by rw [Int.toNat_of_nonneg hp0]; exact hc)
  rw [List.getElem?_eq_getElem hi] at h1
  simp only [Option.some.injEq] at h1
  have := sumF_cost l p.2 0 0 (by omega)
  have h3 : ((costOf (natAt l) p.2 : Nat) : Int) ≤ sumF l p.2 := this
  omega
end Go.Proofs.Ytgioklmpnbnplaa
