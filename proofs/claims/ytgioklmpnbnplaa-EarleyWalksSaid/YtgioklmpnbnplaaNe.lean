/- The grammar of nested brackets: its words. Conditions: none. -/
import Derived.Test.YtgioklmpnbnplaaEn
set_option linter.unusedSimpArgs false
set_option linter.unusedVariables false
set_option maxRecDepth 100000
namespace Go.Proofs.Ytgioklmpnbnplaa
open Go.V Go.RowKit

def gNest : PG := ⟨0, 1, [⟨#[83]⟩], [⟨#[120]⟩, ⟨#[121]⟩, ⟨#[122]⟩], [(0, [-1, 0, -2]), (0, [-3])]⟩
theorem gNest_small (a : Int) : SmallP { gNest with start := a } := by
  refine ⟨by simp [gNest], by simp [gNest], by simp [gNest], fun p hp => ?_⟩
  simp [gNest] at hp
  rcases hp with rfl | rfl <;> simp
theorem gNest_sound : SoundP gNest := by
  refine ⟨⟨by simp [gNest], by simp [gNest], by simp [gNest], by simp [gNest], ?_⟩, ⟨by simp [gNest], ?_, by simp [gNest], by simp [gNest], by simp [gNest]⟩, ?_⟩
  · refine ⟨by simp [gNest], fun s hs => ?_⟩
    simp [gNest] at hs; subst hs; exact ⟨by decide, by decide⟩
  · refine ⟨by simp [gNest], fun s hs => ?_⟩
    simp [gNest] at hs
    rcases hs with rfl | rfl | rfl <;> exact ⟨by decide, by decide⟩
  · intro i hi
    match i, hi with
    | 0, _ => simp [SoundAt, gNest]
    | 1, _ => simp [SoundAt, gNest]
theorem Dv.inv_t {ps : List (Int × List Int)} {s : Int} {r w : List Int} (h : Dv ps (s :: r) w) (hs : s < 0) : ∃ u, w = (-1 - s) :: u ∧ Dv ps r u := by
  cases h with
  | term _ h => exact ⟨_, rfl, h⟩
  | nt hp h0 h h2 => omega
/-- Brackets in one another. -/
inductive NestW : List Int → Prop
  | z : NestW [2]
  | step {u : List Int} (h : NestW u) : NestW (0 :: u ++ [1])
theorem nest_dv {w : List Int} (h : NestW w) : Dv gNest.prods [0] w := by
  induction h with
  | z =>
    have : Dv gNest.prods [-3] [2] := .term (s := -3) (by omega) .nil
    exact Dv.one (p := (0, [-3])) (by simp [gNest]) (by simp) this
  | @step u h ih =>
    have h1 : Dv gNest.prods [-1] [0] := .term (s := -1) (by omega) .nil
    have h2 : Dv gNest.prods [-2] [1] := .term (s := -2) (by omega) .nil
    exact Dv.one (p := (0, [-1, 0, -2])) (by simp [gNest]) (by simp) (h1.app (ih.app h2))
theorem dv_nest : ∀ (n : Nat) {w : List Int}, w.length ≤ n → Dv gNest.prods [0] w → NestW w := by
  intro n
  induction n with
  | zero =>
    intro w hw h
    obtain ⟨p, hp, h0, h1⟩ := h.inv (by omega)
    have : w = [] := by simpa using hw
    subst this
    have := h1.null rfl
    simp [gNest] at hp
    rcases hp with rfl | rfl
    · have := (this (-1) (by simp)).1; omega
    · have := (this (-3) (by simp)).1; omega
  | succ n ih =>
    intro w hw h
    obtain ⟨p, hp, h0, h1⟩ := h.inv (by omega)
    simp [gNest] at hp
    rcases hp with rfl | rfl
    · obtain ⟨u, rfl, h2⟩ := h1.inv_t (by omega)
      obtain ⟨u1, u2, rfl, h3, h4⟩ := Dv.split (r := [0]) (r' := [-2]) h2
      obtain ⟨u3, rfl, h5⟩ := h4.inv_t (by omega)
      cases h5
      exact .step (ih (w := u1) (by simp at hw; omega) h3)
    · obtain ⟨u, rfl, h2⟩ := h1.inv_t (by omega)
      cases h2
      exact .z
theorem nest_iff {w : List Int} : Dv gNest.prods [gNest.start] w ↔ NestW w := ⟨fun h => dv_nest w.length (Nat.le_refl _) h, nest_dv⟩
theorem NestW.head {a : Int} {u : List Int} (h : NestW (a :: u)) : a = 0 ∨ a = 2 := by
  cases h with
  | z => exact .inr rfl
  | step h => exact .inl rfl
theorem NestW.ne (h : NestW []) : False := by cases h
theorem NestW.tail {u : List Int} (h : NestW (0 :: u)) : ∃ v, NestW v ∧ u = v ++ [1] := by
  cases h with
  | step h => exact ⟨_, h, rfl⟩
end Go.Proofs.Ytgioklmpnbnplaa
