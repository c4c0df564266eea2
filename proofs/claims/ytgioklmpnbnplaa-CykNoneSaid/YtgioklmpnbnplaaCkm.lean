/- What a chart's cell counts, in plain terms. Conditions: none. -/
import Derived.Test.YtgioklmpnbnplaaCyk
set_option linter.unusedSimpArgs false
set_option linter.unusedVariables false
namespace Go.Proofs.Ytgioklmpnbnplaa
open Go.V

def sat (n : Nat) : Nat := min n 1099511627776
theorem sat_le (n : Nat) : sat n ≤ 1099511627776 := Nat.min_le_right _ _
theorem sat_sat (a b : Nat) : sat (sat a + b) = sat (a + b) := by unfold sat; simp only [Nat.min_def]; split <;> split <;> (try split) <;> omega
theorem sat_pos {n : Nat} : sat n = 0 ↔ n = 0 := by unfold sat; simp only [Nat.min_def]; split <;> omega
/-- A count as it lies in a map. -/
def encN (n : Nat) : Option Value := if n = 0 then none else some (.int .i64 n)
theorem encN_get (n : Nat) : (encN n).getD (.int .i64 0) = .int .i64 n := by unfold encN; split <;> simp_all
theorem encN_some (n : Nat) : (encN n).isSome = decide (n ≠ 0) := by unfold encN; split <;> simp_all
/-- What the pairs of l add at A. -/
def conL (L R : Int → Nat) (l A : Int) : List (Int × Int) → Nat
  | [] => 0
  | p :: ps => (if p.1 = A then sat (L l * R p.2) else 0) + conL L R l A ps
theorem conL_append (L R : Int → Nat) (l A : Int) (p q : List (Int × Int)) : conL L R l A (p ++ q) = conL L R l A p + conL L R l A q := by
  induction p with
  | nil => simp [conL]
  | cons x p ih => simp only [List.cons_append, conL, ih]; omega
def conS (L R : Int → Nat) (F : Int → List (Int × Int)) (A : Int) : List Int → Nat
  | [] => 0
  | l :: ls => conL L R l A (F l) + conS L R F A ls
theorem conS_filter (L R : Int → Nat) (F : Int → List (Int × Int)) (A k : Int) : ∀ (ls : List Int), ls.Nodup → k ∈ ls → conS L R F A ls = conL L R k A (F k) + conS L R F A (ls.filter fun x => decide (x ≠ k))
  | [], _, h => by simp at h
  | l :: ls, hn, h => by
    rw [List.nodup_cons] at hn
    by_cases e : l = k
    · subst e
      have hf : (l :: ls).filter (fun x => decide (x ≠ l)) = ls := by
        rw [List.filter_cons_of_neg (by simp)]
        rw [List.filter_eq_self]
        intro a ha; simp; rintro rfl; exact hn.1 ha
      rw [hf]; rfl
    · have hk : k ∈ ls := by rcases List.mem_cons.1 h with h | h; · exact absurd h.symm e
                             · exact h
      rw [List.filter_cons_of_pos (by simpa using e)]
      simp only [conS]
      rw [conS_filter L R F A k ls hn.2 hk]; omega
def sumK (f : Nat → Nat) (a : Nat) : Nat → Nat
  | 0 => 0
  | n + 1 => sumK f a n + f (a + n)
/-- Pairs of whole numbers in a row. -/
def Pairs (w : World) (v : Value) (l : List (Int × Int)) : Prop :=
  ∃ A c, v = .slice A l.length c ∧ l.length ≤ c ∧ ∀ i (h : i < l.length), rd w A (i * 2) = some (.int .i64 l[i].1) ∧ rd w A (i * 2 + 1) = some (.int .i64 l[i].2)
theorem Pairs.ext {w w' : World} {v : Value} {l : List (Int × Int)} (h : Pairs w v l) (hx : Ext w w') : Pairs w' v l := by
  obtain ⟨A, c, hv, hc, hr⟩ := h
  exact ⟨A, c, hv, hc, fun i hi => ⟨hx.rd (hr i hi).1, hx.rd (hr i hi).2⟩⟩
theorem Pairs.nil (w : World) : Pairs w (.slice none 0 0) [] := ⟨none, 0, rfl, Nat.le_refl _, fun i h => by simp at h⟩
/-- A map whose rows read as lists. -/
def MapS {α : Type} (R : World → Value → List α → Prop) (w : World) (m : Nat) (F : Int → List α) : Prop := ∃ f, MapI w m f ∧ ∀ k, R w ((f k).getD (.slice none 0 0)) (F k)
end Go.Proofs.Ytgioklmpnbnplaa
