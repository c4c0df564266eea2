/- The table that a chart holds, in plain terms. Conditions: none. -/
import Derived.Test.YtgioklmpnbnplaaFill
set_option linter.unusedSimpArgs false
set_option linter.unusedVariables false
namespace Go.Proofs.Ytgioklmpnbnplaa
open Go.V

def one (p : Int × List Int) : Bool := decide (p.2.length = 1)
/-- The nonterminals that are one terminal's. -/
def F6 (ps : List (Int × List Int)) (k : Int) : List Int := (ps.filter fun p => one p && decide (-1 - p.2.headD 0 = k)).map (·.1)
/-- What begins with a nonterminal. -/
def F7 (ps : List (Int × List Int)) (k : Int) : List (Int × Int) := (ps.filter fun p => !one p && decide (p.2.headD 0 = k)).map fun p => (p.1, p.2.getD 1 0)
theorem F6_snoc (ps : List (Int × List Int)) (p : Int × List Int) (k : Int) : F6 (ps ++ [p]) k = if one p = true ∧ -1 - p.2.headD 0 = k then F6 ps k ++ [p.1] else F6 ps k := by
  unfold F6
  rw [List.filter_append, List.map_append]
  by_cases h : one p = true ∧ -1 - p.2.headD 0 = k
  · have hb : (one p && decide (-1 - p.2.headD 0 = k)) = true := by rw [h.1, h.2]; simp
    rw [if_pos h, List.filter_cons_of_pos (by exact hb)]; rfl
  · rw [if_neg h]
    have : (one p && decide (-1 - p.2.headD 0 = k)) = false := by
      rw [Bool.eq_false_iff]; intro h'; simp at h'; exact h (by simpa using h')
    rw [List.filter_cons_of_neg (by rw [this]; simp)]; simp
theorem F7_snoc (ps : List (Int × List Int)) (p : Int × List Int) (k : Int) : F7 (ps ++ [p]) k = if one p = false ∧ p.2.headD 0 = k then F7 ps k ++ [(p.1, p.2.getD 1 0)] else F7 ps k := by
  unfold F7
  rw [List.filter_append, List.map_append]
  by_cases h : one p = false ∧ p.2.headD 0 = k
  · have hb : (!one p && decide (p.2.headD 0 = k)) = true := by rw [h.1, h.2]; simp
    rw [if_pos h, List.filter_cons_of_pos (by exact hb)]; rfl
  · rw [if_neg h]
    have : (!one p && decide (p.2.headD 0 = k)) = false := by
      rw [Bool.eq_false_iff]; intro h'; simp at h'; exact h (by simpa using h')
    rw [List.filter_cons_of_neg (by rw [this]; simp)]; simp
theorem F6_len (ps : List (Int × List Int)) (k : Int) : (F6 ps k).length ≤ ps.length := by
  unfold F6; rw [List.length_map]; exact List.length_filter_le _ _
theorem F7_len (ps : List (Int × List Int)) (k : Int) : (F7 ps k).length ≤ ps.length := by
  unfold F7; rw [List.length_map]; exact List.length_filter_le _ _
def totP : List (Int × List Int) → (Int → Nat) → (Int → Nat) → Int → Nat
  | [], _, _, _ => 0
  | p :: ps, L, R, A => (if one p = false ∧ p.1 = A then sat (L (p.2.headD 0) * R (p.2.getD 1 0)) else 0) + totP ps L R A
theorem F7_cons (p : Int × List Int) (ps : List (Int × List Int)) (k : Int) : F7 (p :: ps) k = if one p = false ∧ p.2.headD 0 = k then (p.1, p.2.getD 1 0) :: F7 ps k else F7 ps k := by
  unfold F7
  by_cases h : one p = false ∧ p.2.headD 0 = k
  · rw [if_pos h, List.filter_cons_of_pos (by simpa using h)]; rfl
  · rw [if_neg h, List.filter_cons_of_neg (by simpa using h)]
theorem conS_zero (L R : Int → Nat) (A : Int) : ∀ ks, conS L R (F7 []) A ks = 0
  | [] => rfl
  | k :: ks => by simp only [conS, conS_zero L R A ks]; simp [F7, conL]
theorem conS_F7 (p : Int × List Int) (ps : List (Int × List Int)) (L R : Int → Nat) (A : Int) : ∀ ks : List Int, ks.Nodup →
    conS L R (F7 (p :: ps)) A ks = (if p.2.headD 0 ∈ ks then (if one p = false ∧ p.1 = A then sat (L (p.2.headD 0) * R (p.2.getD 1 0)) else 0) else 0) + conS L R (F7 ps) A ks
  | [], _ => by simp [conS]
  | k :: ks, h => by
    rw [List.nodup_cons] at h
    simp only [conS, conS_F7 p ps L R A ks h.2, F7_cons]
    have hmem : p.2.headD 0 ∈ k :: ks ↔ (p.2.headD 0 = k ∨ p.2.headD 0 ∈ ks) := List.mem_cons
    by_cases hk : p.2.headD 0 = k
    · have hn : ¬ p.2.headD 0 ∈ ks := by rw [hk]; exact h.1
      have hp : p.2.headD 0 ∈ k :: ks := hmem.2 (.inl hk)
      simp only [hn, hp, if_false, if_true, Nat.zero_add]
      by_cases h1 : one p = false
      · simp only [h1, hk, and_self, if_true, conL, true_and]; omega
      · have h1' : one p = true := by cases h : one p <;> simp_all
        simp only [h1', Bool.true_eq_false, false_and, if_false]; omega
    · have e1 : (if one p = false ∧ p.2.headD 0 = k then (p.1, p.2.getD 1 0) :: F7 ps k else F7 ps k) = F7 ps k := if_neg fun h => hk h.2
      rw [e1]
      by_cases hm : p.2.headD 0 ∈ ks
      · simp only [hm, hmem.2 (.inr hm), if_true]; omega
      · have hn : ¬ p.2.headD 0 ∈ k :: ks := fun h => (hmem.1 h).elim hk hm
        simp only [hm, hn, if_false]; omega
theorem totP_ok (ps : List (Int × List Int)) (L R : Int → Nat) (ks : List Int) (hn : ks.Nodup) (hk : ∀ l, l ∈ ks ↔ L l ≠ 0) (A : Int) : conS L R (F7 ps) A ks = totP ps L R A := by
  induction ps with
  | nil => exact conS_zero L R A ks
  | cons p ps ih =>
    rw [conS_F7 p ps L R A ks hn, ih, totP]
    by_cases h : p.2.headD 0 ∈ ks
    · rw [if_pos h]
    · rw [if_neg h]
      have : L (p.2.headD 0) = 0 := by rw [hk] at h; omega
      rw [this, Nat.zero_mul, show sat 0 = 0 from rfl]; simp
/-- The table. -/
def tabF (U : Nat → Int → Nat) (tot : (Int → Nat) → (Int → Nat) → Int → Nat) : Nat → Nat → Nat → Int → Nat
  | 0, _, _, _ => 0
  | f + 1, i, j, A => if j = i + 1 then U i A else sat (sumK (fun k => tot (tabF U tot f i k) (tabF U tot f k j) A) (i + 1) (j - (i + 1)))
def tab (U : Nat → Int → Nat) (tot : (Int → Nat) → (Int → Nat) → Int → Nat) (i j : Nat) : Int → Nat := tabF U tot (j - i) i j
theorem sumK_congr {f g : Nat → Nat} {a n : Nat} (h : ∀ k, a ≤ k → k < a + n → f k = g k) : sumK f a n = sumK g a n := by
  induction n with
  | zero => rfl
  | succ n ih => simp only [sumK]; rw [ih fun k h1 h2 => h k h1 (by omega), h (a + n) (by omega) (by omega)]
theorem tabF_eq (U : Nat → Int → Nat) (tot : (Int → Nat) → (Int → Nat) → Int → Nat) : ∀ (f f' i j : Nat), i < j → j - i ≤ f → j - i ≤ f' → tabF U tot f i j = tabF U tot f' i j
  | 0, _, i, j, h, h1, _ => by omega
  | _, 0, i, j, h, _, h1 => by omega
  | f + 1, f' + 1, i, j, h, h1, h2 => by
    funext A
    simp only [tabF]
    split
    · rfl
    · congr 1
      refine sumK_congr fun k hk1 hk2 => ?_
      rw [tabF_eq U tot f f' i k (by omega) (by omega) (by omega), tabF_eq U tot f f' k j (by omega) (by omega) (by omega)]
theorem tab_one (U : Nat → Int → Nat) (tot : (Int → Nat) → (Int → Nat) → Int → Nat) (i : Nat) : tab U tot i (i + 1) = U i := by
  funext A
  rw [tab, show i + 1 - i = 0 + 1 by omega, tabF, if_pos rfl]
theorem tab_step (U : Nat → Int → Nat) (tot : (Int → Nat) → (Int → Nat) → Int → Nat) (i j : Nat) (h : i + 1 < j) (A : Int) : tab U tot i j A = sat (sumK (fun k => tot (tab U tot i k) (tab U tot k j) A) (i + 1) (j - (i + 1))) := by
  rw [tab, show j - i = (j - i - 1) + 1 by omega, tabF, if_neg (by omega)]
  congr 1
  refine sumK_congr fun k hk1 hk2 => ?_
  rw [tab, tab, tabF_eq U tot (j - i - 1) (k - i) i k (by omega) (by omega) (by omega), tabF_eq U tot (j - i - 1) (j - k) k j (by omega) (by omega) (by omega)]
theorem tab_le (U : Nat → Int → Nat) (tot : (Int → Nat) → (Int → Nat) → Int → Nat) (hU : ∀ i A, U i A ≤ 1099511627776) (i j : Nat) (A : Int) : tab U tot i j A ≤ 1099511627776 := by
  unfold tab
  cases j - i with
  | zero => simp [tabF]
  | succ f => simp only [tabF]; split
              · exact hU i A
              · exact sat_le _
def un (g : CG) (x : List Int) (i : Nat) (A : Int) : Nat := if A ∈ F6 g.prods (x.getD i 0) then 1 else 0
theorem un_le (g : CG) (x : List Int) (i : Nat) (A : Int) : un g x i A ≤ 1099511627776 := by unfold un; split <;> omega
/-- The chart of g and x. -/
def cnt (g : CG) (x : List Int) : Nat → Nat → Int → Nat := tab (un g x) (totP g.prods)
theorem ixN_inj {n i j i' j' : Nat} (h : i < j) (hj : j ≤ n) (h' : i' < j') (hj' : j' ≤ n) (e : ixN n i j = ixN n i' j') : i = i' ∧ j = j' := by
  unfold ixN at e
  have e1 : i * n + (j - 1) = i' * n + (j' - 1) := by omega
  have hn : 0 < n := by omega
  have d1 : (i * n + (j - 1)) / n = i := by rw [Nat.mul_comm, Nat.mul_add_div hn, Nat.div_eq_of_lt (by omega)]; omega
  have d2 : (i' * n + (j' - 1)) / n = i' := by rw [Nat.mul_comm, Nat.mul_add_div hn, Nat.div_eq_of_lt (by omega)]; omega
  have : i = i' := by rw [← d1, ← d2, e1]
  subst this
  exact ⟨rfl, by omega⟩
/-- Some cells are there. -/
def Cells (w : World) (g : CG) (x : List Int) (cs : Array Value) (S : Nat → Nat → Prop) : Prop :=
  ∀ i j, i < j → j ≤ x.length → S i j → ∃ c, cs[ixN x.length i j]? = some (.map (some c)) ∧ MapI w c (fun A => encN (cnt g x i j A))
theorem MapI.ne_cells {w : World} {c b : Nat} {f : Int → Option Value} (h : MapI w c f) {cs : Array Value} {T : Nat} {z : Nat × Nat} (hb : w.heap[b]? = some (.cells cs T z)) : c ≠ b := by
  rintro rfl
  obtain ⟨l, cl, ⟨h1, _⟩, _⟩ := h
  rw [hb] at h1; cases h1
/-- One more cell. -/
theorem Cells.put {w w' : World} {g : CG} {x : List Int} {cs : Array Value} {S S' : Nat → Nat → Prop} {D T : Nat} {z : Nat × Nat} (h : Cells w g x cs S) (hD : w.heap[D]? = some (.cells cs T z)) (hg : w.grownBy w' (some D)) {i j c : Nat} (hij : i < j) (hj : j ≤ x.length) (hs : cs.size = x.length * x.length)
    (hm : MapI w' c (fun A => encN (cnt g x i j A))) (hS : ∀ a b, a < b → b ≤ x.length → S' a b → (a = i ∧ b = j) ∨ S a b) : Cells w' g x (cs.setIfInBounds (ixN x.length i j) (.map (some c))) S' := by
  intro a b hab hb hS'
  by_cases e : a = i ∧ b = j
  · obtain ⟨rfl, rfl⟩ := e
    have := ixN_lt hij hj
    exact ⟨c, by rw [Array.getElem?_setIfInBounds, if_pos rfl, if_pos (by omega)], hm⟩
  · obtain ⟨c', hc', hm'⟩ := h a b hab hb ((hS a b hab hb hS').resolve_left e)
    refine ⟨c', ?_, hm'.hp (hg.block _ hm'.lt fun h => ?_)⟩
    · rw [Array.getElem?_setIfInBounds, if_neg]
      · exact hc'
      · intro h; have := ixN_inj hij hj hab hb h; exact e ⟨this.1.symm, this.2.symm⟩
    · cases h; exact MapI.ne_cells hm' hD rfl
theorem Cells.keep {w w' : World} {g : CG} {x : List Int} {cs : Array Value} {S S' : Nat → Nat → Prop} {row : Option Nat} (h : Cells w g x cs S) (hg : w.grownBy w' row) (hr : ∀ b, row = some b → w.heap.size ≤ b) (hS : ∀ a b, a < b → b ≤ x.length → S' a b → S a b) : Cells w' g x cs S' := by
  intro a b hab hb hS'
  obtain ⟨c, hc, hm⟩ := h a b hab hb (hS a b hab hb hS')
  exact ⟨c, hc, hm.hp (hg.block _ hm.lt fun e => by have := hr c e.symm; have := hm.lt; omega)⟩
/-- A chart lies in block b. -/
def ChartR (w : World) (b : Nat) (g : CG) (x : List Int) : Prop :=
  ∃ D pv cs, w.heap[b]? = some (.cells #[.int .i64 g.start, .int .i64 g.count, .int .i64 g.terms, .bool g.empty, pv, .int .i64 x.length, .slice (some ⟨D, 0, none⟩) (x.length * x.length) (x.length * x.length)] 111 (0, 0)) ∧
    Prods w pv g.prods ∧ w.heap[D]? = some (.cells cs 117 (0, 0)) ∧ cs.size = x.length * x.length ∧
    ∀ i j, i < j → j ≤ x.length → ∃ c, cs[ixN x.length i j]? = some (.map (some c)) ∧ MapI w c (fun A => encN (cnt g x i j A))
theorem ChartR.ext {w w' : World} {b : Nat} {g : CG} {x : List Int} (h : ChartR w b g x) (hx : Ext w w') : ChartR w' b g x := by
  obtain ⟨D, pv, cs, h1, h2, h3, h4, h5⟩ := h
  exact ⟨D, pv, cs, hx.hp h1, h2.ext hx, hx.hp h3, h4, fun i j hi hj => let ⟨c, hc, hm⟩ := h5 i j hi hj; ⟨c, hc, hm.ext hx⟩⟩
end Go.Proofs.Ytgioklmpnbnplaa
