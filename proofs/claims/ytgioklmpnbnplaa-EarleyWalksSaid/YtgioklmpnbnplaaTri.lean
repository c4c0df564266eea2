/- Rows of triples of numbers, of the call's own and as they read; a set of them beside its map. Conditions: none. -/
import Derived.Test.YtgioklmpnbnplaaKr2
set_option linter.unusedSimpArgs false
set_option linter.unusedVariables false
namespace Go.V
open Go.RowKit

abbrev Tri := Int × Int × Int
def triL (x : Tri) : List Value := [.int .i64 x.1, .int .i64 x.2.1, .int .i64 x.2.2]
theorem flat3_get : ∀ (l : List Tri) (i : Nat) (h : i < l.length), (l.flatMap triL)[i * 3]? = some (.int .i64 l[i].1) ∧ (l.flatMap triL)[i * 3 + 1]? = some (.int .i64 l[i].2.1) ∧ (l.flatMap triL)[i * 3 + 2]? = some (.int .i64 l[i].2.2)
  | [], i, h => by simp at h
  | p :: l, 0, h => by simp [triL]
  | p :: l, i + 1, h => by
    have := flat3_get l i (by simpa using h)
    rw [show (i + 1) * 3 = i * 3 + 1 + 1 + 1 by omega]
    simp only [triL, List.flatMap_cons] at this ⊢
    simpa using this
theorem flat3_len (l : List Tri) : (l.flatMap triL).length = l.length * 3 := by
  induction l with
  | nil => rfl
  | cons p l ih => simp only [List.flatMap_cons, List.length_append, ih, List.length_cons, triL, List.length_nil]; omega
/-- A slice of triples reads as a list. -/
def Tris (w : World) (v : Value) (l : List Tri) : Prop :=
  ∃ A c, v = .slice A l.length c ∧ l.length ≤ c ∧ ∀ i (h : i < l.length), rd w A (i * 3) = some (.int .i64 l[i].1) ∧ rd w A (i * 3 + 1) = some (.int .i64 l[i].2.1) ∧ rd w A (i * 3 + 2) = some (.int .i64 l[i].2.2)
theorem Tris.ext {w w' : World} {v : Value} {l : List Tri} (h : Tris w v l) (hx : Ext w w') : Tris w' v l := by
  obtain ⟨A, c, hv, hc, hA⟩ := h
  exact ⟨A, c, hv, hc, fun i hi => ⟨hx.rd (hA i hi).1, hx.rd (hA i hi).2.1, hx.rd (hA i hi).2.2⟩⟩
def Row3 (base e : Nat) (w : World) (v : Value) (l : List Tri) : Prop := w.ownsRow base e 3 v l.length (l.flatMap triL)
section
variable {base e : Nat} {w w' : World} {v : Value} {l : List Tri}
theorem Row3.nil (w : World) : Row3 base e w (.slice none 0 0) [] := World.ownsRow_nil _ _ _ _
theorem Row3.tris (h : Row3 base e w v l) : Tris w v l := by
  rcases h.2 with ⟨rfl, hn⟩ | ⟨g, cap, cur, rfl, _, hg, hc, _, hsz, ht⟩
  · exact ⟨none, 0, by rw [hn], by omega, fun i hi => by omega⟩
  · refine ⟨some ⟨g, 0, none⟩, cap, rfl, hc, fun i hi => ?_⟩
    have hc' : ∀ j, j < l.length * 3 → rd w (some ⟨g, 0, none⟩) j = (l.flatMap triL)[j]? := by
      intro j hj
      rw [rd_own, hg, ← ht, List.getElem?_take, if_pos hj]
      show cur[0 + j]? = _
      simp
    rw [hc' _ (by omega), hc' _ (by omega), hc' _ (by omega)]
    exact flat3_get l i hi
theorem Row3.lt (h : Row3 base e w v l) : ∀ k, v.ownBlock = some k → base ≤ k ∧ k < w.heap.size := World.ownsRow.lt h
theorem Row3.kept (h : Row3 base e w v l) {row : Option Nat} (hg : w.grownBy w' row) (hne : v.ownBlock = none ∨ v.ownBlock ≠ row) : Row3 base e w' v l := World.ownsRow.kept h hg hne
theorem Row3.chg (h : Row3 base e w v l) {M : Nat → Prop} (hc : Chg M w w') (hM : ∀ k, v.ownBlock = some k → ¬ M k) : Row3 base e w' v l := by
  refine ⟨h.1, ?_⟩
  rcases h.2 with h2 | ⟨g, cap, cur, rfl, hb, hg, rest⟩
  · exact .inl h2
  · exact .inr ⟨g, cap, cur, rfl, hb, hc.hp hg (hM g rfl), rest⟩
theorem Row3.mono (h : Row3 base e w v l) {base' : Nat} (hb : base' ≤ base) : Row3 base' e w v l := by
  refine ⟨h.1, ?_⟩
  rcases h.2 with h2 | ⟨g, cap, cur, rfl, hb2, rest⟩
  · exact .inl h2
  · exact .inr ⟨g, cap, cur, rfl, Nat.le_trans hb hb2, rest⟩
theorem Row3.ext (h : Row3 base e w v l) (hx : Ext w w') : Row3 base e w' v l := by
  refine ⟨h.1, ?_⟩
  rcases h.2 with h2 | ⟨g, cap, cur, rfl, hb2, hg, rest⟩
  · exact .inl h2
  · exact .inr ⟨g, cap, cur, rfl, hb2, hx.hp hg, rest⟩
theorem Row3.one (h : Row3 base e w v l) : v.oneCell' = true := by
  rcases h.2 with ⟨rfl, _⟩ | ⟨g, cap, cur, rfl, _⟩ <;> rfl
theorem Row3.typed (h : Row3 base e w v l) {k : Nat} (hk : v.ownBlock = some k) : ∃ cs, w.heap[k]? = some (.cells cs e (0, 0)) := by
  rcases h.2 with ⟨rfl, _⟩ | ⟨g, cap, cur, rfl, _, hg, _⟩
  · cases hk
  · cases hk; exact ⟨_, hg⟩
theorem Row3.ne (h : Row3 base e w v l) {b T : Nat} {cs : Array Value} {f : Nat × Nat} (hb : w.heap[b]? = some (.cells cs T f)) (hT : T ≠ e) : v.ownBlock ≠ some b := fun he => by
  obtain ⟨cs', h2⟩ := h.typed he
  rw [hb] at h2; cases h2; exact hT rfl
theorem Row3.neM (h : Row3 base e w v l) {b : Nat} {es : Array MapEntry} {c : Nat} (hb : w.heap[b]? = some (.map es c)) : v.ownBlock ≠ some b := fun he => by
  obtain ⟨cs', h2⟩ := h.typed he
  rw [hb] at h2; cases h2
/-- Another triple behind. -/
theorem RunA_tri {P : Program} {T bytes : Nat} {z : Value} (hT : SlT P T e 3 bytes z) {ty : TypeId} {K : KV} {x : Tri} (h : Row3 base e w v l) (hn : l.length < 1000000000000) (hby : bytes ≤ 32) (hbase : base ≤ w.heap.size)
    (hk : ∀ v' W, Row3 base e W v' (l ++ [x]) → (v'.ownBlock = v.ownBlock ∨ ∃ b, v'.ownBlock = some b ∧ w.heap.size ≤ b) → w.grownBy W v.ownBlock → (w.alloc (.cells #[.int .i64 x.1, .int .i64 x.2.1, .int .i64 x.2.2] e)).grownBy W v.ownBlock → K.out v' W) :
    @RunA P #[T, T] ty #[v, .slice (some ⟨w.heap.size, 0, none⟩) 1 1] (w.alloc (.cells #[.int .i64 x.1, .int .i64 x.2.1, .int .i64 x.2.2] e)) K := by
  refine RunA_lit hT h rfl (fun u hu => by simp at hu; rcases hu with rfl | rfl | rfl <;> rfl) (by omega) ?_ hbase ?_
  · have : (l.length + 1) * bytes ≤ (l.length + 1) * 32 := Nat.mul_le_mul_left _ hby
    omega
  · intro v' W ho hg hv
    refine hk v' W (by simpa [Row3, triL, List.flatMap_append] using ho) hv ((World.grownBy_alloc w _ _).trans hg) hg
/-- A whole row of triples behind. -/
theorem RunA_tris {P : Program} {T bytes : Nat} {z : Value} (hT : SlT P T e 3 bytes z) {ty : TypeId} {K : KV} {r : List Tri} {A : Option Addr} {c : Nat} (h : Row3 base e w v l) (hr : ∀ i (h : i < r.length), rd w A (i * 3) = some (.int .i64 r[i].1) ∧ rd w A (i * 3 + 1) = some (.int .i64 r[i].2.1) ∧ rd w A (i * 3 + 2) = some (.int .i64 r[i].2.2))
    (hn : l.length + r.length < 1000000000000) (hby : bytes ≤ 32) (hbase : base ≤ w.heap.size)
    (hk : ∀ v' W, Row3 base e W v' (l ++ r) → (v'.ownBlock = v.ownBlock ∨ v'.ownBlock = some w.heap.size) → w.grownBy W v.ownBlock → K.out v' W) :
    @RunA P #[T, T] ty #[v, .slice A r.length c] w K := by
  refine RunA_own hT h (news := r.flatMap triL) (flat3_len r) (fun j u hj => ?_) (fun u hu => ?_) (by omega) ?_ hbase ?_
  · have hj2 : j < r.length * 3 := by rw [← flat3_len]; exact (List.getElem?_eq_some_iff.1 hj).1
    have hi : j / 3 < r.length := by omega
    obtain ⟨g1, g2, g3⟩ := flat3_get r (j / 3) hi
    obtain ⟨r1, r2, r3⟩ := hr (j / 3) hi
    rcases (by omega : j = j / 3 * 3 ∨ j = j / 3 * 3 + 1 ∨ j = j / 3 * 3 + 2) with e1 | e1 | e1
    · rw [e1] at hj ⊢; rw [g1] at hj; cases hj; exact r1
    · rw [e1] at hj ⊢; rw [g2] at hj; cases hj; exact r2
    · rw [e1] at hj ⊢; rw [g3] at hj; cases hj; exact r3
  · simp only [List.mem_flatMap, triL] at hu
    obtain ⟨x, _, hu⟩ := hu
    simp at hu; rcases hu with rfl | rfl | rfl <;> rfl
  · have : (l.length + r.length) * bytes ≤ (l.length + r.length) * 32 := Nat.mul_le_mul_left _ hby
    omega
  · intro v' W ho hg hv
    exact hk v' W (by simpa [Row3] using ho) hv hg
end
theorem bsl1_3 {P : Program} {t e b : Nat} {z : Value} (hs : SlT P t e 3 b z) {x y u : Value} : bslC P t 1 #[(0, .agg #[x, y, u])] = some (#[x, y, u], e) :=
  bsl_any hs (by omega) (by
    show Instr.fill _ _ [(0, Value.agg #[x, y, u])] = _
    simp only [Instr.fill, agg_cells]
    rw [if_neg (by simp)]
    simp
    apply Array.ext
    · simp
    · intro i h1 h2
      simp at h2
      rcases (by omega : i = 0 ∨ i = 1 ∨ i = 2) with rfl | rfl | rfl <;> simp)
end Go.V
