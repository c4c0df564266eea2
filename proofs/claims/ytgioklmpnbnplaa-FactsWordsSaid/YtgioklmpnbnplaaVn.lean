/- Productions that a call makes itself: a row of pairs, each with a row of its own. Conditions: none. -/
import Derived.Test.YtgioklmpnbnplaaVj
set_option linter.unusedSimpArgs false
set_option linter.unusedVariables false
namespace Go.V
open Go.RowKit

def zipf : List (Int × List Int) → List Value → List Value
  | p :: l, r :: rs => .int .i64 p.1 :: r :: zipf l rs
  | _, _ => []
theorem zipf_snoc (p : Int × List Int) (r : Value) : ∀ (l : List (Int × List Int)) (rs : List Value), l.length = rs.length → zipf (l ++ [p]) (rs ++ [r]) = zipf l rs ++ [.int .i64 p.1, r]
  | [], [], _ => rfl
  | q :: l, s :: rs, h => by
    have := zipf_snoc p r l rs (by simpa using h)
    simp only [List.cons_append, zipf, this]
  | [], _ :: _, h => by simp at h
  | _ :: _, [], h => by simp at h
theorem zipf_len : ∀ (l : List (Int × List Int)) (rs : List Value), l.length = rs.length → (zipf l rs).length = l.length * 2
  | [], [], _ => rfl
  | q :: l, s :: rs, h => by simp only [zipf, List.length_cons, zipf_len l rs (by simpa using h)]; omega
  | [], _ :: _, h => by simp at h
  | _ :: _, [], h => by simp at h
theorem zipf_get : ∀ (l : List (Int × List Int)) (rs : List Value) (h : l.length = rs.length) (i : Nat) (hi : i < l.length), (zipf l rs)[i * 2]? = some (.int .i64 l[i].1) ∧ (zipf l rs)[i * 2 + 1]? = some (rs[i]'(h ▸ hi))
  | q :: l, s :: rs, h, 0, _ => ⟨rfl, rfl⟩
  | q :: l, s :: rs, h, i + 1, hi => by
    have := zipf_get l rs (by simpa using h) i (by simpa using hi)
    rw [show (i + 1) * 2 = i * 2 + 1 + 1 by omega]
    simpa [zipf] using this
  | [], _, _, _, hi => by simp at hi
theorem Row.mono {α : Type} {enc : α → Value} {base base' e : Nat} {w : World} {v : Value} {l : List α} (h : Row enc base e w v l) (hb : base' ≤ base) : Row enc base' e w v l := by
  obtain ⟨h1, h2 | ⟨g, cap, cur, h3, h4, h5⟩⟩ := h
  · exact ⟨h1, .inl h2⟩
  · exact ⟨h1, .inr ⟨g, cap, cur, h3, by omega, h5⟩⟩
theorem Row.chg {α : Type} {enc : α → Value} {base e : Nat} {w w' : World} {v : Value} {l : List α} {M : Nat → Prop} (h : Row enc base e w v l) (hc : Chg M w w') (hM : ∀ k, v.ownBlock = some k → ¬ M k) : Row enc base e w' v l := by
  obtain ⟨h1, h2 | ⟨g, cap, cur, h3, h4, h5, h6⟩⟩ := h
  · exact ⟨h1, .inl h2⟩
  · exact ⟨h1, .inr ⟨g, cap, cur, h3, h4, hc.hp h5 (hM g (by rw [h3]; rfl)), h6⟩⟩
/-- Productions of the call's own; the rows of their right sides lie below B. -/
def PRow (e base B : Nat) (w : World) (v : Value) (l : List (Int × List Int)) : Prop :=
  ∃ rs : List Value, l.length = rs.length ∧ w.ownsRow base e 2 v l.length (zipf l rs) ∧ ∀ i (h : i < l.length) (h' : i < rs.length), Row (.int .i64) 0 3 w rs[i] l[i].2 ∧ ∀ k, rs[i].ownBlock = some k → k < B
section
variable {e base B : Nat} {w w' : World} {v : Value} {l : List (Int × List Int)}
theorem PRow.nil (w : World) : PRow e base B w (.slice none 0 0) [] := ⟨[], rfl, World.ownsRow_nil _ _ _ _, fun i h => by simp at h⟩
theorem PRow.lt (h : PRow e base B w v l) : ∀ k, v.ownBlock = some k → base ≤ k ∧ k < w.heap.size := by obtain ⟨rs, _, h, _⟩ := h; exact World.ownsRow.lt h
theorem PRow.shape (h : PRow e base B w v l) : ∃ A c, v = .slice A l.length c ∧ l.length ≤ c := by
  obtain ⟨rs, hl, ⟨h1, h2 | ⟨g, cap, cur, h3, h4, h5, h6, _⟩⟩, _⟩ := h
  · exact ⟨none, 0, by rw [h2.1, h2.2], by omega⟩
  · exact ⟨_, cap, h3, h6⟩
theorem PRow.one (h : PRow e base B w v l) : v.oneCell' = true := by obtain ⟨A, c, rfl, _⟩ := h.shape; rfl
theorem PRow.ne (h : PRow e base B w v l) {b T : Nat} {cs : Array Value} {f : Nat × Nat} (hb : w.heap[b]? = some (.cells cs T f)) (hT : T ≠ e) : v.ownBlock ≠ some b := by
  obtain ⟨rs, hl, ⟨h1, h2 | ⟨g, cap, cur, h3, h4, h5, _⟩⟩, _⟩ := h
  · rw [h2.1]; simp [Value.ownBlock]
  · rw [h3]
    intro he
    simp only [Value.ownBlock, Option.some.injEq] at he
    subst he
    rw [hb] at h5; simp at h5; exact hT h5.2.1
theorem PRow.chg (h : PRow e base B w v l) {M : Nat → Prop} (hc : Chg M w w') (hM : ∀ k, v.ownBlock = some k → ¬ M k) (hB : ∀ k, k < B → M k → ∃ cs T f, T ≠ 3 ∧ w.heap[k]? = some (.cells cs T f)) : PRow e base B w' v l := by
  obtain ⟨rs, hl, ⟨h1, h2⟩, h3⟩ := h
  refine ⟨rs, hl, ⟨h1, ?_⟩, fun i hi hi' => ?_⟩
  · rcases h2 with h2 | ⟨g, cap, cur, h3, h4, h5, h6⟩
    · exact .inl h2
    · exact .inr ⟨g, cap, cur, h3, h4, hc.hp h5 (hM g (by rw [h3]; rfl)), h6⟩
  · obtain ⟨hr, hk⟩ := h3 i hi hi'
    refine ⟨hr.chg hc fun k hk' hm => ?_, hk⟩
    obtain ⟨cs, T, f, hT, hq⟩ := hB k (hk k hk') hm
    exact hr.ne hq hT hk'
theorem PRow.ext (h : PRow e base B w v l) (hx : Ext w w') : PRow e base B w' v l := by
  obtain ⟨rs, hl, ⟨h1, h2⟩, h3⟩ := h
  refine ⟨rs, hl, ⟨h1, ?_⟩, fun i hi hi' => ⟨(h3 i hi hi').1.ext hx, (h3 i hi hi').2⟩⟩
  rcases h2 with h2 | ⟨g, cap, cur, h3, h4, h5, h6⟩
  · exact .inl h2
  · exact .inr ⟨g, cap, cur, h3, h4, hx.hp h5, h6⟩
theorem PRow.up (h : PRow e base B w v l) {B' : Nat} (hB : B ≤ B') : PRow e base B' w v l := by
  obtain ⟨rs, hl, h1, h3⟩ := h
  exact ⟨rs, hl, h1, fun i hi hi' => ⟨(h3 i hi hi').1, fun k hk => Nat.lt_of_lt_of_le ((h3 i hi hi').2 k hk) hB⟩⟩
theorem PRow.prods (h : PRow e base B w v l) : Prods w v l := by
  obtain ⟨rs, hl, ⟨h1, h2 | ⟨g, cap, cur, h3, h4, h5, h6, h7, h8, h9⟩⟩, hr⟩ := h
  · have : l = [] := List.length_eq_zero_iff.1 h2.2
    subst this
    exact ⟨none, 0, h2.1, Nat.le_refl _, fun i h => by simp at h⟩
  · refine ⟨_, cap, h3, h6, fun i hi => ?_⟩
    have hz := zipf_get l rs hl i hi
    have hc : ∀ j u, j < l.length * 2 → (zipf l rs)[j]? = some u → rd w (some ⟨g, 0, none⟩) j = some u := by
      intro j u hj hu
      rw [rd_own, h5, ← h9] at *
      rw [List.getElem?_take, if_pos hj] at hu
      simpa [cellO] using hu
    exact ⟨hc _ _ (by omega) hz.1, _, hc _ _ (by omega) hz.2, (hr i hi (hl ▸ hi)).1.sq⟩
/-- Another production behind. -/
theorem RunA_prod {P : Program} {T bytes : Nat} {z : Value} (hT : SlT P T e 2 bytes z) {ty : TypeId} {K : KV} {p : Int × List Int} {r : Value} (h : PRow e base B w v l) (hr : Row (.int .i64) 0 3 w r p.2) (he : e ≠ 3) (hn : l.length < 1000000000000) (hby : bytes ≤ 32) (hbase : base ≤ w.heap.size) (hBw : B ≤ w.heap.size)
    (hk : ∀ v' W, PRow e base w.heap.size W v' (l ++ [p]) → w.grownBy W v.ownBlock → w.heap.size < W.heap.size → (v'.ownBlock = v.ownBlock ∨ ∃ b, v'.ownBlock = some b ∧ w.heap.size ≤ b) → (w.alloc (.cells #[.int .i64 p.1, r] e)).grownBy W v.ownBlock → K.out v' W) :
    @RunA P #[T, T] ty #[v, .slice (some ⟨w.heap.size, 0, none⟩) 1 1] (w.alloc (.cells #[.int .i64 p.1, r] e)) K := by
  have h0 := h
  obtain ⟨rs, hl, ho, hrs⟩ := h
  refine RunA_lit hT ho rfl (fun u hu => by
    simp at hu
    rcases hu with rfl | rfl
    · rfl
    · exact hr.one) (by omega) ?_ hbase ?_
  · have : (l.length + 1) * bytes ≤ (l.length + 1) * 32 := Nat.mul_le_mul_left _ hby
    omega
  · intro v' W ho' hg hv
    have hg0 := (World.grownBy_alloc w _ _).trans hg
    have hkeep : ∀ {u : Value} {m : List Int}, Row (.int .i64) 0 3 w u m → Row (.int .i64) 0 3 W u m := fun {u m} hu => by
      refine hu.kept hg0 ?_
      cases hq : u.ownBlock with
      | none => exact .inl rfl
      | some k =>
        refine .inr fun e1 => ?_
        rcases hu.shape with ⟨rfl, _⟩ | ⟨g, c, cur, rfl, _, hgc, _⟩
        · simp [Value.ownBlock] at hq
        · simp only [Value.ownBlock, Option.some.injEq] at hq
          subst hq
          exact h0.ne hgc (fun e2 => he e2.symm) e1.symm
    refine hk v' W ⟨rs ++ [r], by simp [hl], ?_, fun i hi hi' => ?_⟩ hg0 ?_ hv hg
    · rw [zipf_snoc p r l rs hl]; simpa using ho'
    · by_cases e1 : i < l.length
      · rw [List.getElem_append_left (by omega), List.getElem_append_left e1]
        obtain ⟨a, b⟩ := hrs i e1 (by omega)
        exact ⟨hkeep a, fun k hk => Nat.lt_of_lt_of_le (b k hk) hBw⟩
      · have e2 : i = l.length := by simp at hi; omega
        subst e2
        rw [List.getElem_append_right (by omega), List.getElem_append_right (by omega)]
        simp only [hl, Nat.sub_self, List.getElem_cons_zero]
        exact ⟨hkeep hr, fun k hk => (hr.lt k hk).2⟩
    · have := hg.size
      simp at this
      omega
end
theorem Row.typed {α : Type} {enc : α → Value} {base e : Nat} {w : World} {v : Value} {l : List α} (h : Row enc base e w v l) {k : Nat} (hk : v.ownBlock = some k) : ∃ cs f, w.heap[k]? = some (.cells cs e f) := by
  rcases h.shape with ⟨rfl, _⟩ | ⟨g, c, cur, rfl, _, hg, _⟩
  · simp [Value.ownBlock] at hk
  · simp only [Value.ownBlock, Option.some.injEq] at hk
    subst hk; exact ⟨_, _, hg⟩
theorem PRow.typed {e base B : Nat} {w : World} {v : Value} {l : List (Int × List Int)} (h : PRow e base B w v l) {k : Nat} (hk : v.ownBlock = some k) : ∃ cs f, w.heap[k]? = some (.cells cs e f) := by
  obtain ⟨rs, hl, ⟨h1, h2 | ⟨g, cap, cur, h3, h4, h5, _⟩⟩, _⟩ := h
  · rw [h2.1] at hk; simp [Value.ownBlock] at hk
  · rw [h3] at hk
    simp only [Value.ownBlock, Option.some.injEq] at hk
    subst hk; exact ⟨_, _, h5⟩
theorem Row.lit2 {α : Type} {enc : α → Value} {base e : Nat} (w : World) (x y : α) (hb : base ≤ w.heap.size) : Row enc base e (w.alloc (.cells #[enc x, enc y] e)) (.slice (some ⟨w.heap.size, 0, none⟩) 2 2) [x, y] := by
  have := World.ownsRow_lit (e := e) (size := 1) w #[enc x, enc y] 2 (base := base) hb (by decide) rfl
  simpa [Row] using this
theorem Row.lit0 {α : Type} {enc : α → Value} {base e : Nat} (w : World) (hb : base ≤ w.heap.size) : Row enc base e (w.alloc (.cells #[] e)) (.slice (some ⟨w.heap.size, 0, none⟩) 0 0) ([] : List α) := by
  have := World.ownsRow_lit (e := e) (size := 1) w #[] 0 (base := base) hb (by decide) rfl
  simpa [Row] using this
/-- Appending to a slice of no room: what stood stays as it was. -/
theorem RunA_zero {α : Type} {enc : α → Value} {P : Program} {T e bytes : Nat} {z : Value} (hT : SlT P T e 1 bytes z) {ty : TypeId} {K : KV} {w : World} {g c : Nat} {r : List α} {A : Option Addr} (hg : w.heap[g]? = some (.cells #[] e (0, 0))) (hr : ∀ i (h : i < r.length), rd w A i = some (enc r[i])) (hx : ∀ x, (enc x).oneCell' = true)
    (hn : r.length < 1000000000000) (hby : bytes ≤ 32)
    (hk : ∀ v' W, Row enc (min g w.heap.size) e W v' r → Ext w W → (v'.ownBlock = some g ∨ ∃ b, v'.ownBlock = some b ∧ w.heap.size ≤ b) → K.out v' W) :
    @RunA P #[T, T] ty #[.slice (some ⟨g, 0, none⟩) 0 0, .slice A r.length c] w K := by
  obtain ⟨i, hi, hz, hsz, hbb⟩ := hT.info
  have hgl := lt_heap hg
  have hzero : Row enc (min g w.heap.size) e w (.slice (some ⟨g, 0, none⟩) 0 0) ([] : List α) := ⟨by simp, .inr ⟨g, 0, #[], rfl, Nat.min_le_left _ _, hg, Nat.le_refl _, by decide, by simp, by simp⟩⟩
  cases A with
  | none =>
    have hm : r = [] := by
      cases r with
      | nil => rfl
      | cons x l => have := hr 0 (by simp); simp [rd] at this
    subst hm
    refine ⟨.slice (some ⟨g, 0, none⟩) 0 0, w, ?_, hk _ w hzero (Ext.rfl' w) (.inl rfl)⟩
    simp [Builtin.append_, run_underlying P w _ _ hT.1, run_sizeOf P w _ i hi, Builtin.lenOf, Builtin.firstCells, storeCells]
  | some a =>
    have hnews : ∀ j u, (r.map enc)[j]? = some u → w.cell? (a.add j) = some u := fun j u hj => by
      have hjl : j < r.length := by have := (List.getElem?_eq_some_iff.1 hj).1; simpa using this
      rw [List.getElem?_eq_getElem (by simpa using hjl)] at hj
      simp at hj
      have := hr j hjl
      rw [← hj]; simpa [rd] using this
    have h1 : ∀ u ∈ r.map enc, u.oneCell' = true := fun u hu => by obtain ⟨x, _, rfl⟩ := List.mem_map.1 hu; exact hx x
    have hl : (r.map enc).length = r.length * i.size := by rw [hsz]; simp
    by_cases h0 : r = []
    · subst h0
      have hr2 := run_append_room (P := P) w T ty e i hT.1 hi g 0 0 #[] hg a 0 c [] (by simp) (by simp) (by simp) (by simp) (by simp)
      refine ⟨_, _, hr2, hk _ _ ?_ ?_ (.inl rfl)⟩
      · have : w.setRow g ((#[] : Array Value).toList.take (0 * i.size) ++ [] ++ (#[] : Array Value).toList.drop (0 * i.size + ([] : List Value).length)).toArray = w := by
          simpa using setRow_self w g #[] e (0, 0) hg
        rw [this]; simpa using hzero
      · have : w.setRow g ((#[] : Array Value).toList.take (0 * i.size) ++ [] ++ (#[] : Array Value).toList.drop (0 * i.size + ([] : List Value).length)).toArray = w := by
          simpa using setRow_self w g #[] e (0, 0) hg
        rw [this]; exact Ext.rfl' w
    · have hpos : 0 < r.length := List.length_pos_iff.2 h0
      have hbytes : (0 + r.length) * i.bytes ≤ 140737488355328 := by
        rw [hbb, Nat.zero_add]
        have : r.length * bytes ≤ r.length * 32 := Nat.mul_le_mul_left _ hby
        omega
      have hr2 := run_append_grow (P := P) w T ty e i z hT.1 hi hz ⟨g, 0, none⟩ 0 0 [] (by simp) (by simp) a r.length c (r.map enc) hl hnews (by omega) (by omega) (growslice_fits (by omega) hbytes)
      have hge := grownCap_ge w (0 + r.length) 0 e
      have hcm : grownCap w (0 + r.length) 0 e ≤ maxLen := grownCap_le_maxLen w (0 + r.length) 0 e (by unfold maxLen; omega)
      rw [Nat.zero_add] at hr2 hge hcm
      have hzs : z.cells.size = 1 := hT.2.2.1
      refine ⟨_, _, hr2, hk _ _ ⟨by simp, .inr ⟨w.heap.size, grownCap w r.length 0 e, _, rfl, by omega, heap_alloc_new w.drew _, hge, hcm, ?_, ?_⟩⟩ ⟨rfl, rfl, rfl, by simp, fun k hk => heap_alloc_old w.drew _ hk⟩ (.inr ⟨_, rfl, Nat.le_refl _⟩)⟩
      · simp only [Array.size_append, List.size_toArray, size_zeroCells, hzs, List.length_map, Array.size_empty, List.size_toArray, List.length_nil]
        omega
      · simp
end Go.V
