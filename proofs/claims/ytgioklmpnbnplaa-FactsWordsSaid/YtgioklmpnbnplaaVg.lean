/- Maps whose elements are slices that the call itself has made. Conditions: none. -/
import Derived.Test.YtgioklmpnbnplaaVl
set_option linter.unusedSimpArgs false
set_option linter.unusedVariables false
namespace Go.V
open Go.RowKit

theorem grown_set (w : World) (g i : Nat) (v : Value) : w.grownBy (w.setCell ⟨g, i, none⟩ v) (some g) :=
  ⟨rfl, rfl, rfl, by simp, fun k hk hne => heap_set v fun h => hne (by rw [h])⟩
/-- A struct is written into a block that is there. -/
theorem sto_agg {P : Program} {T T' : TypeId} {w : World} {g : Nat} {cs ds : Array Value} (hs : szT P T = some ds.size) (hg : w.heap[g]? = some (.cells cs T' (0, 0))) (hsz : cs.size = ds.size) (hc : ∀ x ∈ ds, x.oneCell' = true) :
    ∃ w', stoT P T w (pa (some ⟨g, 0, none⟩) 0) (.agg ds) = some w' ∧ w'.heap[g]? = some (.cells ds T' (0, 0)) ∧ w.grownBy w' (some g) ∧ w'.heap.size = w.heap.size := by
  simp only [stoT, pa, Option.map_some, addr_add, agg_cells, hs, if_true, Nat.add_zero]
  have key : ∀ (l : List Value) (cs : Array Value) (j : Nat) (w : World), (∀ x ∈ l, x.oneCell' = true) → j + l.length = cs.size → w.heap[g]? = some (.cells cs T' (0, 0)) →
      ∃ w', stoL w (.pointer (some ⟨g, 0, none⟩)) j l = some w' ∧ w'.heap[g]? = some (.cells (cs.toList.take j ++ l).toArray T' (0, 0)) ∧ w.grownBy w' (some g) ∧ w'.heap.size = w.heap.size := by
    intro l
    induction l with
    | nil => intro cs j w _ hj hg; exact ⟨w, rfl, by rw [List.append_nil, List.take_of_length_le (by simp at hj; simp; omega)]; exact hg, World.grownBy.refl _ _, rfl⟩
    | cons x l ih =>
      intro cs j w hx hj hg
      simp only [List.length_cons] at hj
      have hlt : j < cs.size := by omega
      have h1 : w.cell? ⟨g, 0 + j, none⟩ = some cs[j] := by rw [Nat.zero_add]; simp [World.cell?, hg, hlt]
      have h2 : w.frozen? ⟨g, 0 + j, none⟩ = false := by rw [Nat.zero_add]; simp [World.frozen?, hg]
      have h3 : (w.setCell ⟨g, j, none⟩ x).heap[g]? = some (.cells (cs.setIfInBounds j x) T' (0, 0)) := by rw [heap_set_same, hg]; rfl
      obtain ⟨w', hw, hh, hgr, hss⟩ := ih (cs.setIfInBounds j x) (j + 1) (w.setCell ⟨g, j, none⟩ x) (fun y hy => hx y (List.mem_cons_of_mem _ hy)) (by simp; omega) h3
      refine ⟨w', ?_, ?_, (grown_set w g j x).trans hgr, by rw [hss]; simp⟩
      · simp only [stoL, setP, addr_add, h1, h2, hx x (List.mem_cons_self ..), Option.isSome_some, and_self, if_true]
        rw [Nat.zero_add]; exact hw
      · rw [hh, Array.toList_setIfInBounds, take_set_one x cs.toList j (by simpa using hlt)]; simp
  obtain ⟨w', h1, h2, h3⟩ := key ds.toList cs 0 w (fun x hx => hc x (by simpa using hx)) (by simp [hsz]) hg
  exact ⟨w', h1, by simpa using h2, h3⟩
theorem RunA_lit {P : Program} {t e size bytes : Nat} {z : Value} (hs : SlT P t e size bytes z) {ty : TypeId} {w : World} {K : KV} {base n : Nat} {v : Value} {xs : List Value} {cs : Array Value}
    (ho : w.ownsRow base e size v n xs) (hc : cs.size = size) (h1 : ∀ u ∈ cs.toList, u.oneCell' = true) (h63 : n + 1 ≤ 9223372036854775807) (hb : (n + 1) * bytes ≤ 140737488355328) (hbase : base ≤ w.heap.size)
    (hk : ∀ v' w', w'.ownsRow base e size v' (n + 1) (xs ++ cs.toList) → (w.alloc (.cells cs e)).grownBy w' v.ownBlock → (v'.ownBlock = v.ownBlock ∨ ∃ b, v'.ownBlock = some b ∧ w.heap.size ≤ b) → K.out v' w') :
    @RunA P #[t, t] ty #[v, .slice (some ⟨w.heap.size, 0, none⟩) 1 1] (w.alloc (.cells cs e)) K := by
  refine RunA_own hs (ho.alloc _) (news := cs.toList) (by simp [hc]) ?_ h1 h63 hb (by simp; omega) ?_
  · intro j u hj
    rw [rd_own, heap_new _ rfl]
    show cs[0 + j]? = some u
    rw [Nat.zero_add]; simpa using hj
  · intro v' w' h2 h3 h4
    refine hk v' w' h2 h3 (h4.imp id fun h => ⟨_, h, by simp⟩)
/-- A literal of one element of two cells. -/
theorem bsl1_2 {P : Program} {t e b : Nat} {z : Value} (hs : SlT P t e 2 b z) {x y : Value} : bslC P t 1 #[(0, .agg #[x, y])] = some (#[x, y], e) :=
  bsl_any hs (by omega) (by
    show Instr.fill _ _ [(0, Value.agg #[x, y])] = _
    simp only [Instr.fill, agg_cells]
    rw [if_neg (by simp)]
    simp
    apply Array.ext
    · simp
    · intro j h1 h2
      simp at h2
      match j, h2 with
      | 0, _ => simp
      | 1, _ => simp)
theorem bsl2_2 {P : Program} {t e b : Nat} {z : Value} (hs : SlT P t e 2 b z) {x y u v : Value} : bslC P t 2 #[(0, .agg #[x, y]), (1, .agg #[u, v])] = some (#[x, y, u, v], e) :=
  bsl_any hs (by omega) (by
    show Instr.fill _ _ [(0, Value.agg #[x, y]), (1, Value.agg #[u, v])] = _
    simp [Instr.fill, agg_cells]
    apply Array.ext
    · simp
    · intro j h1 h2
      simp at h2
      match j, h2 with
      | 0, _ => simp
      | 1, _ => simp
      | 2, _ => simp
      | 3, _ => simp)
theorem grown_none {a b : World} (h : Ext a b) (row : Option Nat) : a.grownBy b row := ⟨h.os, h.tape, h.output, h.size, fun k hk _ => h.block k hk⟩
/-- Block m is a map; each of its elements is nil or owns a row from base on; o tells whose a block is. -/
def RowsM (e s base : Nat) (o : Nat → Nat × Int) (tag : Nat) (W : World) (m : Nat) (F : Int → List Value) : Prop :=
  ∃ f, MapI W m f ∧ m < base ∧ ∀ k, ∃ n, W.ownsRow base e s ((f k).getD (.slice none 0 0)) n (F k) ∧ ∀ g, ((f k).getD (.slice none 0 0)).ownBlock = some g → o g = (tag, k)
theorem RowsM.new (e s base : Nat) (o : Nat → Nat × Int) (tag : Nat) (W : World) (h : W.heap.size < base) : RowsM e s base o tag (W.alloc (.map #[] 0)) W.heap.size (fun _ => []) :=
  ⟨_, MapF.new _ _, h, fun k => ⟨0, World.ownsRow_nil _ _ _ _, fun g hg => by cases hg⟩⟩
theorem RowsM.kept {e s base : Nat} {o o' : Nat → Nat × Int} {tag : Nat} {W W' : World} {m : Nat} {F : Int → List Value} {row : Option Nat} (h : RowsM e s base o tag W m F) (hg : W.grownBy W' row)
    (hr : ∀ g, row = some g → (g < base ∧ g ≠ m) ∨ (base ≤ g ∧ (o g).1 ≠ tag)) (ho : ∀ g, g < W.heap.size → o' g = o g) : RowsM e s base o' tag W' m F := by
  obtain ⟨f, hm, hmb, hk⟩ := h
  refine ⟨f, hm.hp (hg.block _ hm.lt ?_), hmb, fun k => ?_⟩
  · rintro rfl
    rcases hr m rfl with h | h <;> omega
  · obtain ⟨n, hn, hb⟩ := hk k
    refine ⟨n, hn.kept hg ?_, fun g hg' => ?_⟩
    · cases hv : ((f k).getD (.slice none 0 0)).ownBlock with
      | none => exact .inl rfl
      | some g =>
        refine .inr ?_
        rintro rfl
        have h1 := hn.lt g hv
        rcases hr g rfl with h | h
        · omega
        · exact h.2 (by rw [hb g hv])
    · rw [ho g (hn.lt g hg').2]; exact hb g hg'
theorem RowsM.at {e s base : Nat} {o : Nat → Nat × Int} {tag : Nat} {W : World} {m : Nat} {F : Int → List Value} (h : RowsM e s base o tag W m F) (k : Int) :
    ∃ f v n, MapI W m f ∧ (f k).getD (.slice none 0 0) = v ∧ W.ownsRow base e s v n (F k) ∧ (∀ g, v.ownBlock = some g → base ≤ g ∧ o g = (tag, k)) ∧
      ∀ W1 W2 v' n' xs, W.grownBy W1 v.ownBlock → (v'.ownBlock = v.ownBlock ∨ ∃ b, v'.ownBlock = some b ∧ W.heap.size ≤ b) → W1.ownsRow base e s v' n' xs →
        MapI W2 m (fun k' => if k' = k then some v' else f k') → W1.grownBy W2 (some m) →
        RowsM e s base (fun g => if g < W.heap.size then o g else (tag, k)) tag W2 m (fun k' => if k' = k then xs else F k') := by
  obtain ⟨f, hm, hmb, hk⟩ := h
  obtain ⟨n, hn, hb⟩ := hk k
  refine ⟨f, _, n, hm, rfl, hn, fun g hg => ⟨(hn.lt g hg).1, hb g hg⟩, ?_⟩
  intro W1 W2 v' n' xs hg1 hv' ho hm2 hg2
  refine ⟨_, hm2, hmb, fun k' => ?_⟩
  have hgm : ∀ {v : Value} {n : Nat} {xs : List Value}, W1.ownsRow base e s v n xs → W2.ownsRow base e s v n xs := by
    intro v n xs hv
    refine hv.kept hg2 ?_
    cases hob : v.ownBlock with
    | none => exact .inl rfl
    | some g => exact .inr fun e => by cases e; have := hv.lt m hob; omega
  by_cases hkk : k' = k
  · subst hkk
    refine ⟨n', by simpa using hgm ho, fun g hg => ?_⟩
    simp only [if_true, Option.getD_some] at hg
    show (if g < W.heap.size then o g else (tag, k')) = (tag, k')
    split
    · rename_i hlt
      rcases hv' with h | ⟨b, h, hb'⟩
      · rw [h] at hg; exact hb g hg
      · rw [h] at hg; cases hg; omega
    · rfl
  · obtain ⟨n2, hn2, hb2⟩ := hk k'
    simp only [if_neg hkk]
    refine ⟨n2, hgm (hn2.kept hg1 ?_), fun g hg => ?_⟩
    · cases hv : ((f k').getD (.slice none 0 0)).ownBlock with
      | none => exact .inl rfl
      | some g =>
        refine .inr fun e => ?_
        have h1 := hb2 g hv
        have h2 := hb g e.symm
        rw [h1] at h2
        exact hkk (by cases h2; rfl)
    · show (if g < W.heap.size then o g else (tag, k)) = _
      rw [if_pos (hn2.lt g hg).2]; exact hb2 g hg
/-- Reading it later. -/
theorem RowsM.read {e s base : Nat} {o : Nat → Nat × Int} {tag : Nat} {W : World} {m : Nat} {F : Int → List Value} (h : RowsM e s base o tag W m F) :
    ∃ f, MapI W m f ∧ ∀ k, ∃ n, W.ownsRow base e s ((f k).getD (.slice none 0 0)) n (F k) := by
  obtain ⟨f, hm, _, hk⟩ := h
  exact ⟨f, hm, fun k => let ⟨n, hn, _⟩ := hk k; ⟨n, hn⟩⟩
theorem Keep.of_grown {w w' : World} {row : Option Nat} (h : w.grownBy w' row) {M : List Nat} (hM : ∀ g, row = some g → g ∈ M) : Keep M w w' :=
  ⟨h.size, fun b hb hn => h.block b hb fun e => hn (hM b e.symm)⟩
theorem own_pairs {w : World} {base e : Nat} {v : Value} {n : Nat} {l : List (Int × Int)} (h : w.ownsRow base e 2 v n (l.flatMap fun p => [Value.int .i64 p.1, .int .i64 p.2])) (hl : (l.flatMap fun p => [Value.int .i64 p.1, .int .i64 p.2]).length = l.length * 2)
    (hget : ∀ i (h : i < l.length), (l.flatMap fun p => [Value.int .i64 p.1, .int .i64 p.2])[i * 2]? = some (.int .i64 l[i].1) ∧ (l.flatMap fun p => [Value.int .i64 p.1, .int .i64 p.2])[i * 2 + 1]? = some (.int .i64 l[i].2)) :
    ∃ A c, v = .slice A l.length c ∧ l.length ≤ c ∧ ∀ i (h : i < l.length), rd w A (i * 2) = some (.int .i64 l[i].1) ∧ rd w A (i * 2 + 1) = some (.int .i64 l[i].2) := by
  have hn : n = l.length := by have := h.1; rw [hl] at this; omega
  subst hn
  rcases h.2 with ⟨rfl, hn⟩ | ⟨g, cap, cur, rfl, _, hg, hc, _, hsz, ht⟩
  · exact ⟨none, 0, by rw [hn], by omega, fun i hi => by omega⟩
  · refine ⟨some ⟨g, 0, none⟩, cap, rfl, hc, fun i hi => ?_⟩
    have hc' : ∀ j, j < l.length * 2 → rd w (some ⟨g, 0, none⟩) j = (l.flatMap fun p => [Value.int .i64 p.1, .int .i64 p.2])[j]? := by
      intro j hj
      rw [rd_own, hg, ← ht, List.getElem?_take, if_pos hj]
      show cur[0 + j]? = _
      simp
    rw [hc' _ (by omega), hc' _ (by omega)]
    exact hget i hi
def flat2 (l : List (Int × Int)) : List Value := l.flatMap fun p => [.int .i64 p.1, .int .i64 p.2]
theorem flat2_get : ∀ (l : List (Int × Int)) (i : Nat) (h : i < l.length), (flat2 l)[i * 2]? = some (.int .i64 l[i].1) ∧ (flat2 l)[i * 2 + 1]? = some (.int .i64 l[i].2)
  | [], i, h => by simp at h
  | p :: l, 0, h => by simp [flat2]
  | p :: l, i + 1, h => by
    have := flat2_get l i (by simpa using h)
    rw [show (i + 1) * 2 = i * 2 + 1 + 1 by omega]
    simp only [flat2, List.flatMap_cons] at this ⊢
    simpa using this
theorem flat2_length (l : List (Int × Int)) : (flat2 l).length = l.length * 2 := by
  induction l with
  | nil => rfl
  | cons p l ih => simp only [flat2, List.flatMap_cons, List.length_append] at ih ⊢; rw [ih]; simp; omega
/-- A word that is read lies below the world's end. -/
theorem NotIn_rd {M : List Nat} {w : World} {A : Option Addr} {k j : Nat} {v : Value} (h : rd w A k = some v) (hM : ∀ g, g < w.heap.size → g ∉ M) : NotIn M (pa A j) := by
  cases A with
  | none => simp [rd] at h
  | some a =>
    simp only [rd, Option.bind_some] at h
    have := lt_of_cell h
    rw [block_add] at this
    show (a.add j).block ∉ M
    rw [block_add]; exact hM _ this
end Go.V
