/- Rows that a call makes and lengthens itself: a work list; a row of rows. Conditions: none. -/
import Derived.Test.YtgioklmpnbnplaaVi
set_option linter.unusedSimpArgs false
set_option linter.unusedVariables false
namespace Go.V
open Go.RowKit

/-- A slice over a row of the call's own. -/
def Row {α : Type} (enc : α → Value) (base e : Nat) (w : World) (v : Value) (l : List α) : Prop := w.ownsRow base e 1 v l.length (l.map enc)
section
variable {α : Type} {enc : α → Value} {base e : Nat} {w w' : World} {v : Value} {l : List α}
theorem Row.nil (w : World) : Row enc base e w (.slice none 0 0) [] := World.ownsRow_nil _ _ _ _
theorem Row.kept (h : Row enc base e w v l) {row : Option Nat} (hg : w.grownBy w' row) (hne : v.ownBlock = none ∨ v.ownBlock ≠ row) : Row enc base e w' v l := World.ownsRow.kept h hg hne
theorem Row.ext (h : Row enc base e w v l) (hx : Ext w w') : Row enc base e w' v l := by
  have hl := World.ownsRow.lt h
  refine h.kept (row := none) ⟨hx.os, hx.tape, hx.output, hx.size, fun k hk _ => hx.block k hk⟩ ?_
  cases hv : v.ownBlock with
  | none => exact .inl rfl
  | some k => exact .inr (by simp)
theorem Row.lt (h : Row enc base e w v l) : ∀ k, v.ownBlock = some k → base ≤ k ∧ k < w.heap.size := World.ownsRow.lt h
theorem Row.sq (h : Row enc base e w v l) : Sq enc w v l := own_sq (e := e) (base := base) h
theorem Row.shape (h : Row enc base e w v l) : (v = .slice none 0 0 ∧ l = []) ∨ ∃ g c cur, v = .slice (some ⟨g, 0, none⟩) l.length c ∧ base ≤ g ∧ w.heap[g]? = some (.cells cur e (0, 0)) ∧ l.length ≤ c ∧ c ≤ maxLen ∧ cur.size = c ∧ cur.toList.take l.length = l.map enc := by
  obtain ⟨h1, h2 | ⟨g, cap, cur, h3, h4, h5, h6, h7, h8, h9⟩⟩ := h
  · exact .inl ⟨h2.1, List.length_eq_zero_iff.1 h2.2⟩
  · exact .inr ⟨g, cap, cur, h3, h4, h5, h6, h7, by simpa using h8, by simpa using h9⟩
theorem Row.one (h : Row enc base e w v l) : v.oneCell' = true := by
  rcases h.shape with ⟨rfl, _⟩ | ⟨g, c, cur, rfl, _⟩ <;> rfl
/-- Blocks of another kind are not the row's. -/
theorem Row.ne (h : Row enc base e w v l) {b T : Nat} {cs : Array Value} {f : Nat × Nat} (hb : w.heap[b]? = some (.cells cs T f)) (hT : T ≠ e) : v.ownBlock ≠ some b := by
  rcases h.shape with ⟨rfl, _⟩ | ⟨g, c, cur, rfl, _, hg, _⟩
  · simp [Value.ownBlock]
  · intro he
    simp only [Value.ownBlock, Option.some.injEq] at he
    subst he
    rw [hb] at hg; cases hg; exact hT rfl
theorem Row.ne_lt (h : Row enc base e w v l) {b : Nat} (hb : b < base) : v.ownBlock ≠ some b := fun he => by have := h.lt b he; omega
theorem Row.lit1 (w : World) (x : α) (hb : base ≤ w.heap.size) : Row enc base e (w.alloc (.cells #[enc x] e)) (.slice (some ⟨w.heap.size, 0, none⟩) 1 1) [x] := by
  have := World.ownsRow_lit (e := e) (size := 1) w #[enc x] 1 (base := base) hb (by decide) rfl
  simpa [Row] using this
/-- The row without its last. -/
theorem Row.pop {P : Program} {T s b : Nat} {z : Value} (hT : SlT P T e s b z) {x : α} (h : Row enc base e w v (l ++ [x])) {k : IntKind} : ∃ v', slV P T v none (some (.int k l.length)) none = some v' ∧ Row enc base e w v' l ∧ v'.ownBlock = v.ownBlock := by
  rcases h.shape with ⟨_, hl⟩ | ⟨g, c, cur, rfl, hb, hg, hc, hm, hs, ht⟩
  · simp at hl
  · simp only [List.length_append, List.length_cons, List.length_nil] at hc ht
    refine ⟨.slice (some ⟨g, 0, none⟩) l.length c, ?_, ?_, rfl⟩
    · have := slV_hi hT (A := some ⟨g, 0, none⟩) (len := (l ++ [x]).length) (cap := c) (h := l.length) (k := k) (by simp) (by simpa using hc)
      exact this
    · refine ⟨by simp, .inr ⟨g, c, cur, rfl, hb, hg, by omega, hm, by simpa using hs, ?_⟩⟩
      have := congrArg (List.take l.length) ht
      rw [List.take_take, Nat.min_eq_left (by omega)] at this
      simpa [List.take_append] using this
theorem Row.last {x : α} (h : Row enc base e w v (l ++ [x])) : ∃ A c, v = .slice A (l.length + 1) c ∧ A.isSome = true ∧ rd w A l.length = some (enc x) := by
  obtain ⟨A, c, hv, hc, hA⟩ := h.sq
  have := hA l.length (by simp)
  refine ⟨A, c, by simpa using hv, rd_isSome this, by simpa using this⟩
theorem RunA_row2 {P : Program} {T bytes : Nat} {z : Value} (hT : SlT P T e 1 bytes z) {ty : TypeId} {K : KV} {x : α} (h : Row enc base e w v l) (hx : (enc x).oneCell' = true) (hn : l.length < 1000000000000) (hby : bytes ≤ 32) (hbase : base ≤ w.heap.size)
    (hk : ∀ v' W, Row enc base e W v' (l ++ [x]) → w.grownBy W v.ownBlock → w.heap.size < W.heap.size → (v'.ownBlock = v.ownBlock ∨ ∃ b, v'.ownBlock = some b ∧ w.heap.size ≤ b) → (w.alloc (.cells #[enc x] e)).grownBy W v.ownBlock → K.out v' W) :
    @RunA P #[T, T] ty #[v, .slice (some ⟨w.heap.size, 0, none⟩) 1 1] (w.alloc (.cells #[enc x] e)) K := by
  refine RunA_lit hT h rfl (by simpa using hx) (by omega) ?_ hbase ?_
  · have : (l.length + 1) * bytes ≤ (l.length + 1) * 32 := Nat.mul_le_mul_left _ hby
    omega
  · intro v' W ho hg hv
    refine hk v' W (by simpa [Row] using ho) ((World.grownBy_alloc w _ _).trans hg) ?_ hv hg
    have := hg.size
    simp at this
    omega
/-- Another element behind. -/
theorem RunA_row {P : Program} {T bytes : Nat} {z : Value} (hT : SlT P T e 1 bytes z) {ty : TypeId} {K : KV} {x : α} (h : Row enc base e w v l) (hx : (enc x).oneCell' = true) (hn : l.length < 1000000000000) (hby : bytes ≤ 32) (hbase : base ≤ w.heap.size)
    (hk : ∀ v' W, Row enc base e W v' (l ++ [x]) → w.grownBy W v.ownBlock → w.heap.size < W.heap.size → (v'.ownBlock = v.ownBlock ∨ ∃ b, v'.ownBlock = some b ∧ w.heap.size ≤ b) → K.out v' W) :
    @RunA P #[T, T] ty #[v, .slice (some ⟨w.heap.size, 0, none⟩) 1 1] (w.alloc (.cells #[enc x] e)) K := by
  exact RunA_row2 hT h hx hn hby hbase fun v' W h1 h2 h3 h4 _ => hk v' W h1 h2 h3 h4
/-- Another row behind. -/
theorem RunA_sq {P : Program} {T bytes : Nat} {z : Value} (hT : SlT P T e 1 bytes z) {ty : TypeId} {K : KV} {r : List α} {A : Option Addr} {c : Nat} (h : Row enc base e w v l) (hr : ∀ i (h : i < r.length), rd w A i = some (enc r[i])) (hx : ∀ x, (enc x).oneCell' = true)
    (hn : l.length + r.length < 1000000000000) (hby : bytes ≤ 32) (hbase : base ≤ w.heap.size)
    (hk : ∀ v' W, Row enc base e W v' (l ++ r) → w.grownBy W v.ownBlock → (v'.ownBlock = v.ownBlock ∨ ∃ b, v'.ownBlock = some b ∧ w.heap.size ≤ b) → K.out v' W) :
    @RunA P #[T, T] ty #[v, .slice A r.length c] w K := by
  refine RunA_own hT h (news := r.map enc) (by simp) (fun j u hj => ?_) (fun u hu => by obtain ⟨x, _, rfl⟩ := List.mem_map.1 hu; exact hx x) (by omega) ?_ hbase ?_
  · have hjl : j < r.length := by have := (List.getElem?_eq_some_iff.1 hj).1; simpa using this
    rw [List.getElem?_eq_getElem (by simpa using hjl)] at hj
    simp at hj
    rw [← hj]; exact hr j hjl
  · have : (l.length + r.length) * bytes ≤ (l.length + r.length) * 32 := Nat.mul_le_mul_left _ hby
    omega
  · intro v' W ho hg hv
    exact hk v' W (by simpa [Row] using ho) hg (hv.imp id fun h => ⟨_, h, Nat.le_refl _⟩)
end
/-- A row of rows: the outer block g holds the slices vs over rows of the call's own, no two of them the same. -/
def RowsO {α : Type} (enc : α → Value) (base e T : Nat) (w : World) (g : Nat) (F : List (List α)) : Prop :=
  ∃ vs : List Value, w.heap[g]? = some (.cells vs.toArray T (0, 0)) ∧ vs.length = F.length ∧ (∀ i (h : i < vs.length) (h' : i < F.length), Row enc base e w vs[i] F[i]) ∧
    ∀ i j (h : i < vs.length) (h' : j < vs.length) b, i ≠ j → vs[i].ownBlock = some b → vs[j].ownBlock ≠ some b
section
variable {α : Type} {enc : α → Value} {base e T : Nat} {w w' : World} {g : Nat} {F : List (List α)}
theorem RowsO.lt (h : RowsO enc base e T w g F) : g < w.heap.size := by obtain ⟨vs, h1, _⟩ := h; exact lt_heap h1
theorem RowsO.ext (h : RowsO enc base e T w g F) (hx : Ext w w') : RowsO enc base e T w' g F := by
  obtain ⟨vs, h1, h2, h3, h4⟩ := h
  exact ⟨vs, hx.hp h1, h2, fun i hi hi' => (h3 i hi hi').ext hx, h4⟩
theorem RowsO.new (w : World) (n : Nat) (hg : w.heap[g]? = some (.cells (List.replicate n (.slice none 0 0)).toArray T (0, 0))) : RowsO enc base e T w g (List.replicate n ([] : List α)) := by
  refine ⟨List.replicate n (.slice none 0 0), hg, by simp, fun i hi hi' => ?_, fun i j hi hj b hne hb => ?_⟩
  · rw [List.getElem_replicate, List.getElem_replicate]; exact Row.nil w
  · rw [List.getElem_replicate] at hb; simp [Value.ownBlock] at hb
theorem RowsO.rows (h : RowsO enc base e T w g F) : Rows enc w (sl g F.length) F := by
  obtain ⟨vs, h1, h2, h3, h4⟩ := h
  refine ⟨some ⟨g, 0, none⟩, F.length, rfl, Nat.le_refl _, fun i hi => ⟨vs[i]'(by omega), ?_, (h3 i (by omega) hi).sq⟩⟩
  rw [rd_own, h1]
  simp [cellO, h2, hi]
theorem RowsO.ne (h : RowsO enc base e T w g F) {b T' : Nat} {cs : Array Value} {f : Nat × Nat} (hb : w.heap[b]? = some (.cells cs T' f)) (hT : T' ≠ T) : b ≠ g := by
  obtain ⟨vs, h1, _⟩ := h
  rintro rfl
  rw [h1] at hb
  simp only [Option.some.injEq, Obj.cells.injEq] at hb
  exact hT hb.2.1.symm
/-- Where the blocks from base on are as they were, so are the rows. -/
theorem RowsO.same (h : RowsO enc base e T w g F) (hb : base ≤ g) (hs : ∀ k, base ≤ k → k < w.heap.size → w'.heap[k]? = w.heap[k]?) : RowsO enc base e T w' g F := by
  obtain ⟨vs, h1, h2, h3, h4⟩ := h
  refine ⟨vs, (hs g hb (lt_heap h1)).trans h1, h2, fun i hi hi' => ?_, h4⟩
  obtain ⟨a1, a2 | ⟨g', cap, cur, b1, b2, b3, b4⟩⟩ := h3 i hi hi'
  · exact ⟨a1, .inl a2⟩
  · exact ⟨a1, .inr ⟨g', cap, cur, b1, b2, (hs g' b2 (lt_heap b3)).trans b3, b4⟩⟩
/-- Reading a row of rows in any world in which its blocks are as they were. -/
theorem RowsO.read (h : RowsO enc base e T w g F) (hb : base ≤ g) (i : Nat) (hi : i < F.length) : ∃ R c, F[i].length ≤ c ∧ ∀ w', (∀ k, base ≤ k → k < w.heap.size → w'.heap[k]? = w.heap[k]?) →
    rd w' (some ⟨g, 0, none⟩) i = some (.slice R F[i].length c) ∧ ∀ j (hj : j < F[i].length), rd w' R j = some (enc F[i][j]) := by
  obtain ⟨vs, h1, h2, h3, h4⟩ := h
  have hiv : i < vs.length := by omega
  have key : ∀ w', (∀ k, base ≤ k → k < w.heap.size → w'.heap[k]? = w.heap[k]?) → rd w' (some ⟨g, 0, none⟩) i = some vs[i] := fun w' hs => by
    rw [rd_own, hs g hb (lt_heap h1), h1]; simp [cellO, hiv]
  rcases (h3 i hiv hi).shape with ⟨hv, hl⟩ | ⟨b, c, cur, hv, hbb, hg, hc, hm, hs, ht⟩
  · refine ⟨none, 0, by simp [hl], fun w' hs => ⟨by rw [key w' hs, hv, hl]; rfl, fun j hj => by simp [hl] at hj⟩⟩
  · refine ⟨some ⟨b, 0, none⟩, c, hc, fun w' hs' => ⟨by rw [key w' hs', hv], fun j hj => ?_⟩⟩
    rw [rd_own, hs' b hbb (lt_heap hg), hg]
    have := congrArg (fun l => l[j]?) ht
    simp [hj] at this
    simp [cellO, this]
/-- The i-th row: its slice, and what stands when it has been lengthened and put back. -/
theorem RowsO.at (h : RowsO enc base e T w g F) (hTe : T ≠ e) (i : Nat) (hi : i < F.length) : ∃ v, rd w (some ⟨g, 0, none⟩) i = some v ∧ Row enc base e w v F[i] ∧ v.ownBlock ≠ some g ∧
    ∀ v' W l, Row enc base e W v' l → w.grownBy W v.ownBlock → (v'.ownBlock = v.ownBlock ∨ ∃ b, v'.ownBlock = some b ∧ w.heap.size ≤ b) →
      ∃ cs, W.heap[g]? = some (.cells cs T (0, 0)) ∧ i < cs.size ∧ RowsO enc base e T (W.setCell ⟨g, i, none⟩ v') g (F.set i l) ∧ v'.oneCell' = true := by
  obtain ⟨vs, h1, h2, h3, h4⟩ := h
  have hgl := lt_heap h1
  have hiv : i < vs.length := by omega
  have hne := (h3 i hiv hi).ne h1 hTe
  refine ⟨vs[i], ?_, h3 i hiv hi, hne, fun v' W l hr hg hv => ?_⟩
  · rw [rd_own, h1]; simp [cellO, hiv]
  have hW : W.heap[g]? = some (.cells vs.toArray T (0, 0)) := (hg.block g hgl (fun e => hne e.symm)).trans h1
  refine ⟨_, hW, by simpa using hiv, ⟨vs.set i v', ?_, by simp [h2], fun j hj hj' => ?_, fun j k hj hk b hjk hb => ?_⟩, hr.one⟩
  · rw [heap_set_same, hW]; simp [setO]
  · have hv'g : v'.ownBlock ≠ some g := hr.ne hW hTe
    have key : ∀ {u : Value} {m : List α}, Row enc base e W u m → u.ownBlock ≠ some g → Row enc base e (W.setCell ⟨g, i, none⟩ v') u m := fun hr hu => hr.kept (row := some g) (set_grown ..) (.inr hu)
    simp only [List.getElem_set]
    by_cases hij : i = j
    · subst hij; simp only [if_true]; exact key hr hv'g
    · simp only [hij, if_false]
      have hjv : j < vs.length := by simpa using hj
      have hjF : j < F.length := by simpa using hj'
      have hRj := h3 j hjv hjF
      refine key (hRj.kept hg ?_) (hRj.ne h1 hTe)
      cases hq : (vs[j]).ownBlock with
      | none => exact .inl rfl
      | some b => exact .inr fun he => h4 i j hiv hjv b hij he.symm hq
  · simp only [List.length_set] at hj hk
    simp only [List.getElem_set] at hb ⊢
    have old : ∀ m (hm : m < vs.length), ∀ b, (vs[m]).ownBlock = some b → b < w.heap.size := fun m hm b hb => ((h3 m hm (by omega)).lt b hb).2
    by_cases hij : i = j
    · subst hij
      have hik : ¬ i = k := hjk
      simp only [if_true] at hb
      simp only [hik, if_false]
      rcases hv with hv | ⟨b', hv, hb'⟩
      · exact h4 i k hiv hk b hjk (hv ▸ hb)
      · intro hc
        have := old k hk b hc
        rw [hb] at hv; cases hv; omega
    · simp only [hij, if_false] at hb
      by_cases hik : i = k
      · subst hik
        simp only [if_true]
        rcases hv with hv | ⟨b', hv, hb'⟩
        · rw [hv]; exact h4 j i hj hiv b hjk hb
        · have := old j hj b hb
          rw [hv]; intro he; cases he; omega
      · simp only [hik, if_false]
        exact h4 j k hj hk b hjk hb
end
theorem Own.ne {α : Type} {enc : α → Value} {T : TypeId} {w : World} {g : Nat} {l : List α} (h : Own enc T w g l) {b T' : Nat} {cs : Array Value} {f : Nat × Nat} (hb : w.heap[b]? = some (.cells cs T' f)) (hT : T' ≠ T) : b ≠ g := by
  rintro rfl
  rw [show w.heap[b]? = _ from h] at hb
  simp only [Option.some.injEq, Obj.cells.injEq] at hb
  exact hT hb.2.1.symm
/-- Only blocks of M that stood may have changed. -/
structure Chg (M : Nat → Prop) (w w' : World) : Prop where
  os : w'.os = w.os
  tape : w'.tape = w.tape
  output : w'.output = w.output
  size : w.heap.size ≤ w'.heap.size
  block : ∀ k, k < w.heap.size → ¬ M k → w'.heap[k]? = w.heap[k]?
theorem Chg.refl (M : Nat → Prop) (w : World) : Chg M w w := ⟨rfl, rfl, rfl, Nat.le_refl _, fun _ _ _ => rfl⟩
theorem Chg.tr {M M' : Nat → Prop} {a b c : World} (h : Chg M a b) (k : Chg M' b c) (hM : ∀ x, x < a.heap.size → M' x → M x) : Chg M a c :=
  ⟨k.os.trans h.os, k.tape.trans h.tape, k.output.trans h.output, Nat.le_trans h.size k.size, fun x hx hm => (k.block x (Nat.lt_of_lt_of_le hx h.size) fun h' => hm (hM x hx h')).trans (h.block x hx hm)⟩
theorem Chg.grown {M : Nat → Prop} {w w' : World} {row : Option Nat} (h : w.grownBy w' row) (hM : ∀ k, row = some k → M k) : Chg M w w' :=
  ⟨h.os, h.tape, h.output, h.size, fun k hk hm => h.block k hk fun e => hm (hM k e.symm)⟩
theorem Chg.ext {M : Nat → Prop} {w w' : World} (h : Ext w w') : Chg M w w' := ⟨h.os, h.tape, h.output, h.size, fun k hk _ => h.block k hk⟩
theorem Chg.hp {M : Nat → Prop} {w w' : World} (h : Chg M w w') {b : Nat} {o : Obj} (hb : w.heap[b]? = some o) (hm : ¬ M b) : w'.heap[b]? = some o := (h.block b (lt_heap hb) hm).trans hb
theorem Ext.chg {M : Nat → Prop} {a b c : World} (h : Ext a b) (k : Chg M b c) (hM : ∀ x, M x → a.heap.size ≤ x) : Ext a c :=
  ⟨k.os.trans h.os, k.tape.trans h.tape, k.output.trans h.output, Nat.le_trans h.size k.size, fun x hx => (k.block x (Nat.lt_of_lt_of_le hx h.size) fun hm => by have := hM x hm; omega).trans (h.block x hx)⟩
theorem Keep.of_chg {M : Nat → Prop} {w w' : World} (h : Chg M w w') {L : List Nat} (hM : ∀ k, M k → k ∈ L) : Keep L w w' := ⟨h.size, fun b hb hn => h.block b hb fun hm => hn (hM b hm)⟩
theorem sto1 {P : Program} {T T' : TypeId} (h : szT P T = some 1) (w : World) (z x : Value) (hx : x.oneCell' = true) : stoT P T (w.alloc (.cells #[z] T')) (pa (some ⟨w.heap.size, 0, none⟩) 0) x = some (w.alloc (.cells #[x] T')) := by
  have := sto_new (P := P) (T := T) (T' := T') (w := w) (z := #[z]) (cs := #[x]) h rfl (by simpa using hx)
  unfold stoT at this ⊢
  rw [oneCell_cells hx]
  exact this
abbrev IRows (w : World) (v : Value) (l : List (List Int)) : Prop := Rows (.int .i64) w v l
end Go.V
