/- Arguments of a law read off the memory: numbers, rows of numbers, rows of rows, a struct of these; read again behind the call. Conditions: none. -/
import Derived.Test.YtgioklmpnbnplaaVr
import Derived.WalkKit
import Derived.ProofKit
import Derived.ChangeAt
import Derived.OpenShut
import Derived.ChangeOld
import Derived.Carry
set_option linter.unusedSimpArgs false
set_option linter.unusedVariables false
namespace Go.V
open Go.RowKit Go.ChangeShapes Go.WideShapes Go.ChangeAt

section
variable {H : Type} {enc : TypeId × Value → H} {P : Program} {w : World} {base : Nat} {sp : Nat → Bool} {held : Bool}

def Wf (z : Int) : Prop := -9223372036854775808 ≤ z ∧ z ≤ 9223372036854775807
theorem wf_i64 {z : Int} (h : (Lit.int .i64 z).wf = true) : Wf z := by
  have e1 : IntKind.i64.min = -9223372036854775808 := rfl
  have e2 : IntKind.i64.max = 9223372036854775807 := rfl
  simpa [Lit.wf, e1, e2, Wf] using h
theorem trod_int1 {t : TypeId} (ht : P.underlying t = some (.int .i64)) {fuel : Nat} {cs : List Value} {x : DataW H × List MemPlace} (h : DataW.trod enc P w base sp held fuel t cs = some x) : ∃ n, cs = [.int .i64 n] ∧ Wf n := by
  obtain ⟨n, h1, h2, h3⟩ := DataW.trod_int ht h
  exact ⟨n, h1, wf_i64 h3⟩
theorem trod_Ints {t e : TypeId} (ht : P.underlying t = some (.slice e)) (he : P.underlying e = some (.int .i64)) (hc : P.cellsOf e = 1) {fuel : Nat} {cs : List Value} {x : DataW H × List MemPlace} (h : DataW.trod enc P w base sp held fuel t cs = some x) :
    ∃ v zs, cs = [v] ∧ Ints w v zs ∧ (∀ z ∈ zs, Wf z) ∧ zs.length ≤ 9223372036854775807 := by
  rcases open_ints ht he hc h with ⟨rfl, _⟩ | ⟨a, len, cap, zs, rfl, hb, hl, hm, hz, _, hr, hw⟩
  · exact ⟨_, [], rfl, Sq.nil _ _, by simp, by simp⟩
  · have hlz : len ≤ zs.length := by rw [hz]; split <;> omega
    have hlt : (zs.take len).length = len := by rw [List.length_take]; omega
    refine ⟨_, zs.take len, rfl, ⟨some a, cap, by rw [hlt], by omega, fun i hi => ?_⟩, fun z hz => wf_i64 (hw z (List.mem_of_mem_take hz)), ?_⟩
    · have hiz : i < zs.length := by omega
      have := hr i hiz
      rw [List.getD_eq_getElem?_getD, List.getElem?_eq_getElem hiz] at this
      simpa [rd, List.getElem_take] using this
    · simp only [maxLen] at hm; omega
theorem trod_Rows {t s e : TypeId} (ht : P.underlying t = some (.slice s)) (hs : P.underlying s = some (.slice e)) (he : P.underlying e = some (.int .i64)) (hc : P.cellsOf e = 1) (hcs : P.cellsOf s = 1) {fuel : Nat} {cs : List Value} {x : DataW H × List MemPlace}
    (h : DataW.trod enc P w base sp held fuel t cs = some x) : ∃ v zss, cs = [v] ∧ Rows (.int .i64) w v zss ∧ (∀ zs ∈ zss, (∀ z ∈ zs, Wf z) ∧ zs.length ≤ 9223372036854775807) ∧ zss.length ≤ 9223372036854775807 := by
  rcases DataW.trod_slice ht h with ⟨rfl, _⟩ | ⟨a, len, cap, elems, rest, n, _, rfl, _, hb, hl, hm, hlen, hel, _, _⟩
  · exact ⟨_, [], rfl, ⟨none, 0, rfl, Nat.le_refl _, fun i h => by simp at h⟩, by simp, by simp⟩
  · have each : ∀ i : Nat, ∃ p : Value × List Int, i < len → w.cell? (a.add i) = some p.1 ∧ Ints w p.1 p.2 ∧ (∀ z ∈ p.2, Wf z) ∧ p.2.length ≤ 9223372036854775807 := by
      intro i
      by_cases hi : i < len
      · have h1 := hel i hi
        rw [List.getElem?_eq_getElem (by omega), hcs, Nat.mul_one, Option.bind_eq_some_iff] at h1
        obtain ⟨cs', h2, h3⟩ := h1
        obtain ⟨v, zs, rfl, h4, h5, h6⟩ := trod_Ints hs he hc h3
        exact ⟨(v, zs), fun _ => ⟨cell_of_cells?_one h2, h4, h5, h6⟩⟩
      · exact ⟨(.nilFunc, []), fun h => absurd h hi⟩
    refine ⟨_, (List.range len).map fun i => (each i).choose.2, rfl, ⟨some a, cap, by simp, by simpa using hl, fun i hi => ?_⟩, fun zs hz => ?_, ?_⟩
    · simp only [List.length_map, List.length_range] at hi
      obtain ⟨h1, h2, _, _⟩ := (each i).choose_spec hi
      refine ⟨(each i).choose.1, by simpa [rd] using h1, ?_⟩
      simpa using h2
    · obtain ⟨i, hi, rfl⟩ := List.mem_map.1 hz
      have := (each i).choose_spec (List.mem_range.1 hi)
      exact this.2.2
    · simp only [List.length_map, List.length_range, maxLen] at hm ⊢; omega
theorem open_Ints {r : Reach} {b0 : Nat} {t e : TypeId} (ht : P.underlying t = some (.slice e)) (he : P.underlying e = some (.int .i64)) (hc : P.cellsOf e = 1) {v : Value} {d : DataW H} {ps : List MemPlace} (hval : Value.okWide P w r b0 t v)
    (h : DataW.Trod enc P w base sp held t v d ps) : ∃ zs, Ints w v zs ∧ (∀ z ∈ zs, Wf z) ∧ zs.length ≤ 9223372036854775807 := by
  obtain ⟨a, len, cap, rfl⟩ := okWide_slice ht hval
  obtain ⟨fuel, h⟩ := h
  obtain ⟨v, zs, h1, h2⟩ := trod_Ints ht he hc h
  simp [Value.cells] at h1
  subst h1
  exact ⟨zs, h2⟩
theorem open_Int {r : Reach} {b0 : Nat} {t : TypeId} (ht : P.underlying t = some (.int .i64)) {v : Value} {d : DataW H} {ps : List MemPlace} (hval : Value.okWide P w r b0 t v)
    (h : DataW.Trod enc P w base sp held t v d ps) : ∃ n, v = .int .i64 n ∧ Wf n := by
  obtain ⟨n, rfl, rfl, rfl, h4⟩ := open_int ht hval h
  exact ⟨n, rfl, wf_i64 h4⟩
theorem agg_of {r : Reach} {b0 : Nat} {t : TypeId} {v : Value} {fs : Array Field} (ht : P.underlying t = some (.struct fs)) (hval : Value.okWide P w r b0 t v) : ∃ cs, v = .agg cs := by
  unfold Value.okWide at hval
  rw [ht] at hval
  obtain ⟨cs, rfl, _⟩ := hval
  exact ⟨cs, rfl⟩
theorem list5 {α : Type} {l : List α} (h : l.length = 5) : ∃ a b c d e, l = [a, b, c, d, e] := by
  match l, h with
  | [a, b, c, d, e], _ => exact ⟨a, b, c, d, e, rfl⟩
theorem list3 {α : Type} {l : List α} (h : l.length = 3) : ∃ a b c, l = [a, b, c] := by
  match l, h with
  | [a, b, c], _ => exact ⟨a, b, c, rfl⟩
/-- A law's raw grammar. -/
structure RawG where
  n : Int
  t : Int
  start : Int
  left : List Int
  right : List (List Int)
def RawG.Fits (x : RawG) : Prop := Wf x.n ∧ Wf x.t ∧ Wf x.start ∧ (∀ z ∈ x.left, Wf z) ∧ x.left.length ≤ 9223372036854775807 ∧ (∀ zs ∈ x.right, (∀ z ∈ zs, Wf z) ∧ zs.length ≤ 9223372036854775807) ∧ x.right.length ≤ 9223372036854775807
def RepRaw (w : World) (v : Value) (x : RawG) : Prop := ∃ lv rv, v = .agg #[.int .i64 x.n, .int .i64 x.t, .int .i64 x.start, lv, rv] ∧ Ints w lv x.left ∧ Rows (.int .i64) w rv x.right
theorem RepRaw.ext {w w' : World} {v : Value} {x : RawG} (h : RepRaw w v x) (hx : Ext w w') : RepRaw w' v x := by
  obtain ⟨lv, rv, h1, h2, h3⟩ := h; exact ⟨lv, rv, h1, h2.ext hx, h3.ext hx⟩
theorem open_Raw {r : Reach} {b0 : Nat} {t i s ss : TypeId} {f0 f1 f2 f3 f4 : Field} (ht : P.underlying t = some (.struct #[f0, f1, f2, f3, f4])) (e0 : f0.type = i) (e1 : f1.type = i) (e2 : f2.type = i) (e3 : f3.type = s) (e4 : f4.type = ss)
    (o0 : f0.offset = 0) (o1 : f1.offset = 1) (o2 : f2.offset = 2) (o3 : f3.offset = 3) (o4 : f4.offset = 4) (hi : P.underlying i = some (.int .i64)) (hs : P.underlying s = some (.slice i)) (hss : P.underlying ss = some (.slice s))
    (hci : P.cellsOf i = 1) (hcs : P.cellsOf s = 1) (hcss : P.cellsOf ss = 1) (hct : P.cellsOf t = 5) {v : Value} {d : DataW H} {ps : List MemPlace} (hval : Value.okWide P w r b0 t v) (h : DataW.Trod enc P w base sp held t v d ps) :
    ∃ x : RawG, RepRaw w v x ∧ x.Fits := by
  obtain ⟨cs, rfl⟩ := agg_of ht hval
  obtain ⟨fuel, h⟩ := h
  obtain ⟨xs, n, _, _, hl, hxl, hf⟩ := DataW.trod_struct ht h
  rw [hct] at hl
  have hl' : cs.toList.length = 5 := hl
  obtain ⟨a, b, c, d, e, hcs5⟩ := list5 hl'
  have hcs5' : cs = #[a, b, c, d, e] := by rw [← Array.toArray_toList (xs := cs), hcs5]
  subst hcs5'
  have hx5 : xs.length = 5 := hxl
  obtain ⟨x0, x1, x2, x3, x4, rfl⟩ := list5 hx5
  have g0 := hf 0 f0 rfl
  have g1 := hf 1 f1 rfl
  have g2 := hf 2 f2 rfl
  have g3 := hf 3 f3 rfl
  have g4 := hf 4 f4 rfl
  simp only [e0, o0, hci, Value.cells, List.drop_zero, List.take_succ_cons, List.take_zero, List.getElem?_cons_zero] at g0
  simp only [e1, o1, hci, Value.cells, List.drop_succ_cons, List.drop_zero, List.take_succ_cons, List.take_zero, List.getElem?_cons_zero, List.getElem?_cons_succ] at g1
  simp only [e2, o2, hci, Value.cells, List.drop_succ_cons, List.drop_zero, List.take_succ_cons, List.take_zero, List.getElem?_cons_zero, List.getElem?_cons_succ] at g2
  simp only [e3, o3, hcs, Value.cells, List.drop_succ_cons, List.drop_zero, List.take_succ_cons, List.take_zero, List.getElem?_cons_zero, List.getElem?_cons_succ] at g3
  simp only [e4, o4, hcss, Value.cells, List.drop_succ_cons, List.drop_zero, List.take_succ_cons, List.take_zero, List.getElem?_cons_zero, List.getElem?_cons_succ] at g4
  obtain ⟨n0, h0, w0⟩ := trod_int1 hi g0
  obtain ⟨n1, h1, w1⟩ := trod_int1 hi g1
  obtain ⟨n2, h2, w2⟩ := trod_int1 hi g2
  obtain ⟨v3, z3, h3, r3, w3, l3⟩ := trod_Ints hs hi hci g3
  obtain ⟨v4, z4, h4, r4, w4, l4⟩ := trod_Rows hss hs hi hci hcs g4
  simp only [List.cons.injEq, and_true] at h0 h1 h2 h3 h4
  subst h0 h1 h2 h3 h4
  exact ⟨⟨n0, n1, n2, z3, z4⟩, ⟨_, _, rfl, r3, r4⟩, w0, w1, w2, w3, l3, w4, l4⟩
theorem open_Arr3 {r : Reach} {b0 : Nat} {t i : TypeId} (ht : P.underlying t = some (.array 3 i)) (hi : P.underlying i = some (.int .i64)) (hci : P.cellsOf i = 1) (hct : P.cellsOf t = 3) {v : Value} {d : DataW H} {ps : List MemPlace} (hval : Value.okWide P w r b0 t v) (h : DataW.Trod enc P w base sp held t v d ps) :
    ∃ p q s, v = .agg #[.int .i64 p, .int .i64 q, .int .i64 s] ∧ Wf p ∧ Wf q ∧ Wf s := by
  have hv : ∃ cs, v = .agg cs := by
    unfold Value.okWide at hval
    rw [ht] at hval
    obtain ⟨cs, rfl, _⟩ := hval
    exact ⟨cs, rfl⟩
  obtain ⟨cs, rfl⟩ := hv
  obtain ⟨fuel, h⟩ := h
  obtain ⟨xs, n, _, _, hl, hxl, hf⟩ := DataW.trod_array ht h
  rw [hct] at hl
  obtain ⟨a, b, c, hcs5⟩ := list3 hl
  have hcs5' : cs = #[a, b, c] := by rw [← Array.toArray_toList (xs := cs)]; exact congrArg _ hcs5
  subst hcs5'
  obtain ⟨x0, x1, x2, rfl⟩ := list3 hxl
  have g0 := hf 0 (by omega)
  have g1 := hf 1 (by omega)
  have g2 := hf 2 (by omega)
  simp only [hci, Value.cells, Nat.zero_mul, Nat.one_mul, Nat.mul_one, List.drop_zero, List.drop_succ_cons, List.take_succ_cons, List.take_zero, List.getElem?_cons_zero, List.getElem?_cons_succ] at g0 g1 g2
  obtain ⟨n0, h0, w0⟩ := trod_int1 hi g0
  obtain ⟨n1, h1, w1⟩ := trod_int1 hi g1
  obtain ⟨n2, h2, w2⟩ := trod_int1 hi g2
  simp only [List.cons.injEq, and_true] at h0 h1 h2
  subst h0 h1 h2
  exact ⟨n0, n1, n2, rfl, w0, w1, w2⟩
end
/-- All arguments read behind the call as they did. -/
theorem trodAll_below {H : Type} {enc : TypeId × Value → H} {P : Program} (hl : laidOutB P = true) {W W' : World} (hb : Below W.heap.size W W') : ∀ {ts : List TypeId} {vs : List Value} {ds : List (DataW H)} {ps : List MemPlace},
    (ts.all fun t => P.readableRec t && decide (t < P.types.size)) = true → DataW.TrodAll enc P W 0 (fun _ => true) true ts vs ds ps → (∀ x ∈ ps, x.block < W.heap.size) → DataW.TrodAll enc P W' 0 (fun b => decide (b < W.heap.size)) true ts vs ds ps
  | [], vs, ds, ps, _, h, _ => by
    cases vs with
    | nil => cases ds with
      | nil => exact h
      | cons => exact h.elim
    | cons => exact h.elim
  | t :: ts, vs, ds, ps, hr, h, hlt => by
    simp only [List.all_cons, Bool.and_eq_true, decide_eq_true_eq] at hr
    obtain ⟨v0, vs0, d0, ds0, p0, q0, rfl, rfl, rfl, h0, r0⟩ := trodAll_cons h
    exact trodAll_cons_mk (Below.trod hl hr.1.1 hr.1.2 h0 hb fun x hx => hlt x (List.mem_append_left _ hx)) (trodAll_below hl hb hr.2 r0 fun x hx => hlt x (List.mem_append_right _ hx))
end Go.V
