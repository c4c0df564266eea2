/- Ranging over a map that is not written meanwhile. Conditions: none. -/
import Derived.Test.YtgioklmpnbnplaaVp
set_option linter.unusedSimpArgs false
set_option linter.unusedVariables false
set_option linter.unusedSectionVars false
namespace Go.V
open Go.RowKit

section
variable {κ : Type} [DecidableEq κ]
/-- What the iterator has not met yet. -/
def left' (l : Ents κ) (seen : Array Nat) : Ents κ := l.filter fun x => !seen.contains x.2.2
/-- Block r is an iterator over the map in block b, which holds f; rem is still to come; cur came last. -/
def IterF (ke : κ → Value) (w : World) (r b : Nat) (f : κ → Option Value) (rem : List (κ × Value)) (cur : Option (κ × Value)) : Prop :=
  ∃ l clock seen, w.heap[r]? = some (.mapIter (some b) clock seen clock) ∧ MapR ke w b l clock ∧ (∀ k, getE l k = f k) ∧ rem = (left' l seen).map (fun x => (x.1, x.2.1)) ∧
    ∀ k v, cur = some (k, v) → ∃ x ∈ l, seen.back? = some x.2.2 ∧ x.1 = k ∧ x.2.1 = v
theorem IterF.map {ke : κ → Value} {w : World} {r b : Nat} {f : κ → Option Value} {rem : List (κ × Value)} {cur : Option (κ × Value)} (h : IterF ke w r b f rem cur) : MapF ke w b f := by
  obtain ⟨l, c, seen, _, h2, h3, _⟩ := h; exact ⟨l, c, h2, h3⟩
theorem IterF.lt {ke : κ → Value} {w : World} {r b : Nat} {f : κ → Option Value} {rem : List (κ × Value)} {cur : Option (κ × Value)} (h : IterF ke w r b f rem cur) : r < w.heap.size := by
  obtain ⟨l, c, seen, h1, _⟩ := h; exact lt_heap h1
theorem IterF.hp {ke : κ → Value} {w w' : World} {r b : Nat} {f : κ → Option Value} {rem : List (κ × Value)} {cur : Option (κ × Value)} (h : IterF ke w r b f rem cur) (hr : w'.heap[r]? = w.heap[r]?) (hb : w'.heap[b]? = w.heap[b]?) : IterF ke w' r b f rem cur := by
  obtain ⟨l, c, seen, h1, ⟨h2, h3⟩, h4⟩ := h
  exact ⟨l, c, seen, hr.trans h1, ⟨hb.trans h2, h3⟩, h4⟩
theorem IterF.ext {ke : κ → Value} {w w' : World} {r b : Nat} {f : κ → Option Value} {rem : List (κ × Value)} {cur : Option (κ × Value)} (h : IterF ke w r b f rem cur) (hx : Ext w w') : IterF ke w' r b f rem cur :=
  h.hp (hx.block r h.lt) (hx.block b h.map.lt)
theorem RunR_map {P : Program} {T kt et : TypeId} {z : Value} (hT : MpT P T kt et z) {ke : κ → Value} {w : World} {b : Nat} {f : κ → Option Value} (hm : MapF ke w b f) {K : KV}
    (h : ∀ w' rem, IterF ke w' w.heap.size b f rem none → Ext w w' → w'.heap.size = w.heap.size + 1 → (∀ k v, (k, v) ∈ rem ↔ f k = some v) → (rem.map (·.1)).Nodup → K.out (.pointer (some ⟨w.heap.size, 0, none⟩)) w') :
    @RunR P T (.map (some b)) w K := by
  obtain ⟨l, cl, ⟨hb, hnd, hpw, hlt⟩, hf⟩ := hm
  have hg : (getObj b).run P w = .ok (.map (l.map (mkE ke)).toArray cl) w := by simp [getObj, Sem.run, hb]
  have hl : left' l #[] = l := by unfold left'; simp
  refine ⟨_, w.alloc (.mapIter (some b) cl #[] cl), ?_, h _ ((left' l #[]).map (fun x => (x.1, x.2.1))) ⟨l, cl, #[], heap_new _ rfl, ⟨?_, hnd, hpw, hlt⟩, hf, rfl, fun k v e => by cases e⟩ ((Ext.rfl' w).al _) (by simp) ?_ ?_⟩
  · simp only [Instr.range, Sem.run_bind, run_underlying P w _ _ hT.1, Result.andThen_ok, hg, Sem.run_pure]; rfl
  · rw [heap_old _ (lt_heap hb)]; exact hb
  · intro k v
    rw [hl, ← hf k]
    constructor
    · intro hm
      obtain ⟨x, hx, he⟩ := List.mem_map.1 hm
      simp only [Prod.mk.injEq] at he
      obtain ⟨rfl, rfl⟩ := he
      exact getE_of_mem hnd hx
    · intro hg
      obtain ⟨n, hn⟩ := getE_mem hg
      exact List.mem_map.2 ⟨_, hn, rfl⟩
  · rw [hl, List.map_map]; exact hnd
theorem RunN_map {P : Program} {T : TypeId} {ke : κ → Value} {w : World} {r b : Nat} {f : κ → Option Value} {rem : List (κ × Value)} {cur : Option (κ × Value)} (hi : IterF ke w r b f rem cur) (hrb : r ≠ b) {K : KV}
    (h0 : rem = [] → K.out (.tuple #[.bool false]) w)
    (h1 : ∀ k v w', (k, v) ∈ rem → f k = some v → IterF ke w' r b f (rem.filter fun x => decide (x.1 ≠ k)) (some (k, v)) → w.grownBy w' (some r) → w'.heap.size = w.heap.size →
      (rem.filter fun x => decide (x.1 ≠ k)).length < rem.length → K.out (.tuple #[.bool true, ke k, v]) w') :
    @RunN P T (.pointer (some ⟨r, 0, none⟩)) false w K := by
  obtain ⟨l, cl, seen, hr, ⟨hb, hnd, hpw, hlt⟩, hf, hrem, _⟩ := hi
  have hgr : (getObj r).run P w = .ok (.mapIter (some b) cl seen cl) w := by simp [getObj, Sem.run, hr]
  have hgb : (getObj b).run P w = .ok (.map (l.map (mkE ke)).toArray cl) w := by simp [getObj, Sem.run, hb]
  have hcond : (!seen.isEmpty && !(l.map (mkE ke)).toArray.isEmpty && (l.map (mkE ke)).toArray.all fun e => decide (e.born ≥ cl)) = false := by
    cases l with
    | nil => simp
    | cons x l' =>
      have := hlt x (List.mem_cons_self ..)
      simp [mkE]
      intro _ h; omega
  have hleft : (l.map (mkE ke)).toArray.filter (fun e => !seen.contains e.born) = ((left' l seen).map (mkE ke)).toArray := by
    simp only [left', List.filter_toArray, List.filter_map]; rfl
  have hold : (((left' l seen).map (mkE ke)).toArray.filter fun e => decide (e.born < cl)) = ((left' l seen).map (mkE ke)).toArray := by
    rw [List.filter_toArray]; congr 1
    rw [List.filter_eq_self]
    intro e he
    obtain ⟨x, hx, rfl⟩ := List.mem_map.1 he
    have := hlt x (List.mem_filter.1 hx).1
    exact decide_eq_true this
  have hnew : (((left' l seen).map (mkE ke)).toArray.filter fun e => decide (e.born ≥ cl)) = #[] := by
    rw [List.filter_toArray]
    have : (List.map (mkE ke) (left' l seen)).filter (fun e => decide (e.born ≥ cl)) = [] := by
      rw [List.filter_eq_nil_iff]
      intro e he
      obtain ⟨x, hx, rfl⟩ := List.mem_map.1 he
      have := hlt x (List.mem_filter.1 hx).1
      simp [mkE]; omega
    rw [this]
  have hone : ∀ x ∈ l, ∀ y ∈ l, (y.2.2 = x.2.2 ↔ y.1 = x.1) := by
    intro x hx y hy
    obtain ⟨i, hi, rfl⟩ := List.mem_iff_getElem.1 hx
    obtain ⟨j, hj, rfl⟩ := List.mem_iff_getElem.1 hy
    have h1 := List.pairwise_iff_getElem.1 hpw
    have h2 := List.pairwise_iff_getElem.1 hnd
    rcases Nat.lt_trichotomy i j with hij | hij | hij
    · have a := h1 i j hi hj hij
      have c := h2 i j (by simpa using hi) (by simpa using hj) hij
      simp at c
      exact ⟨fun e => by omega, fun e => absurd e.symm c⟩
    · subst hij; simp
    · have a := h1 j i hj hi hij
      have c := h2 j i (by simpa using hj) (by simpa using hi) hij
      simp at c
      exact ⟨fun e => by omega, fun e => absurd e c⟩
  have hrun : (Instr.next (.pointer (some ⟨r, 0, none⟩)) false T).run P w =
      ((do
        match ((if ((left' l seen).map (mkE ke)).toArray.isEmpty then #[none] else #[]) ++ (((left' l seen).map (mkE ke)).toArray ++ #[]).map some)[← choose (.mapNext ((if ((left' l seen).map (mkE ke)).toArray.isEmpty then #[none] else #[]) ++ (((left' l seen).map (mkE ke)).toArray ++ #[]).map some).size)]? with
        | some (some e) =>
          setObj r (.mapIter (some b) cl (seen.push e.born) cl)
          pure (.tuple #[.bool true, e.key, e.val])
        | some none => pure (.tuple #[.bool false])
        | none => stuck "Next: no such candidate" : Sem Value)).run P w := by
    unfold Instr.next
    simp only [Sem.run_bind, hgr, Result.andThen_ok, hgb, hcond, hleft, hold, hnew, Bool.false_eq_true, if_false]
    rfl
  cases hE : left' l seen with
  | nil =>
    refine ⟨_, w, ?_, h0 (by rw [hrem, hE]; rfl)⟩
    rw [hrun, hE]
    simp [Question.forced]
  | cons x0 E =>
    have hpos : 0 < (left' l seen).length := by rw [hE]; simp
    obtain ⟨j, w1, hj, hch, hw1⟩ : ∃ j w1, j < (left' l seen).length ∧ (choose (.mapNext (left' l seen).length)).run P w = .ok j w1 ∧ (w1 = w ∨ w1 = w.drew) := by
      rw [run_choose]
      by_cases hf : (Question.mapNext (left' l seen).length).forced = true
      · exact ⟨0, w, hpos, by rw [if_pos hf], .inl rfl⟩
      · rw [if_neg hf]
        exact ⟨_, _, Nat.mod_lt _ hpos, rfl, .inr rfl⟩
    have hw1h : w1.heap = w.heap := by rcases hw1 with rfl | rfl <;> rfl
    have hcand : ((if ((left' l seen).map (mkE ke)).toArray.isEmpty then #[none] else #[]) ++ (((left' l seen).map (mkE ke)).toArray ++ #[]).map some) = ((left' l seen).map (fun x => some (mkE ke x))).toArray := by
      rw [hE]; simp
    have hxm : (left' l seen)[j] ∈ left' l seen := List.getElem_mem hj
    have hxl : (left' l seen)[j] ∈ l := (List.mem_filter.1 hxm).1
    generalize hx : (left' l seen)[j] = x at *
    have hset : (setObj r (.mapIter (some b) cl (seen.push x.2.2) cl)).run P w1 = .ok () { w1 with heap := w1.heap.setIfInBounds r (.mapIter (some b) cl (seen.push x.2.2) cl) } := by
      simp [setObj, Sem.run, hw1h, hr]
    have hrl := lt_heap hr
    have hmem : (x.1, x.2.1) ∈ rem := by rw [hrem]; exact List.mem_map.2 ⟨x, hxm, rfl⟩
    refine ⟨_, { w1 with heap := w1.heap.setIfInBounds r (.mapIter (some b) cl (seen.push x.2.2) cl) }, ?_, h1 x.1 x.2.1 _ hmem (by rw [← hf]; exact getE_of_mem hnd hxl) ⟨l, cl, seen.push x.2.2, ?_, ⟨?_, hnd, hpw, hlt⟩, hf, ?_, ?_⟩ ?_ ?_ ?_⟩
    · rw [hrun, hcand]
      simp only [List.size_toArray, List.length_map, Sem.run_bind, hch, Result.andThen_ok, List.getElem?_toArray, List.getElem?_map, List.getElem?_eq_getElem hj, hx, Option.map_some, mkE, hset, Sem.run_pure]
    · simp [hw1h, hrl]
    · simp only [hw1h]; rw [Array.getElem?_setIfInBounds, if_neg hrb]; exact hb
    · rw [hrem]
      have : left' l (seen.push x.2.2) = (left' l seen).filter fun y => decide (y.1 ≠ x.1) := by
        unfold left'
        rw [List.filter_filter]
        apply List.filter_congr
        intro y hy
        rw [Array.contains_push]
        have := hone x hxl y hy
        by_cases e : y.1 = x.1
        · have e2 := this.2 e
          simp [e, e2]
        · have e2 : y.2.2 ≠ x.2.2 := fun h => e (this.1 h)
          simp [e, e2]
      rw [this, List.filter_map]; rfl
    · intro k v e
      simp only [Option.some.injEq, Prod.mk.injEq] at e
      exact ⟨x, hxl, by simp, e.1, e.2⟩
    · refine ⟨?_, ?_, ?_, by simp [hw1h], fun i hi hne => ?_⟩
      · rcases hw1 with rfl | rfl <;> rfl
      · rcases hw1 with rfl | rfl <;> rfl
      · rcases hw1 with rfl | rfl <;> rfl
      · simp only [hw1h, Array.getElem?_setIfInBounds]; rw [if_neg (fun e => hne (by rw [e]))]
    · simp [hw1h]
    · rw [List.length_filter_lt_length_iff_exists]
      exact ⟨_, hmem, by simp⟩
theorem find_born (ke : κ → Value) : ∀ (l : Ents κ), l.Pairwise (fun x y => x.2.2 < y.2.2) → ∀ x ∈ l, (l.map (mkE ke)).find? (fun e => e.born == x.2.2) = some (mkE ke x)
  | [], _, x, hx => by simp at hx
  | y :: l, hp, x, hx => by
    rw [List.pairwise_cons] at hp
    simp only [List.map_cons, List.find?_cons]
    rcases List.mem_cons.1 hx with rfl | hx
    · simp [mkE]
    · have := hp.1 x hx
      have hne : ((mkE ke y).born == x.2.2) = false := by simp [mkE]; omega
      rw [hne]; exact find_born ke l hp.2 x hx
theorem RunE_map {P : Program} {ke : κ → Value} {w : World} {r b : Nat} {f : κ → Option Value} {rem : List (κ × Value)} {k : κ} {v : Value} (hi : IterF ke w r b f rem (some (k, v))) {K : KV}
    (h : K.out (.tuple #[ke k, v]) w) : @RunE P (.pointer (some ⟨r, 0, none⟩)) w K := by
  obtain ⟨l, cl, seen, hr, ⟨hb, hnd, hpw, hlt⟩, hf, hrem, hcur⟩ := hi
  obtain ⟨x, hx, hback, rfl, rfl⟩ := hcur k v rfl
  have hgr : (getObj r).run P w = .ok (.mapIter (some b) cl seen cl) w := by simp [getObj, Sem.run, hr]
  have hgb : (getObj b).run P w = .ok (.map (l.map (mkE ke)).toArray cl) w := by simp [getObj, Sem.run, hb]
  refine ⟨_, w, ?_, h⟩
  have hfind : (l.map (mkE ke)).toArray.find? (fun e => e.born == x.2.2) = some (mkE ke x) := by
    rw [List.find?_toArray]
    exact find_born ke l hpw x hx
  simp only [Instr.entry, Sem.run_bind, hgr, Result.andThen_ok, hback, hgb, bne_self_eq_false, Bool.false_eq_true, if_false, hfind, Sem.run_pure, mkE]
end
end Go.V
