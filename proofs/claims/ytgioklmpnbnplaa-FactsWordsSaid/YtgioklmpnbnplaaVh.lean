/- A region that draws and in which several operations that change the world may come up side by side: by what each leaves behind, whatever the others did. Conditions: none. -/
import Derived.Test.YtgioklmpnbnplaaVg
set_option linter.unusedSimpArgs false
set_option linter.unusedVariables false
namespace Go.V
open Go.RowKit

def cntF (l : Array Bool) : Nat := l.toList.countP (fun b => !b)
theorem countF_set : ∀ (l : List Bool) (i : Nat), l[i]? = some false → (l.set i true).countP (fun b => !b) + 1 = l.countP (fun b => !b)
  | [], i, h => by simp at h
  | b :: l, 0, h => by simp at h; subst h; simp
  | b :: l, i + 1, h => by
    have := countF_set l i (by simpa using h)
    simp only [List.set_cons_succ, List.countP_cons]
    omega
theorem getD_false {l : Array Bool} {i : Nat} (h : l.getD i true = false) : l[i]? = some false := by
  rw [Array.getD_eq_getD_getElem?] at h
  cases hi : l[i]? with
  | none => simp [hi] at h
  | some b => simp [hi] at h; rw [h]
theorem cntF_set {l : Array Bool} {i : Nat} (h : l.getD i true = false) : cntF (l.setIfInBounds i true) + 1 = cntF l := by
  have := countF_set l.toList i (by simpa using getD_false h)
  simpa [cntF] using this
def deps (o : Oper) : List Nat := (o.after.toList.filter fun e => Region.binds .any e).map (·.on)
theorem mem_deps {o : Oper} {j : Nat} : j ∈ deps o ↔ ∃ e ∈ o.after, Region.binds .any e = true ∧ e.on = j := by
  simp only [deps, List.mem_map, List.mem_filter, Array.mem_toList_iff]
  constructor
  · rintro ⟨e, ⟨h1, h2⟩, h3⟩; exact ⟨e, h1, h2, h3⟩
  · rintro ⟨e, h1, h2, h3⟩; exact ⟨e, ⟨h1, h2⟩, h3⟩
/-- A row of the table: the operation, which it waits for (of the table's), which slots may have changed beside it. -/
abbrev RgRow := Nat × List Nat × List Nat
def rgRowOk (n : Nat) (ops : Array Oper) (listed0 : Array Bool) (tab : List Nat) (r : RgRow) : Bool :=
  match ops[r.1]? with
  | none => false
  | some o => (match o.dst with | some d => Nat.blt d n | none => false) && (deps o).all (fun j => Nat.blt j r.1 && (if tab.contains j then r.2.1.contains j else listed0.getD j false)) && r.2.1.all (fun j => (deps o).contains j && tab.contains j) &&
    tab.all (fun j => match ops[j]? with
      | none => false
      | some oj => match oj.dst with
        | none => true
        | some d => j == r.1 || (o.dst != some d && ((deps oj).contains r.1 || r.2.2.contains d)))
/-- What is waited for through the table's operations. -/
def depsAt (ops : Array Oper) (j : Nat) : List Nat := match ops[j]? with | some o => deps o | none => []
def covers (ops : Array Oper) (tab : List Nat) : Nat → List Nat → Bool
  | 0, l => tab.all l.contains
  | m + 1, l => tab.all l.contains || covers ops tab m (l ++ (l.filter tab.contains).flatMap (depsAt ops))
def late (ops : Array Oper) (listed0 : Array Bool) (tab : List Nat) (k : Nat) : Bool :=
  tab.contains k || listed0.getD k true || (depsAt ops k).any (fun j => !tab.contains j && !listed0.getD j true) || covers ops tab 6 (depsAt ops k)
def rgOk (n : Nat) (ops : Array Oper) (listed : Array Bool) (rg : List RgRow) : Bool :=
  listed.size == ops.size && (rg.map (·.1)).all (fun i => !listed.getD i true) && rg.all (rgRowOk n ops listed (rg.map (·.1))) && (List.range ops.size).all (late ops listed (rg.map (·.1)))
abbrev RgA := Nat → Value → World → Prop
def rgOp (P : Program) (n : Nat) (ops : Array Oper) (A : RgA) (i : Nat) (o : Option Oper) (t : Fr) (w : World) : Prop :=
  match o with
  | none => False
  | some o => match o.guard with
    | none => vop P n o t w fun v w' => Ext w w' ∧ A i v w'
    | some (j, b) => Gd (gval ops n t j) b (vop P n o t w fun v w' => Ext w w' ∧ A i v w') (A i undef w)
def rgPre (n : Nat) (ops : Array Oper) (A : RgA) (t : Fr) (w : World) : List Nat → Prop
  | [] => True
  | j :: l => A j (gval ops n t j) w ∧ rgPre n ops A t w l
def rgSteps (P : Program) (n : Nat) (ops : Array Oper) (A : RgA) (t0 : Fr) (w0 : World) : List RgRow → Prop
  | [] => True
  | r :: l => (∀ t w, Ext w0 w → rgPre n ops A t w r.2.1 → (∀ s, s ∉ r.2.2 → t s = t0 s) → rgOp P n ops A r.1 ops[r.1]? t w) ∧ rgSteps P n ops A t0 w0 l
def rgDst (ops : Array Oper) (rg : List RgRow) : List Nat := rg.filterMap fun r => (ops[r.1]?).bind (·.dst)
def RG (P : Program) (n : Nat) (ops : Array Oper) (K : Fr → World → Prop) (rg : List RgRow) (ds : List Nat) (t0 : Fr) (w0 : World) : Prop :=
  ∃ A : RgA, (∀ i v w w', A i v w → Ext w w' → A i v w') ∧ rgSteps P n ops A t0 w0 rg ∧
    ∀ t w, Ext w0 w → rgPre n ops A t w (rg.map (·.1)) → (∀ s, s ∉ ds → t s = t0 s) → K t w
theorem rgPre_mem {n : Nat} {ops : Array Oper} {A : RgA} {t : Fr} {w : World} : ∀ {l : List Nat}, rgPre n ops A t w l ↔ ∀ j ∈ l, A j (gval ops n t j) w
  | [] => by simp [rgPre]
  | j :: l => by simp [rgPre, rgPre_mem (l := l)]
theorem rgSteps_mem {P : Program} {n : Nat} {ops : Array Oper} {A : RgA} {t0 : Fr} {w0 : World} : ∀ {l : List RgRow}, rgSteps P n ops A t0 w0 l → ∀ r ∈ l,
    ∀ t w, Ext w0 w → rgPre n ops A t w r.2.1 → (∀ s, s ∉ r.2.2 → t s = t0 s) → rgOp P n ops A r.1 ops[r.1]? t w
  | [], _, r, hr => by simp at hr
  | r' :: l, h, r, hr => by
    rcases List.mem_cons.1 hr with rfl | hr
    · exact h.1
    · exact rgSteps_mem h.2 r hr
theorem gval_dst {ops : Array Oper} {n : Nat} {t : Fr} {i d : Nat} {o : Oper} (ho : ops[i]? = some o) (hd : o.dst = some d) (hn : d < n) : gval ops n t i = t d := by
  simp [gval, ho, hd, hn]
theorem getD_lt {l : Array Bool} {i : Nat} {a b : Bool} (h : i < l.size) : l.getD i a = l.getD i b := by simp [h]
theorem getD_up {l : Array Bool} {i : Nat} (h : l.getD i false = true) : l.getD i true = true := by
  rw [Array.getD_eq_getD_getElem?] at h ⊢
  cases hq : l[i]? with
  | none => rw [hq] at h; simp at h
  | some b => rw [hq] at h; simpa using h
structure RowF (n : Nat) (ops : Array Oper) (listed0 : Array Bool) (tab : List Nat) (r : RgRow) (o : Oper) (d : Nat) : Prop where
  op : ops[r.1]? = some o
  dst : o.dst = some d
  lt : d < n
  dep : ∀ j ∈ deps o, j < r.1 ∧ (j ∈ tab → j ∈ r.2.1) ∧ (j ∉ tab → listed0.getD j false = true)
  own : ∀ j ∈ r.2.1, j ∈ deps o ∧ j ∈ tab
  oth : ∀ j ∈ tab, ∀ oj dj, ops[j]? = some oj → oj.dst = some dj → j = r.1 ∨ (dj ≠ d ∧ (r.1 ∈ deps oj ∨ dj ∈ r.2.2))
theorem rowF {n : Nat} {ops : Array Oper} {listed0 : Array Bool} {tab : List Nat} {r : RgRow} (h : rgRowOk n ops listed0 tab r = true) : ∃ o d, RowF n ops listed0 tab r o d := by
  unfold rgRowOk at h
  cases ho : ops[r.1]? with
  | none => simp [ho] at h
  | some o =>
    simp only [ho, Bool.and_eq_true, List.all_eq_true] at h
    obtain ⟨⟨⟨h1, h2⟩, h3⟩, h4⟩ := h
    cases hd : o.dst with
    | none => simp [hd] at h1
    | some d =>
      simp only [hd, Nat.blt_eq] at h1
      refine ⟨o, d, ho, hd, h1, fun j hj => ?_, fun j hj => ?_, fun j hj oj dj hoj hdj => ?_⟩
      · have := h2 j hj
        simp only [Nat.blt_eq] at this
        refine ⟨this.1, fun ht => ?_, fun ht => ?_⟩
        · have h5 := this.2; rw [if_pos (by simpa using ht)] at h5; simpa using h5
        · have h5 := this.2; rw [if_neg (by simpa using ht)] at h5; exact h5
      · have := h3 j hj; simpa using this
      · have := h4 j hj
        simp only [hoj, hdj, Bool.or_eq_true, beq_iff_eq, Bool.and_eq_true, bne_iff_ne, hd, List.contains_eq_mem, decide_eq_true_eq] at this
        rcases this with h | ⟨h, h'⟩
        · exact .inl h
        · exact .inr ⟨fun e => h (by rw [e]), h'⟩
/-- How far the table has been worked off. -/
structure RgInv (n : Nat) (ops : Array Oper) (A : RgA) (tab : List Nat) (listed0 : Array Bool) (t0 : Fr) (w0 : World) (listed : Array Bool) (t : Fr) (w : World) : Prop where
  ext : Ext w0 w
  size : listed.size = ops.size
  out : ∀ i, i ∉ tab → listed.getD i true = listed0.getD i true
  val : ∀ i o d, i ∈ tab → listed.getD i true = true → ops[i]? = some o → o.dst = some d → A i (t d) w
  old : ∀ s, (∀ j o, j ∈ tab → listed.getD j true = true → ops[j]? = some o → o.dst ≠ some s) → t s = t0 s
  clo : ∀ i o, i ∈ tab → listed.getD i true = true → ops[i]? = some o → ∀ j ∈ deps o, listed.getD j true = true
def putAll : List Nat → Array Bool → Array Bool
  | [], l => l
  | i :: r, l => putAll r (l.setIfInBounds i true)
theorem putAll_size : ∀ (r : List Nat) (l : Array Bool), (putAll r l).size = l.size
  | [], l => rfl
  | i :: r, l => by rw [putAll, putAll_size r]; simp
theorem putAll_get : ∀ (r : List Nat) (l : Array Bool) (i : Nat), (putAll r l).getD i true = (decide (i ∈ r) || l.getD i true)
  | [], l, i => by simp [putAll]
  | j :: r, l, i => by
    rw [putAll, putAll_get r]
    by_cases h : j = i
    · subst h
      have : (l.setIfInBounds j true).getD j true = true := by
        by_cases hl : j < l.size
        · simp [hl]
        · simp [hl]
      rw [this]; simp
    · rw [getD_set_ne true h]
      have : (i ∈ j :: r) = (i ∈ r) := by simp [Ne.symm h]
      simp only [this]
theorem covers_spec {ops : Array Oper} {tab : List Nat} {listed : Array Bool} (hc : ∀ i o, i ∈ tab → listed.getD i true = true → ops[i]? = some o → ∀ j ∈ deps o, listed.getD j true = true) :
    ∀ (m : Nat) (l : List Nat), covers ops tab m l = true → (∀ j ∈ l, listed.getD j true = true) → ∀ j ∈ tab, listed.getD j true = true
  | 0, l, h, hl, j, hj => by
    unfold covers at h
    have := List.all_eq_true.1 h j hj
    exact hl j (by simpa using this)
  | m + 1, l, h, hl, j, hj => by
    unfold covers at h
    simp only [Bool.or_eq_true] at h
    rcases h with h | h
    · have := List.all_eq_true.1 h j hj
      exact hl j (by simpa using this)
    · refine covers_spec hc m _ h (fun k hk => ?_) j hj
      rcases List.mem_append.1 hk with hk | hk
      · exact hl k hk
      · obtain ⟨i, hi, hk⟩ := List.mem_flatMap.1 hk
        obtain ⟨hi1, hi2⟩ := List.mem_filter.1 hi
        unfold depsAt at hk
        cases ho : ops[i]? with
        | none => rw [ho] at hk; cases hk
        | some o =>
          rw [ho] at hk
          exact hc i o (by simpa using hi2) (hl i hi1) ho k hk
theorem rg_sound {P : Program} {n : Nat} {ops : Array Oper} {Q : Ex → Fr → World → Prop} {K : Fr → World → Prop} {M : List Nat} {need : Nat → Bool} {rg : List RgRow} {A : RgA} {listed0 : Array Bool} {t0 : Fr} {w0 : World}
    (hstab : ∀ i v w w', A i v w → Ext w w' → A i v w') (hsteps : rgSteps P n ops A t0 w0 rg) (hs0 : listed0.size = ops.size) (hnd : ∀ r ∈ rg, rgRowOk n ops listed0 (rg.map (·.1)) r = true)
    (hlate : ∀ k, k < ops.size → late ops listed0 (rg.map (·.1)) k = true)
    (hfin : ∀ t w, Ext w0 w → rgPre n ops A t w (rg.map (·.1)) → (∀ s, s ∉ rgDst ops rg → t s = t0 s) → K t w)
    (hK : ∀ fuel t w, cntF (putAll (rg.map (·.1)) listed0) ≤ fuel → K t w → wpR P ops (lift n Q) (Keep M) need fuel (putAll (rg.map (·.1)) listed0) (act n t) w) :
    ∀ (fuel : Nat) (listed : Array Bool) (t : Fr) (w : World), cntF listed ≤ fuel → RgInv n ops A (rg.map (·.1)) listed0 t0 w0 listed t w →
      wpR P ops (lift n Q) (Keep M) need fuel listed (act n t) w := by
  have row : ∀ i, i ∈ rg.map (·.1) → ∃ r o d, r ∈ rg ∧ r.1 = i ∧ RowF n ops listed0 (rg.map (·.1)) r o d := by
    intro i hi
    obtain ⟨r, hr, rfl⟩ := List.mem_map.1 hi
    obtain ⟨o, d, h⟩ := rowF (hnd r hr)
    exact ⟨r, o, d, hr, rfl, h⟩
  have fin : ∀ (fuel : Nat) (listed : Array Bool) (t : Fr) (w : World), cntF listed ≤ fuel → (∀ j ∈ rg.map (·.1), listed.getD j true = true) → RgInv n ops A (rg.map (·.1)) listed0 t0 w0 listed t w →
      wpR P ops (lift n Q) (Keep M) need fuel listed (act n t) w := by
    intro fuel listed t w hc all hI
    have he : listed = putAll (rg.map (·.1)) listed0 := by
      apply Array.ext
      · rw [putAll_size, hI.size, hs0]
      · intro i h1 h2
        have h3 : listed.getD i true = (putAll (rg.map (·.1)) listed0).getD i true := by
          rw [putAll_get]
          by_cases hi : i ∈ rg.map (·.1)
          · rw [all i hi, decide_eq_true hi]; rfl
          · rw [hI.out i hi, decide_eq_false hi]; rfl
        simpa [h1, h2] using h3
    subst he
    refine hK fuel t w hc (hfin t w hI.ext (rgPre_mem.2 fun j hj => ?_) fun s hs => hI.old s fun j o hj _ ho hd => hs ?_)
    · obtain ⟨r, o, d, hr, rfl, hR⟩ := row j hj
      rw [gval_dst hR.op hR.dst hR.lt]
      exact hI.val _ o d hj (all _ hj) hR.op hR.dst
    · obtain ⟨r, hr1, rfl⟩ := List.mem_map.1 hj
      exact List.mem_filterMap.2 ⟨r, hr1, by simp [ho, hd]⟩
  have none_ready : ∀ (listed : Array Bool) (t : Fr) (w : World), Region.ready .any ops listed = [] → RgInv n ops A (rg.map (·.1)) listed0 t0 w0 listed t w → ∀ j ∈ rg.map (·.1), listed.getD j true = true := by
    intro listed t w hr hI i
    induction i using Nat.strongRecOn with
    | _ i ih =>
      intro hi
      cases hl : listed.getD i true with
      | true => rfl
      | false =>
        exfalso
        obtain ⟨r, o, d, hr1, rfl, hR⟩ := row i hi
        have : r.1 ∈ Region.ready .any ops listed := by
          refine mem_ready.2 ⟨hl, o, hR.op, fun e he hb => ?_⟩
          obtain ⟨h1, h2, h3⟩ := hR.dep e.on (mem_deps.2 ⟨e, he, hb, rfl⟩)
          have hlt : r.1 < ops.size := (Array.getElem?_eq_some_iff.1 hR.op).1
          rw [getD_lt (b := true) (by rw [hI.size]; omega)]
          by_cases ht : e.on ∈ rg.map (·.1)
          · exact ih e.on h1 ht
          · rw [hI.out _ ht]; exact getD_up (h3 ht)
        rw [hr] at this
        cases this
  intro fuel
  induction fuel with
  | zero =>
    intro listed t w hc hI
    have hr : Region.ready .any ops listed = [] := by
      cases hq : Region.ready .any ops listed with
      | nil => rfl
      | cons i l =>
        have hi : i ∈ Region.ready .any ops listed := by rw [hq]; exact List.mem_cons_self ..
        have := cntF_set (mem_ready.1 hi).1
        omega
    exact fin 0 listed t w hc (none_ready listed t w hr hI) hI
  | succ fuel ih =>
    intro listed t w hc hI
    by_cases hall : ∀ j ∈ rg.map (·.1), listed.getD j true = true
    · exact fin _ listed t w hc hall hI
    refine ⟨fun hr => absurd (none_ready listed t w hr hI) hall, fun i hi => ?_⟩
    obtain ⟨hun, o, ho, hdep⟩ := mem_ready.1 hi
    have hilt : i < ops.size := (Array.getElem?_eq_some_iff.1 ho).1
    have listedOf : ∀ j, j ∈ deps o → listed.getD j true = true := by
      intro j hj
      obtain ⟨e, he, hb, rfl⟩ := mem_deps.1 hj
      exact getD_up (hdep e he hb)
    have hit : i ∈ rg.map (·.1) := by
      refine Classical.byContradiction fun hnt => ?_
      have hl := hlate i hilt
      have h0 : listed0.getD i true = false := by rw [← hI.out i hnt]; exact hun
      have hda : depsAt ops i = deps o := by unfold depsAt; rw [ho]
      unfold late at hl
      rw [hda, h0] at hl
      simp only [Bool.or_eq_true, List.contains_eq_mem, decide_eq_true_eq, hnt, false_or, Bool.false_eq_true, List.any_eq_true] at hl
      rcases hl with ⟨j, hj, hj2⟩ | hl
      · simp only [Bool.and_eq_true, Bool.not_eq_true', decide_eq_false_iff_not] at hj2
        have h5 := listedOf j hj
        rw [hI.out j hj2.1, hj2.2] at h5; cases h5
      · exact hall (covers_spec hI.clo 6 _ hl listedOf)
    obtain ⟨r, o', d, hr1, rfl, hR⟩ := row i hit
    have hoo : o' = o := by have := hR.op; rw [ho] at this; simpa using this.symm
    subst hoo
    have hd := hR.dst
    have hpre : rgPre n ops A t w r.2.1 := by
      refine rgPre_mem.2 fun j hj => ?_
      obtain ⟨hj1, hj2⟩ := hR.own j hj
      obtain ⟨r', oj, dj, hr', rfl, hR'⟩ := row j hj2
      rw [gval_dst hR'.op hR'.dst hR'.lt]
      exact hI.val _ oj dj hj2 (listedOf _ hj1) hR'.op hR'.dst
    have hfr : ∀ s, s ∉ r.2.2 → t s = t0 s := by
      intro s hs
      refine hI.old s fun j oj hj hjl hoj hdj => ?_
      rcases hR.oth j hj oj s hoj hdj with rfl | ⟨_, h | h⟩
      · rw [hun] at hjl; cases hjl
      · have := hI.clo j oj hj hjl hoj _ h
        rw [hun] at this; cases this
      · exact hs h
    have hop := rgSteps_mem hsteps r hr1 t w hI.ext hpre hfr
    rw [ho] at hop
    have next : ∀ v w', Ext w w' → A r.1 v w' → wpR P ops (lift n Q) (Keep M) need fuel (listed.setIfInBounds r.1 true) (act n (updO t o'.dst v)) w' := by
      intro v w' hx hA
      refine ih _ _ _ (by have := cntF_set hun; omega) ?_
      have hset : ∀ j, j ≠ r.1 → (listed.setIfInBounds r.1 true).getD j true = listed.getD j true := fun j hj => getD_set_ne true (Ne.symm hj)
      have hlt : r.1 < listed.size := by rw [hI.size]; exact hilt
      refine ⟨hI.ext.tr hx, by simpa using hI.size, fun j hjt => ?_, fun j oj d' hjt hjl hoj hdj => ?_, fun s hs => ?_, fun j oj hjt hjl hoj k hk => ?_⟩
      · rw [hset j (fun e => hjt (e ▸ hit))]; exact hI.out j hjt
      · by_cases hji : j = r.1
        · subst hji
          rw [ho] at hoj; cases hoj
          rw [hd] at hdj; cases hdj
          simp only [hd, updO, upd, if_true]; exact hA
        · rw [hset j hji] at hjl
          rcases hR.oth j hjt oj d' hoj hdj with h | ⟨hne, _⟩
          · exact absurd h hji
          · simp only [hd, updO, upd, if_neg hne]
            exact hstab _ _ _ _ (hI.val j oj d' hjt hjl hoj hdj) hx
      · have hsd : s ≠ d := fun e => hs r.1 o' hit (by simp [hlt]) ho (by rw [hd, e])
        simp only [hd, updO, upd, if_neg hsd]
        refine hI.old s fun j oj hjt hjl hoj => ?_
        by_cases hji : j = r.1
        · subst hji; rw [hun] at hjl; cases hjl
        · exact hs j oj hjt (by rw [hset j hji]; exact hjl) hoj
      · by_cases hki : k = r.1
        · subst hki; simp [hlt]
        · rw [hset k hki]
          by_cases hji : j = r.1
          · subst hji
            rw [ho] at hoj; cases hoj
            exact listedOf k hk
          · rw [hset j hji] at hjl
            exact hI.clo j oj hjt hjl hoj k hk
    have run : (vop P n o' t w fun v w' => Ext w w' ∧ A r.1 v w') →
        o'.wp P (act n t) w (fun a' w' => (need r.1 = true → Keep M w w') ∧ wpR P ops (lift n Q) (Keep M) need fuel (listed.setIfInBounds r.1 true) a' w') (lift n Q) := by
      intro h
      refine vop_sound h fun v w' hh => ⟨fun _ => Keep.of_ext hh.1 M, ?_⟩
      rw [act_put]; exact next v w' hh.1 hh.2
    simp only [rgOp] at hop
    refine wpOp_of ho (fun hw => ?_) (fun hw => ?_)
    · rcases (wanted_iff ops n t o').1 hw with hg | ⟨j, b, hg, hv⟩
      · simp only [hg] at hop; exact run hop
      · simp only [hg] at hop; exact run (hop.1 hv)
    · obtain ⟨j, b, hg, hv⟩ := wanted_false hw
      simp only [hg] at hop
      refine ⟨fun _ => Keep.refl M w, ?_⟩
      rw [act_put]; exact next undef w (Ext.rfl' w) (hop.2 hv)
/-! the plan ahead of the table -/
def planStep (ops : Array Oper) (need : Nat → Bool) (i : Nat) (listed : Array Bool) : Bool := match ops[i]? with
    | none => false
    | some o => if isRo o.op then Region.free .any ops listed i && (Region.ready .any ops listed).contains i && waits ops need i else Region.ready .any ops listed == [i]
def planP (ops : Array Oper) (need : Nat → Bool) : List Nat → Array Bool → Option (Array Bool)
  | [], listed => some listed
  | i :: l, listed => if planStep ops need i listed = true then planP ops need l (listed.setIfInBounds i true) else none
theorem vplG_sound {P : Program} {n : Nat} {ops : Array Oper} {Q Q' : Ex → Fr → World → Prop} {M : List Nat} {need : Nat → Bool} (hs : Region.noSelect ops = true) (le : Array Bool)
    (hB : ∀ fuel t w, cntF le ≤ fuel → Q' .normal t w → wpR P ops (lift n Q) (Keep M) need fuel le (act n t) w) :
    ∀ (l : List Nat) (fuel : Nat) (listed : Array Bool) (t : Fr) (w : World), planP ops need l listed = some le → cntF listed ≤ fuel → vpl P n ops Q' M need l t w →
      wpR P ops (lift n Q) (Keep M) need fuel listed (act n t) w
  | [], fuel, listed, t, w, hp, hl, h => by
    simp only [planP, Option.some.injEq] at hp; subst hp
    exact hB fuel t w hl h
  | i :: l, fuel, listed, t, w, hp, hl, h => by
    simp only [planP] at hp
    by_cases hp1 : planStep ops need i listed = true
    · rw [if_pos hp1] at hp
      unfold planStep at hp1
      simp only [vpl] at h
      cases ho : ops[i]? with
      | none => simp only [ho] at h
      | some o =>
        simp only [ho] at hp1 h
        have hrd : i ∈ Region.ready .any ops listed := by
          by_cases hro : isRo o.op = true
          · simp only [hro, if_true, Bool.and_eq_true] at hp1; simpa using hp1.1.2
          · simp only [hro] at hp1
            have hready : Region.ready .any ops listed = [i] := by simpa using hp1
            rw [hready]; exact List.mem_singleton.2 rfl
        have hcs := cntF_set (mem_ready.1 hrd).1
        obtain ⟨fuel, rfl⟩ : ∃ f, fuel = f + 1 := ⟨fuel - 1, by omega⟩
        have ih := fun t w => vplG_sound (P := P) (n := n) (Q := Q) (Q' := Q') (M := M) (need := need) hs le hB l fuel (listed.setIfInBounds i true) t w hp (by omega)
        by_cases hro : isRo o.op = true
        · simp only [hro, if_true, Bool.and_eq_true] at hp1
          obtain ⟨⟨hfree, hready⟩, hwaits⟩ := hp1
          have hway : way o.op = .ro := by
            unfold isRo at hro
            cases hw : way o.op <;> simp [hw] at hro ⊢
          have core : ∀ v, YieldsIf P ops (Keep M w) o v (act n t) → vpl P n ops Q' M need l (updO t o.dst v) w → wpR P ops (lift n Q) (Keep M) need (fuel + 1) listed (act n t) w := by
            intro v hy hv
            refine wpR_first (Keep.refl M) (fun _ _ _ => Keep.trans) ho (Region.noSelect_spec hs) (lift_panic n Q o.dst v) (waits_spec hwaits) fuel listed _ w (Region.free_spec ho hfree) (by simpa using hready) hy ?_
            rw [act_put]; exact ih _ _ hv
          have yields : ∀ v, ro P n t w o.op = some v → RF M n t o.op → Region.wanted o (yielded ops (act n t).tmps) = true → YieldsIf P ops (Keep M w) o v (act n t) := by
            intro v hv hrf hw
            refine .inl ⟨hw, fun w' hk => ?_⟩
            rw [act_eval']
            exact ro_sound (ro_keep hk hrf hv)
          have run : vopK P n o t w M (need i) (fun v w' => vpl P n ops Q' M need l (updO t o.dst v) w') → Region.wanted o (yielded ops (act n t).tmps) = true →
              wpR P ops (lift n Q) (Keep M) need (fuel + 1) listed (act n t) w := by
            intro hk hw
            unfold vopK at hk
            simp only [hway] at hk
            obtain ⟨v, hv, hrf, hk⟩ := hk
            exact core v (yields v hv hrf hw) hk
          cases hg : o.guard with
          | none => simp only [hg] at h; exact run h ((wanted_iff ops n t o).2 (.inl hg))
          | some jb =>
            obtain ⟨j, b⟩ := jb
            simp only [hg] at h
            by_cases hv : gval ops n t j = .bool b
            · exact run (h.1 hv) ((wanted_iff ops n t o).2 (.inr ⟨j, b, hg, hv⟩))
            · refine core undef (.inr ⟨?_, rfl⟩) (h.2 hv)
              cases hw : Region.wanted o (yielded ops (act n t).tmps) with
              | false => rfl
              | true =>
                rcases (wanted_iff ops n t o).1 hw with h0 | ⟨j', b', h0, h1⟩
                · rw [hg] at h0; cases h0
                · rw [hg] at h0; cases h0; exact absurd h1 hv
        · simp only [hro] at hp1
          have hready : Region.ready .any ops listed = [i] := by simpa using hp1
          have hway : way o.op ≠ .ro := fun e => hro (by simp [isRo, e])
          refine ⟨fun h0 => (by rw [hready] at h0; cases h0), fun i' hi' => ?_⟩
          rw [hready] at hi'
          obtain rfl : i' = i := by simpa using hi'
          have run : vopK P n o t w M (need i') (fun v w' => vpl P n ops Q' M need l (updO t o.dst v) w') →
              o.wp P (act n t) w (fun a' w' => (need i' = true → Keep M w w') ∧ wpR P ops (lift n Q) (Keep M) need fuel (listed.setIfInBounds i' true) a' w') (lift n Q) := by
            intro hk
            have hk' : vop P n o t w fun v w' => (need i' = true → Keep M w w') ∧ vpl P n ops Q' M need l (updO t o.dst v) w' := by
              unfold vopK at hk
              cases hw : way o.op <;> simp only [hw] at hk hway
              · exact absurd rfl hway
              · exact hk
              · exact hk
            refine vop_sound hk' fun v w' hh => ⟨hh.1, ?_⟩
            rw [act_put]; exact ih _ _ hh.2
          refine wpOp_of ho (fun hw => ?_) (fun hw => ?_)
          · rcases (wanted_iff ops n t o).1 hw with hg | ⟨j, b, hg, hv⟩
            · simp only [hg] at h; exact run h
            · simp only [hg] at h; exact run (h.1 hv)
          · obtain ⟨j, b, hg, hv⟩ := wanted_false hw
            simp only [hg] at h
            refine ⟨fun _ => Keep.refl M w, ?_⟩
            rw [act_put]; exact ih _ _ (h.2 hv)
    · rw [if_neg hp1] at hp; cases hp
def rgCheck (n : Nat) (ops : Array Oper) (need : Nat → Bool) (l : List Nat) (rg : List RgRow) (l2 : List Nat) (ds : List Nat) : Bool :=
  Region.noSelect ops && (rgDst ops rg == ds) && match planP ops need l (Array.replicate ops.size false) with
  | some le => rgOk n ops le rg && match planP ops need l2 (putAll (rg.map (·.1)) le) with
    | some le2 => (Region.ready .any ops le2).isEmpty
    | none => false
  | none => false
theorem cntF_new (n : Nat) : cntF (Array.replicate n false) = n := by
  simp [cntF, List.countP_replicate]
/-- A region that draws: a plan first, then a table of what each operation leaves behind, then a plan again. -/
theorem Dr_rg {P : Program} {n : Nat} {ops : Array Oper} {Q : Ex → Fr → World → Prop} {t : Fr} {w : World} (M : List Nat) (need : Nat → Bool) (l : List Nat) (rg : List RgRow) (l2 : List Nat) (ds : List Nat) (hm : P.follows .mixedOrders = true)
    (hp : rgCheck n ops need l rg l2 ds = true) (h : vpl P n ops (fun _ t w => RG P n ops (vpl P n ops Q M need l2) rg ds t w) M need l t w.drew) : Dr P n ops Q t w := by
  intro id
  unfold rgCheck at hp
  simp only [Bool.and_eq_true] at hp
  obtain ⟨⟨h1, h3⟩, h4⟩ := hp
  have h3 : rgDst ops rg = ds := by simpa using h3
  cases hq : planP ops need l (Array.replicate ops.size false) with
  | none => simp [hq] at h4
  | some le =>
    simp only [hq, Bool.and_eq_true] at h4
    obtain ⟨h4, h5⟩ := h4
    simp only [rgOk, Bool.and_eq_true, List.all_eq_true, beq_iff_eq] at h4
    obtain ⟨⟨⟨hsz, hli⟩, hrows⟩, hlate⟩ := h4
    cases hq2 : planP ops need l2 (putAll (rg.map (·.1)) le) with
    | none => simp [hq2] at h5
    | some le2 =>
      simp only [hq2] at h5
      have hr2 : Region.ready .any ops le2 = [] := by simpa using h5
      refine wp_region_any hm (wpAny_of_wpR _ _ _ _ (vplG_sound (Q := Q) h1 le ?_ l ops.size _ t _ hq (by rw [cntF_new]; exact Nat.le_refl _) h))
      rintro fuel t w hc ⟨A, hstab, hsteps, hfin⟩
      refine rg_sound hstab hsteps hsz hrows (fun k hk => hlate k (List.mem_range.2 hk)) (fun t w hx hpre hold => hfin t w hx hpre (by rw [← h3]; exact hold)) (fun fuel t w hc hv => ?_) fuel le t w hc ?_
      · refine vplG_sound (Q := Q) (Q' := Q) h1 le2 (fun fuel t w hc hn => ?_) l2 fuel _ t w hq2 hc hv
        cases fuel with
        | zero => exact ⟨hr2, t, rfl, hn⟩
        | succ fuel => exact ⟨fun _ => ⟨t, rfl, hn⟩, by rw [hr2]; simp⟩
      · have inT : ∀ i, i ∈ rg.map (·.1) → le.getD i true = false := by
          intro i hi
          have := hli i hi
          simpa using this
        refine ⟨Ext.rfl' w, hsz, fun i _ => rfl, fun i o d hit hle ho _ => ?_, fun s _ => rfl, fun i o hit hle ho => ?_⟩
        · rw [inT i hit] at hle; cases hle
        · rw [inT i hit] at hle; cases hle
def rgO (P : Program) (n : Nat) (ops : Array Oper) (A : RgA) (i : Nat) (o : Option Oper) (t : Fr) (w : World) : Prop := rgOp P n ops A i o t w
theorem G0 : (∀ n : Nat, ((n + 1 : Nat) = 0) = False) ∧ (∀ n : Nat, (0 = (n + 1 : Nat)) = False) := ⟨fun n => by simp, fun n => by simp⟩
theorem G1 {P : Program} {n : Nat} {A : RgA} : (∀ i os t w, rgOp P n os.toArray A i os.toArray[i]? t w = rgO P n os.toArray A i (opL os i) t w) ∧
    (∀ ops i d op ty pos af t w, rgO P n ops A i (some ⟨d, op, ty, pos, af, none⟩) t w = vop P n ⟨d, op, ty, pos, af, none⟩ t w fun v w' => Ext w w' ∧ A i v w') ∧
    (∀ ops i d op ty pos af j b t w, rgO P n ops A i (some ⟨d, op, ty, pos, af, some (j, b)⟩) t w = @hGd (gval ops n t j) b ⟨vop P n ⟨d, op, ty, pos, af, some (j, b)⟩ t w fun v w' => Ext w w' ∧ A i v w'⟩ ⟨A i undef w⟩) :=
  ⟨fun i os t w => by rw [List.getElem?_toArray, opL_eq]; rfl, fun _ _ _ _ _ _ _ _ _ => rfl, fun _ _ _ _ _ _ _ _ _ _ _ => rfl⟩
/-- What each operation leaves behind, as a list. -/
def rgA : List (Nat × (Value → World → Prop)) → RgA
  | [], _, _, _ => True
  | (j, p) :: l, i, v, w => if i = j then p v w else rgA l i v w
def stabL : List (Nat × (Value → World → Prop)) → Prop
  | [] => True
  | (_, p) :: l => (∀ v w w', p v w → Ext w w' → p v w') ∧ stabL l
theorem rg_stab : ∀ {l : List (Nat × (Value → World → Prop))}, stabL l → ∀ i v w w', rgA l i v w → Ext w w' → rgA l i v w'
  | [], _, _, _, _, _, _, _ => trivial
  | (j, p) :: l, h, i, v, w, w', ha, hx => by
    unfold rgA at ha ⊢
    split
    · rw [if_pos ‹_›] at ha; exact h.1 v w w' ha hx
    · rw [if_neg ‹_›] at ha; exact rg_stab h.2 i v w w' ha hx
theorem rgA_cons (j : Nat) (p : Value → World → Prop) (l : List (Nat × (Value → World → Prop))) (i : Nat) (v : Value) (w : World) : rgA ((j, p) :: l) i v w = if i = j then p v w else rgA l i v w := rfl
theorem rgA_nil (i : Nat) (v : Value) (w : World) : rgA [] i v w = True := rfl
theorem joinDr {β : Prop} (I : Fr → World → Prop) {P : Program} {n : Nat} {V : Hd (Array Oper)} {Q : Hd (Ex → Fr → World → Prop)} (k : (∀ t W, I t W → @hDr P n V Q t W) → β) (h : ∀ t W, I t W → @hDr P n V Q t W) : β := k h
theorem joinLp {β : Prop} (I : Fr → World → Prop) {V : Hd ((Ex → Fr → World → Prop) → Fr → World → Prop)} {Q : Hd (Ex → Fr → World → Prop)} (k : (∀ t W, I t W → @hLp V Q t W) → β) (h : ∀ t W, I t W → @hLp V Q t W) : β := k h
theorem joinOk {β : Prop} (I : Array Value → World → Prop) {P : Program} {f : Nat} {K : KV} (k : (∀ a W, I a W → @hOk P f a W K) → β) (h : ∀ a W, I a W → @hOk P f a W K) : β := k h
end Go.V
