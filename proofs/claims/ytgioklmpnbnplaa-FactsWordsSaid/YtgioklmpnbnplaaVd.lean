/- Regions in text order and regions that draw their order; code; the entry of a function. Conditions: none. -/
import Derived.Test.YtgioklmpnbnplaaVc
set_option linter.unusedSimpArgs false
set_option linter.unusedVariables false
namespace Go.V
open Go.RowKit

def gval (ops : Array Oper) (n : Nat) (t : Fr) (j : Nat) : Value :=
  match (ops[j]?).bind (·.dst) with
  | some d => if d < n then t d else undef
  | none => undef
/-- A guard. -/
def Gd (v : Value) (b : Bool) (X Y : Prop) : Prop := (v = .bool b → X) ∧ (v ≠ .bool b → Y)
/-- A branch. -/
def Br (v : Value) (X Y : Prop) : Prop := (v = .bool true ∧ X) ∨ (v = .bool false ∧ Y)
theorem yielded_act (ops : Array Oper) (n : Nat) (t : Fr) (j : Nat) (b : Bool) : (yielded ops (act n t).tmps j == some b) = true ↔ gval ops n t j = .bool b := by
  unfold yielded gval
  cases hd : (ops[j]?).bind (·.dst) with
  | none => simp [undef]
  | some d =>
    simp only [Option.bind_some, act]
    by_cases h : d < n
    · simp only [h, if_true, Array.getElem?_ofFn, dif_pos]
      cases t d <;> simp
    · simp [h, undef]
def vops (P : Program) (n : Nat) (ops : Array Oper) (Q : Ex → Fr → World → Prop) : List Oper → Fr → World → Prop
  | [], t, w => Q .normal t w
  | o :: rest, t, w => match o.guard with
    | none => vop P n o t w fun v w' => vops P n ops Q rest (updO t o.dst v) w'
    | some (j, b) => Gd (gval ops n t j) b (vop P n o t w fun v w' => vops P n ops Q rest (updO t o.dst v) w') (vops P n ops Q rest (updO t o.dst undef) w)
theorem wanted_iff (ops : Array Oper) (n : Nat) (t : Fr) (o : Oper) :
    Region.wanted o (yielded ops (act n t).tmps) = true ↔ (o.guard = none ∨ ∃ j b, o.guard = some (j, b) ∧ gval ops n t j = .bool b) := by
  unfold Region.wanted
  cases hg : o.guard with
  | none => simp
  | some jb =>
    obtain ⟨j, b⟩ := jb
    simp only [Option.some.injEq, Prod.mk.injEq]
    rw [yielded_act]
    constructor
    · intro h; exact .inr ⟨j, b, ⟨rfl, rfl⟩, h⟩
    · rintro (h | ⟨j', b', ⟨rfl, rfl⟩, h⟩)
      · cases h
      · exact h
theorem vops_sound {P : Program} {n : Nat} {ops : Array Oper} {Q : Ex → Fr → World → Prop} : ∀ (l : List Oper) (t : Fr) (w : World),
    vops P n ops Q l t w → wpList P ops (lift n Q) l (act n t) w
  | [], t, w, h => ⟨t, rfl, h⟩
  | o :: rest, t, w, h => by
    have hstep : ∀ (t : Fr) (w : World), (vop P n o t w fun v w' => vops P n ops Q rest (updO t o.dst v) w') → o.wp P (act n t) w (wpList P ops (lift n Q) rest) (lift n Q) :=
      fun t w h => vop_sound h fun v w' h' => by rw [act_put]; exact vops_sound rest _ _ h'
    unfold vops at h
    unfold wpList
    by_cases hw : Region.wanted o (yielded ops (act n t).tmps) = true
    · rw [if_pos hw]
      left
      rcases (wanted_iff ops n t o).1 hw with hg | ⟨j, b, hg, hv⟩
      · simp only [hg] at h; exact hstep t w h
      · simp only [hg] at h; exact hstep t w (h.1 hv)
    · rw [if_neg hw, act_put]
      apply vops_sound rest
      cases hg : o.guard with
      | none => exact absurd ((wanted_iff ops n t o).2 (.inl hg)) hw
      | some jb =>
        obtain ⟨j, b⟩ := jb
        simp only [hg] at h
        exact h.2 fun e => hw ((wanted_iff ops n t o).2 (.inr ⟨j, b, hg, e⟩))

/-! a region that draws: what only reads is taken first -/
def wpR (P : Program) (ops : Array Oper) (Q : Exit → Act → World → Prop) (R : World → World → Prop) (need : Nat → Bool) : Nat → Array Bool → Act → World → Prop
  | 0, listed, a, w => Region.ready .any ops listed = [] ∧ Q .normal a w
  | fuel + 1, listed, a, w =>
    (Region.ready .any ops listed = [] → Q .normal a w) ∧
    ∀ i ∈ Region.ready .any ops listed, wpOp P ops Q i (fun a' w' => (need i = true → R w w') ∧ wpR P ops Q R need fuel (listed.setIfInBounds i true) a' w') a w
theorem wpAny_of_wpR {P : Program} {ops : Array Oper} {Q : Exit → Act → World → Prop} {R : World → World → Prop} {need : Nat → Bool} :
    ∀ (fuel : Nat) (listed : Array Bool) (a : Act) (w : World), wpR P ops Q R need fuel listed a w → wpAny P .any ops Q fuel listed a w
  | 0, _, _, _, h => h
  | fuel + 1, _, _, _, h => ⟨h.1, fun i hi => wpOp_mono (fun a' w' h' => wpAny_of_wpR fuel _ a' w' h'.2) (h.2 i hi)⟩
theorem wpR_first {P : Program} {ops : Array Oper} {Q : Exit → Act → World → Prop} {R : World → World → Prop} {need : Nat → Bool} (hrefl : ∀ w, R w w) (htrans : ∀ a b c, R a b → R b c → R a c)
    {i : Nat} {oi : Oper} {v : Value} (hi : ops[i]? = some oi) (hsel : ∀ (j : Nat) (o : Oper) cs b, ops[j]? = some o → o.op ≠ .select cs b)
    (hQ : ∀ c a w, Q (.panic c) (a.put oi.dst v) w → Q (.panic c) a w)
    (hlate : ∀ j oj, ops[j]? = some oj → need j = false → j ≠ i → ∃ e ∈ oj.after, Region.binds .any e = true ∧ e.on = i) :
    ∀ (fuel : Nat) (listed : Array Bool) (a : Act) (w : World),
      (∀ j oj, ops[j]? = some oj → j ≠ i → listed.getD j true = false → (∀ e ∈ oj.after, Region.binds .any e = true → e.on ≠ i) → oi.apart ops oj = true) →
      i ∈ Region.ready .any ops listed → YieldsIf P ops (R w) oi v a →
      wpR P ops Q R need fuel (listed.setIfInBounds i true) (a.put oi.dst v) w → wpR P ops Q R need (fuel + 1) listed a w := by
  intro fuel
  induction fuel with
  | zero =>
    intro listed a w _ hr hy H
    refine ⟨fun h => (by rw [h] at hr; cases hr), fun j hj => ?_⟩
    by_cases hji : j = i
    · subst hji; exact hy.wpOp hi (hrefl w) ⟨fun _ => hrefl w, H⟩
    · have := ready_mono hj hji
      rw [H.1] at this
      cases this
  | succ fuel ih =>
    intro listed a w hfree hr hy H
    refine ⟨fun h => (by rw [h] at hr; cases hr), fun j hj => ?_⟩
    by_cases hji : j = i
    · subst hji; exact hy.wpOp hi (hrefl w) ⟨fun _ => hrefl w, H⟩
    · have hrun := H.2 j (ready_mono hj hji)
      obtain ⟨hun, oj, hoj, hwait⟩ := mem_ready.1 hj
      have hnot : ∀ e ∈ oj.after, Region.binds .any e = true → e.on ≠ i := by
        intro e he hb heq
        have l1 := hwait e he hb
        have l0 := (mem_ready.1 hr).1
        rw [heq] at l1
        rcases Nat.lt_or_ge i listed.size with hlt | hge
        · simp [hlt] at l0 l1; rw [l0] at l1; cases l1
        · simp [Array.getElem?_eq_none hge] at l1
      have hneed : need j = true := by
        cases hn : need j with
        | true => rfl
        | false =>
          obtain ⟨e, he, hb, heq⟩ := hlate j oj hoj hn hji
          exact absurd heq (hnot e he hb)
      have hput := wpOp_putIf hoj (hfree j oj hoj hji hun hnot) (fun cs b => hsel i oi cs b hi) (fun cs b => hsel j oj cs b hoj) hQ hy hrun
      have hfree' : ∀ k ok, ops[k]? = some ok → k ≠ i → (listed.setIfInBounds j true).getD k true = false →
          (∀ e ∈ ok.after, Region.binds .any e = true → e.on ≠ i) → oi.apart ops ok = true := by
        intro k ok hk hki hun' hno
        refine hfree k ok hk hki ?_ hno
        by_cases hjk : j = k
        · subst hjk; exact hun
        · rw [getD_set_ne true hjk] at hun'; exact hun'
      refine wpOp_mono (fun a' w' hh => ?_) hput
      obtain ⟨hy', hR, hW⟩ := hh
      have hRw := hR hneed
      refine ⟨fun _ => hRw, ih (listed.setIfInBounds j true) a' w' hfree' (ready_mono hr (Ne.symm hji)) ?_ ?_⟩
      · exact hy'.imp (fun ⟨x, y⟩ => ⟨x, fun w'' h'' => y w'' (htrans _ _ _ hRw h'')⟩) id
      · rw [Array.setIfInBounds_comm _ _ hji]; exact hW
/-- What stood and is not among M stands as it did. -/
def Keep (M : List Nat) (w w' : World) : Prop := w.heap.size ≤ w'.heap.size ∧ ∀ b, b < w.heap.size → b ∉ M → w'.heap[b]? = w.heap[b]?
theorem Keep.refl (M : List Nat) (w : World) : Keep M w w := ⟨Nat.le_refl _, fun _ _ _ => rfl⟩
theorem Keep.trans {M : List Nat} {a b c : World} (h : Keep M a b) (k : Keep M b c) : Keep M a c :=
  ⟨Nat.le_trans h.1 k.1, fun i hi hm => (k.2 i (Nat.lt_of_lt_of_le hi h.1) hm).trans (h.2 i hi hm)⟩
theorem lt_of_cell {w : World} {a : Addr} {v : Value} (h : w.cell? a = some v) : a.block < w.heap.size := World.block_lt_of_cell? w a h
theorem Keep.cell {M : List Nat} {w w' : World} (h : Keep M w w') {a : Addr} {v : Value} (hc : w.cell? a = some v) (hm : a.block ∉ M) : w'.cell? a = some v := by
  rw [← hc]; exact World.cell?_of_block (w := w) (h.2 _ (lt_of_cell hc) hm)
def NotIn (M : List Nat) (v : Value) : Prop :=
  match v with
  | .pointer (some a) => a.block ∉ M
  | .map (some r) => r ∉ M
  | _ => True
def NotInS (M : List Nat) (v : Value) : Prop :=
  match v with
  | .slice (some a) _ _ => a.block ∉ M
  | _ => True
/-- An operation that reads reads outside M. -/
def RF (M : List Nat) (n : Nat) (t : Fr) : Op → Prop
  | .load _ a => NotIn M (ev n t a)
  | .lookup _ m _ _ => NotIn M (ev n t m)
  | .convert _ _ x => NotInS M (ev n t x)
  | .call c => ∀ x ∈ c.args.toList, NotIn M (ev n t x)
  | _ => True
theorem block_add (a : Addr) (k : Nat) : (a.add k).block = a.block := by unfold Addr.add; split <;> rfl
theorem cellsL_keep {M : List Nat} {w w' : World} (h : Keep M w w') {a : Addr} (hm : a.block ∉ M) : ∀ (n i : Nat) (l : List Value), cellsL w (.pointer (some a)) i n = some l → cellsL w' (.pointer (some a)) i n = some l
  | 0, _, _, hl => hl
  | n + 1, i, l, hl => by
    simp only [cellsL] at hl ⊢
    cases hc : cellP w (.pointer (some a)) i with
    | none => simp [hc] at hl
    | some x =>
      have : cellP w' (.pointer (some a)) i = some x := h.cell (a := a.add i) hc (by rw [block_add]; exact hm)
      simp only [hc] at hl
      simp only [this]
      cases hr : cellsL w (.pointer (some a)) (i + 1) n with
      | none => simp [hr] at hl
      | some l' =>
        rw [cellsL_keep h hm n (i + 1) l' hr]
        simpa [hr] using hl
theorem ldV_keep {P : Program} {T : TypeId} {M : List Nat} {w w' : World} (h : Keep M w w') {v u : Value} (hm : NotIn M v) (hl : ldV P T w v = some u) : ldV P T w' v = some u := by
  unfold ldV at hl ⊢
  cases ho : aggN P T with
  | none => simp [ho] at hl
  | some o =>
    cases v with
    | pointer a =>
      cases a with
      | none =>
        cases o with
        | none => simp [ho, cellP] at hl
        | some n =>
          cases n with
          | zero => simp [ho] at hl
          | succ n => simp [ho, cellsL, cellP] at hl
      | some a =>
        cases o with
        | none =>
          simp only [ho] at hl ⊢
          exact h.cell (a := a.add 0) hl (by rw [block_add]; exact hm)
        | some n =>
          simp only [ho] at hl ⊢
          by_cases hn : n = 0
          · simp [hn] at hl
          simp only [hn, if_false] at hl ⊢
          cases hr : cellsL w (.pointer (some a)) 0 n with
          | none => simp [hr] at hl
          | some l => rw [cellsL_keep h hm n 0 l hr]; simpa [hr] using hl
    | _ =>
      cases o with
      | none => simp [ho, cellP] at hl
      | some n =>
        cases n with
        | zero => simp [ho] at hl
        | succ n => simp [ho, cellsL, cellP] at hl
theorem lenV_keep {P : Program} {T : TypeId} {M : List Nat} {w w' : World} (h : Keep M w w') {v u : Value} (hm : NotIn M v) (hl : lenV P T w v = some u) : lenV P T w' v = some u := by
  unfold lenV at hl ⊢
  split at hl
  · simpa using hl
  · simpa using hl
  · simpa using hl
  · rename_i r hu
    cases hr : w.heap[r]? with
    | none => simp [hr] at hl
    | some o =>
      have hlt : r < w.heap.size := (Array.getElem?_eq_some_iff.1 hr).1
      rw [h.2 r hlt hm]
      simpa using hl
  · cases hl
theorem lkO_keep {P : Program} {T : TypeId} {M : List Nat} {w w' : World} (h : Keep M w w') {m k u : Value} {c : Bool} (hm : NotIn M m) (hl : lkO P T w m k c = some u) : lkO P T w' m k c = some u := by
  unfold lkO at hl ⊢
  split at hl
  · split at hl
    · split at hl
      · rename_i hp
        rw [if_pos hp]
        split at hl
        · exact hl
        · rename_i b
          cases hb : w.heap[b]? with
          | none => simp [hb] at hl
          | some o =>
            have : w'.heap[b]? = some o := (h.2 b (Array.getElem?_eq_some_iff.1 hb).1 hm).trans hb
            simp only [hb] at hl
            simp only [this]
            exact hl
        · cases hl
      · cases hl
    · cases hl
  · cases hl
theorem bytesL_keep {M : List Nat} {w w' : World} (h : Keep M w w') {a : Addr} (hm : a.block ∉ M) : ∀ (n i : Nat) (l : List Int), bytesL w (some a) i n = some l → bytesL w' (some a) i n = some l
  | 0, _, _, hl => hl
  | n + 1, i, l, hl => by
    simp only [bytesL, Option.bind_eq_some_iff, Option.map_eq_some_iff] at hl ⊢
    obtain ⟨z, hz, l', hl', rfl⟩ := hl
    refine ⟨z, ?_, l', bytesL_keep h hm n (i + 1) l' hl', rfl⟩
    unfold byV at hz ⊢
    split at hz
    · rename_i z' hr
      have : rd w' (some a) i = some (.int .u8 z') := h.cell (a := a.add i) hr (by rw [block_add]; exact hm)
      rw [this]; exact hz
    · cases hz
theorem cvW_keep {P : Program} {S D : TypeId} {M : List Nat} {w w' : World} (h : Keep M w w') {x u : Value} (hm : NotInS M x) (hl : cvW P S D w x = some u) : cvW P S D w' x = some u := by
  unfold cvW at hl ⊢
  split at hl
  · exact hl
  · split at hl
    · rename_i e a n c hS hD _
      split at hl
      · simp only [Option.map_eq_some_iff] at hl ⊢
        obtain ⟨l, hl, rfl⟩ := hl
        exact ⟨l, bytesL_keep h hm n 0 l hl, rfl⟩
      · cases hl
    · cases hl
theorem ro_keep {P : Program} {n : Nat} {t : Fr} {M : List Nat} {w w' : World} (h : Keep M w w') {op : Op} {u : Value} (hm : RF M n t op) (hr : ro P n t w op = some u) : ro P n t w' op = some u := by
  cases op <;> simp only [ro] at hr ⊢ <;> (try exact hr) <;> (try (cases hr; done))
  case load T a => exact ldV_keep h hm hr
  case lookup T m k c => exact lkO_keep h hm hr
  case convert S D x => exact cvW_keep h hm hr
  case call c =>
    obtain ⟨callee, args, argTypes⟩ := c
    cases callee <;> (try simp only at hr ⊢) <;> (try exact hr) <;> (try (cases hr; done))
    rename_i b
    cases b <;> (try simp only at hr ⊢) <;> (try exact hr) <;> (try (cases hr; done))
    split at hr
    · rename_i x T hx hT
      exact lenV_keep h (hm x (by simp only; rw [hx]; exact List.mem_singleton.2 rfl)) hr
    · cases hr
def vopK (P : Program) (n : Nat) (o : Oper) (t : Fr) (w : World) (M : List Nat) (nd : Bool) (K : Value → World → Prop) : Prop :=
  match way o.op with
  | .ro => Vl (ro P n t w o.op) fun v => RF M n t o.op ∧ K v w
  | _ => vop P n o t w fun v w' => (nd = true → Keep M w w') ∧ K v w'
/-- A region that draws, walked by one plan of its operations. -/
def vpl (P : Program) (n : Nat) (ops : Array Oper) (Q : Ex → Fr → World → Prop) (M : List Nat) (need : Nat → Bool) : List Nat → Fr → World → Prop
  | [], t, w => Q .normal t w
  | i :: l, t, w => match ops[i]? with
    | none => False
    | some o => match o.guard with
      | none => vopK P n o t w M (need i) fun v w' => vpl P n ops Q M need l (updO t o.dst v) w'
      | some (j, b) => Gd (gval ops n t j) b (vopK P n o t w M (need i) fun v w' => vpl P n ops Q M need l (updO t o.dst v) w') (vpl P n ops Q M need l (updO t o.dst undef) w)
def isRo (op : Op) : Bool := match way op with | .ro => true | _ => false
def waits (ops : Array Oper) (need : Nat → Bool) (i : Nat) : Bool :=
  (List.range ops.size).all fun j => need j || j == i || match ops[j]? with
    | some oj => oj.after.any fun e => Region.binds .any e && e.on == i
    | none => true
def planOk (ops : Array Oper) (need : Nat → Bool) : List Nat → Array Bool → Bool
  | [], listed => (Region.ready .any ops listed).isEmpty
  | i :: l, listed => (match ops[i]? with
    | none => false
    | some o => if isRo o.op then Region.free .any ops listed i && (Region.ready .any ops listed).contains i && waits ops need i else Region.ready .any ops listed == [i]) &&
      planOk ops need l (listed.setIfInBounds i true)
/-- Every operation but the last k must leave what stood. -/
def upTo (k : Nat) (i : Nat) : Bool := Nat.blt i k
end Go.V
