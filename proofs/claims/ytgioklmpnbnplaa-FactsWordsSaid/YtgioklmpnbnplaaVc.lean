/- The verification condition of an operation, of a region, of a function's code, and its soundness. Conditions: none. -/
import Derived.Test.YtgioklmpnbnplaaVb
set_option linter.unusedSimpArgs false
set_option linter.unusedVariables false
namespace Go.V
open Go.RowKit

/-- A value is there, and k holds of it. -/
def Vl {α : Type} (x : Option α) (k : α → Prop) : Prop := ∃ v, x = some v ∧ k v
theorem Vl_some {α : Type} (v : α) (k : α → Prop) : Vl (some v) k = k v := by
  simp [Vl]
def szT (P : Program) (T : TypeId) : Option Nat := (P.info? T).map (·.size)
/-- One cell is written. -/
def setP (w : World) (v : Value) (j : Nat) (x : Value) : Option World :=
  match v with
  | .pointer (some a) => if (w.cell? (a.add j)).isSome = true ∧ w.frozen? (a.add j) = false ∧ x.oneCell' = true then some (w.setCell (a.add j) x) else none
  | _ => none
def stoL (w : World) (v : Value) (j : Nat) : List Value → Option World
  | [] => some w
  | x :: l => match setP w v j x with
    | some w' => stoL w' v (j + 1) l
    | none => none
def stoT (P : Program) (T : TypeId) (w : World) (p x : Value) : Option World :=
  match p with
  | .pointer (some a) => if szT P T = some x.cells.size then stoL w (.pointer (some a)) 0 x.cells.toList else none
  | _ => none
theorem stoL_sound {P : Program} {a : Addr} : ∀ (l : List Value) (w w' : World) (j : Nat), stoL w (.pointer (some a)) j l = some w' → (storeCells a l j).run P w = .ok () w'
  | [], w, w', j, h => by simp only [stoL, Option.some.injEq] at h; subst h; rfl
  | x :: l, w, w', j, h => by
    simp only [stoL] at h
    cases hs : setP w (.pointer (some a)) j x with
    | none => simp [hs] at h
    | some w1 =>
      simp only [hs] at h
      unfold setP at hs
      simp only at hs
      split at hs
      · rename_i hc
        obtain ⟨h1, h2, h3⟩ := hc
        simp only [Option.some.injEq] at hs; subst hs
        obtain ⟨u, hu⟩ := Option.isSome_iff_exists.1 h1
        simp only [storeCells, Sem.run_bind, run_store _ _ _ _ _ h3, hu, h2, Bool.false_eq_true, if_false, Result.andThen_ok]
        exact stoL_sound l _ _ _ h
      · cases hs
theorem stoT_sound {P : Program} {T : TypeId} {w w' : World} {p x : Value} (h : stoT P T w p x = some w') : (Instr.storeAt T p x).run P w = .ok () w' := by
  unfold stoT at h
  split at h
  · rename_i a
    split at h
    · rename_i hs
      unfold szT at hs
      cases hi : P.info? T with
      | none => simp [hi] at hs
      | some i =>
        simp only [hi, Option.map_some, Option.some.injEq] at hs
        simp only [Instr.storeAt, Instr.sureAddr, storeVar, Sem.run_bind, Sem.run_pure, Result.andThen_ok, run_sizeOf P w T i hi, Sem.run_ite, ne_eq, hs, not_true_eq_false, if_false]
        exact stoL_sound _ _ _ _ h
    · cases h
  · cases h
/-- The cells of a literal slice. -/
def bslC (P : Program) (T : TypeId) (len : Nat) (parts : Array (Nat × Value)) : Option (Array Value × TypeId) :=
  match P.underlying T with
  | some (.slice e) => match P.info? e with
    | some i => if len * i.size > 2 ^ 24 then none else
      match (if len * i.size = 0 then some #[] else i.zero.map Value.cells) with
      | some zero => (Instr.fill (fun k => some (k * i.size, i.size)) ((Array.range (len * i.size)).map (zero[· % zero.size]!)) parts.toList).map fun c => (c, e)
      | none => none
    | none => none
  | _ => none
theorem bslC_sound {P : Program} {T e : TypeId} {len : Nat} {parts : Array (Nat × Value)} {cs : Array Value} {w : World} (h : bslC P T len parts = some (cs, e)) :
    (Instr.buildSlice T len parts).run P w = .ok (.slice (some ⟨w.heap.size, 0, none⟩) len len) (w.alloc (.cells cs e)) := by
  unfold bslC at h
  split at h
  · rename_i e' hu
    cases hi : P.info? e' with
    | none => simp [hi] at h
    | some i =>
      simp only [hi] at h
      split at h
      · cases h
      rename_i hsz
      cases hz : (if len * i.size = 0 then some #[] else i.zero.map Value.cells) with
      | none => simp [hz] at h
      | some zero =>
        simp only [hz] at h
        cases hf : Instr.fill (fun k => some (k * i.size, i.size)) ((Array.range (len * i.size)).map (zero[· % zero.size]!)) parts.toList with
        | none => simp [hf] at h
        | some c =>
          simp only [hf, Option.map_some, Option.some.injEq, Prod.mk.injEq] at h
          obtain ⟨rfl, rfl⟩ := h
          simp only [Instr.buildSlice, Sem.run_bind, run_underlying P w T _ hu, Result.andThen_ok, run_sizeOf P w _ i hi]
          simp only [hsz, if_false, Sem.run_bind]
          by_cases h0 : len * i.size = 0
          · simp only [h0, if_true, Option.some.injEq] at hz; subst hz
            simp only [h0, if_true, Sem.run_bind, Sem.run_pure, Result.andThen_ok] at hf ⊢
            simp only [hf]; rfl
          · simp only [h0, if_false] at hz ⊢
            cases hzz : i.zero with
            | none => simp [hzz] at hz
            | some z =>
              simp only [hzz, Option.map_some, Option.some.injEq] at hz; subst hz
              have : (zeroValue e').run P w = .ok z w := by simp [zeroValue, run_typeInfo P w _ i hi, hzz]
              simp only [Sem.run_bind, this, Result.andThen_ok, Sem.run_pure, hf]; rfl
  · cases h
def mkSl (P : Program) (T : TypeId) (l c : Value) : Option (Nat × Array Value × TypeId) :=
  match P.underlying T, l, c with
  | some (.slice e), .int .i64 m, .int .i64 m' => match P.info? e with
    | some i => match i.zero with
      | some z => if m = m' ∧ 0 ≤ m ∧ i.bytes * m ≤ 2 ^ 47 ∧ m ≤ 9223372036854775807 ∧ z.cells.size = 1 ∧ i.size = 1 then some (m.toNat, Array.replicate m.toNat (z.cells[0]!), e) else none
      | none => none
    | none => none
  | _, _, _ => none
/-- What becomes of the world where an operation changes it: the value, the world behind it. -/
def stp (P : Program) (n : Nat) (t : Fr) (w : World) (op : Op) (K : Value → World → Prop) : Prop :=
  match op with
  | .alloc T => ∃ z, zeroC P T = some z ∧ K (pa (some ⟨w.heap.size, 0, none⟩) 0) (w.alloc (.cells z T))
  | .box T x => K (pa (some ⟨w.heap.size, 0, none⟩) 0) (w.alloc (.cells (ev n t x).cells T))
  | .buildSlice T len parts => ∃ cs e, bslC P T len (parts.map fun (i, x) => (i, ev n t x)) = some (cs, e) ∧ K (.slice (some ⟨w.heap.size, 0, none⟩) len len) (w.alloc (.cells cs e))
  | .store T a x => ∃ w', stoT P T w (ev n t a) (ev n t x) = some w' ∧ K undef w'
  | .makeMap _ none => K (.map (some w.heap.size)) (w.alloc (.map #[] 0))
  | .call c => match c.callee with
    | .value f => match ev n t f with
      | .func (.func g) first captured => Ok P g (first ++ c.args.map (ev n t) ++ captured) w K
      | _ => False
    | _ => False
  | _ => False
/-- What is left to the laws of the walk: the operation's own run. -/
def Raw (P : Program) (n : Nat) (t : Fr) (w : World) (o : Oper) (K : Value → World → Prop) : Prop :=
  ∃ nx w', (execOp (ev n t) o).run P w = .ok nx w' ∧ match nx with
    | .value v => K v w'
    | .skip => K undef w'
    | _ => False
inductive Way where | ro | st | raw
/-- By which way an operation goes. -/
def way : Op → Way
  | .move _ | .assign _ | .pick .. | .binOp .. | .unOp .. | .extract .. | .nilCheck _ | .load .. | .fieldAddr .. | .indexAddr .. | .slice .. | .makeFunc .. | .convert .. | .lookup .. | .index .. | .build .. => .ro
  | .alloc _ | .box .. | .buildSlice .. | .store .. | .makeMap _ none => .st
  | .call c => match c.callee with
    | .value _ => .st
    | .builtin .len | .builtin .min | .builtin .max => .ro
    | _ => .raw
  | _ => .raw
def vop (P : Program) (n : Nat) (o : Oper) (t : Fr) (w : World) (K : Value → World → Prop) : Prop :=
  match way o.op with
  | .ro => Vl (ro P n t w o.op) fun v => K v w
  | .st => stp P n t w o.op K
  | .raw => Raw P n t w o K
theorem stp_sound {P : Program} {n : Nat} {t : Fr} {w : World} {o : Oper} {K : Value → World → Prop} {next : Act → World → Prop} {Q : Exit → Act → World → Prop}
    (h : stp P n t w o.op K) (hK : ∀ v w', K v w' → next ((act n t).put o.dst v) w') : o.upon P (act n t) next Q ((execOp (ev n t) o).run P w) := by
  obtain ⟨dst, op, type, pos, after, guard⟩ := o
  simp only at h
  unfold stp at h
  split at h
  · rename_i T
    obtain ⟨z, hz, hk⟩ := h
    unfold zeroC at hz
    cases hi : P.info? T with
    | none => simp [hi] at hz
    | some i =>
      cases hzz : i.zero with
      | none => simp [hi, hzz] at hz
      | some z' =>
        simp only [hi, Option.bind_some, hzz, Option.map_some, Option.some.injEq] at hz; subst hz
        have hr : (zeroValue T).run P w = .ok z' w := by simp [zeroValue, run_typeInfo P w _ i hi, hzz]
        simp only [execOp, Instr.alloc, Sem.run_bind, hr, Result.andThen_ok]
        exact hK _ _ hk
  · exact hK _ _ h
  · rename_i T len parts
    obtain ⟨cs, e, hc, hk⟩ := h
    have := bslC_sound (w := w) hc
    simp only [execOp, Sem.run_bind, this, Result.andThen_ok]
    exact hK _ _ hk
  · obtain ⟨w', hs, hk⟩ := h
    simp only [execOp, Sem.run_bind, stoT_sound hs, Result.andThen_ok]
    exact hK _ _ hk
  · exact hK _ _ h
  · rename_i c
    obtain ⟨callee, args, argTypes⟩ := c
    split at h
    · rename_i f hf
      simp only at hf; subst hf
      split at h
      · rename_i g first captured hg
        obtain ⟨⟨fn, hfn, hname, hbody⟩, hc⟩ := h
        simp only [execOp, resolve, hg, Deferred.ofValue, Sem.run_bind, Sem.run_pure, Result.andThen_ok, invoke, callFunc, run_program, hfn, hname, hbody, Bool.false_eq_true, if_false]
        exact Calls.mono hc fun e w' ⟨v, hv, hr⟩ => by subst hv; exact hK _ _ hr
      · exact h.elim
    · exact h.elim
  · exact h.elim
theorem vop_sound {P : Program} {n : Nat} {t : Fr} {w : World} {o : Oper} {K : Value → World → Prop} {next : Act → World → Prop} {Q : Exit → Act → World → Prop}
    (h : vop P n o t w K) (hK : ∀ v w', K v w' → next ((act n t).put o.dst v) w') : o.wp P (act n t) w next Q := by
  unfold Oper.wp
  rw [act_eval']
  unfold vop at h
  split at h
  · obtain ⟨v, hv, hk⟩ := h
    rw [ro_sound hv]
    exact hK _ _ hk
  · exact stp_sound h hK
  · obtain ⟨nx, w', hr, hk⟩ := h
    rw [hr]
    cases nx <;> simp only at hk <;> first | exact hK _ _ hk | exact hk.elim
end Go.V
