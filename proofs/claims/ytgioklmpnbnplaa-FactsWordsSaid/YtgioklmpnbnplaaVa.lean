/- The frame of a Go function as a function of slots; a verification condition that is reckoned along the code; its soundness over the walk's rules. Conditions: none. -/
import Derived.Tactics
import Derived.OrdersHeld
import Derived.Below
import Derived.Deep.LoopGhost
namespace Go.V
open Go.RowKit

abbrev Fr := Nat → Value
def upd (t : Fr) (i : Nat) (v : Value) : Fr := fun j => if j = i then v else t j
def updO (t : Fr) : Option Nat → Value → Fr
  | some d, v => upd t d v
  | none, _ => t
def act (n : Nat) (t : Fr) : Act := { tmps := Array.ofFn (n := n) fun i => t i, defers := [] }
def ev (n : Nat) (t : Fr) : Operand → Value
  | .tmp i => if i < n then t i else undef
  | .const v => v
  | .global g => .pointer (some ⟨g, 0, none⟩)
  | .func f => .func (.func f) #[] #[]
theorem act_eval (n : Nat) (t : Fr) (x : Operand) : (act n t).eval x = ev n t x := by
  cases x with
  | tmp i =>
    simp only [Act.eval, ev, act]
    by_cases h : i < n
    · simp [h]
    · simp [h]
  | _ => rfl
theorem act_eval' (n : Nat) (t : Fr) : (act n t).eval = ev n t := funext (act_eval n t)
theorem act_put (n : Nat) (t : Fr) (d : Option Nat) (v : Value) : (act n t).put d v = act n (updO t d v) := by
  cases d with
  | none => rfl
  | some d =>
    simp only [Act.put, act, updO]
    congr 1
    apply Array.ext
    · simp
    · intro i h1 h2
      simp at h1
      by_cases e : d = i
      · subst e; simp [upd]
      · have : i ≠ d := fun h => e h.symm
        rw [Array.getElem_setIfInBounds_ne (by simpa using h1) e]
        simp [upd, this]
/-- The ways out of a piece of code (a panic is none of them). -/
inductive Ex where
  | normal
  | exit (id : Nat)
  | goto (l : Nat)
  | ret
def lift (n : Nat) (Q : Ex → Fr → World → Prop) : Exit → Act → World → Prop
  | .normal, a, w => ∃ t, a = act n t ∧ Q .normal t w
  | .exit i, a, w => ∃ t, a = act n t ∧ Q (.exit i) t w
  | .goto i, a, w => ∃ t, a = act n t ∧ Q (.goto i) t w
  | .ret, a, w => ∃ t, a = act n t ∧ Q .ret t w
  | _, _, _ => False

/-- Function f has a body. -/
def goFn (P : Program) (f : Nat) : Prop := ∃ fn, P.funcs[f]? = some fn ∧ (fn.name == "runtime.NumGoroutine") = false ∧ fn.body.isNone = false
/-- The contract of a call that returns. -/
def Ok (P : Program) (f : Nat) (args : Array Value) (w : World) (R : Value → World → Prop) : Prop :=
  goFn P f ∧ Calls P f args w fun e w' => ∃ v, e = .returned v ∧ R v w'
theorem Ok.then {P : Program} {f : Nat} {args : Array Value} {w : World} {R K : Value → World → Prop} (h : Ok P f args w R) (k : ∀ v w', R v w' → K v w') : Ok P f args w K :=
  ⟨h.1, Calls.mono h.2 fun _ _ ⟨v, hv, hr⟩ => ⟨v, hv, k _ _ hr⟩⟩

/-! values -/
def intBin (op : BinOp) (k : IntKind) (x y : Int) : Option Value :=
  match op with
  | .add => some (.int k (k.wrap (x + y)))
  | .sub => some (.int k (k.wrap (x - y)))
  | .mul => some (.int k (k.wrap (x * y)))
  | .quo => if y = 0 then none else some (.int k (k.wrap (x.tdiv y)))
  | .rem => if y = 0 then none else some (.int k (x.tmod y))
  | .eql => some (.bool (decide (x = y)))
  | .neq => some (.bool (!decide (x = y)))
  | .lss => some (.bool (decide (x < y)))
  | .leq => some (.bool (decide (x ≤ y)))
  | .gtr => some (.bool (decide (y < x)))
  | .geq => some (.bool (decide (y ≤ x)))
  | .and => some (.int k (k.wrap (BitVec.ofInt k.bits x &&& BitVec.ofInt k.bits y).toNat))
  | .xor => some (.int k (k.wrap (BitVec.ofInt k.bits x ^^^ BitVec.ofInt k.bits y).toNat))
  | _ => none
def binV (op : BinOp) (x y : Value) : Option Value :=
  match x, y with
  | .int k a, .int k' b =>
    match op with
    | .shl => if b < 0 then none else some (.int k (k.wrap (a * 2 ^ (min b.toNat k.bits))))
    | .shr => if b < 0 then none else some (.int k (a.fdiv (2 ^ (min b.toNat k.bits))))
    | _ => if k = k' then intBin op k a b else none
  | .string a, .string b =>
    match op with
    | .eql => some (.bool (decide (a = b)))
    | .neq => some (.bool (!decide (a = b)))
    | .add => if a.size + b.size ≤ 9223372036854775807 then some (.string (a ++ b)) else none
    | .lss => some (.bool (Op.bytesLess a.toList b.toList))
    | _ => none
  | _, _ => none
/-- A pointer k cells behind the address A. -/
def pa (A : Option Addr) (k : Nat) : Value := .pointer (A.map (·.add k))
theorem add_add (a : Addr) (m n : Nat) : (a.add m).add n = a.add (m + n) := by
  unfold Addr.add
  by_cases hm : m = 0 <;> by_cases hn : n = 0 <;> simp [hm, hn]
  omega
theorem add_zero' (a : Addr) : a.add 0 = a := by simp [Addr.add]
/-- The cell k behind the address A. -/
def rd (w : World) (A : Option Addr) (k : Nat) : Option Value := A.bind fun a => w.cell? (a.add k)
def cellP (w : World) (v : Value) (j : Nat) : Option Value :=
  match v with
  | .pointer (some a) => w.cell? (a.add j)
  | _ => none
theorem cellP_pa (w : World) (A : Option Addr) (k j : Nat) : cellP w (pa A k) j = rd w A (k + j) := by
  cases A with
  | none => rfl
  | some a => simp [cellP, pa, rd, add_add]
def cellsL (w : World) (v : Value) (i : Nat) : Nat → Option (List Value)
  | 0 => some []
  | n + 1 => match cellP w v i with
    | some x => (cellsL w v (i + 1) n).map (x :: ·)
    | none => none
def ptrAdd (v : Value) (n : Nat) : Option Value :=
  match v with
  | .pointer (some a) => some (.pointer (some (a.add n)))
  | _ => none
theorem ptrAdd_pa {A : Option Addr} (h : A.isSome = true) (k n : Nat) : ptrAdd (pa A k) n = some (pa A (k + n)) := by
  cases A with
  | none => simp at h
  | some a => simp [ptrAdd, pa, add_add]
/-- How many cells a struct or an array has (some none: it is neither). -/
def aggN (P : Program) (T : TypeId) : Option (Option Nat) :=
  match P.underlying T with
  | some (.struct _) | some (.array _ _) => (P.info? T).map fun i => some i.size
  | some _ => some none
  | none => none
def ldV (P : Program) (T : TypeId) (w : World) (v : Value) : Option Value :=
  match aggN P T with
  | some none => cellP w v 0
  | some (some n) => if n = 0 then none else (cellsL w v 0 n).map fun l => .agg l.toArray
  | none => none
def foff (P : Program) (T : TypeId) (f : Nat) : Option Nat :=
  match P.underlying T with
  | some (.struct fields) => match fields[f]? with
    | some fd => match P.info? fd.type with
      | some i => if i.size = 0 then none else some fd.offset
      | none => none
    | none => none
  | _ => none
def faV (P : Program) (T : TypeId) (v : Value) (f : Nat) : Option Value := (foff P T f).bind (ptrAdd v)
/-- The size of a slice's elements. -/
def elT (P : Program) (T : TypeId) : Option Nat :=
  match P.underlying T with
  | some (.slice e) => (P.info? e).map (·.size)
  | _ => none
/-- Length and size of the elements of an array. -/
def arT (P : Program) (T : TypeId) : Option (Nat × Nat) :=
  match P.underlying T with
  | some (.array n e) => (P.info? e).map fun i => (n, i.size)
  | _ => none
def iaV (P : Program) (T : TypeId) (x i : Value) : Option Value :=
  match x, i with
  | .slice (some a) len _, .int _ j => match elT P T with
    | some s => if 0 ≤ j ∧ j < len then some (.pointer (some (a.add (j.toNat * s)))) else none
    | none => none
  | .pointer (some a), .int _ j => match arT P T with
    | some (n, s) => if 0 ≤ j ∧ j < n then some (.pointer (some (a.add (j.toNat * s)))) else none
    | none => none
  | _, _ => none
theorem iaV_slice {P : Program} {T : TypeId} {A : Option Addr} {len cap s : Nat} {k : IntKind} {j : Int} (he : elT P T = some s) (hA : A.isSome = true) (h0 : 0 ≤ j) (h1 : j < len) :
    iaV P T (.slice A len cap) (.int k j) = some (pa A (j.toNat * s)) := by
  cases A with
  | none => simp at hA
  | some a => simp [iaV, he, h0, h1, pa]
theorem iaV_array {P : Program} {T : TypeId} {A : Option Addr} {n s o : Nat} {k : IntKind} {j : Int} (he : arT P T = some (n, s)) (hA : A.isSome = true) (h0 : 0 ≤ j) (h1 : j < n) :
    iaV P T (pa A o) (.int k j) = some (pa A (o + j.toNat * s)) := by
  cases A with
  | none => simp at hA
  | some a => simp [iaV, he, h0, h1, pa, add_add]
def lenV (P : Program) (T : TypeId) (w : World) (v : Value) : Option Value :=
  match P.underlying T, v with
  | some .string, .string s => some (.int .i64 s.size)
  | some (.slice _), .slice _ n _ => some (.int .i64 n)
  | some (.map _ _), .map none => some (.int .i64 0)
  | some (.map _ _), .map (some r) => match w.heap[r]? with
    | some (.map es _) => some (.int .i64 es.size)
    | _ => none
  | _, _ => none
def bnd (x : Option Value) (d y : Nat) : Option Nat :=
  match x with
  | none => some d
  | some (.int _ i) => if 0 ≤ i ∧ i ≤ y then some i.toNat else none
  | _ => none
def slV (P : Program) (T : TypeId) (x : Value) (lo hi mx : Option Value) : Option Value :=
  match P.underlying T, x with
  | some (.slice e), .slice a len cap =>
    match (P.info? e).map (·.size), bnd mx cap cap with
    | some s, some m => match bnd hi len m with
      | some h => match bnd lo 0 h with
        | some l => if mx.isSome ∧ hi.isNone then none else if hi.isNone ∧ m < len then none else some (.slice (if m = l then a else a.map (·.add (l * s))) (h - l) (m - l))
        | none => none
      | none => none
    | _, _ => none
  | some .string, .string s =>
    if mx.isSome then none else
    match bnd hi s.size s.size with
    | some h => match bnd lo 0 h with
      | some l => some (.string (s.extract l h))
      | none => none
    | none => none
  | _, _ => none
def minV : List Value → Option Value
  | [.int k x, .int _ y] => some (.int k (if y < x then y else x))
  | _ => none
def maxV : List Value → Option Value
  | [.int k x, .int _ y] => some (.int k (if x < y then y else x))
  | _ => none
/-- Whole numbers are turned into each other. -/
def cvV (P : Program) (S D : TypeId) (x : Value) : Option Value :=
  match P.underlying S, P.underlying D, x with
  | some (.int _), some (.int k), .int _ n => some (.int k (k.wrap n))
  | _, _, _ => none
/-- The bytes of a row. -/
def byV : Option Value → Option Int
  | some (.int .u8 z) => some z
  | _ => none
def bytesL (w : World) (A : Option Addr) : Nat → Nat → Option (List Int)
  | _, 0 => some []
  | i, n + 1 => (byV (rd w A i)).bind fun z => (bytesL w A (i + 1) n).map (z :: ·)
def strOf (l : List Int) : ByteArray := l.foldl (fun r n => r.push (UInt8.ofNat n.toNat)) ByteArray.empty
/-- A row of bytes is turned into a text, too. -/
def cvW (P : Program) (S D : TypeId) (w : World) (x : Value) : Option Value :=
  match cvV P S D x with
  | some v => some v
  | none => match P.underlying S, P.underlying D, x with
    | some (.slice e), some .string, .slice (some a) n _ => match P.underlying e with
      | some (.int .u8) => (bytesL w (some a) 0 n).map fun l => .string (strOf l)
      | _ => none
    | _, _, _ => none
/-- Comparisons whose sense hangs on the type. -/
def eqV (P : Program) (T : TypeId) (x y : Value) : Option Bool :=
  match P.underlying T, x, y with
  | some .bool, .bool a, .bool b => some (a == b)
  | some (.pointer _), .pointer none, .pointer b => some b.isNone
  | some (.pointer _), .pointer (some _), .pointer none => some false
  | some (.slice _), .slice none _ _, .slice b _ _ => some b.isNone
  | some (.slice _), .slice (some _) _ _, .slice none _ _ => some false
  | _, _, _ => none
def binT (P : Program) (op : BinOp) (T : TypeId) (x y : Value) : Option Value :=
  match binV op x y with
  | some v => some v
  | none => match op with
    | .eql => (eqV P T x y).map .bool
    | .neq => (eqV P T x y).map fun b => .bool (!b)
    | _ => none
def unV (op : UnOp) (x : Value) : Option Value :=
  match op, x with
  | .not, .bool b => some (.bool !b)
  | .neg, .int k n => some (.int k (k.wrap (0 - n)))
  | _, _ => none
def pickV (c a b : Value) : Option Value :=
  match c with
  | .bool x => some (if x then a else b)
  | _ => none
def extV (x : Value) (i : Nat) : Option Value :=
  match x with
  | .tuple vs => vs[i]?
  | _ => none
def nckV (x : Value) : Option Value :=
  match x with
  | .pointer (some a) => some (.pointer (some a))
  | _ => none
/-- What a lookup yields. -/
def lkV (c : Bool) (o : Option Value) (z : Value) : Value :=
  if c then .tuple #[o.getD z, .bool o.isSome] else o.getD z
def plainK (d : TypeDesc) : Bool := match d with | .int _ => true | .string => true | _ => false
/-- A lookup in a map whose keys are whole numbers or texts. -/
def lkO (P : Program) (T : TypeId) (w : World) (m k : Value) (c : Bool) : Option Value :=
  match P.underlying T with
  | some (.map kt et) => match P.underlying kt, (P.info? et).bind (·.zero) with
    | some d, some z => if plainK d = true then
        match m with
        | .map none => some (lkV c none z)
        | .map (some b) => match w.heap[b]? with
          | some (.map es _) => (Instr.findNow d k es.toList 0).map fun r => lkV c (r.map (·.2)) z
          | _ => none
        | _ => none
      else none
    | _, _ => none
  | _ => none
/-- A byte of a text. -/
def idxV (P : Program) (T : TypeId) (x i : Value) : Option Value :=
  match P.underlying T, x, i with
  | some .string, .string s, .int _ j => if 0 ≤ j then (s[j.toNat]?).map fun b => .int .u8 b.toNat else none
  | _, _, _ => none
/-- A struct that is written out. -/
def zeroC (P : Program) (T : TypeId) : Option (Array Value) := ((P.info? T).bind (·.zero)).map Value.cells
def bld (P : Program) (T : TypeId) (parts : Array (Nat × Value)) : Option Value :=
  match P.underlying T, zeroC P T with
  | some (.struct fields), some z =>
    match fields.mapM (fun f => (P.info? f.type).map fun i => (f.offset, i.size)) with
    | some pl => (Instr.fill (pl[·]?) z parts.toList).map .agg
    | none => none
  | _, _ => none
/-- What an operation that leaves the world alone yields. -/
def ro (P : Program) (n : Nat) (t : Fr) (w : World) : Op → Option Value
  | .move x => some (ev n t x)
  | .assign x => some (ev n t x)
  | .pick c a b => pickV (ev n t c) (ev n t a) (ev n t b)
  | .binOp op T x y _ => binT P op T (ev n t x) (ev n t y)
  | .unOp op _ x => unV op (ev n t x)
  | .extract x i => extV (ev n t x) i
  | .nilCheck x => nckV (ev n t x)
  | .load T a => ldV P T w (ev n t a)
  | .fieldAddr T a f => faV P T (ev n t a) f
  | .indexAddr T x i => iaV P T (ev n t x) (ev n t i)
  | .slice T x lo hi mx => slV P T (ev n t x) (lo.map (ev n t)) (hi.map (ev n t)) (mx.map (ev n t))
  | .makeFunc fn a b => some (.func fn (a.map (ev n t)) (b.map (ev n t)))
  | .convert S D x => cvW P S D w (ev n t x)
  | .lookup T m k c => lkO P T w (ev n t m) (ev n t k) c
  | .index T x i => idxV P T (ev n t x) (ev n t i)
  | .build T parts => bld P T (parts.map fun x : Nat × Operand => (x.1, ev n t x.2))
  | .call c => match c.callee with
    | .builtin .len => match c.args.toList, c.argTypes.toList with
      | [x], [T] => lenV P T w (ev n t x)
      | _, _ => none
    | .builtin .min => minV (c.args.toList.map (ev n t))
    | .builtin .max => maxV (c.args.toList.map (ev n t))
    | _ => none
  | _ => none
end Go.V
