/- The frame of a Go function as a function of slots; a verification condition that is reckoned along the code; its soundness over the walk's rules; The soundness of the values that operations yield which leave the world alone; The verification condition of an operation, of a region, of a function's code, and its soundness; Regions in text order and regions that draw their order; code; the entry of a function; The plan of a region that draws is sound; the verification condition of a function's code; the entry of a function; The equations by which a verification condition is reckoned; The equations by which a verification condition is reckoned, as one bundle; Memory: what a cell holds behind an allocation, a store, a call; how slices read; How slices read as lists; what stays where a world has grown; Slices that a call owns: made, appended to, written. Conditions: none. -/
import Derived.Tactics
import Derived.OrdersHeld
import Derived.Below
import Derived.Deep.LoopGhost
import Derived.WalkKit
import Derived.Laws.BytesString
import Derived.Laws.AppendOwn
import Derived.Maps.AppendAt
set_option linter.unusedSimpArgs false
set_option linter.unusedVariables false
namespace Go.V
open Go.RowKit

abbrev Fr := Nat → Value
def upd (t : Fr) (i : Nat) (v : Value) : Fr := fun j => if j = i then v else t j
def updO (t : Fr) : Option Nat → Value → Fr
  | some d, v => upd t d v
  | none, _ => t
def act (n : Nat) (t : Fr) : Act := { tmps := Array.ofFn (n := n) fun i => t i, defers := [] }
def ev (n : Nat) (t : Fr) : Operand → Value
  | .tmp i => if i < n then t i else undef
  | .const v => v
  | .global g => .pointer (some ⟨g, 0, none⟩)
  | .func f => .func (.func f) #[] #[]
theorem act_eval (n : Nat) (t : Fr) (x : Operand) : (act n t).eval x = ev n t x := by
  cases x with
  | tmp i =>
    simp only [Act.eval, ev, act]
    by_cases h : i < n
    · simp [h]
    · simp [h]
  | _ => rfl
theorem act_eval' (n : Nat) (t : Fr) : (act n t).eval = ev n t := funext (act_eval n t)
theorem act_put (n : Nat) (t : Fr) (d : Option Nat) (v : Value) : (act n t).put d v = act n (updO t d v) := by
  cases d with
  | none => rfl
  | some d =>
    simp only [Act.put, act, updO]
    congr 1
    apply Array.ext
    · simp
    · intro i h1 h2
      simp at h1
      by_cases e : d = i
      · subst e; simp [upd]
      · have : i ≠ d := fun h => e h.symm
        rw [Array.getElem_setIfInBounds_ne (by simpa using h1) e]
        simp [upd, this]
/-- The ways out of a piece of code (a panic is none of them). -/
inductive Ex where
  | normal
  | exit (id : Nat)
  | goto (l : Nat)
  | ret
def lift (n : Nat) (Q : Ex → Fr → World → Prop) : Exit → Act → World → Prop
  | .normal, a, w => ∃ t, a = act n t ∧ Q .normal t w
  | .exit i, a, w => ∃ t, a = act n t ∧ Q (.exit i) t w
  | .goto i, a, w => ∃ t, a = act n t ∧ Q (.goto i) t w
  | .ret, a, w => ∃ t, a = act n t ∧ Q .ret t w
  | _, _, _ => False

/-- Function f has a body. -/
def goFn (P : Program) (f : Nat) : Prop := ∃ fn, P.funcs[f]? = some fn ∧ (fn.name == "runtime.NumGoroutine") = false ∧ fn.body.isNone = false
/-- The contract of a call that returns. -/
def Ok (P : Program) (f : Nat) (args : Array Value) (w : World) (R : Value → World → Prop) : Prop :=
  goFn P f ∧ Calls P f args w fun e w' => ∃ v, e = .returned v ∧ R v w'
theorem Ok.then {P : Program} {f : Nat} {args : Array Value} {w : World} {R K : Value → World → Prop} (h : Ok P f args w R) (k : ∀ v w', R v w' → K v w') : Ok P f args w K :=
  ⟨h.1, Calls.mono h.2 fun _ _ ⟨v, hv, hr⟩ => ⟨v, hv, k _ _ hr⟩⟩

/-! values -/
def intBin (op : BinOp) (k : IntKind) (x y : Int) : Option Value :=
  match op with
  | .add => some (.int k (k.wrap (x + y)))
  | .sub => some (.int k (k.wrap (x - y)))
  | .mul => some (.int k (k.wrap (x * y)))
  | .quo => if y = 0 then none else some (.int k (k.wrap (x.tdiv y)))
  | .rem => if y = 0 then none else some (.int k (x.tmod y))
  | .eql => some (.bool (decide (x = y)))
  | .neq => some (.bool (!decide (x = y)))
  | .lss => some (.bool (decide (x < y)))
  | .leq => some (.bool (decide (x ≤ y)))
  | .gtr => some (.bool (decide (y < x)))
  | .geq => some (.bool (decide (y ≤ x)))
  | .and => some (.int k (k.wrap (BitVec.ofInt k.bits x &&& BitVec.ofInt k.bits y).toNat))
  | .xor => some (.int k (k.wrap (BitVec.ofInt k.bits x ^^^ BitVec.ofInt k.bits y).toNat))
  | _ => none
def binV (op : BinOp) (x y : Value) : Option Value :=
  match x, y with
  | .int k a, .int k' b =>
    match op with
    | .shl => if b < 0 then none else some (.int k (k.wrap (a * 2 ^ (min b.toNat k.bits))))
    | .shr => if b < 0 then none else some (.int k (a.fdiv (2 ^ (min b.toNat k.bits))))
    | _ => if k = k' then intBin op k a b else none
  | .string a, .string b =>
    match op with
    | .eql => some (.bool (decide (a = b)))
    | .neq => some (.bool (!decide (a = b)))
    | .add => if a.size + b.size ≤ 9223372036854775807 then some (.string (a ++ b)) else none
    | .lss => some (.bool (Op.bytesLess a.toList b.toList))
    | _ => none
  | _, _ => none
/-- A pointer k cells behind the address A. -/
def pa (A : Option Addr) (k : Nat) : Value := .pointer (A.map (·.add k))
theorem add_add (a : Addr) (m n : Nat) : (a.add m).add n = a.add (m + n) := by
  unfold Addr.add
  by_cases hm : m = 0 <;> by_cases hn : n = 0 <;> simp [hm, hn]
  omega
theorem add_zero' (a : Addr) : a.add 0 = a := by simp [Addr.add]
/-- The cell k behind the address A. -/
def rd (w : World) (A : Option Addr) (k : Nat) : Option Value := A.bind fun a => w.cell? (a.add k)
def cellP (w : World) (v : Value) (j : Nat) : Option Value :=
  match v with
  | .pointer (some a) => w.cell? (a.add j)
  | _ => none
theorem cellP_pa (w : World) (A : Option Addr) (k j : Nat) : cellP w (pa A k) j = rd w A (k + j) := by
  cases A with
  | none => rfl
  | some a => simp [cellP, pa, rd, add_add]
def cellsL (w : World) (v : Value) (i : Nat) : Nat → Option (List Value)
  | 0 => some []
  | n + 1 => match cellP w v i with
    | some x => (cellsL w v (i + 1) n).map (x :: ·)
    | none => none
def ptrAdd (v : Value) (n : Nat) : Option Value :=
  match v with
  | .pointer (some a) => some (.pointer (some (a.add n)))
  | _ => none
theorem ptrAdd_pa {A : Option Addr} (h : A.isSome = true) (k n : Nat) : ptrAdd (pa A k) n = some (pa A (k + n)) := by
  cases A with
  | none => simp at h
  | some a => simp [ptrAdd, pa, add_add]
/-- How many cells a struct or an array has (some none: it is neither). -/
def aggN (P : Program) (T : TypeId) : Option (Option Nat) :=
  match P.underlying T with
  | some (.struct _) | some (.array _ _) => (P.info? T).map fun i => some i.size
  | some _ => some none
  | none => none
def ldV (P : Program) (T : TypeId) (w : World) (v : Value) : Option Value :=
  match aggN P T with
  | some none => cellP w v 0
  | some (some n) => if n = 0 then none else (cellsL w v 0 n).map fun l => .agg l.toArray
  | none => none
def foff (P : Program) (T : TypeId) (f : Nat) : Option Nat :=
  match P.underlying T with
  | some (.struct fields) => match fields[f]? with
    | some fd => match P.info? fd.type with
      | some i => if i.size = 0 then none else some fd.offset
      | none => none
    | none => none
  | _ => none
def faV (P : Program) (T : TypeId) (v : Value) (f : Nat) : Option Value := (foff P T f).bind (ptrAdd v)
/-- The size of a slice's elements. -/
def elT (P : Program) (T : TypeId) : Option Nat :=
  match P.underlying T with
  | some (.slice e) => (P.info? e).map (·.size)
  | _ => none
/-- Length and size of the elements of an array. -/
def arT (P : Program) (T : TypeId) : Option (Nat × Nat) :=
  match P.underlying T with
  | some (.array n e) => (P.info? e).map fun i => (n, i.size)
  | _ => none
def iaV (P : Program) (T : TypeId) (x i : Value) : Option Value :=
  match x, i with
  | .slice (some a) len _, .int _ j => match elT P T with
    | some s => if 0 ≤ j ∧ j < len then some (.pointer (some (a.add (j.toNat * s)))) else none
    | none => none
  | .pointer (some a), .int _ j => match arT P T with
    | some (n, s) => if 0 ≤ j ∧ j < n then some (.pointer (some (a.add (j.toNat * s)))) else none
    | none => none
  | _, _ => none
theorem iaV_slice {P : Program} {T : TypeId} {A : Option Addr} {len cap s : Nat} {k : IntKind} {j : Int} (he : elT P T = some s) (hA : A.isSome = true) (h0 : 0 ≤ j) (h1 : j < len) :
    iaV P T (.slice A len cap) (.int k j) = some (pa A (j.toNat * s)) := by
  cases A with
  | none => simp at hA
  | some a => simp [iaV, he, h0, h1, pa]
theorem iaV_array {P : Program} {T : TypeId} {A : Option Addr} {n s o : Nat} {k : IntKind} {j : Int} (he : arT P T = some (n, s)) (hA : A.isSome = true) (h0 : 0 ≤ j) (h1 : j < n) :
    iaV P T (pa A o) (.int k j) = some (pa A (o + j.toNat * s)) := by
  cases A with
  | none => simp at hA
  | some a => simp [iaV, he, h0, h1, pa, add_add]
def lenV (P : Program) (T : TypeId) (w : World) (v : Value) : Option Value :=
  match P.underlying T, v with
  | some .string, .string s => some (.int .i64 s.size)
  | some (.slice _), .slice _ n _ => some (.int .i64 n)
  | some (.map _ _), .map none => some (.int .i64 0)
  | some (.map _ _), .map (some r) => match w.heap[r]? with
    | some (.map es _) => some (.int .i64 es.size)
    | _ => none
  | _, _ => none
def bnd (x : Option Value) (d y : Nat) : Option Nat :=
  match x with
  | none => some d
  | some (.int _ i) => if 0 ≤ i ∧ i ≤ y then some i.toNat else none
  | _ => none
def slV (P : Program) (T : TypeId) (x : Value) (lo hi mx : Option Value) : Option Value :=
  match P.underlying T, x with
  | some (.slice e), .slice a len cap =>
    match (P.info? e).map (·.size), bnd mx cap cap with
    | some s, some m => match bnd hi len m with
      | some h => match bnd lo 0 h with
        | some l => if mx.isSome ∧ hi.isNone then none else if hi.isNone ∧ m < len then none else some (.slice (if m = l then a else a.map (·.add (l * s))) (h - l) (m - l))
        | none => none
      | none => none
    | _, _ => none
  | some .string, .string s =>
    if mx.isSome then none else
    match bnd hi s.size s.size with
    | some h => match bnd lo 0 h with
      | some l => some (.string (s.extract l h))
      | none => none
    | none => none
  | _, _ => none
def minV : List Value → Option Value
  | [.int k x, .int _ y] => some (.int k (if y < x then y else x))
  | _ => none
def maxV : List Value → Option Value
  | [.int k x, .int _ y] => some (.int k (if x < y then y else x))
  | _ => none
/-- Whole numbers are turned into each other. -/
def cvV (P : Program) (S D : TypeId) (x : Value) : Option Value :=
  match P.underlying S, P.underlying D, x with
  | some (.int _), some (.int k), .int _ n => some (.int k (k.wrap n))
  | _, _, _ => none
/-- The bytes of a row. -/
def byV : Option Value → Option Int
  | some (.int .u8 z) => some z
  | _ => none
def bytesL (w : World) (A : Option Addr) : Nat → Nat → Option (List Int)
  | _, 0 => some []
  | i, n + 1 => (byV (rd w A i)).bind fun z => (bytesL w A (i + 1) n).map (z :: ·)
def strOf (l : List Int) : ByteArray := l.foldl (fun r n => r.push (UInt8.ofNat n.toNat)) ByteArray.empty
/-- A row of bytes is turned into a text, too. -/
def cvW (P : Program) (S D : TypeId) (w : World) (x : Value) : Option Value :=
  match cvV P S D x with
  | some v => some v
  | none => match P.underlying S, P.underlying D, x with
    | some (.slice e), some .string, .slice (some a) n _ => match P.underlying e with
      | some (.int .u8) => (bytesL w (some a) 0 n).map fun l => .string (strOf l)
      | _ => none
    | _, _, _ => none
/-- Comparisons whose sense hangs on the type. -/
def eqV (P : Program) (T : TypeId) (x y : Value) : Option Bool :=
  match P.underlying T, x, y with
  | some .bool, .bool a, .bool b => some (a == b)
  | some (.pointer _), .pointer none, .pointer b => some b.isNone
  | some (.pointer _), .pointer (some _), .pointer none => some false
  | some (.slice _), .slice none _ _, .slice b _ _ => some b.isNone
  | some (.slice _), .slice (some _) _ _, .slice none _ _ => some false
  | _, _, _ => none
def binT (P : Program) (op : BinOp) (T : TypeId) (x y : Value) : Option Value :=
  match binV op x y with
  | some v => some v
  | none => match op with
    | .eql => (eqV P T x y).map .bool
    | .neq => (eqV P T x y).map fun b => .bool (!b)
    | _ => none
def unV (op : UnOp) (x : Value) : Option Value :=
  match op, x with
  | .not, .bool b => some (.bool !b)
  | .neg, .int k n => some (.int k (k.wrap (0 - n)))
  | _, _ => none
def pickV (c a b : Value) : Option Value :=
  match c with
  | .bool x => some (if x then a else b)
  | _ => none
def extV (x : Value) (i : Nat) : Option Value :=
  match x with
  | .tuple vs => vs[i]?
  | _ => none
def nckV (x : Value) : Option Value :=
  match x with
  | .pointer (some a) => some (.pointer (some a))
  | _ => none
/-- What a lookup yields. -/
def lkV (c : Bool) (o : Option Value) (z : Value) : Value :=
  if c then .tuple #[o.getD z, .bool o.isSome] else o.getD z
def plainK (d : TypeDesc) : Bool := match d with | .int _ => true | .string => true | _ => false
/-- A key of three whole numbers. -/
def asTri (v : Value) : Option (Int × Int × Int) :=
  match v with
  | .agg cs => match cs.toList with
    | [.int .i64 a, .int .i64 b, .int .i64 c] => some (a, b, c)
    | _ => none
  | _ => none
def triF (P : Program) (f : Field) (o : Nat) : Bool := (match P.underlying f.type with | some (.int .i64) => true | _ => false) && f.offset == o && f.name != "_"
/-- The type is a struct of three whole numbers. -/
def triB (P : Program) (kt : TypeId) : Bool :=
  match P.underlying kt with
  | some (.struct fs) => match fs.toList with
    | [f, g, h] => triF P f 0 && triF P g 1 && triF P h 2 && !P.stoodInHeld kt
    | _ => false
  | _ => false
def findT (k : Int × Int × Int) : List MapEntry → Nat → Option (Option (Nat × Value))
  | [], _ => some none
  | e :: es, i => match asTri e.key with
    | some x => if k = x then some (some (i, e.val)) else findT k es (i + 1)
    | none => none
def findO (P : Program) (kt : TypeId) (k : Value) (es : List MapEntry) : Option (Option (Nat × Value)) :=
  match P.underlying kt with
  | some d => if plainK d = true then Instr.findNow d k es 0 else if triB P kt = true then (asTri k).bind fun x => findT x es 0 else none
  | none => none
/-- A lookup in a map whose keys are whole numbers, texts, or structs of three whole numbers. -/
def lkO (P : Program) (T : TypeId) (w : World) (m k : Value) (c : Bool) : Option Value :=
  match P.underlying T with
  | some (.map kt et) => match (P.info? et).bind (·.zero) with
    | some z => match m with
      | .map none => (findO P kt k []).map fun r => lkV c (r.map (·.2)) z
      | .map (some b) => match w.heap[b]? with
        | some (.map es _) => (findO P kt k es.toList).map fun r => lkV c (r.map (·.2)) z
        | _ => none
      | _ => none
    | _ => none
  | _ => none
/-- A byte of a text. -/
def idxV (P : Program) (T : TypeId) (x i : Value) : Option Value :=
  match P.underlying T, x, i with
  | some .string, .string s, .int _ j => if 0 ≤ j then (s[j.toNat]?).map fun b => .int .u8 b.toNat else none
  | _, _, _ => none
/-- A struct that is written out. -/
def zeroC (P : Program) (T : TypeId) : Option (Array Value) := ((P.info? T).bind (·.zero)).map Value.cells
def bld (P : Program) (T : TypeId) (parts : Array (Nat × Value)) : Option Value :=
  match P.underlying T, zeroC P T with
  | some (.struct fields), some z =>
    match fields.mapM (fun f => (P.info? f.type).map fun i => (f.offset, i.size)) with
    | some pl => (Instr.fill (pl[·]?) z parts.toList).map .agg
    | none => none
  | _, _ => none
/-- What an operation that leaves the world alone yields. -/
def ro (P : Program) (n : Nat) (t : Fr) (w : World) : Op → Option Value
  | .move x => some (ev n t x)
  | .assign x => some (ev n t x)
  | .pick c a b => pickV (ev n t c) (ev n t a) (ev n t b)
  | .binOp op T x y _ => binT P op T (ev n t x) (ev n t y)
  | .unOp op _ x => unV op (ev n t x)
  | .extract x i => extV (ev n t x) i
  | .nilCheck x => nckV (ev n t x)
  | .load T a => ldV P T w (ev n t a)
  | .fieldAddr T a f => faV P T (ev n t a) f
  | .indexAddr T x i => iaV P T (ev n t x) (ev n t i)
  | .slice T x lo hi mx => slV P T (ev n t x) (lo.map (ev n t)) (hi.map (ev n t)) (mx.map (ev n t))
  | .makeFunc fn a b => some (.func fn (a.map (ev n t)) (b.map (ev n t)))
  | .convert S D x => cvW P S D w (ev n t x)
  | .lookup T m k c => lkO P T w (ev n t m) (ev n t k) c
  | .index T x i => idxV P T (ev n t x) (ev n t i)
  | .build T parts => bld P T (parts.map fun x : Nat × Operand => (x.1, ev n t x.2))
  | .call c => match c.callee with
    | .builtin .len => match c.args.toList, c.argTypes.toList with
      | [x], [T] => lenV P T w (ev n t x)
      | _, _ => none
    | .builtin .min => minV (c.args.toList.map (ev n t))
    | .builtin .max => maxV (c.args.toList.map (ev n t))
    | _ => none
  | _ => none
end Go.V
namespace Go.V
open Go.RowKit

theorem run_underlying (P : Program) (w : World) (t : TypeId) (d : TypeDesc) (h : P.underlying t = some d) : (underlying t).run P w = .ok d w := by
  simp [underlying, h]
theorem run_typeInfo (P : Program) (w : World) (t : TypeId) (i : TypeInfo) (h : P.info? t = some i) : (typeInfo t).run P w = .ok i w := by
  simp [typeInfo, h]
theorem run_sizeOf (P : Program) (w : World) (t : TypeId) (i : TypeInfo) (h : P.info? t = some i) : (sizeOf t).run P w = .ok i.size w := by
  simp [sizeOf, run_typeInfo P w t i h]
theorem underlying_some {P : Program} {t : TypeId} {d : TypeDesc} (h : P.underlying t = some d) : ∃ i, P.info? t = some i := by
  unfold Program.underlying at h
  cases hi : P.info? t with
  | none => simp [hi] at h
  | some i => exact ⟨i, rfl⟩
theorem run_isAgg (P : Program) (w : World) (t : TypeId) (d : TypeDesc) (h : P.underlying t = some d) :
    (isAgg t).run P w = .ok (match d with | .struct _ | .array _ _ => true | _ => false) w := by
  simp only [isAgg, Sem.run_bind, run_underlying P w t d h, Result.andThen_ok]
  cases d <;> rfl
theorem aggN_some {P : Program} {T : TypeId} {o : Option Nat} (h : aggN P T = some o) (w : World) :
    (isAgg T).run P w = .ok o.isSome w ∧ ∀ n, o = some n → (sizeOf T).run P w = .ok n w := by
  unfold aggN at h
  cases hu : P.underlying T with
  | none => simp [hu] at h
  | some d =>
    obtain ⟨i, hi⟩ := underlying_some hu
    rw [run_isAgg P w T d hu]
    have hz := run_sizeOf P w T i hi
    cases d <;> simp only [hu, hi, Option.map_some, Option.some.injEq] at h <;> subst h <;> simp [hz]
theorem run_load_some {P : Program} {w : World} {a : Addr} {v : Value} (h : w.cell? a = some v) (m : Mode) : (load a m).run P w = .ok v w := by
  simp [h]
theorem run_loadCellsL {P : Program} {w : World} {a : Addr} : ∀ (n i : Nat) (acc : Array Value) (l : List Value), cellsL w (.pointer (some a)) i n = some l →
    (loadCellsFrom a i n acc).run P w = .ok (acc ++ l.toArray) w
  | 0, i, acc, l, h => by
    simp only [cellsL, Option.some.injEq] at h; subst h
    simp [loadCellsFrom]
  | n + 1, i, acc, l, h => by
    simp only [cellsL] at h
    cases hc : cellP w (.pointer (some a)) i with
    | none => simp [hc] at h
    | some x =>
      simp only [hc] at h
      cases hr : cellsL w (.pointer (some a)) (i + 1) n with
      | none => simp [hr] at h
      | some l' =>
        simp only [hr, Option.map_some, Option.some.injEq] at h
        subst h
        have hc' : w.cell? (a.add i) = some x := hc
        simp only [loadCellsFrom, Sem.run_bind, run_load_some hc', Result.andThen_ok]
        rw [run_loadCellsL n (i + 1) (acc.push x) l' hr]
        simp
theorem ldV_sound {P : Program} {T : TypeId} {w : World} {v u : Value} (h : ldV P T w v = some u) : (Instr.loadAt T v).run P w = .ok u w := by
  unfold ldV at h
  cases ho : aggN P T with
  | none => simp [ho] at h
  | some o =>
    obtain ⟨h1, h2⟩ := aggN_some ho w
    cases v with
    | pointer a =>
      cases a with
      | none => cases o with
        | none => simp [ho, cellP] at h
        | some n =>
          simp only [ho] at h
          cases n with
          | zero => simp at h
          | succ n => simp [cellsL, cellP] at h
      | some a =>
        have hs : (Instr.sureAddr (.pointer (some a))).run P w = .ok a w := rfl
        simp only [Instr.loadAt, loadVar, Sem.run_bind, hs, Result.andThen_ok, h1]
        cases o with
        | none =>
          simp only [ho] at h
          have h' : w.cell? (a.add 0) = some u := h
          rw [add_zero'] at h'
          simp [h']
        | some n =>
          simp only [ho] at h
          cases hl : cellsL w (.pointer (some a)) 0 n with
          | none => simp [hl] at h
          | some l =>
            by_cases hn : n = 0
            · simp [hn] at h
            simp only [hn, if_false, hl, Option.map_some, Option.some.injEq] at h
            subst h
            simp only [Option.isSome, if_true, Sem.run_bind, h2 n rfl, Result.andThen_ok]
            simp only [loadCells, Sem.run_pure]
            rw [run_loadCellsL n 0 #[] l hl]
            simp
    | _ => cases o with
      | none => simp [ho, cellP] at h
      | some n =>
        simp only [ho] at h
        cases n with
        | zero => simp at h
        | succ n => simp [cellsL, cellP] at h
theorem ptrAdd_some {v u : Value} {n : Nat} (h : ptrAdd v n = some u) : ∃ a, v = .pointer (some a) ∧ u = .pointer (some (a.add n)) := by
  unfold ptrAdd at h
  split at h
  · rename_i a; exact ⟨a, rfl, by simpa using h.symm⟩
  · cases h
theorem faV_sound {P : Program} {T : TypeId} {w : World} {v u : Value} {f : Nat} (h : faV P T v f = some u) : (Instr.fieldAt T v f).run P w = .ok u w := by
  unfold faV at h
  cases hf : foff P T f with
  | none => simp [hf] at h
  | some off =>
    simp only [hf, Option.bind_some] at h
    obtain ⟨a, rfl, rfl⟩ := ptrAdd_some h
    unfold foff at hf
    cases hu : P.underlying T with
    | none => simp [hu] at hf
    | some d =>
      cases d <;> simp only [hu] at hf <;> try (cases hf; done)
      rename_i fields
      cases hfd : fields[f]? with
      | none => simp [hfd] at hf
      | some fd =>
        simp only [hfd] at hf
        cases hi : P.info? fd.type with
        | none => simp [hi] at hf
        | some i =>
          simp only [hi] at hf
          by_cases hz : i.size = 0
          · simp [hz] at hf
          · simp only [hz, if_false, Option.some.injEq] at hf
            subst hf
            simp [Instr.fieldAt, run_underlying P w T _ hu, hfd, Instr.sureAddr, fieldPlace, run_sizeOf P w _ i hi, hz]
theorem elT_some {P : Program} {T : TypeId} {s : Nat} (h : elT P T = some s) : ∃ e i, P.underlying T = some (.slice e) ∧ P.info? e = some i ∧ i.size = s := by
  unfold elT at h
  split at h
  · rename_i e he
    cases hi : P.info? e with
    | none => simp [hi] at h
    | some i => exact ⟨e, i, he, hi, by simpa [hi] using h⟩
  · cases h
theorem arT_some {P : Program} {T : TypeId} {n s : Nat} (h : arT P T = some (n, s)) : ∃ e i, P.underlying T = some (.array n e) ∧ P.info? e = some i ∧ i.size = s := by
  unfold arT at h
  split at h
  · rename_i m e he
    cases hi : P.info? e with
    | none => simp [hi] at h
    | some i =>
      simp only [hi, Option.map_some, Option.some.injEq, Prod.mk.injEq] at h
      obtain ⟨rfl, rfl⟩ := h
      exact ⟨e, i, he, hi, rfl⟩
  · cases h
theorem iaV_sound {P : Program} {T : TypeId} {w : World} {x i u : Value} (h : iaV P T x i = some u) : (Instr.indexAt T x i).run P w = .ok u w := by
  unfold iaV at h
  split at h
  · rename_i a len cap k j
    cases he : elT P T with
    | none => simp [he] at h
    | some s =>
      simp only [he] at h
      by_cases hj : 0 ≤ j ∧ j < len
      · rw [if_pos hj] at h
        obtain ⟨e, i, h1, h2, h3⟩ := elT_some he
        subst h3
        simp only [Option.some.injEq] at h
        subst h
        simp [Instr.indexAt, asIntOf, run_underlying P w T _ h1, hj, run_sizeOf P w _ i h2]
      · rw [if_neg hj] at h; cases h
  · rename_i a k j
    cases he : arT P T with
    | none => simp [he] at h
    | some ns =>
      obtain ⟨n, s⟩ := ns
      simp only [he] at h
      by_cases hj : 0 ≤ j ∧ j < n
      · rw [if_pos hj] at h
        obtain ⟨e, i, h1, h2, h3⟩ := arT_some he
        subst h3
        simp only [Option.some.injEq] at h
        subst h
        simp [Instr.indexAt, asIntOf, run_underlying P w T _ h1, hj, run_sizeOf P w _ i h2, Instr.sureAddr]
      · rw [if_neg hj] at h; cases h
  · cases h
theorem lenV_sound {P : Program} {T : TypeId} {w : World} {x u : Value} {ty : TypeId} (h : lenV P T w x = some u) : (Builtin.len_ #[T] ty #[x]).run P w = .ok u w := by
  unfold lenV at h
  split at h
  · rename_i s hu; simp only [Option.some.injEq] at h; subst h; simp [Builtin.len_, run_underlying P w T _ hu, goInt]
  · rename_i hu; simp only [Option.some.injEq] at h; subst h; simp [Builtin.len_, run_underlying P w T _ hu, goInt]
  · rename_i hu; simp only [Option.some.injEq] at h; subst h; simp [Builtin.len_, run_underlying P w T _ hu, goInt]
  · rename_i r hu
    split at h
    · rename_i es c hr
      simp only [Option.some.injEq] at h; subst h
      simp [Builtin.len_, run_underlying P w T _ hu, goInt, getObj, Sem.run, hr]
    · cases h
  · cases h
theorem cvV_sound {P : Program} {S D : TypeId} {w : World} {x u : Value} (h : cvV P S D x = some u) : (convert S D x).run P w = .ok u w := by
  unfold cvV at h
  split at h
  · rename_i k0 k kk n h1 h2
    simp only [Option.some.injEq] at h; subst h
    simp [convert, run_underlying P w _ _ h1, run_underlying P w _ _ h2, Conv.intToInt]
  · cases h
theorem pickV_sound {P : Program} {w : World} {c a b u : Value} (h : pickV c a b = some u) : ((do pure (if ← asBool c then a else b)) : Sem Value).run P w = .ok u w := by
  unfold pickV at h
  split at h
  · simp only [Option.some.injEq] at h; subst h; simp [asBool]
  · cases h
theorem extV_sound {P : Program} {w : World} {x u : Value} {i : Nat} (h : extV x i = some u) : (Instr.extract x i).run P w = .ok u w := by
  unfold extV at h
  split at h
  · simp [Instr.extract, h]
  · cases h
theorem unV_sound {P : Program} {w : World} {op : UnOp} {x u : Value} (h : unV op x = some u) : (Op.unary op x).run P w = .ok u w := by
  unfold unV at h
  split at h
  · simp only [Option.some.injEq] at h; subst h; simp [Op.unary]
  · simp only [Option.some.injEq] at h; subst h; simp [Op.unary, Op.intArith]
  · cases h
theorem bnd_sound {P : Program} {w : World} {x : Value} {d y m : Nat} {code : BoundsCode} (h : bnd (some x) d y = some m) : (Instr.sliceBound x y code).run P w = .ok m w := by
  unfold bnd at h
  split at h
  · rename_i h0; cases h0
  · rename_i k i h0
    simp only [Option.some.injEq] at h0; subst h0
    by_cases hi : 0 ≤ i ∧ i ≤ y
    · rw [if_pos hi] at h; simp only [Option.some.injEq] at h; subst h
      simp [Instr.sliceBound, asIntOf, hi]
    · rw [if_neg hi] at h; cases h
  · cases h
theorem slV_sound {P : Program} {T : TypeId} {w : World} {x u : Value} {lo hi mx : Option Value} (h : slV P T x lo hi mx = some u) : (Instr.sliceAt T x lo hi mx).run P w = .ok u w := by
  unfold slV at h
  split at h
  · rename_i e a len cap hu
    cases hi0 : P.info? e with
    | none => simp [hi0] at h
    | some i =>
      simp only [hi0, Option.map_some] at h
      cases hm : bnd mx cap cap with
      | none => simp [hm] at h
      | some m =>
        simp only [hm] at h
        cases hh : bnd hi len m with
        | none => simp [hh] at h
        | some hb =>
          simp only [hh] at h
          cases hl : bnd lo 0 hb with
          | none => simp [hl] at h
          | some l =>
            simp only [hl] at h
            by_cases c1 : mx.isSome ∧ hi.isNone
            · rw [if_pos c1] at h; cases h
            rw [if_neg c1] at h
            by_cases c2 : hi.isNone ∧ m < len
            · rw [if_pos c2] at h; cases h
            rw [if_neg c2] at h
            simp only [Option.some.injEq] at h
            subst h
            have e0 : (Instr.sliceAt T (.slice a len cap) lo hi mx) = ((do
              match ← underlying T with
              | .array n elem =>
                let a ← Instr.sureAddr (.slice a len cap)
                let (l, h, m) ← Instr.sliceBounds false n n lo hi mx
                let size ← sizeOf elem
                pure (.slice (some (if m = l then a else a.add (l * size))) (h - l) (m - l))
              | _ => Instr.slice T (.slice a len cap) lo hi mx) : Sem Value) := rfl
            rw [e0]
            simp only [Sem.run_bind, run_underlying P w T _ hu, Result.andThen_ok]
            simp only [Instr.slice, Sem.run_bind, run_underlying P w T _ hu, Result.andThen_ok]
            have hb : (Instr.sliceBounds true len cap lo hi mx).run P w = .ok (l, hb, m) w := by
              cases mx with
              | none =>
                simp only [bnd, Option.some.injEq] at hm; subst hm
                cases hi with
                | none =>
                  simp only [bnd, Option.some.injEq] at hh; subst hh
                  cases lo with
                  | none => simp only [bnd, Option.some.injEq] at hl; subst hl; simp [Instr.sliceBounds]
                  | some lo => simp [Instr.sliceBounds, bnd_sound hl]
                | some hi =>
                  cases lo with
                  | none => simp only [bnd, Option.some.injEq] at hl; subst hl; simp [Instr.sliceBounds, bnd_sound hh]
                  | some lo => simp [Instr.sliceBounds, bnd_sound hl, bnd_sound hh]
              | some mx =>
                cases hi with
                | none => simp at c1
                | some hi =>
                  cases lo with
                  | none => simp only [bnd, Option.some.injEq] at hl; subst hl; simp [Instr.sliceBounds, bnd_sound hh, bnd_sound hm]
                  | some lo => simp [Instr.sliceBounds, bnd_sound hl, bnd_sound hh, bnd_sound hm]
            simp [hb, run_sizeOf P w _ i hi0]
  · rename_i s hu
    by_cases c1 : mx.isSome = true
    · rw [if_pos c1] at h; cases h
    rw [if_neg c1] at h
    have hmx : mx = none := by cases mx <;> simp_all
    subst hmx
    cases hh : bnd hi s.size s.size with
    | none => simp [hh] at h
    | some hb =>
      simp only [hh] at h
      cases hl : bnd lo 0 hb with
      | none => simp [hl] at h
      | some l =>
        simp only [hl, Option.some.injEq] at h
        subst h
        have hb : (Instr.sliceBounds false s.size s.size lo hi none).run P w = .ok (l, hb, s.size) w := by
          cases hi with
          | none =>
            simp only [bnd, Option.some.injEq] at hh; subst hh
            cases lo with
            | none => simp only [bnd, Option.some.injEq] at hl; subst hl; simp [Instr.sliceBounds]
            | some lo => simp [Instr.sliceBounds, bnd_sound hl]
          | some hi =>
            cases lo with
            | none => simp only [bnd, Option.some.injEq] at hl; subst hl; simp [Instr.sliceBounds, bnd_sound hh]
            | some lo => simp [Instr.sliceBounds, bnd_sound hl, bnd_sound hh]
        simp [Instr.sliceAt, Instr.slice, run_underlying P w T _ hu, hb]
  · cases h
theorem minV_sound {P : Program} {w : World} {l : List Value} {u : Value} {at_ : Array TypeId} {ty : TypeId} (h : minV l = some u) : (Builtin.min_ at_ ty l.toArray).run P w = .ok u w := by
  unfold minV at h
  split at h
  · rename_i k x k' y
    simp only [Option.some.injEq] at h; subst h
    simp [Builtin.min_, Builtin.min2]
  · cases h
theorem maxV_sound {P : Program} {w : World} {l : List Value} {u : Value} {at_ : Array TypeId} {ty : TypeId} (h : maxV l = some u) : (Builtin.max_ at_ ty l.toArray).run P w = .ok u w := by
  unfold maxV at h
  split at h
  · rename_i k x k' y
    simp only [Option.some.injEq] at h; subst h
    simp [Builtin.max_, Builtin.max2]
  · cases h
theorem str_eq (a b : ByteArray) : (a.toList == b.toList) = decide (a = b) := by
  rw [ByteArray.toList_eq, ByteArray.toList_eq, Bool.eq_iff_iff]
  simp only [beq_iff_eq, decide_eq_true_eq]
  constructor
  · intro h; cases a; cases b; simp_all
  · intro h; rw [h]
theorem guard_other {P : Program} {w : World} {op : BinOp} {T : TypeId} {x y : Operand} {a b : Value} (h : ∀ c d, ¬ (a = .agg c ∧ b = .agg d)) (h2 : ¬ (a = .nilIface ∧ b = .nilIface)) :
    (eqGuard op T x y a b).run P w = .ok () w := by
  unfold eqGuard
  cases op <;> simp <;> (cases a <;> cases b <;> simp_all)
theorem equalIn_sound {P : Program} {w : World} {T : TypeId} {a b : Value} {r : Bool} (hr : eqV P T a b = some r) (d : Nat) : (Op.equalIn (d + 1) T a b).run P w = .ok r w := by
  unfold eqV at hr
  split at hr <;> (try (cases hr; done)) <;> rename_i hu <;> simp only [Option.some.injEq] at hr <;> subst hr <;>
    simp only [Op.equalIn, Sem.run_bind, run_underlying P w _ _ hu, Result.andThen_ok] <;> (try rfl)
theorem eqV_sound {P : Program} {w : World} {T : TypeId} {a b : Value} {r : Bool} (hr : eqV P T a b = some r) : (Op.equal T a b).run P w = .ok r w :=
  equalIn_sound hr 9999
theorem binT_sound {P : Program} {w : World} {op : BinOp} {T : TypeId} {x y : Operand} {a b u : Value} (h : binT P op T a b = some u) :
    ((do eqGuard op T x y a b; binOp op T a b) : Sem Value).run P w = .ok u w := by
  unfold binT at h
  cases hb : binV op a b with
  | some v =>
    simp only [hb, Option.some.injEq] at h; subst h
    have hg : (eqGuard op T x y a b).run P w = .ok () w := by
      apply guard_other
      · rintro c d ⟨rfl, rfl⟩; simp [binV] at hb
      · rintro ⟨rfl, rfl⟩; simp [binV] at hb
    simp only [Sem.run_bind, hg, Result.andThen_ok]
    unfold binV at hb
    split at hb
    · rename_i k p k' q
      cases op <;> simp only [intBin] at hb <;> (try (cases hb; done)) <;> (try split at hb) <;> (try (cases hb; done)) <;> (try split at hb) <;> (try (cases hb; done)) <;>
        simp only [Option.some.injEq] at hb <;> subst hb <;> (try subst_vars) <;>
        simp_all [binOp, Op.intArith, Op.intDiv, Op.intBits, Op.intCmp, Op.shift] <;> (try omega) <;> (try rfl)
    · cases op <;> simp only at hb <;> (try (cases hb; done)) <;> (try split at hb) <;> (try (cases hb; done)) <;>
        simp only [Option.some.injEq] at hb <;> subst hb <;>
        simp_all [binOp, Op.stringOp, str_eq, IntKind.max, IntKind.signed, IntKind.bits] <;> (try omega)
    · cases hb
  | none =>
    simp only [hb] at h
    have key : ∀ r, eqV P T a b = some r → (∀ c d, ¬ (a = .agg c ∧ b = .agg d)) ∧ ¬ (a = .nilIface ∧ b = .nilIface) ∧
        (binOp .eql T a b).run P w = .ok (.bool r) w ∧ (binOp .neq T a b).run P w = .ok (.bool (!r)) w := by
      intro r hr
      have he : (Op.equal T a b).run P w = .ok r w := eqV_sound hr
      unfold eqV at hr
      split at hr <;> (try (cases hr; done)) <;> refine ⟨by simp, by simp, ?_, ?_⟩ <;> unfold binOp <;> simp only [Sem.run_bind, he, Result.andThen_ok, Sem.run_pure]
    cases op <;> simp only [Option.map_eq_some_iff] at h <;> (try (cases h; done)) <;> obtain ⟨r, hr, rfl⟩ := h <;>
      obtain ⟨h2, h3, h6, h7⟩ := key r hr <;>
      simp only [Sem.run_bind, guard_other h2 h3, Result.andThen_ok, h6, h7]
theorem checkKey_plain {P : Program} {w : World} {kt : TypeId} {v : Value} {d : TypeDesc} (hu : P.underlying kt = some d) (hd : plainK d = true) (b : Bool) (n : Nat) : (Instr.checkKey b (n + 1) kt v).run P w = .ok () w := by
  simp only [Instr.checkKey, Sem.run_bind, run_underlying P w kt _ hu, Result.andThen_ok]
  unfold plainK at hd
  cases d <;> first | rfl | cases hd
theorem findNow_nil (d : TypeDesc) (k : Value) : Instr.findNow d k [] 0 = some none := by simp [Instr.findNow]
theorem triB_some {P : Program} {kt : TypeId} (h : triB P kt = true) : ∃ f g k, P.underlying kt = some (.struct #[f, g, k]) ∧ triF P f 0 = true ∧ triF P g 1 = true ∧ triF P k 2 = true ∧ P.stoodInHeld kt = false := by
  unfold triB at h
  split at h
  · rename_i fs hu
    split at h
    · rename_i f g k hl
      simp only [Bool.and_eq_true, Bool.not_eq_true'] at h
      exact ⟨f, g, k, by rw [hu, ← hl], h.1.1.1, h.1.1.2, h.1.2, h.2⟩
    · cases h
  · cases h
theorem triF_some {P : Program} {f : Field} {o : Nat} (h : triF P f o = true) : P.underlying f.type = some (.int .i64) ∧ f.offset = o ∧ f.name ≠ "_" := by
  unfold triF at h
  simp only [Bool.and_eq_true, beq_iff_eq, bne_iff_ne] at h
  obtain ⟨⟨h1, h2⟩, h3⟩ := h
  refine ⟨?_, h2, h3⟩
  split at h1
  · assumption
  · cases h1
theorem asTri_some {v : Value} {x : Int × Int × Int} (h : asTri v = some x) : v = .agg #[.int .i64 x.1, .int .i64 x.2.1, .int .i64 x.2.2] := by
  cases v with
  | agg cs =>
    obtain ⟨l⟩ := cs
    simp only [asTri] at h
    split at h
    · simp only [Option.some.injEq] at h
      subst h
      rfl
    · cases h
  | _ => simp [asTri] at h
theorem run_isAgg_int {P : Program} {w : World} {t : TypeId} (h : P.underlying t = some (.int .i64)) : (isAgg t).run P w = .ok false w := by
  simp [isAgg, run_underlying P w t _ h]
theorem run_part_int {P : Program} {w : World} {t : TypeId} (h : P.underlying t = some (.int .i64)) {cs : Array Value} {o : Nat} {v : Value} (hv : cs[o]? = some v) : (part t cs o).run P w = .ok v w := by
  simp [part, run_isAgg_int h, hv]
theorem equal_int {P : Program} {w : World} {t : TypeId} (h : P.underlying t = some (.int .i64)) (d : Nat) (a b : Int) : (Op.equalIn (d + 1) t (.int .i64 a) (.int .i64 b)).run P w = .ok (a == b) w := by
  simp [Op.equalIn, run_underlying P w t _ h]
theorem equalIn_tri {P : Program} {w : World} {kt : TypeId} (hB : triB P kt = true) (d : Nat) (x y : Int × Int × Int) : (Op.equalIn (d + 1 + 1) kt (.agg #[.int .i64 x.1, .int .i64 x.2.1, .int .i64 x.2.2]) (.agg #[.int .i64 y.1, .int .i64 y.2.1, .int .i64 y.2.2])).run P w = .ok (decide (x = y)) w := by
  obtain ⟨f, g, k, hu, hf, hg, hk, hs⟩ := triB_some hB
  obtain ⟨f1, f2, f3⟩ := triF_some hf
  obtain ⟨g1, g2, g3⟩ := triF_some hg
  obtain ⟨k1, k2, k3⟩ := triF_some hk
  obtain ⟨a, b, c⟩ := x
  obtain ⟨a', b', c'⟩ := y
  rw [Op.equalIn]
  simp only [Sem.run_bind, run_underlying P w kt _ hu, Result.andThen_ok]
  have hp : (program).run P w = .ok P w := rfl
  simp only [hp, Sem.run_bind, Result.andThen_ok, hs, Bool.false_eq_true, if_false]
  have p1 : ∀ a b c, (part f.type #[Value.int IntKind.i64 a, Value.int IntKind.i64 b, Value.int IntKind.i64 c] f.offset).run P w = .ok (.int .i64 a) w := fun a b c => run_part_int f1 (by rw [f2]; rfl)
  have p2 : ∀ a b c, (part g.type #[Value.int IntKind.i64 a, Value.int IntKind.i64 b, Value.int IntKind.i64 c] g.offset).run P w = .ok (.int .i64 b) w := fun a b c => run_part_int g1 (by rw [g2]; rfl)
  have p3 : ∀ a b c, (part k.type #[Value.int IntKind.i64 a, Value.int IntKind.i64 b, Value.int IntKind.i64 c] k.offset).run P w = .ok (.int .i64 c) w := fun a b c => run_part_int k1 (by rw [k2]; rfl)
  simp only [← Array.forIn_toList, List.forIn_cons, List.forIn_nil, if_pos f3, if_pos g3, if_pos k3, Sem.run_bind, p1, p2, p3, Result.andThen_ok, equal_int f1, equal_int g1, equal_int k1, Sem.run_pure]
  by_cases e1 : a = a'
  · by_cases e2 : b = b'
    · by_cases e3 : c = c' <;> simp [e1, e2, e3, Sem.run_bind, p1, p2, p3, equal_int f1, equal_int g1, equal_int k1, g3, k3]
    · simp [e1, e2, Sem.run_bind, p1, p2, p3, equal_int f1, equal_int g1, equal_int k1, g3, k3]
  · simp [e1]
theorem checkKey_tri {P : Program} {w : World} {kt : TypeId} (hB : triB P kt = true) (e : Bool) (d : Nat) (x : Int × Int × Int) : (Instr.checkKey e (d + 1 + 1) kt (.agg #[.int .i64 x.1, .int .i64 x.2.1, .int .i64 x.2.2])).run P w = .ok () w := by
  obtain ⟨f, g, k, hu, hf, hg, hk, hs⟩ := triB_some hB
  obtain ⟨f1, f2, f3⟩ := triF_some hf
  obtain ⟨g1, g2, g3⟩ := triF_some hg
  obtain ⟨k1, k2, k3⟩ := triF_some hk
  obtain ⟨a, b, c⟩ := x
  rw [Instr.checkKey]
  simp only [Sem.run_bind, run_underlying P w kt _ hu, Result.andThen_ok]
  have p1 : ∀ a b c, (part f.type #[Value.int IntKind.i64 a, Value.int IntKind.i64 b, Value.int IntKind.i64 c] f.offset).run P w = .ok (.int .i64 a) w := fun a b c => run_part_int f1 (by rw [f2]; rfl)
  have p2 : ∀ a b c, (part g.type #[Value.int IntKind.i64 a, Value.int IntKind.i64 b, Value.int IntKind.i64 c] g.offset).run P w = .ok (.int .i64 b) w := fun a b c => run_part_int g1 (by rw [g2]; rfl)
  have p3 : ∀ a b c, (part k.type #[Value.int IntKind.i64 a, Value.int IntKind.i64 b, Value.int IntKind.i64 c] k.offset).run P w = .ok (.int .i64 c) w := fun a b c => run_part_int k1 (by rw [k2]; rfl)
  simp only [← Array.forIn_toList, List.forIn_cons, List.forIn_nil, if_pos f3, if_pos g3, if_pos k3, Sem.run_bind, p1, p2, p3, Result.andThen_ok, checkKey_plain f1 (show plainK (.int .i64) = true from rfl), checkKey_plain g1 (show plainK (.int .i64) = true from rfl), checkKey_plain k1 (show plainK (.int .i64) = true from rfl), Sem.run_pure]
theorem findAsking_tri {P : Program} {w : World} {kt : TypeId} (hB : triB P kt = true) (x : Int × Int × Int) : ∀ (es : List MapEntry) (i : Nat) (r : Option (Nat × Value)), findT x es i = some r → (Instr.findAsking kt (.agg #[.int .i64 x.1, .int .i64 x.2.1, .int .i64 x.2.2]) es i).run P w = .ok r w
  | [], i, r, h => by simp only [findT, Option.some.injEq] at h; subst h; rfl
  | e :: es, i, r, h => by
    rw [findT] at h
    cases hy : asTri e.key with
    | none => rw [hy] at h; cases h
    | some y =>
      rw [hy] at h
      simp only at h
      have hk := asTri_some hy
      have heq : (Op.equal kt (.agg #[.int .i64 x.1, .int .i64 x.2.1, .int .i64 x.2.2]) e.key).run P w = .ok (decide (x = y)) w := by rw [hk]; exact equalIn_tri hB 9998 x y
      simp only [Instr.findAsking, Sem.run_bind, heq, Result.andThen_ok]
      by_cases e1 : x = y
      · rw [if_pos e1] at h; simp only [Option.some.injEq] at h; subst h; simp [e1]
      · rw [if_neg e1] at h; simp only [e1, decide_false, Bool.false_eq_true, if_false]; exact findAsking_tri hB x es (i + 1) r h
theorem findO_sound {P : Program} {w : World} {kt : TypeId} {k : Value} {es : List MapEntry} {r : Option (Nat × Value)} (h : findO P kt k es = some r) :
    (Instr.findKey kt k es).run P w = .ok r w ∧ ∀ b, (Instr.checkKey b 10000 kt k).run P w = .ok () w := by
  unfold findO at h
  split at h
  · rename_i d hd
    split at h
    · rename_i hp
      refine ⟨?_, fun b => checkKey_plain hd hp b 9999⟩
      simp only [Instr.findKey, Sem.run_bind, run_underlying P w kt _ hd, Result.andThen_ok, h, Sem.run_pure]
    · split at h
      · rename_i hp hB
        cases hx : asTri k with
        | none => rw [hx] at h; cases h
        | some x =>
          rw [hx] at h
          simp only [Option.bind_some] at h
          have hk := asTri_some hx
          subst hk
          refine ⟨?_, fun b => checkKey_tri hB b 9998 x⟩
          simp only [Instr.findKey, Sem.run_bind, run_underlying P w kt _ hd, Result.andThen_ok]
          cases es with
          | nil => simp only [findT, Option.some.injEq] at h; subst h; simp [Instr.findNow]
          | cons e es =>
            have hn : Instr.findNow d (.agg #[.int .i64 x.1, .int .i64 x.2.1, .int .i64 x.2.2]) (e :: es) 0 = none := by
              simp [Instr.findNow, Instr.sameNow]
            rw [hn]
            exact findAsking_tri hB x _ 0 r h
      · cases h
  · cases h
theorem lkO_sound {P : Program} {T : TypeId} {w : World} {m k : Value} {c : Bool} {u : Value} (h : lkO P T w m k c = some u) : (Instr.lookup T m k c).run P w = .ok u w := by
  unfold lkO at h
  split at h
  · rename_i kt et hu
    split at h
    · rename_i z hz
      have hzz : (zeroValue et).run P w = .ok z w := by
        cases hi : P.info? et with
        | none => simp [hi] at hz
        | some i => simp only [hi, Option.bind_some] at hz; simp [zeroValue, run_typeInfo P w _ i hi, hz]
      have key : ∀ (es : Array MapEntry) (r : Option (Nat × Value)), findO P kt k es.toList = some r → lkV c (r.map (·.2)) z = u →
          ((do Instr.checkKey es.isEmpty 10000 kt k
               let (v, ok) ← match ← Instr.findKey kt k es.toList with
                | some (_, v) => pure (v, true)
                | none => pure (← zeroValue et, false)
               pure (if c then .tuple #[v, .bool ok] else v)) : Sem Value).run P w = .ok u w := by
        intro es r hr hu'
        obtain ⟨h1, h2⟩ := findO_sound (w := w) hr
        simp only [Sem.run_bind, h1, h2, Result.andThen_ok]
        subst hu'
        cases r with
        | none => simp only [Sem.run_bind, hzz, Result.andThen_ok, Sem.run_pure]; cases c <;> rfl
        | some r => obtain ⟨i, v⟩ := r; simp only [Result.andThen_ok, Sem.run_pure]; cases c <;> rfl
      split at h
      · cases hr : findO P kt k [] with
        | none => simp [hr] at h
        | some r =>
          simp only [hr, Option.map_some, Option.some.injEq] at h
          have := key #[] r hr h
          simp only [Instr.lookup, Sem.run_bind, run_underlying P w _ _ hu, Result.andThen_ok, Sem.run_pure] at this ⊢
          exact this
      · rename_i b
        split at h
        · rename_i es cl hb
          cases hr : findO P kt k es.toList with
          | none => simp [hr] at h
          | some r =>
            simp only [hr, Option.map_some, Option.some.injEq] at h
            have hg : (getObj b).run P w = .ok (.map es cl) w := by simp [getObj, Sem.run, hb]
            have := key es r hr h
            simp only [Instr.lookup, Sem.run_bind, run_underlying P w _ _ hu, Result.andThen_ok, Sem.run_pure, hg] at this ⊢
            exact this
        · cases h
      · cases h
    · cases h
  · cases h
theorem idxV_sound {P : Program} {T : TypeId} {w : World} {x i u : Value} (h : idxV P T x i = some u) : (Instr.index T x i).run P w = .ok u w := by
  unfold idxV at h
  split at h
  · rename_i s k j hu
    split at h
    · rename_i h0
      cases hs : s[j.toNat]? with
      | none => simp [hs] at h
      | some b =>
        simp only [hs, Option.map_some, Option.some.injEq] at h; subst h
        simp only [Instr.index, asIntOf, Sem.run_bind, Sem.run_pure, Result.andThen_ok, run_underlying P w _ _ hu, if_pos h0, hs]
    · cases h
  · cases h
theorem run_places {P : Program} {w : World} (fields : Array Field) (pl : Array (Nat × Nat)) (h : fields.mapM (fun f => (P.info? f.type).map fun i => (f.offset, i.size)) = some pl) :
    (fields.mapM fun f => (do pure (f.offset, ← sizeOf f.type) : Sem (Nat × Nat))).run P w = .ok pl w := by
  obtain ⟨l⟩ := fields
  obtain ⟨q⟩ := pl
  rw [List.mapM_toArray] at h ⊢
  have key : ∀ (l : List Field) (q : List (Nat × Nat)), l.mapM (fun f => (P.info? f.type).map fun i => (f.offset, i.size)) = some q → (l.mapM fun f => (do pure (f.offset, ← sizeOf f.type) : Sem (Nat × Nat))).run P w = .ok q w := by
    intro l
    induction l with
    | nil => intro q h; simp at h; subst h; rfl
    | cons f l ih =>
      intro q h
      rw [List.mapM_cons] at h
      cases hi : P.info? f.type with
      | none => simp [hi] at h
      | some i =>
        cases hq : l.mapM (fun f => (P.info? f.type).map fun i => (f.offset, i.size)) with
        | none => simp [hi, hq] at h
        | some q' =>
          simp [hi, hq] at h; subst h
          simp only [List.mapM_cons, Sem.run_bind, run_sizeOf P w _ i hi, Result.andThen_ok, Sem.run_pure, ih q' hq]
  cases hq : l.mapM (fun f => (P.info? f.type).map fun i => (f.offset, i.size)) with
  | none => simp [hq] at h
  | some q' =>
    simp [hq] at h; subst h
    simp only [Sem.run_map, key l q' hq, Result.andThen_ok]
theorem bld_sound {P : Program} {T : TypeId} {parts : Array (Nat × Value)} {w : World} {v : Value} (h : bld P T parts = some v) : (Instr.build T parts).run P w = .ok v w := by
  unfold bld at h
  cases hu : P.underlying T with
  | none => simp [hu] at h
  | some d =>
    cases d <;> simp only [hu] at h <;> (try (cases h; done))
    rename_i fields
    cases hz : zeroC P T with
    | none => simp [hz] at h
    | some z =>
      simp only [hz] at h
      cases hp : fields.mapM (fun f => (P.info? f.type).map fun i => (f.offset, i.size)) with
      | none => simp [hp] at h
      | some pl =>
        simp only [hp] at h
        cases hf : Instr.fill (pl[·]?) z parts.toList with
        | none => simp [hf] at h
        | some cs =>
          simp only [hf, Option.map_some, Option.some.injEq] at h; subst h
          unfold zeroC at hz
          cases hi : P.info? T with
          | none => simp [hi] at hz
          | some i =>
            cases hzz : i.zero with
            | none => simp [hi, hzz] at hz
            | some z' =>
              simp only [hi, Option.bind_some, hzz, Option.map_some, Option.some.injEq] at hz; subst hz
              have hzr : (zeroValue T).run P w = .ok z' w := by simp [zeroValue, run_typeInfo P w _ i hi, hzz]
              simp only [Instr.build, Sem.run_bind, hzr, Result.andThen_ok, run_underlying P w _ _ hu, run_places fields pl hp, hf, Sem.run_pure]
theorem bytesL_spec {w : World} {A : Option Addr} : ∀ (n i : Nat) (l : List Int), bytesL w A i n = some l → l.length = n ∧ ∀ j (h : j < l.length), rd w A (i + j) = some (.int .u8 l[j])
  | 0, i, l, h => by simp only [bytesL, Option.some.injEq] at h; subst h; exact ⟨rfl, fun j hj => by simp at hj⟩
  | n + 1, i, l, h => by
    simp only [bytesL, Option.bind_eq_some_iff, Option.map_eq_some_iff] at h
    obtain ⟨z, hz, l', hl', rfl⟩ := h
    obtain ⟨h1, h2⟩ := bytesL_spec n (i + 1) l' hl'
    refine ⟨by simp [h1], fun j hj => ?_⟩
    cases j with
    | zero =>
      unfold byV at hz
      split at hz
      · rename_i z' hr; cases hz; simpa using hr
      · cases hz
    | succ j =>
      have := h2 j (by simpa using hj)
      rw [show i + (j + 1) = i + 1 + j by omega]
      simpa using this
theorem cvW_sound {P : Program} {S D : TypeId} {w : World} {x u : Value} (h : cvW P S D w x = some u) : (convert S D x).run P w = .ok u w := by
  unfold cvW at h
  split at h
  · rename_i v hv
    cases h; exact cvV_sound hv
  · split at h
    · rename_i e a n c hS hD _
      split at h
      · rename_i he
        simp only [Option.map_eq_some_iff] at h
        obtain ⟨l, hl, rfl⟩ := h
        obtain ⟨h1, h2⟩ := bytesL_spec n 0 l hl
        rw [run_convert_bytes_string w S D e (some a) n c hS he hD]
        have hload := run_loadCells_list (P := P) w a (l.map (Value.int .u8)) (fun j v hj => by
          have hjl : j < l.length := by have := (List.getElem?_eq_some_iff.1 hj).1; simpa using this
          rw [List.getElem?_eq_getElem (by simpa using hjl)] at hj
          simp at hj
          have := h2 j hjl
          rw [← hj]; simpa [rd] using this)
        rw [List.length_map, h1] at hload
        exact run_bytesToString w a n c l hload
      · cases h
    · cases h
theorem ro_sound {P : Program} {n : Nat} {t : Fr} {w : World} {o : Oper} {u : Value} (h : ro P n t w o.op = some u) : (execOp (ev n t) o).run P w = .ok (.value u) w := by
  obtain ⟨dst, op, type, pos, after, guard⟩ := o
  simp only at h
  cases op <;> simp only [ro] at h <;> (try (cases h; done))
  case move x => simp only [Option.some.injEq] at h; subst h; rfl
  case assign x => simp only [Option.some.injEq] at h; subst h; rfl
  case pick c a b =>
    have := pickV_sound (P := P) (w := w) h
    simp only [execOp, Sem.run_bind] at this ⊢
    cases hc : (asBool (ev n t c)).run P w with
    | ok b w' => simp only [hc, Result.andThen_ok, Sem.run_pure, Result.ok.injEq] at this ⊢; obtain ⟨h1, h2⟩ := this; subst h2; rw [h1]; exact ⟨rfl, rfl⟩
    | halt x w' => simp [hc] at this
  case load T a => simp [execOp, ldV_sound h]
  case nilCheck x =>
    unfold nckV at h
    split at h
    · rename_i a ha
      simp only [Option.some.injEq] at h; subst h
      simp [execOp, ha]
    · cases h
  case binOp op T x y yT =>
    have := binT_sound (P := P) (w := w) (x := x) (y := y) h
    show ((do let v ← (do eqGuard op T x y (ev n t x) (ev n t y); binOp op T (ev n t x) (ev n t y)); pure (Next.value v)) : Sem Next).run P w = _
    rw [Sem.run_bind, this]; rfl
  case unOp op T x => simp [execOp, unV_sound h]
  case convert S D x => simp [execOp, cvW_sound h]
  case lookup T m k c => simp [execOp, lkO_sound h]
  case index T x i => simp [execOp, idxV_sound h]
  case build T parts =>
    show ((do let v ← Instr.build T (parts.map fun x : Nat × Operand => (x.1, ev n t x.2)); pure (Next.value v)) : Sem Next).run P w = _
    rw [Sem.run_bind, bld_sound h]; rfl
  case makeFunc fn a b => simp only [Option.some.injEq] at h; subst h; simp [execOp, Instr.makeFunc]
  case slice T x lo hi mx => simp [execOp, slV_sound h]
  case fieldAddr T a f => simp [execOp, faV_sound h]
  case indexAddr T x i => simp [execOp, iaV_sound h]
  case extract x i => simp [execOp, extV_sound h]
  case call c =>
    obtain ⟨callee, args, argTypes⟩ := c
    simp only at h
    cases callee <;> (try simp only at h) <;> (try (cases h; done))
    rename_i b
    cases b <;> (try simp only at h) <;> (try (cases h; done))
    case len =>
      split at h
      · rename_i x T hx hT
        obtain rfl : args = #[x] := by obtain ⟨l⟩ := args; exact congrArg Array.mk hx
        obtain rfl : argTypes = #[T] := by obtain ⟨l⟩ := argTypes; exact congrArg Array.mk hT
        simp [execOp, resolve, invoke, builtin, lenV_sound h]
      · cases h
    case min =>
      have := minV_sound (P := P) (w := w) (at_ := argTypes) (ty := type) h
      obtain ⟨l⟩ := args
      simp [execOp, resolve, invoke, builtin, this]
    case max =>
      have := maxV_sound (P := P) (w := w) (at_ := argTypes) (ty := type) h
      obtain ⟨l⟩ := args
      simp [execOp, resolve, invoke, builtin, this]
end Go.V
namespace Go.V
open Go.RowKit

/-- A value is there, and k holds of it. -/
def Vl {α : Type} (x : Option α) (k : α → Prop) : Prop := ∃ v, x = some v ∧ k v
theorem Vl_some {α : Type} (v : α) (k : α → Prop) : Vl (some v) k = k v := by
  simp [Vl]
def szT (P : Program) (T : TypeId) : Option Nat := (P.info? T).map (·.size)
/-- One cell is written. -/
def setP (w : World) (v : Value) (j : Nat) (x : Value) : Option World :=
  match v with
  | .pointer (some a) => if (w.cell? (a.add j)).isSome = true ∧ w.frozen? (a.add j) = false ∧ x.oneCell' = true then some (w.setCell (a.add j) x) else none
  | _ => none
def stoL (w : World) (v : Value) (j : Nat) : List Value → Option World
  | [] => some w
  | x :: l => match setP w v j x with
    | some w' => stoL w' v (j + 1) l
    | none => none
def stoT (P : Program) (T : TypeId) (w : World) (p x : Value) : Option World :=
  match p with
  | .pointer (some a) => if szT P T = some x.cells.size then stoL w (.pointer (some a)) 0 x.cells.toList else none
  | _ => none
theorem stoL_sound {P : Program} {a : Addr} : ∀ (l : List Value) (w w' : World) (j : Nat), stoL w (.pointer (some a)) j l = some w' → (storeCells a l j).run P w = .ok () w'
  | [], w, w', j, h => by simp only [stoL, Option.some.injEq] at h; subst h; rfl
  | x :: l, w, w', j, h => by
    simp only [stoL] at h
    cases hs : setP w (.pointer (some a)) j x with
    | none => simp [hs] at h
    | some w1 =>
      simp only [hs] at h
      unfold setP at hs
      simp only at hs
      split at hs
      · rename_i hc
        obtain ⟨h1, h2, h3⟩ := hc
        simp only [Option.some.injEq] at hs; subst hs
        obtain ⟨u, hu⟩ := Option.isSome_iff_exists.1 h1
        simp only [storeCells, Sem.run_bind, run_store _ _ _ _ _ h3, hu, h2, Bool.false_eq_true, if_false, Result.andThen_ok]
        exact stoL_sound l _ _ _ h
      · cases hs
theorem stoT_sound {P : Program} {T : TypeId} {w w' : World} {p x : Value} (h : stoT P T w p x = some w') : (Instr.storeAt T p x).run P w = .ok () w' := by
  unfold stoT at h
  split at h
  · rename_i a
    split at h
    · rename_i hs
      unfold szT at hs
      cases hi : P.info? T with
      | none => simp [hi] at hs
      | some i =>
        simp only [hi, Option.map_some, Option.some.injEq] at hs
        simp only [Instr.storeAt, Instr.sureAddr, storeVar, Sem.run_bind, Sem.run_pure, Result.andThen_ok, run_sizeOf P w T i hi, Sem.run_ite, ne_eq, hs, not_true_eq_false, if_false]
        exact stoL_sound _ _ _ _ h
    · cases h
  · cases h
/-- The cells of a literal slice. -/
def bslC (P : Program) (T : TypeId) (len : Nat) (parts : Array (Nat × Value)) : Option (Array Value × TypeId) :=
  match P.underlying T with
  | some (.slice e) => match P.info? e with
    | some i => if len * i.size > 2 ^ 24 then none else
      match (if len * i.size = 0 then some #[] else i.zero.map Value.cells) with
      | some zero => (Instr.fill (fun k => some (k * i.size, i.size)) ((Array.range (len * i.size)).map (zero[· % zero.size]!)) parts.toList).map fun c => (c, e)
      | none => none
    | none => none
  | _ => none
theorem bslC_sound {P : Program} {T e : TypeId} {len : Nat} {parts : Array (Nat × Value)} {cs : Array Value} {w : World} (h : bslC P T len parts = some (cs, e)) :
    (Instr.buildSlice T len parts).run P w = .ok (.slice (some ⟨w.heap.size, 0, none⟩) len len) (w.alloc (.cells cs e)) := by
  unfold bslC at h
  split at h
  · rename_i e' hu
    cases hi : P.info? e' with
    | none => simp [hi] at h
    | some i =>
      simp only [hi] at h
      split at h
      · cases h
      rename_i hsz
      cases hz : (if len * i.size = 0 then some #[] else i.zero.map Value.cells) with
      | none => simp [hz] at h
      | some zero =>
        simp only [hz] at h
        cases hf : Instr.fill (fun k => some (k * i.size, i.size)) ((Array.range (len * i.size)).map (zero[· % zero.size]!)) parts.toList with
        | none => simp [hf] at h
        | some c =>
          simp only [hf, Option.map_some, Option.some.injEq, Prod.mk.injEq] at h
          obtain ⟨rfl, rfl⟩ := h
          simp only [Instr.buildSlice, Sem.run_bind, run_underlying P w T _ hu, Result.andThen_ok, run_sizeOf P w _ i hi]
          simp only [hsz, if_false, Sem.run_bind]
          by_cases h0 : len * i.size = 0
          · simp only [h0, if_true, Option.some.injEq] at hz; subst hz
            simp only [h0, if_true, Sem.run_bind, Sem.run_pure, Result.andThen_ok] at hf ⊢
            simp only [hf]; rfl
          · simp only [h0, if_false] at hz ⊢
            cases hzz : i.zero with
            | none => simp [hzz] at hz
            | some z =>
              simp only [hzz, Option.map_some, Option.some.injEq] at hz; subst hz
              have : (zeroValue e').run P w = .ok z w := by simp [zeroValue, run_typeInfo P w _ i hi, hzz]
              simp only [Sem.run_bind, this, Result.andThen_ok, Sem.run_pure, hf]; rfl
  · cases h
def mkSl (P : Program) (T : TypeId) (l c : Value) : Option (Nat × Array Value × TypeId) :=
  match P.underlying T, l, c with
  | some (.slice e), .int .i64 m, .int .i64 m' => match P.info? e with
    | some i => match i.zero with
      | some z => if m = m' ∧ 0 ≤ m ∧ i.bytes * m ≤ 2 ^ 47 ∧ m ≤ 9223372036854775807 ∧ z.cells.size = 1 ∧ i.size = 1 then some (m.toNat, Array.replicate m.toNat (z.cells[0]!), e) else none
      | none => none
    | none => none
  | _, _, _ => none
/-- What becomes of the world where an operation changes it: the value, the world behind it. -/
def stp (P : Program) (n : Nat) (t : Fr) (w : World) (op : Op) (K : Value → World → Prop) : Prop :=
  match op with
  | .alloc T => ∃ z, zeroC P T = some z ∧ K (pa (some ⟨w.heap.size, 0, none⟩) 0) (w.alloc (.cells z T))
  | .box T x => K (pa (some ⟨w.heap.size, 0, none⟩) 0) (w.alloc (.cells (ev n t x).cells T))
  | .buildSlice T len parts => ∃ cs e, bslC P T len (parts.map fun (i, x) => (i, ev n t x)) = some (cs, e) ∧ K (.slice (some ⟨w.heap.size, 0, none⟩) len len) (w.alloc (.cells cs e))
  | .store T a x => ∃ w', stoT P T w (ev n t a) (ev n t x) = some w' ∧ K undef w'
  | .makeMap _ none => K (.map (some w.heap.size)) (w.alloc (.map #[] 0))
  | .call c => match c.callee with
    | .value f => match ev n t f with
      | .func (.func g) first captured => Ok P g (first ++ c.args.map (ev n t) ++ captured) w K
      | _ => False
    | _ => False
  | _ => False
/-- What is left to the laws of the walk: the operation's own run. -/
def Raw (P : Program) (n : Nat) (t : Fr) (w : World) (o : Oper) (K : Value → World → Prop) : Prop :=
  ∃ nx w', (execOp (ev n t) o).run P w = .ok nx w' ∧ match nx with
    | .value v => K v w'
    | .skip => K undef w'
    | _ => False
inductive Way where | ro | st | raw
/-- By which way an operation goes. -/
def way : Op → Way
  | .move _ | .assign _ | .pick .. | .binOp .. | .unOp .. | .extract .. | .nilCheck _ | .load .. | .fieldAddr .. | .indexAddr .. | .slice .. | .makeFunc .. | .convert .. | .lookup .. | .index .. | .build .. => .ro
  | .alloc _ | .box .. | .buildSlice .. | .store .. | .makeMap _ none => .st
  | .call c => match c.callee with
    | .value _ => .st
    | .builtin .len | .builtin .min | .builtin .max => .ro
    | _ => .raw
  | _ => .raw
def vop (P : Program) (n : Nat) (o : Oper) (t : Fr) (w : World) (K : Value → World → Prop) : Prop :=
  match way o.op with
  | .ro => Vl (ro P n t w o.op) fun v => K v w
  | .st => stp P n t w o.op K
  | .raw => Raw P n t w o K
theorem stp_sound {P : Program} {n : Nat} {t : Fr} {w : World} {o : Oper} {K : Value → World → Prop} {next : Act → World → Prop} {Q : Exit → Act → World → Prop}
    (h : stp P n t w o.op K) (hK : ∀ v w', K v w' → next ((act n t).put o.dst v) w') : o.upon P (act n t) next Q ((execOp (ev n t) o).run P w) := by
  obtain ⟨dst, op, type, pos, after, guard⟩ := o
  simp only at h
  unfold stp at h
  split at h
  · rename_i T
    obtain ⟨z, hz, hk⟩ := h
    unfold zeroC at hz
    cases hi : P.info? T with
    | none => simp [hi] at hz
    | some i =>
      cases hzz : i.zero with
      | none => simp [hi, hzz] at hz
      | some z' =>
        simp only [hi, Option.bind_some, hzz, Option.map_some, Option.some.injEq] at hz; subst hz
        have hr : (zeroValue T).run P w = .ok z' w := by simp [zeroValue, run_typeInfo P w _ i hi, hzz]
        simp only [execOp, Instr.alloc, Sem.run_bind, hr, Result.andThen_ok]
        exact hK _ _ hk
  · exact hK _ _ h
  · rename_i T len parts
    obtain ⟨cs, e, hc, hk⟩ := h
    have := bslC_sound (w := w) hc
    simp only [execOp, Sem.run_bind, this, Result.andThen_ok]
    exact hK _ _ hk
  · obtain ⟨w', hs, hk⟩ := h
    simp only [execOp, Sem.run_bind, stoT_sound hs, Result.andThen_ok]
    exact hK _ _ hk
  · exact hK _ _ h
  · rename_i c
    obtain ⟨callee, args, argTypes⟩ := c
    split at h
    · rename_i f hf
      simp only at hf; subst hf
      split at h
      · rename_i g first captured hg
        obtain ⟨⟨fn, hfn, hname, hbody⟩, hc⟩ := h
        simp only [execOp, resolve, hg, Deferred.ofValue, Sem.run_bind, Sem.run_pure, Result.andThen_ok, invoke, callFunc, run_program, hfn, hname, hbody, Bool.false_eq_true, if_false]
        exact Calls.mono hc fun e w' ⟨v, hv, hr⟩ => by subst hv; exact hK _ _ hr
      · exact h.elim
    · exact h.elim
  · exact h.elim
theorem vop_sound {P : Program} {n : Nat} {t : Fr} {w : World} {o : Oper} {K : Value → World → Prop} {next : Act → World → Prop} {Q : Exit → Act → World → Prop}
    (h : vop P n o t w K) (hK : ∀ v w', K v w' → next ((act n t).put o.dst v) w') : o.wp P (act n t) w next Q := by
  unfold Oper.wp
  rw [act_eval']
  unfold vop at h
  split at h
  · obtain ⟨v, hv, hk⟩ := h
    rw [ro_sound hv]
    exact hK _ _ hk
  · exact stp_sound h hK
  · obtain ⟨nx, w', hr, hk⟩ := h
    rw [hr]
    cases nx <;> simp only at hk <;> first | exact hK _ _ hk | exact hk.elim
end Go.V
namespace Go.V
open Go.RowKit

def gval (ops : Array Oper) (n : Nat) (t : Fr) (j : Nat) : Value :=
  match (ops[j]?).bind (·.dst) with
  | some d => if d < n then t d else undef
  | none => undef
/-- A guard. -/
def Gd (v : Value) (b : Bool) (X Y : Prop) : Prop := (v = .bool b → X) ∧ (v ≠ .bool b → Y)
/-- A branch. -/
def Br (v : Value) (X Y : Prop) : Prop := (v = .bool true ∧ X) ∨ (v = .bool false ∧ Y)
theorem yielded_act (ops : Array Oper) (n : Nat) (t : Fr) (j : Nat) (b : Bool) : (yielded ops (act n t).tmps j == some b) = true ↔ gval ops n t j = .bool b := by
  unfold yielded gval
  cases hd : (ops[j]?).bind (·.dst) with
  | none => simp [undef]
  | some d =>
    simp only [Option.bind_some, act]
    by_cases h : d < n
    · simp only [h, if_true, Array.getElem?_ofFn, dif_pos]
      cases t d <;> simp
    · simp [h, undef]
def vops (P : Program) (n : Nat) (ops : Array Oper) (Q : Ex → Fr → World → Prop) : List Oper → Fr → World → Prop
  | [], t, w => Q .normal t w
  | o :: rest, t, w => match o.guard with
    | none => vop P n o t w fun v w' => vops P n ops Q rest (updO t o.dst v) w'
    | some (j, b) => Gd (gval ops n t j) b (vop P n o t w fun v w' => vops P n ops Q rest (updO t o.dst v) w') (vops P n ops Q rest (updO t o.dst undef) w)
theorem wanted_iff (ops : Array Oper) (n : Nat) (t : Fr) (o : Oper) :
    Region.wanted o (yielded ops (act n t).tmps) = true ↔ (o.guard = none ∨ ∃ j b, o.guard = some (j, b) ∧ gval ops n t j = .bool b) := by
  unfold Region.wanted
  cases hg : o.guard with
  | none => simp
  | some jb =>
    obtain ⟨j, b⟩ := jb
    simp only [Option.some.injEq, Prod.mk.injEq]
    rw [yielded_act]
    constructor
    · intro h; exact .inr ⟨j, b, ⟨rfl, rfl⟩, h⟩
    · rintro (h | ⟨j', b', ⟨rfl, rfl⟩, h⟩)
      · cases h
      · exact h
theorem vops_sound {P : Program} {n : Nat} {ops : Array Oper} {Q : Ex → Fr → World → Prop} : ∀ (l : List Oper) (t : Fr) (w : World),
    vops P n ops Q l t w → wpList P ops (lift n Q) l (act n t) w
  | [], t, w, h => ⟨t, rfl, h⟩
  | o :: rest, t, w, h => by
    have hstep : ∀ (t : Fr) (w : World), (vop P n o t w fun v w' => vops P n ops Q rest (updO t o.dst v) w') → o.wp P (act n t) w (wpList P ops (lift n Q) rest) (lift n Q) :=
      fun t w h => vop_sound h fun v w' h' => by rw [act_put]; exact vops_sound rest _ _ h'
    unfold vops at h
    unfold wpList
    by_cases hw : Region.wanted o (yielded ops (act n t).tmps) = true
    · rw [if_pos hw]
      left
      rcases (wanted_iff ops n t o).1 hw with hg | ⟨j, b, hg, hv⟩
      · simp only [hg] at h; exact hstep t w h
      · simp only [hg] at h; exact hstep t w (h.1 hv)
    · rw [if_neg hw, act_put]
      apply vops_sound rest
      cases hg : o.guard with
      | none => exact absurd ((wanted_iff ops n t o).2 (.inl hg)) hw
      | some jb =>
        obtain ⟨j, b⟩ := jb
        simp only [hg] at h
        exact h.2 fun e => hw ((wanted_iff ops n t o).2 (.inr ⟨j, b, hg, e⟩))

/-! a region that draws: what only reads is taken first -/
def wpR (P : Program) (ops : Array Oper) (Q : Exit → Act → World → Prop) (R : World → World → Prop) (need : Nat → Bool) : Nat → Array Bool → Act → World → Prop
  | 0, listed, a, w => Region.ready .any ops listed = [] ∧ Q .normal a w
  | fuel + 1, listed, a, w =>
    (Region.ready .any ops listed = [] → Q .normal a w) ∧
    ∀ i ∈ Region.ready .any ops listed, wpOp P ops Q i (fun a' w' => (need i = true → R w w') ∧ wpR P ops Q R need fuel (listed.setIfInBounds i true) a' w') a w
theorem wpAny_of_wpR {P : Program} {ops : Array Oper} {Q : Exit → Act → World → Prop} {R : World → World → Prop} {need : Nat → Bool} :
    ∀ (fuel : Nat) (listed : Array Bool) (a : Act) (w : World), wpR P ops Q R need fuel listed a w → wpAny P .any ops Q fuel listed a w
  | 0, _, _, _, h => h
  | fuel + 1, _, _, _, h => ⟨h.1, fun i hi => wpOp_mono (fun a' w' h' => wpAny_of_wpR fuel _ a' w' h'.2) (h.2 i hi)⟩
theorem wpR_first {P : Program} {ops : Array Oper} {Q : Exit → Act → World → Prop} {R : World → World → Prop} {need : Nat → Bool} (hrefl : ∀ w, R w w) (htrans : ∀ a b c, R a b → R b c → R a c)
    {i : Nat} {oi : Oper} {v : Value} (hi : ops[i]? = some oi) (hsel : ∀ (j : Nat) (o : Oper) cs b, ops[j]? = some o → o.op ≠ .select cs b)
    (hQ : ∀ c a w, Q (.panic c) (a.put oi.dst v) w → Q (.panic c) a w)
    (Md : Nat → Prop) (hmd : ∀ k, Md k → ∃ ok, ops[k]? = some ok ∧ ∃ e ∈ ok.after, Region.binds .any e = true ∧ e.on = i)
    (hlate : ∀ j oj, ops[j]? = some oj → need j = false → j ≠ i → ∃ e ∈ oj.after, Region.binds .any e = true ∧ (e.on = i ∨ Md e.on)) :
    ∀ (fuel : Nat) (listed : Array Bool) (a : Act) (w : World), (∀ k, Md k → listed.getD k true = false) →
      (∀ j oj, ops[j]? = some oj → j ≠ i → listed.getD j true = false → (∀ e ∈ oj.after, Region.binds .any e = true → e.on ≠ i) → oi.apart ops oj = true) →
      i ∈ Region.ready .any ops listed → YieldsIf P ops (R w) oi v a →
      wpR P ops Q R need fuel (listed.setIfInBounds i true) (a.put oi.dst v) w → wpR P ops Q R need (fuel + 1) listed a w := by
  intro fuel
  induction fuel with
  | zero =>
    intro listed a w _ _ hr hy H
    refine ⟨fun h => (by rw [h] at hr; cases hr), fun j hj => ?_⟩
    by_cases hji : j = i
    · subst hji; exact hy.wpOp hi (hrefl w) ⟨fun _ => hrefl w, H⟩
    · have := ready_mono hj hji
      rw [H.1] at this
      cases this
  | succ fuel ih =>
    intro listed a w hml hfree hr hy H
    refine ⟨fun h => (by rw [h] at hr; cases hr), fun j hj => ?_⟩
    by_cases hji : j = i
    · subst hji; exact hy.wpOp hi (hrefl w) ⟨fun _ => hrefl w, H⟩
    · have hrun := H.2 j (ready_mono hj hji)
      obtain ⟨hun, oj, hoj, hwait⟩ := mem_ready.1 hj
      have hnot : ∀ e ∈ oj.after, Region.binds .any e = true → e.on ≠ i := by
        intro e he hb heq
        have l1 := hwait e he hb
        have l0 := (mem_ready.1 hr).1
        rw [heq] at l1
        rcases Nat.lt_or_ge i listed.size with hlt | hge
        · simp [hlt] at l0 l1; rw [l0] at l1; cases l1
        · simp [Array.getElem?_eq_none hge] at l1
      have hneed : need j = true := by
        cases hn : need j with
        | true => rfl
        | false =>
          obtain ⟨e, he, hb, heq⟩ := hlate j oj hoj hn hji
          rcases heq with heq | heq
          · exact absurd heq (hnot e he hb)
          · have l1 := hwait e he hb
            have l0 := hml _ heq
            rcases Nat.lt_or_ge e.on listed.size with hlt | hge
            · simp [hlt] at l0 l1; rw [l0] at l1; cases l1
            · simp [Array.getElem?_eq_none hge] at l1
      have hml' : ∀ k, Md k → (listed.setIfInBounds j true).getD k true = false := by
        intro k hk
        obtain ⟨ok, hok, e, he, hb, heq⟩ := hmd k hk
        have hkj : j ≠ k := by
          rintro rfl
          rw [hoj] at hok; cases hok
          exact hnot e he hb heq
        have := hml k hk
        simpa [Array.getElem?_setIfInBounds, hkj] using this
      have hput := wpOp_putIf hoj (hfree j oj hoj hji hun hnot) (fun cs b => hsel i oi cs b hi) (fun cs b => hsel j oj cs b hoj) hQ hy hrun
      have hfree' : ∀ k ok, ops[k]? = some ok → k ≠ i → (listed.setIfInBounds j true).getD k true = false →
          (∀ e ∈ ok.after, Region.binds .any e = true → e.on ≠ i) → oi.apart ops ok = true := by
        intro k ok hk hki hun' hno
        refine hfree k ok hk hki ?_ hno
        by_cases hjk : j = k
        · subst hjk; exact hun
        · rw [getD_set_ne true hjk] at hun'; exact hun'
      refine wpOp_mono (fun a' w' hh => ?_) hput
      obtain ⟨hy', hR, hW⟩ := hh
      have hRw := hR hneed
      refine ⟨fun _ => hRw, ih (listed.setIfInBounds j true) a' w' hml' hfree' (ready_mono hr (Ne.symm hji)) ?_ ?_⟩
      · exact hy'.imp (fun ⟨x, y⟩ => ⟨x, fun w'' h'' => y w'' (htrans _ _ _ hRw h'')⟩) id
      · rw [Array.setIfInBounds_comm _ _ hji]; exact hW
/-- What stood and is not among M stands as it did. -/
def Keep (M : List Nat) (w w' : World) : Prop := w.heap.size ≤ w'.heap.size ∧ ∀ b, b < w.heap.size → b ∉ M → w'.heap[b]? = w.heap[b]?
theorem Keep.refl (M : List Nat) (w : World) : Keep M w w := ⟨Nat.le_refl _, fun _ _ _ => rfl⟩
theorem Keep.trans {M : List Nat} {a b c : World} (h : Keep M a b) (k : Keep M b c) : Keep M a c :=
  ⟨Nat.le_trans h.1 k.1, fun i hi hm => (k.2 i (Nat.lt_of_lt_of_le hi h.1) hm).trans (h.2 i hi hm)⟩
theorem lt_of_cell {w : World} {a : Addr} {v : Value} (h : w.cell? a = some v) : a.block < w.heap.size := World.block_lt_of_cell? w a h
theorem Keep.cell {M : List Nat} {w w' : World} (h : Keep M w w') {a : Addr} {v : Value} (hc : w.cell? a = some v) (hm : a.block ∉ M) : w'.cell? a = some v := by
  rw [← hc]; exact World.cell?_of_block (w := w) (h.2 _ (lt_of_cell hc) hm)
def NotIn (M : List Nat) (v : Value) : Prop :=
  match v with
  | .pointer (some a) => a.block ∉ M
  | .map (some r) => r ∉ M
  | _ => True
def NotInS (M : List Nat) (v : Value) : Prop :=
  match v with
  | .slice (some a) _ _ => a.block ∉ M
  | _ => True
/-- An operation that reads reads outside M. -/
def RF (M : List Nat) (n : Nat) (t : Fr) : Op → Prop
  | .load _ a => NotIn M (ev n t a)
  | .lookup _ m _ _ => NotIn M (ev n t m)
  | .convert _ _ x => NotInS M (ev n t x)
  | .call c => ∀ x ∈ c.args.toList, NotIn M (ev n t x)
  | _ => True
theorem block_add (a : Addr) (k : Nat) : (a.add k).block = a.block := by unfold Addr.add; split <;> rfl
theorem cellsL_keep {M : List Nat} {w w' : World} (h : Keep M w w') {a : Addr} (hm : a.block ∉ M) : ∀ (n i : Nat) (l : List Value), cellsL w (.pointer (some a)) i n = some l → cellsL w' (.pointer (some a)) i n = some l
  | 0, _, _, hl => hl
  | n + 1, i, l, hl => by
    simp only [cellsL] at hl ⊢
    cases hc : cellP w (.pointer (some a)) i with
    | none => simp [hc] at hl
    | some x =>
      have : cellP w' (.pointer (some a)) i = some x := h.cell (a := a.add i) hc (by rw [block_add]; exact hm)
      simp only [hc] at hl
      simp only [this]
      cases hr : cellsL w (.pointer (some a)) (i + 1) n with
      | none => simp [hr] at hl
      | some l' =>
        rw [cellsL_keep h hm n (i + 1) l' hr]
        simpa [hr] using hl
theorem ldV_keep {P : Program} {T : TypeId} {M : List Nat} {w w' : World} (h : Keep M w w') {v u : Value} (hm : NotIn M v) (hl : ldV P T w v = some u) : ldV P T w' v = some u := by
  unfold ldV at hl ⊢
  cases ho : aggN P T with
  | none => simp [ho] at hl
  | some o =>
    cases v with
    | pointer a =>
      cases a with
      | none =>
        cases o with
        | none => simp [ho, cellP] at hl
        | some n =>
          cases n with
          | zero => simp [ho] at hl
          | succ n => simp [ho, cellsL, cellP] at hl
      | some a =>
        cases o with
        | none =>
          simp only [ho] at hl ⊢
          exact h.cell (a := a.add 0) hl (by rw [block_add]; exact hm)
        | some n =>
          simp only [ho] at hl ⊢
          by_cases hn : n = 0
          · simp [hn] at hl
          simp only [hn, if_false] at hl ⊢
          cases hr : cellsL w (.pointer (some a)) 0 n with
          | none => simp [hr] at hl
          | some l => rw [cellsL_keep h hm n 0 l hr]; simpa [hr] using hl
    | _ =>
      cases o with
      | none => simp [ho, cellP] at hl
      | some n =>
        cases n with
        | zero => simp [ho] at hl
        | succ n => simp [ho, cellsL, cellP] at hl
theorem lenV_keep {P : Program} {T : TypeId} {M : List Nat} {w w' : World} (h : Keep M w w') {v u : Value} (hm : NotIn M v) (hl : lenV P T w v = some u) : lenV P T w' v = some u := by
  unfold lenV at hl ⊢
  split at hl
  · simpa using hl
  · simpa using hl
  · simpa using hl
  · rename_i r hu
    cases hr : w.heap[r]? with
    | none => simp [hr] at hl
    | some o =>
      have hlt : r < w.heap.size := (Array.getElem?_eq_some_iff.1 hr).1
      rw [h.2 r hlt hm]
      simpa using hl
  · cases hl
theorem lkO_keep {P : Program} {T : TypeId} {M : List Nat} {w w' : World} (h : Keep M w w') {m k u : Value} {c : Bool} (hm : NotIn M m) (hl : lkO P T w m k c = some u) : lkO P T w' m k c = some u := by
  unfold lkO at hl ⊢
  split at hl
  · split at hl
    · split at hl
      · exact hl
      · rename_i b
        cases hb : w.heap[b]? with
        | none => simp [hb] at hl
        | some o =>
          have : w'.heap[b]? = some o := (h.2 b (Array.getElem?_eq_some_iff.1 hb).1 hm).trans hb
          simp only [hb] at hl
          simp only [this]
          exact hl
      · cases hl
    · cases hl
  · cases hl
theorem bytesL_keep {M : List Nat} {w w' : World} (h : Keep M w w') {a : Addr} (hm : a.block ∉ M) : ∀ (n i : Nat) (l : List Int), bytesL w (some a) i n = some l → bytesL w' (some a) i n = some l
  | 0, _, _, hl => hl
  | n + 1, i, l, hl => by
    simp only [bytesL, Option.bind_eq_some_iff, Option.map_eq_some_iff] at hl ⊢
    obtain ⟨z, hz, l', hl', rfl⟩ := hl
    refine ⟨z, ?_, l', bytesL_keep h hm n (i + 1) l' hl', rfl⟩
    unfold byV at hz ⊢
    split at hz
    · rename_i z' hr
      have : rd w' (some a) i = some (.int .u8 z') := h.cell (a := a.add i) hr (by rw [block_add]; exact hm)
      rw [this]; exact hz
    · cases hz
theorem cvW_keep {P : Program} {S D : TypeId} {M : List Nat} {w w' : World} (h : Keep M w w') {x u : Value} (hm : NotInS M x) (hl : cvW P S D w x = some u) : cvW P S D w' x = some u := by
  unfold cvW at hl ⊢
  split at hl
  · exact hl
  · split at hl
    · rename_i e a n c hS hD _
      split at hl
      · simp only [Option.map_eq_some_iff] at hl ⊢
        obtain ⟨l, hl, rfl⟩ := hl
        exact ⟨l, bytesL_keep h hm n 0 l hl, rfl⟩
      · cases hl
    · cases hl
theorem ro_keep {P : Program} {n : Nat} {t : Fr} {M : List Nat} {w w' : World} (h : Keep M w w') {op : Op} {u : Value} (hm : RF M n t op) (hr : ro P n t w op = some u) : ro P n t w' op = some u := by
  cases op <;> simp only [ro] at hr ⊢ <;> (try exact hr) <;> (try (cases hr; done))
  case load T a => exact ldV_keep h hm hr
  case lookup T m k c => exact lkO_keep h hm hr
  case convert S D x => exact cvW_keep h hm hr
  case call c =>
    obtain ⟨callee, args, argTypes⟩ := c
    cases callee <;> (try simp only at hr ⊢) <;> (try exact hr) <;> (try (cases hr; done))
    rename_i b
    cases b <;> (try simp only at hr ⊢) <;> (try exact hr) <;> (try (cases hr; done))
    split at hr
    · rename_i x T hx hT
      exact lenV_keep h (hm x (by simp only; rw [hx]; exact List.mem_singleton.2 rfl)) hr
    · cases hr
def vopK (P : Program) (n : Nat) (o : Oper) (t : Fr) (w : World) (M : List Nat) (nd : Bool) (K : Value → World → Prop) : Prop :=
  match way o.op with
  | .ro => Vl (ro P n t w o.op) fun v => RF M n t o.op ∧ K v w
  | _ => vop P n o t w fun v w' => (nd = true → Keep M w w') ∧ K v w'
/-- A region that draws, walked by one plan of its operations. -/
def vpl (P : Program) (n : Nat) (ops : Array Oper) (Q : Ex → Fr → World → Prop) (M : List Nat) (need : Nat → Bool) : List Nat → Fr → World → Prop
  | [], t, w => Q .normal t w
  | i :: l, t, w => match ops[i]? with
    | none => False
    | some o => match o.guard with
      | none => vopK P n o t w M (need i) fun v w' => vpl P n ops Q M need l (updO t o.dst v) w'
      | some (j, b) => Gd (gval ops n t j) b (vopK P n o t w M (need i) fun v w' => vpl P n ops Q M need l (updO t o.dst v) w') (vpl P n ops Q M need l (updO t o.dst undef) w)
def isRo (op : Op) : Bool := match way op with | .ro => true | _ => false
/-- Operation k waits for i, and has not come up. -/
def midOk (ops : Array Oper) (listed : Array Bool) (i k : Nat) : Bool :=
  !(listed.getD k true) && match ops[k]? with
    | some ok => ok.after.any fun e => Region.binds .any e && e.on == i
    | none => false
def waits (ops : Array Oper) (need : Nat → Bool) (listed : Array Bool) (i : Nat) : Bool :=
  (List.range ops.size).all fun j => need j || j == i || match ops[j]? with
    | some oj => oj.after.any fun e => Region.binds .any e && (e.on == i || midOk ops listed i e.on)
    | none => true
def planOk (ops : Array Oper) (need : Nat → Bool) : List Nat → Array Bool → Bool
  | [], listed => (Region.ready .any ops listed).isEmpty
  | i :: l, listed => (match ops[i]? with
    | none => false
    | some o => if isRo o.op then Region.free .any ops listed i && (Region.ready .any ops listed).contains i && waits ops need listed i else Region.ready .any ops listed == [i]) &&
      planOk ops need l (listed.setIfInBounds i true)
/-- Every operation but the last k must leave what stood. -/
def upTo (k : Nat) (i : Nat) : Bool := Nat.blt i k
end Go.V
namespace Go.V
open Go.RowKit

theorem lift_panic (n : Nat) (Q : Ex → Fr → World → Prop) (x : Option Tmp) (v : Value) : ∀ c a w, lift n Q (.panic c) (Act.put a x v) w → lift n Q (.panic c) a w := fun _ _ _ h => h.elim
theorem wpOp_of {P : Program} {ops : Array Oper} {Q : Exit → Act → World → Prop} {i : Nat} {o : Oper} {K : Act → World → Prop} {a : Act} {w : World} (hi : ops[i]? = some o)
    (h1 : Region.wanted o (yielded ops a.tmps) = true → o.wp P a w K Q) (h2 : Region.wanted o (yielded ops a.tmps) = false → K (a.put o.dst undef) w) : wpOp P ops Q i K a w := by
  unfold wpOp
  simp only [hi]
  cases hw : Region.wanted o (yielded ops a.tmps) with
  | true => simp only [if_true]; exact .inl (h1 hw)
  | false => simp only [Bool.false_eq_true, if_false]; exact h2 hw
theorem wanted_false {ops : Array Oper} {n : Nat} {t : Fr} {o : Oper} (h : Region.wanted o (yielded ops (act n t).tmps) = false) : ∃ j b, o.guard = some (j, b) ∧ gval ops n t j ≠ .bool b := by
  cases hg : o.guard with
  | none => have := (wanted_iff ops n t o).2 (.inl hg); rw [h] at this; cases this
  | some jb =>
    obtain ⟨j, b⟩ := jb
    refine ⟨j, b, rfl, fun e => ?_⟩
    have := (wanted_iff ops n t o).2 (.inr ⟨j, b, hg, e⟩)
    rw [h] at this; cases this
def Mid (ops : Array Oper) (listed : Array Bool) (i k : Nat) : Prop := midOk ops listed i k = true
theorem Mid.un {ops : Array Oper} {listed : Array Bool} {i k : Nat} (h : Mid ops listed i k) : listed.getD k true = false := by
  unfold Mid midOk at h
  simp only [Bool.and_eq_true, Bool.not_eq_true'] at h
  exact h.1
theorem Mid.af {ops : Array Oper} {listed : Array Bool} {i k : Nat} (h : Mid ops listed i k) : ∃ ok, ops[k]? = some ok ∧ ∃ e ∈ ok.after, Region.binds .any e = true ∧ e.on = i := by
  unfold Mid midOk at h
  simp only [Bool.and_eq_true] at h
  have h2 := h.2
  cases hk : ops[k]? with
  | none => rw [hk] at h2; cases h2
  | some ok =>
    rw [hk] at h2
    obtain ⟨e, he, hb⟩ := Array.any_eq_true'.1 h2
    simp only [Bool.and_eq_true, beq_iff_eq] at hb
    exact ⟨ok, rfl, e, he, hb.1, hb.2⟩
theorem waits_spec {ops : Array Oper} {need : Nat → Bool} {listed : Array Bool} {i : Nat} (h : waits ops need listed i = true) : ∀ j oj, ops[j]? = some oj → need j = false → j ≠ i → ∃ e ∈ oj.after, Region.binds .any e = true ∧ (e.on = i ∨ Mid ops listed i e.on) := by
  intro j oj hj hn hne
  have hlt : j < ops.size := (Array.getElem?_eq_some_iff.1 hj).1
  have := List.all_eq_true.1 h j (List.mem_range.2 hlt)
  simp only [hn, hj, Bool.false_or, Bool.or_eq_true, beq_iff_eq, hne, false_or] at this
  obtain ⟨e, he, hb⟩ := Array.any_eq_true'.1 this
  simp only [Bool.and_eq_true, Bool.or_eq_true, beq_iff_eq] at hb
  exact ⟨e, he, hb.1, hb.2⟩
theorem vpl_sound {P : Program} {n : Nat} {ops : Array Oper} {Q : Ex → Fr → World → Prop} {M : List Nat} {need : Nat → Bool} (hs : Region.noSelect ops = true) :
    ∀ (l : List Nat) (fuel : Nat) (listed : Array Bool) (t : Fr) (w : World), planOk ops need l listed = true → l.length ≤ fuel → vpl P n ops Q M need l t w →
      wpR P ops (lift n Q) (Keep M) need fuel listed (act n t) w
  | [], fuel, listed, t, w, hp, hl, h => by
    have hr : Region.ready .any ops listed = [] := by simpa [planOk] using hp
    cases fuel with
    | zero => exact ⟨hr, t, rfl, h⟩
    | succ fuel => exact ⟨fun _ => ⟨t, rfl, h⟩, by rw [hr]; simp⟩
  | i :: l, 0, listed, t, w, hp, hl, h => by simp at hl
  | i :: l, fuel + 1, listed, t, w, hp, hl, h => by
    simp only [planOk, Bool.and_eq_true] at hp
    obtain ⟨hp1, hp2⟩ := hp
    have hl' : l.length ≤ fuel := by simpa using hl
    have ih := fun t w => vpl_sound (P := P) (n := n) (Q := Q) (M := M) hs l fuel (listed.setIfInBounds i true) t w hp2 hl'
    simp only [vpl] at h
    cases ho : ops[i]? with
    | none => simp only [ho] at h
    | some o =>
      simp only [ho] at hp1 h
      by_cases hro : isRo o.op = true
      · simp only [hro, if_true, Bool.and_eq_true] at hp1
        obtain ⟨⟨hfree, hready⟩, hwaits⟩ := hp1
        have hway : way o.op = .ro := by
          unfold isRo at hro
          cases hw : way o.op <;> simp [hw] at hro ⊢
        have core : ∀ v, YieldsIf P ops (Keep M w) o v (act n t) → vpl P n ops Q M need l (updO t o.dst v) w → wpR P ops (lift n Q) (Keep M) need (fuel + 1) listed (act n t) w := by
          intro v hy hv
          refine wpR_first (Keep.refl M) (fun _ _ _ => Keep.trans) ho (Region.noSelect_spec hs) (lift_panic n Q o.dst v) (Mid ops listed i) (fun k h => h.af) (waits_spec hwaits) fuel listed _ w (fun k h => h.un) (Region.free_spec ho hfree) (by simpa using hready) hy ?_
          rw [act_put]; exact ih _ _ hv
        have yields : ∀ v, ro P n t w o.op = some v → RF M n t o.op → Region.wanted o (yielded ops (act n t).tmps) = true → YieldsIf P ops (Keep M w) o v (act n t) := by
          intro v hv hrf hw
          refine .inl ⟨hw, fun w' hk => ?_⟩
          rw [act_eval']
          exact ro_sound (ro_keep hk hrf hv)
        have run : vopK P n o t w M (need i) (fun v w' => vpl P n ops Q M need l (updO t o.dst v) w') → Region.wanted o (yielded ops (act n t).tmps) = true →
            wpR P ops (lift n Q) (Keep M) need (fuel + 1) listed (act n t) w := by
          intro hk hw
          unfold vopK at hk
          simp only [hway] at hk
          obtain ⟨v, hv, hrf, hk⟩ := hk
          exact core v (yields v hv hrf hw) hk
        cases hg : o.guard with
        | none => simp only [hg] at h; exact run h ((wanted_iff ops n t o).2 (.inl hg))
        | some jb =>
          obtain ⟨j, b⟩ := jb
          simp only [hg] at h
          by_cases hv : gval ops n t j = .bool b
          · exact run (h.1 hv) ((wanted_iff ops n t o).2 (.inr ⟨j, b, hg, hv⟩))
          · refine core undef (.inr ⟨?_, rfl⟩) (h.2 hv)
            cases hw : Region.wanted o (yielded ops (act n t).tmps) with
            | false => rfl
            | true =>
              rcases (wanted_iff ops n t o).1 hw with h0 | ⟨j', b', h0, h1⟩
              · rw [hg] at h0; cases h0
              · rw [hg] at h0; cases h0; exact absurd h1 hv
      · simp only [hro] at hp1
        have hready : Region.ready .any ops listed = [i] := by simpa using hp1
        have hway : way o.op ≠ .ro := fun e => hro (by simp [isRo, e])
        refine ⟨fun h0 => (by rw [hready] at h0; cases h0), fun i' hi' => ?_⟩
        rw [hready] at hi'
        obtain rfl : i' = i := by simpa using hi'
        have run : vopK P n o t w M (need i') (fun v w' => vpl P n ops Q M need l (updO t o.dst v) w') →
            o.wp P (act n t) w (fun a' w' => (need i' = true → Keep M w w') ∧ wpR P ops (lift n Q) (Keep M) need fuel (listed.setIfInBounds i' true) a' w') (lift n Q) := by
          intro hk
          have hk' : vop P n o t w fun v w' => (need i' = true → Keep M w w') ∧ vpl P n ops Q M need l (updO t o.dst v) w' := by
            unfold vopK at hk
            cases hw : way o.op <;> simp only [hw] at hk hway
            · exact absurd rfl hway
            · exact hk
            · exact hk
          refine vop_sound hk' fun v w' hh => ⟨hh.1, ?_⟩
          rw [act_put]; exact ih _ _ hh.2
        refine wpOp_of ho (fun hw => ?_) (fun hw => ?_)
        · rcases (wanted_iff ops n t o).1 hw with hg | ⟨j, b, hg, hv⟩
          · simp only [hg] at h; exact run h
          · simp only [hg] at h; exact run (h.1 hv)
        · obtain ⟨j, b, hg, hv⟩ := wanted_false hw
          simp only [hg] at h
          refine ⟨fun _ => Keep.refl M w, ?_⟩
          rw [act_put]; exact ih _ _ (h.2 hv)

/-! code -/
def Ex.then (K : Fr → World → Prop) (Q : Ex → Fr → World → Prop) : Ex → Fr → World → Prop
  | .normal, t, w => K t w
  | e, t, w => Q e t w
def Ex.blk (id : Nat) (Q : Ex → Fr → World → Prop) : Ex → Fr → World → Prop
  | .exit i, t, w => if i = id then Q .normal t w else Q (.exit i) t w
  | e, t, w => Q e t w
/-- A region that draws. -/
def Dr (P : Program) (n : Nat) (ops : Array Oper) (Q : Ex → Fr → World → Prop) (t : Fr) (w : World) : Prop :=
  ∀ id, (Code.region id ops true).wp P (lift n Q) (act n t) w
/-- A loop: I speaks of the rounds that may still come. -/
def Lp (V : (Ex → Fr → World → Prop) → Fr → World → Prop) (Q : Ex → Fr → World → Prop) (t : Fr) (w : World) : Prop :=
  ∃ I : Nat → Fr → World → Prop, (∃ k, I k t w) ∧ ∀ k t w, I k t w → V (Ex.then (fun t' w' => ∃ k', k' < k ∧ I k' t' w') Q) t w
def vc (P : Program) (n : Nat) : Code → (Ex → Fr → World → Prop) → Fr → World → Prop
  | .skip, Q, t, w => Q .normal t w
  | .label _, Q, t, w => Q .normal t w
  | .seq a b, Q, t, w => vc P n a (Ex.then (vc P n b Q) Q) t w
  | .cond c x y, Q, t, w => Br (ev n t c) (vc P n x Q t w) (vc P n y Q t w)
  | .block id c, Q, t, w => vc P n c (Ex.blk id Q) t w
  | .loop c, Q, t, w => Lp (vc P n c) Q t w
  | .exit id, Q, t, w => Q (.exit id) t w
  | .goto l, Q, t, w => Q (.goto l) t w
  | .ret, Q, t, w => Q .ret t w
  | .region _ ops false, Q, t, w => vops P n ops Q ops.toList t w
  | .region _ ops true, Q, t, w => Dr P n ops Q t w
  | .rangeFunc f ps a b, Q, t, w => (Code.rangeFunc f ps a b).wp P (lift n Q) (act n t) w
  | .scope b, Q, t, w => (Code.scope b).wp P (lift n Q) (act n t) w
  | .refuse r, Q, t, w => False
theorem lift_then {n : Nat} {K : Fr → World → Prop} {K' : Act → World → Prop} {Q : Ex → Fr → World → Prop} (hK : ∀ t w, K t w → K' (act n t) w) :
    ∀ e a w, lift n (Ex.then K Q) e a w → Exit.then K' (lift n Q) e a w := by
  intro e a w h
  cases e <;> simp only [lift, Ex.then, Exit.then] at h ⊢ <;> try exact h
  obtain ⟨t, rfl, h⟩ := h
  exact hK _ _ h
theorem vc_sound {P : Program} {n : Nat} : ∀ (c : Code) (Q : Ex → Fr → World → Prop) (t : Fr) (w : World), vc P n c Q t w → c.wp P (lift n Q) (act n t) w
  | .skip, Q, t, w, h => wp_skip ⟨t, rfl, h⟩
  | .label _, Q, t, w, h => wp_label ⟨t, rfl, h⟩
  | .seq a b, Q, t, w, h => wp_seq (wp_mono (vc_sound a _ t w h) (lift_then fun t w h => vc_sound b Q t w h))
  | .cond c x y, Q, t, w, h => by
    rcases h with ⟨hc, h⟩ | ⟨hc, h⟩
    · exact wp_cond_true (by rw [act_eval]; exact hc) (vc_sound x Q t w h)
    · exact wp_cond_false (by rw [act_eval]; exact hc) (vc_sound y Q t w h)
  | .block id c, Q, t, w, h => by
    refine wp_block (wp_mono (vc_sound c _ t w h) ?_)
    intro e a w h
    cases e <;> simp only [lift, Ex.blk, Exit.inBlock] at h ⊢ <;> try exact h
    obtain ⟨t, rfl, h⟩ := h
    split
    · rename_i he; rw [if_pos he] at h; exact ⟨t, rfl, h⟩
    · rename_i he; rw [if_neg he] at h; exact ⟨t, rfl, h⟩
  | .loop c, Q, t, w, h => by
    obtain ⟨I, ⟨k, h0⟩, hr⟩ := h
    refine wp_loop_ghost (fun k a w => ∃ t, a = act n t ∧ I k t w) k ⟨t, rfl, h0⟩ ?_
    intro k a w hI
    obtain ⟨t, rfl, hI⟩ := hI
    refine wp_mono (vc_sound c _ t w (hr k t w hI)) (lift_then ?_)
    rintro t' w' ⟨k', hk, hI'⟩
    exact ⟨k', hk, t', rfl, hI'⟩
  | .exit id, Q, t, w, h => wp_exit ⟨t, rfl, h⟩
  | .goto l, Q, t, w, h => wp_goto ⟨t, rfl, h⟩
  | .ret, Q, t, w, h => wp_ret ⟨t, rfl, h⟩
  | .region id ops false, Q, t, w, h => wp_region_list (vops_sound _ t w h)
  | .region id ops true, Q, t, w, h => h id
  | .rangeFunc f ps a b, Q, t, w, h => h
  | .scope b, Q, t, w, h => h
  | .refuse r, Q, t, w, h => h.elim
/-- A region that draws, by a plan: what only reads is taken as soon as it can be; need i: operation i must leave what stood (outside M). -/
theorem Dr_plan {P : Program} {n : Nat} {ops : Array Oper} {Q : Ex → Fr → World → Prop} {t : Fr} {w : World} (M : List Nat) (need : Nat → Bool) (l : List Nat) (hm : P.follows .mixedOrders = true)
    (hp : (Region.noSelect ops && planOk ops need l (Array.replicate ops.size false) && Nat.ble l.length ops.size) = true) (h : vpl P n ops Q M need l t w.drew) : Dr P n ops Q t w := by
  intro id
  simp only [Bool.and_eq_true, Nat.ble_eq] at hp
  exact wp_region_any hm (wpAny_of_wpR _ _ _ _ (vpl_sound hp.1.1 l ops.size _ t _ hp.1.2 hp.2 h))

/-! the entry -/
def retV (P : Program) (n : Nat) (t : Fr) (w : World) : List ResultVar → Option (List Value)
  | [] => some []
  | .tmp i :: l => (retV P n t w l).map (ev n t (.tmp i) :: ·)
  | .cell a T :: l => match ldV P T w (ev n t (.tmp a)) with
    | some v => (retV P n t w l).map (v :: ·)
    | none => none
def tupV : List Value → Value
  | [v] => v
  | l => .tuple l.toArray
def post (P : Program) (n : Nat) (rs : List ResultVar) (R : Value → World → Prop) : Ex → Fr → World → Prop
  | .normal, t, w => ∃ l, retV P n t w rs = some l ∧ R (tupV l) w
  | .ret, t, w => ∃ l, retV P n t w rs = some l ∧ R (tupV l) w
  | _, _, _ => False
theorem getD_act (n : Nat) (t : Fr) (i : Nat) : (act n t).tmps.getD i undef = ev n t (.tmp i) := act_eval n t (.tmp i)
theorem run_results {P : Program} {n : Nat} {t : Fr} {w : World} (f : ResultVar → Sem Value)
    (hf : ∀ r, f r = match r with | .tmp i => pure ((act n t).tmps.getD i undef) | .cell a T => (do loadVar T (← asAddr ((act n t).tmps.getD a undef)))) :
    ∀ (l : List ResultVar) (vs : List Value), retV P n t w l = some vs → (l.mapM f).run P w = .ok vs w
  | [], vs, h => by simp only [retV, Option.some.injEq] at h; subst h; rfl
  | r :: l, vs, h => by
    have key : ∀ v vs', (f r).run P w = .ok v w → retV P n t w l = some vs' → ((r :: l).mapM f).run P w = .ok (v :: vs') w := by
      intro v vs' h1 h2
      simp only [List.mapM_cons, Sem.run_bind, h1, Result.andThen_ok, run_results f hf l vs' h2, Sem.run_pure]
    cases r with
    | tmp i =>
      simp only [retV] at h
      cases hr : retV P n t w l with
      | none => simp [hr] at h
      | some vs' =>
        simp only [hr, Option.map_some, Option.some.injEq] at h; subst h
        exact key _ _ (by rw [hf]; show Sem.run P (pure ((act n t).tmps.getD i undef)) w = _; rw [getD_act]; rfl) hr
    | cell a T =>
      simp only [retV] at h
      cases hl : ldV P T w (ev n t (.tmp a)) with
      | none => simp [hl] at h
      | some v =>
        simp only [hl] at h
        cases hr : retV P n t w l with
        | none => simp [hr] at h
        | some vs' =>
          simp only [hr, Option.map_some, Option.some.injEq] at h; subst h
          refine key _ _ ?_ hr
          have := ldV_sound hl
          rw [hf]
          show Sem.run P (do loadVar T (← asAddr ((act n t).tmps.getD a undef))) w = _
          rw [getD_act]
          simp only [Instr.loadAt, Sem.run_bind] at this ⊢
          generalize ev n t (.tmp a) = p at *
          cases p with
          | pointer a => cases a with
            | none => simp [Instr.sureAddr] at this
            | some a => simpa [Instr.sureAddr, asAddr] using this
          | _ => simp [Instr.sureAddr] at this
theorem post_sound {P : Program} {fn : Func} {R : Value → World → Prop} : ∀ e a w, lift fn.ntmps (post P fn.ntmps fn.results.toList R) e a w →
    bodyPost P fn (fun e w' => ∃ v, e = .returned v ∧ R v w') e a w := by
  intro e a w h
  have key : ∀ t l, retV P fn.ntmps t w fn.results.toList = some l → R (tupV l) w → (act fn.ntmps t).defers = [] ∧ ∃ v, (results fn (act fn.ntmps t).tmps).run P w = .ok v w ∧ ∃ v', Ending.returned v = .returned v' ∧ R v' w := by
    intro t l hl hR
    refine ⟨rfl, tupV l, ?_, _, rfl, hR⟩
    unfold results
    rw [← Array.toArray_toList (xs := fn.results)]
    simp only [List.mapM_toArray, Sem.run_bind, Sem.run_map]
    rw [run_results _ (fun r => by cases r <;> rfl) _ _ hl]
    simp only [Result.andThen_ok, Sem.run_pure]
    match l with
    | [] => rfl
    | [v] => rfl
    | _ :: _ :: _ => simp [tupV]
  cases e <;> simp only [lift, post, bodyPost] at h ⊢ <;> (try exact h.elim)
  · obtain ⟨t, rfl, l, hl, hR⟩ := h; exact key t l hl hR
  · obtain ⟨t, _, h⟩ := h; exact h
  · obtain ⟨t, _, h⟩ := h; exact h
  · obtain ⟨t, rfl, l, hl, hR⟩ := h; exact key t l hl hR
def fr (args : Array Value) : Fr := fun i => args.getD i undef
theorem act_fr (args : Array Value) (n : Nat) (h : args.size ≤ n) : act n (fr args) = { tmps := args ++ Array.replicate (n - args.size) undef, defers := [] } := by
  simp only [act, fr]
  congr 1
  apply Array.ext
  · simp; omega
  · intro i h1 h2
    simp at h1
    by_cases hi : i < args.size
    · simp [hi, Array.getElem_append]
    · simp [hi, Array.getElem_append]
theorem Ok.enter {P : Program} {f : Nat} {fn : Func} {c : Code} {args : Array Value} {w : World} {R : Value → World → Prop} (hf : P.funcs[f]? = some fn)
    (hb : fn.body = some c) (hname : (fn.name == "runtime.NumGoroutine") = false) (hs : args.size ≤ fn.ntmps)
    (h : vc P fn.ntmps c (post P fn.ntmps fn.results.toList R) (fr args) w) : Ok P f args w R := by
  refine ⟨⟨fn, hf, hname, by rw [hb]; rfl⟩, calls_of_wp hf hb ?_⟩
  rw [← act_fr args fn.ntmps hs]
  exact wp_mono (vc_sound c _ _ w h) post_sound
end Go.V
namespace Go.V
open Go.RowKit

/-- What simp is not to look into: an argument behind a class. -/
class Hd (α : Type) where
  mk' ::
  out : α
abbrev KV := Hd (Value → World → Prop)
abbrev KP := Hd Prop
def hVl {α : Type} (x : Option α) [k : Hd (α → Prop)] : Prop := Vl x k.out
def hBr (v : Value) [X : KP] [Y : KP] : Prop := Br v X.out Y.out
def hGd (v : Value) (b : Bool) [X : KP] [Y : KP] : Prop := Gd v b X.out Y.out
def hOk (P : Program) (f : Nat) (args : Array Value) (w : World) [K : KV] : Prop := Ok P f args w K.out
def hLp [V : Hd ((Ex → Fr → World → Prop) → Fr → World → Prop)] [Q : Hd (Ex → Fr → World → Prop)] (t : Fr) (w : World) : Prop := Lp V.out Q.out t w
def hDr (P : Program) (n : Nat) [ops : Hd (Array Oper)] [Q : Hd (Ex → Fr → World → Prop)] (t : Fr) (w : World) : Prop := Dr P n ops.out Q.out t w
def RunA (P : Program) (ts : Array TypeId) (ty : TypeId) (args : Array Value) (w : World) [K : KV] : Prop := ∃ v w', (Builtin.append_ ts ty args).run P w = .ok v w' ∧ K.out v w'
def RunU (P : Program) (T : TypeId) (m k v : Value) (w : World) [K : KV] : Prop := ∃ w', (Instr.mapUpdate T m k v).run P w = .ok () w' ∧ K.out undef w'
def RunM (P : Program) (T : TypeId) (l c : Value) (w : World) [K : KV] : Prop := ∃ v w', (Instr.makeSlice T l c).run P w = .ok v w' ∧ K.out v w'
def RunR (P : Program) (T : TypeId) (x : Value) (w : World) [K : KV] : Prop := ∃ v w', (Instr.range T x).run P w = .ok v w' ∧ K.out v w'
def RunN (P : Program) (T : TypeId) (x : Value) (b : Bool) (w : World) [K : KV] : Prop := ∃ v w', (Instr.next x b T).run P w = .ok v w' ∧ K.out v w'
def RunE (P : Program) (x : Value) (w : World) [K : KV] : Prop := ∃ v w', (Instr.entry x).run P w = .ok v w' ∧ K.out v w'
/-- A call of a function value. -/
def CallV (P : Program) (f : Value) (args : Array Value) (w : World) [K : KV] : Prop :=
  match f with
  | .func (.func g) first captured => Ok P g (first ++ args ++ captured) w K.out
  | _ => False
section
variable {P : Program} {n : Nat} {t : Fr} {w : World} {K : Value → World → Prop} {d : Option Tmp} {ty : TypeId} {pos : String} {af : Array Edge} {g : Option (Nat × Bool)}
theorem raw_of {o : Oper} {s : Sem Value} (h : execOp (ev n t) o = (do let v ← s; pure (.value v))) : Raw P n t w o K = ∃ v w', s.run P w = .ok v w' ∧ K v w' := by
  unfold Raw
  rw [h]
  simp only [Sem.run_bind]
  apply propext
  constructor
  · rintro ⟨nx, w', hr, hk⟩
    cases hs : s.run P w with
    | ok v w1 =>
      simp only [hs, Result.andThen_ok, Sem.run_pure, Result.ok.injEq] at hr
      obtain ⟨rfl, rfl⟩ := hr
      exact ⟨v, _, rfl, hk⟩
    | halt x w1 => simp [hs] at hr
  · rintro ⟨v, w', hs, hk⟩
    exact ⟨.value v, w', by simp [hs], hk⟩
theorem raw_of' {o : Oper} {s : Sem Unit} (h : execOp (ev n t) o = (do s; pure .skip)) : Raw P n t w o K = ∃ w', s.run P w = .ok () w' ∧ K undef w' := by
  unfold Raw
  rw [h]
  simp only [Sem.run_bind]
  apply propext
  constructor
  · rintro ⟨nx, w', hr, hk⟩
    cases hs : s.run P w with
    | ok v w1 =>
      simp only [hs, Result.andThen_ok, Sem.run_pure, Result.ok.injEq] at hr
      obtain ⟨rfl, rfl⟩ := hr
      exact ⟨_, rfl, hk⟩
    | halt x w1 => simp [hs] at hr
  · rintro ⟨w', hs, hk⟩
    exact ⟨.skip, w', by simp [hs], hk⟩
theorem vop_move (x : Operand) : vop P n (Oper.mk d (.move x) ty pos af g) t w K = K (ev n t x) w := by show Vl (some _) _ = _; rw [Vl_some]
theorem vop_assign (x : Operand) : vop P n (Oper.mk d (.assign x) ty pos af g) t w K = K (ev n t x) w := by show Vl (some _) _ = _; rw [Vl_some]
theorem vop_makeFunc (fn : Fn) (a b : Array Operand) : vop P n (Oper.mk d (.makeFunc fn a b) ty pos af g) t w K = K (.func fn (a.map (ev n t)) (b.map (ev n t))) w := by show Vl (some _) _ = _; rw [Vl_some]
theorem vop_pick (c a b : Operand) : vop P n (Oper.mk d (.pick c a b) ty pos af g) t w K = @hVl _ (pickV (ev n t c) (ev n t a) (ev n t b)) ⟨fun v => K v w⟩ := rfl
theorem vop_bin (op : BinOp) (T : TypeId) (x y : Operand) (T' : TypeId) : vop P n (Oper.mk d (.binOp op T x y T') ty pos af g) t w K = @hVl _ (binT P op T (ev n t x) (ev n t y)) ⟨fun v => K v w⟩ := rfl
theorem vop_un (op : UnOp) (T : TypeId) (x : Operand) : vop P n (Oper.mk d (.unOp op T x) ty pos af g) t w K = @hVl _ (unV op (ev n t x)) ⟨fun v => K v w⟩ := rfl
theorem vop_extract (x : Operand) (i : Nat) : vop P n (Oper.mk d (.extract x i) ty pos af g) t w K = @hVl _ (extV (ev n t x) i) ⟨fun v => K v w⟩ := rfl
theorem vop_nck (x : Operand) : vop P n (Oper.mk d (.nilCheck x) ty pos af g) t w K = @hVl _ (nckV (ev n t x)) ⟨fun v => K v w⟩ := rfl
theorem vop_load (T : TypeId) (x : Operand) : vop P n (Oper.mk d (.load T x) ty pos af g) t w K = @hVl _ (ldV P T w (ev n t x)) ⟨fun v => K v w⟩ := rfl
theorem vop_fa (T : TypeId) (x : Operand) (f : Nat) : vop P n (Oper.mk d (.fieldAddr T x f) ty pos af g) t w K = @hVl _ (faV P T (ev n t x) f) ⟨fun v => K v w⟩ := rfl
theorem vop_ia (T : TypeId) (x i : Operand) : vop P n (Oper.mk d (.indexAddr T x i) ty pos af g) t w K = @hVl _ (iaV P T (ev n t x) (ev n t i)) ⟨fun v => K v w⟩ := rfl
theorem vop_slice (T : TypeId) (x : Operand) (lo hi mx : Option Operand) : vop P n (Oper.mk d (.slice T x lo hi mx) ty pos af g) t w K = @hVl _ (slV P T (ev n t x) (lo.map (ev n t)) (hi.map (ev n t)) (mx.map (ev n t))) ⟨fun v => K v w⟩ := rfl
theorem vop_convert (S D : TypeId) (x : Operand) : vop P n (Oper.mk d (.convert S D x) ty pos af g) t w K = @hVl _ (cvW P S D w (ev n t x)) ⟨fun v => K v w⟩ := rfl
theorem vop_len (x : Operand) (T : TypeId) : vop P n (Oper.mk d (.call ⟨.builtin .len, #[x], #[T]⟩) ty pos af g) t w K = @hVl _ (lenV P T w (ev n t x)) ⟨fun v => K v w⟩ := rfl
theorem vop_min (x y : Operand) (ts : Array TypeId) : vop P n (Oper.mk d (.call ⟨.builtin .min, #[x, y], ts⟩) ty pos af g) t w K = @hVl _ (minV [ev n t x, ev n t y]) ⟨fun v => K v w⟩ := rfl
theorem vop_max (x y : Operand) (ts : Array TypeId) : vop P n (Oper.mk d (.call ⟨.builtin .max, #[x, y], ts⟩) ty pos af g) t w K = @hVl _ (maxV [ev n t x, ev n t y]) ⟨fun v => K v w⟩ := rfl
theorem vop_alloc (T : TypeId) : vop P n (Oper.mk d (.alloc T) ty pos af g) t w K = @hVl _ (zeroC P T) ⟨fun z => K (pa (some ⟨w.heap.size, 0, none⟩) 0) (w.alloc (.cells z T))⟩ := rfl
theorem vop_box (T : TypeId) (x : Operand) : vop P n (Oper.mk d (.box T x) ty pos af g) t w K = K (pa (some ⟨w.heap.size, 0, none⟩) 0) (w.alloc (.cells (ev n t x).cells T)) := rfl
theorem vop_bsl (T : TypeId) (len : Nat) (parts : Array (Nat × Operand)) : vop P n (Oper.mk d (.buildSlice T len parts) ty pos af g) t w K =
    @hVl _ (bslC P T len (parts.map fun x => (x.1, ev n t x.2))) ⟨fun p => K (.slice (some ⟨w.heap.size, 0, none⟩) len len) (w.alloc (.cells p.1 p.2))⟩ := by
  apply propext
  show (∃ cs e, _ ∧ _) ↔ _
  constructor
  · rintro ⟨cs, e, h, k⟩; exact ⟨(cs, e), h, k⟩
  · rintro ⟨⟨cs, e⟩, h, k⟩; exact ⟨cs, e, h, k⟩
theorem vop_store (T : TypeId) (a x : Operand) : vop P n (Oper.mk d (.store T a x) ty pos af g) t w K = Vl (stoT P T w (ev n t a) (ev n t x)) fun w' => K undef w' := rfl
theorem vop_makeMap (T : TypeId) : vop P n (Oper.mk d (.makeMap T none) ty pos af g) t w K = K (.map (some w.heap.size)) (w.alloc (.map #[] 0)) := rfl
theorem vop_call (f : Nat) (args : Array Operand) (ts : Array TypeId) : vop P n (Oper.mk d (.call ⟨.value (.func f), args, ts⟩) ty pos af g) t w K = @hOk P f (args.map (ev n t)) w ⟨K⟩ := by
  show Ok P f (#[] ++ args.map (ev n t) ++ #[]) w K = Ok P f (args.map (ev n t)) w K
  simp
theorem vop_callv (f : Tmp) (args : Array Operand) (ts : Array TypeId) : vop P n (Oper.mk d (.call ⟨.value (.tmp f), args, ts⟩) ty pos af g) t w K = @CallV P (ev n t (.tmp f)) (args.map (ev n t)) w ⟨K⟩ := by
  show (match ev n t (.tmp f) with | .func (.func g) first captured => Ok P g (first ++ args.map (ev n t) ++ captured) w K | _ => False) = _
  unfold CallV; rfl
theorem CallV_func (f : Nat) (a b args : Array Value) (K : KV) : @CallV P (.func (.func f) a b) args w K = @hOk P f (a ++ args ++ b) w K := rfl
theorem vop_append (x y : Operand) (ts : Array TypeId) : vop P n (Oper.mk d (.call ⟨.builtin .append, #[x, y], ts⟩) ty pos af g) t w K = @RunA P ts ty #[ev n t x, ev n t y] w ⟨K⟩ :=
  raw_of (s := Builtin.append_ ts ty #[ev n t x, ev n t y]) (by simp [execOp, resolve, invoke, builtin])
theorem vop_makeSlice (T : TypeId) (l c : Operand) : vop P n (Oper.mk d (.makeSlice T l c) ty pos af g) t w K = @RunM P T (ev n t l) (ev n t c) w ⟨K⟩ := raw_of (s := Instr.makeSlice T (ev n t l) (ev n t c)) rfl
theorem vop_build (T : TypeId) (parts : Array (Nat × Operand)) : vop P n (Oper.mk d (.build T parts) ty pos af g) t w K = @hVl _ (bld P T (parts.map fun x : Nat × Operand => (x.1, ev n t x.2))) ⟨fun v => K v w⟩ := rfl
theorem vop_lookup (T : TypeId) (m k : Operand) (c : Bool) : vop P n (Oper.mk d (.lookup T m k c) ty pos af g) t w K = @hVl _ (lkO P T w (ev n t m) (ev n t k) c) ⟨fun v => K v w⟩ := rfl
theorem vop_range (T : TypeId) (x : Operand) : vop P n (Oper.mk d (.range T x) ty pos af g) t w K = @RunR P T (ev n t x) w ⟨K⟩ := raw_of (s := Instr.range T (ev n t x)) rfl
theorem vop_next (x : Operand) (b : Bool) : vop P n (Oper.mk d (.next x b) ty pos af g) t w K = @RunN P ty (ev n t x) b w ⟨K⟩ := raw_of (s := Instr.next (ev n t x) b ty) rfl
theorem vop_entry (x : Operand) : vop P n (Oper.mk d (.entry x) ty pos af g) t w K = @RunE P (ev n t x) w ⟨K⟩ := raw_of (s := Instr.entry (ev n t x)) rfl
theorem vop_index (T : TypeId) (x i : Operand) : vop P n (Oper.mk d (.index T x i) ty pos af g) t w K = @hVl _ (idxV P T (ev n t x) (ev n t i)) ⟨fun v => K v w⟩ := rfl
theorem vop_upd (T : TypeId) (m k x : Operand) : vop P n (Oper.mk d (.mapUpdate T m k x) ty pos af g) t w K = @RunU P T (ev n t m) (ev n t k) (ev n t x) w ⟨K⟩ := raw_of' (s := Instr.mapUpdate T (ev n t m) (ev n t k) (ev n t x)) rfl
theorem vop_ins (T : TypeId) (m k x : Operand) : vop P n (Oper.mk d (.insert T m k x) ty pos af g) t w K = @RunU P T (ev n t m) (ev n t k) (ev n t x) w ⟨K⟩ := raw_of' (s := Instr.mapUpdate T (ev n t m) (ev n t k) (ev n t x)) rfl
end
theorem hVl_some {α : Type} (v : α) (k : Hd (α → Prop)) : @hVl α (some v) k = k.out v := Vl_some v k.out
theorem Br_true (X Y : KP) : @hBr (.bool true) X Y = X.out := by simp [hBr, Br]
theorem Br_false (X Y : KP) : @hBr (.bool false) X Y = Y.out := by simp [hBr, Br]
theorem Br_split {b : Bool} {X Y : KP} (h : b = true → X.out) (k : b = false → Y.out) : @hBr (.bool b) X Y := by
  cases b with
  | true => exact .inl ⟨rfl, h rfl⟩
  | false => exact .inr ⟨rfl, k rfl⟩
theorem Br_if {p : Prop} [Decidable p] {X Y : KP} (h : p → X.out) (k : ¬ p → Y.out) : @hBr (.bool (decide p)) X Y :=
  Br_split (fun e => h (of_decide_eq_true e)) (fun e => k (of_decide_eq_false e))
theorem Br_not (b : Bool) (X Y : KP) : @hBr (.bool (!b)) X Y = @hBr (.bool b) Y X := by
  cases b <;> simp [hBr, Br]
theorem Gd_tt (b : Bool) (X Y : KP) : @hGd (.bool b) true X Y = @hBr (.bool b) X Y := by cases b <;> simp [hGd, Gd, hBr, Br]
theorem Gd_ff (b : Bool) (X Y : KP) : @hGd (.bool b) false X Y = @hBr (.bool b) Y X := by cases b <;> simp [hGd, Gd, hBr, Br]
theorem Gd_un (b : Bool) (X Y : KP) : @hGd undef b X Y = Y.out := by simp [hGd, Gd, undef]
theorem hOk.then {P : Program} {f : Nat} {args : Array Value} {w : World} {R : Value → World → Prop} {K : KV} (h : Ok P f args w R) (k : ∀ v w', R v w' → K.out v w') : @hOk P f args w K := Ok.then h k
theorem dec_true {p : Prop} [Decidable p] (h : p) : decide p = true := decide_eq_true h
theorem dec_false {p : Prop} [Decidable p] (h : ¬ p) : decide p = false := decide_eq_false h
theorem i64_wrap {x : Int} (h : -9223372036854775808 ≤ x) (h' : x < 9223372036854775808) : IntKind.i64.wrap x = x := by
  rw [IntKind.wrap_i64]; omega
theorem u64_wrap {x : Int} (h : 0 ≤ x) (h' : x < 18446744073709551616) : IntKind.u64.wrap x = x := by
  rw [IntKind.wrap_u64]; omega
/-- The value that a guard looks at. -/
def gvL (n : Nat) (t : Fr) : List Oper → Nat → Value
  | [], _ => undef
  | o :: _, 0 => match o.dst with
    | some d => if d < n then t d else undef
    | none => undef
  | _ :: l, j + 1 => gvL n t l j
theorem gval_L (n : Nat) (t : Fr) : ∀ (l : List Oper) (j : Nat), gval l.toArray n t j = gvL n t l j
  | [], j => by simp [gval, gvL]
  | o :: l, 0 => by simp [gval, gvL] <;> (cases o.dst <;> rfl)
  | o :: l, j + 1 => by rw [gvL, ← gval_L n t l j]; simp [gval]
theorem gvL_zero (n : Nat) (t : Fr) (d : Nat) (op : Op) (ty : TypeId) (pos : String) (af : Array Edge) (g : Option (Nat × Bool)) (l : List Oper) : gvL n t (⟨some d, op, ty, pos, af, g⟩ :: l) 0 = if d < n then t d else undef := rfl
theorem gvL_succ (n : Nat) (t : Fr) (o : Oper) (l : List Oper) (j : Nat) : gvL n t (o :: l) (j + 1) = gvL n t l j := rfl
/-- The operation in one place of a region. -/
def opL : List Oper → Nat → Option Oper
  | [], _ => none
  | o :: _, 0 => some o
  | _ :: l, j + 1 => opL l j
theorem opL_eq : ∀ (l : List Oper) (j : Nat), l[j]? = opL l j
  | [], j => by simp [opL]
  | o :: l, 0 => by simp [opL]
  | o :: l, j + 1 => by rw [opL, ← opL_eq l j]; simp
end Go.V
namespace Go.V
open Go.RowKit

/-- Frames, operands, code. -/
theorem S0 : (∀ t i v j, upd t i v j = if j = i then v else t j) ∧ (∀ t i v, updO t (some i) v = upd t i v) ∧ (∀ t v, updO t none v = t) ∧
    (∀ n t i, ev n t (.tmp i) = if i < n then t i else undef) ∧ (∀ n t v, ev n t (.const v) = v) ∧ (∀ n t g, ev n t (.global g) = .pointer (some ⟨g, 0, none⟩)) ∧ (∀ n t f, ev n t (.func f) = .func (.func f) #[] #[]) :=
  ⟨fun _ _ _ _ => rfl, fun _ _ _ => rfl, fun _ _ => rfl, fun _ _ _ => rfl, fun _ _ _ => rfl, fun _ _ _ => rfl, fun _ _ _ => rfl⟩
theorem S1 {P : Program} {n : Nat} :
    (∀ Q t w, vc P n .skip Q t w = Q .normal t w) ∧ (∀ l Q t w, vc P n (.label l) Q t w = Q .normal t w) ∧ (∀ a b Q t w, vc P n (.seq a b) Q t w = vc P n a (Ex.then (vc P n b Q) Q) t w) ∧
    (∀ c x y Q t w, vc P n (.cond c x y) Q t w = @hBr (ev n t c) ⟨vc P n x Q t w⟩ ⟨vc P n y Q t w⟩) ∧ (∀ id c Q t w, vc P n (.block id c) Q t w = vc P n c (Ex.blk id Q) t w) ∧
    (∀ id Q t w, vc P n (.exit id) Q t w = Q (.exit id) t w) ∧ (∀ Q t w, vc P n .ret Q t w = Q .ret t w) ∧
    (∀ id l Q t w, vc P n (.region id l.toArray false) Q t w = vops P n l.toArray Q l t w) ∧ (∀ id ops Q t w, vc P n (.region id ops true) Q t w = @hDr P n ⟨ops⟩ ⟨Q⟩ t w) ∧
    (∀ c Q t w, vc P n (.loop c) Q t w = @hLp ⟨vc P n c⟩ ⟨Q⟩ t w) :=
  ⟨fun _ _ _ => rfl, fun _ _ _ _ => rfl, fun _ _ _ _ _ => rfl, fun _ _ _ _ _ _ => rfl, fun _ _ _ _ _ => rfl,
    fun _ _ _ _ => rfl, fun _ _ _ => rfl, fun _ l _ _ _ => rfl, fun _ _ _ _ _ => rfl, fun _ _ _ _ => rfl⟩
theorem S2 : (∀ K Q t w, Ex.then K Q .normal t w = K t w) ∧ (∀ K Q t w, Ex.then K Q .ret t w = Q .ret t w) ∧ (∀ K Q t w i, Ex.then K Q (.exit i) t w = Q (.exit i) t w) ∧
    (∀ id Q t w, Ex.blk id Q .normal t w = Q .normal t w) ∧ (∀ id Q t w, Ex.blk id Q .ret t w = Q .ret t w) ∧ (∀ id Q t w i, Ex.blk id Q (.exit i) t w = if i = id then Q .normal t w else Q (.exit i) t w) :=
  ⟨fun _ _ _ _ => rfl, fun _ _ _ _ => rfl, fun _ _ _ _ _ => rfl, fun _ _ _ _ => rfl, fun _ _ _ _ => rfl, fun _ _ _ _ _ => rfl⟩
/-- Regions. -/
theorem S3 {P : Program} {n : Nat} {ops : Array Oper} {Q : Ex → Fr → World → Prop} : (∀ t w, vops P n ops Q [] t w = Q .normal t w) ∧
    (∀ d o ty pos af rest t w, vops P n ops Q (⟨d, o, ty, pos, af, none⟩ :: rest) t w = vop P n ⟨d, o, ty, pos, af, none⟩ t w fun v w' => vops P n ops Q rest (updO t d v) w') ∧
    (∀ d o ty pos af j b rest t w, vops P n ops Q (⟨d, o, ty, pos, af, some (j, b)⟩ :: rest) t w =
      @hGd (gval ops n t j) b ⟨vop P n ⟨d, o, ty, pos, af, some (j, b)⟩ t w fun v w' => vops P n ops Q rest (updO t d v) w'⟩ ⟨vops P n ops Q rest (updO t d undef) w⟩) :=
  ⟨fun _ _ => rfl, fun _ _ _ _ _ _ _ _ => rfl, fun _ _ _ _ _ _ _ _ _ _ => rfl⟩
theorem S4 {P : Program} {n : Nat} {t : Fr} {w : World} {K : Value → World → Prop} {d : Option Tmp} {ty : TypeId} {pos : String} {af : Array Edge} {g : Option (Nat × Bool)} :
    (∀ x, vop P n (Oper.mk d (.move x) ty pos af g) t w K = K (ev n t x) w) ∧ (∀ x, vop P n (Oper.mk d (.assign x) ty pos af g) t w K = K (ev n t x) w) ∧
    (∀ fn a b, vop P n (Oper.mk d (.makeFunc fn a b) ty pos af g) t w K = K (.func fn (a.map (ev n t)) (b.map (ev n t))) w) ∧
    (∀ c a b, vop P n (Oper.mk d (.pick c a b) ty pos af g) t w K = @hVl _ (pickV (ev n t c) (ev n t a) (ev n t b)) ⟨fun v => K v w⟩) ∧
    (∀ op T x y T', vop P n (Oper.mk d (.binOp op T x y T') ty pos af g) t w K = @hVl _ (binT P op T (ev n t x) (ev n t y)) ⟨fun v => K v w⟩) ∧
    (∀ op T x, vop P n (Oper.mk d (.unOp op T x) ty pos af g) t w K = @hVl _ (unV op (ev n t x)) ⟨fun v => K v w⟩) ∧
    (∀ x i, vop P n (Oper.mk d (.extract x i) ty pos af g) t w K = @hVl _ (extV (ev n t x) i) ⟨fun v => K v w⟩) ∧
    (∀ x, vop P n (Oper.mk d (.nilCheck x) ty pos af g) t w K = @hVl _ (nckV (ev n t x)) ⟨fun v => K v w⟩) ∧
    (∀ T x, vop P n (Oper.mk d (.load T x) ty pos af g) t w K = @hVl _ (ldV P T w (ev n t x)) ⟨fun v => K v w⟩) ∧
    (∀ T x f, vop P n (Oper.mk d (.fieldAddr T x f) ty pos af g) t w K = @hVl _ (faV P T (ev n t x) f) ⟨fun v => K v w⟩) ∧
    (∀ T x i, vop P n (Oper.mk d (.indexAddr T x i) ty pos af g) t w K = @hVl _ (iaV P T (ev n t x) (ev n t i)) ⟨fun v => K v w⟩) ∧
    (∀ T x lo hi mx, vop P n (Oper.mk d (.slice T x lo hi mx) ty pos af g) t w K = @hVl _ (slV P T (ev n t x) (lo.map (ev n t)) (hi.map (ev n t)) (mx.map (ev n t))) ⟨fun v => K v w⟩) ∧
    (∀ S D x, vop P n (Oper.mk d (.convert S D x) ty pos af g) t w K = @hVl _ (cvW P S D w (ev n t x)) ⟨fun v => K v w⟩) ∧
    (∀ x T, vop P n (Oper.mk d (.call ⟨.builtin .len, #[x], #[T]⟩) ty pos af g) t w K = @hVl _ (lenV P T w (ev n t x)) ⟨fun v => K v w⟩) ∧
    (∀ x y ts, vop P n (Oper.mk d (.call ⟨.builtin .min, #[x, y], ts⟩) ty pos af g) t w K = @hVl _ (minV [ev n t x, ev n t y]) ⟨fun v => K v w⟩) ∧
    (∀ x y ts, vop P n (Oper.mk d (.call ⟨.builtin .max, #[x, y], ts⟩) ty pos af g) t w K = @hVl _ (maxV [ev n t x, ev n t y]) ⟨fun v => K v w⟩) ∧
    (∀ T, vop P n (Oper.mk d (.alloc T) ty pos af g) t w K = @hVl _ (zeroC P T) ⟨fun z => K (pa (some ⟨w.heap.size, 0, none⟩) 0) (w.alloc (.cells z T))⟩) ∧
    (∀ T x, vop P n (Oper.mk d (.box T x) ty pos af g) t w K = K (pa (some ⟨w.heap.size, 0, none⟩) 0) (w.alloc (.cells (ev n t x).cells T))) ∧
    (∀ T len parts, vop P n (Oper.mk d (.buildSlice T len parts) ty pos af g) t w K = @hVl _ (bslC P T len (parts.map fun x => (x.1, ev n t x.2))) ⟨fun p => K (.slice (some ⟨w.heap.size, 0, none⟩) len len) (w.alloc (.cells p.1 p.2))⟩) ∧
    (∀ T a x, vop P n (Oper.mk d (.store T a x) ty pos af g) t w K = @hVl _ (stoT P T w (ev n t a) (ev n t x)) ⟨fun w' => K undef w'⟩) ∧
    (∀ T, vop P n (Oper.mk d (.makeMap T none) ty pos af g) t w K = K (.map (some w.heap.size)) (w.alloc (.map #[] 0))) ∧
    (∀ f args ts, vop P n (Oper.mk d (.call ⟨.value (.func f), args, ts⟩) ty pos af g) t w K = @hOk P f (args.map (ev n t)) w ⟨K⟩) ∧
    (∀ f args ts, vop P n (Oper.mk d (.call ⟨.value (.tmp f), args, ts⟩) ty pos af g) t w K = @CallV P (ev n t (.tmp f)) (args.map (ev n t)) w ⟨K⟩) ∧
    (∀ x y ts, vop P n (Oper.mk d (.call ⟨.builtin .append, #[x, y], ts⟩) ty pos af g) t w K = @RunA P ts ty #[ev n t x, ev n t y] w ⟨K⟩) ∧
    (∀ T l c, vop P n (Oper.mk d (.makeSlice T l c) ty pos af g) t w K = @RunM P T (ev n t l) (ev n t c) w ⟨K⟩) ∧
    (∀ T parts, vop P n (Oper.mk d (.build T parts) ty pos af g) t w K = @hVl _ (bld P T (parts.map fun x : Nat × Operand => (x.1, ev n t x.2))) ⟨fun v => K v w⟩) ∧
    (∀ T m k c, vop P n (Oper.mk d (.lookup T m k c) ty pos af g) t w K = @hVl _ (lkO P T w (ev n t m) (ev n t k) c) ⟨fun v => K v w⟩) ∧
    (∀ T x, vop P n (Oper.mk d (.range T x) ty pos af g) t w K = @RunR P T (ev n t x) w ⟨K⟩) ∧
    (∀ x b, vop P n (Oper.mk d (.next x b) ty pos af g) t w K = @RunN P ty (ev n t x) b w ⟨K⟩) ∧
    (∀ x, vop P n (Oper.mk d (.entry x) ty pos af g) t w K = @RunE P (ev n t x) w ⟨K⟩) ∧
    (∀ T x i, vop P n (Oper.mk d (.index T x i) ty pos af g) t w K = @hVl _ (idxV P T (ev n t x) (ev n t i)) ⟨fun v => K v w⟩) ∧
    (∀ T m k x, vop P n (Oper.mk d (.mapUpdate T m k x) ty pos af g) t w K = @RunU P T (ev n t m) (ev n t k) (ev n t x) w ⟨K⟩) ∧
    (∀ T m k x, vop P n (Oper.mk d (.insert T m k x) ty pos af g) t w K = @RunU P T (ev n t m) (ev n t k) (ev n t x) w ⟨K⟩) :=
  ⟨vop_move, vop_assign, vop_makeFunc, vop_pick, vop_bin, vop_un, vop_extract, vop_nck, vop_load, vop_fa, vop_ia, vop_slice, vop_convert, vop_len, vop_min, vop_max, vop_alloc, vop_box, vop_bsl, vop_store, vop_makeMap, vop_call, vop_callv, vop_append, vop_makeSlice,
    vop_build, vop_lookup, vop_range, vop_next, vop_entry, vop_index, vop_upd, vop_ins⟩
/-- Values. -/
theorem S5 {P : Program} {T : TypeId} : (∀ k a b, binT P .add T (.int k a) (.int k b) = some (.int k (k.wrap (a + b)))) ∧ (∀ k a b, binT P .sub T (.int k a) (.int k b) = some (.int k (k.wrap (a - b)))) ∧
    (∀ k a b, binT P .mul T (.int k a) (.int k b) = some (.int k (k.wrap (a * b)))) ∧ (∀ k a b, binT P .eql T (.int k a) (.int k b) = some (.bool (decide (a = b)))) ∧ (∀ k a b, binT P .neq T (.int k a) (.int k b) = some (.bool (!decide (a = b)))) ∧
    (∀ k a b, binT P .lss T (.int k a) (.int k b) = some (.bool (decide (a < b)))) ∧ (∀ k a b, binT P .leq T (.int k a) (.int k b) = some (.bool (decide (a ≤ b)))) ∧ (∀ k a b, binT P .gtr T (.int k a) (.int k b) = some (.bool (decide (b < a)))) ∧
    (∀ k a b, binT P .geq T (.int k a) (.int k b) = some (.bool (decide (b ≤ a)))) ∧
    (∀ a b, binT P .eql T (.string a) (.string b) = some (.bool (decide (a = b)))) ∧ (∀ a b, binT P .neq T (.string a) (.string b) = some (.bool (!decide (a = b)))) := by
  refine ⟨?_, ?_, ?_, ?_, ?_, ?_, ?_, ?_, ?_, fun _ _ => rfl, fun _ _ => rfl⟩ <;>
    (intro k a b; simp [binT, binV, intBin])
theorem S5b : (∀ {α : Type} (v : α) k, @hVl α (some v) k = k.out v) ∧ (∀ x, unV .not (.bool x) = some (.bool !x)) ∧ (∀ k a, unV .neg (.int k a) = some (.int k (k.wrap (0 - a)))) ∧ (∀ a b, pickV (.bool true) a b = some a) ∧ (∀ a b, pickV (.bool false) a b = some b) ∧ (∀ a, nckV (.pointer (some a)) = some (.pointer (some a))) ∧
    (∀ k a k' b, minV [.int k a, .int k' b] = some (.int k (if b < a then b else a))) ∧ (∀ k a k' b, maxV [.int k a, .int k' b] = some (.int k (if a < b then b else a))) ∧
    (∀ v i, extV (.tuple v) i = v[i]?) ∧
    (∀ X Y, @hBr (.bool true) X Y = X.out) ∧ (∀ X Y, @hBr (.bool false) X Y = Y.out) ∧ (∀ b X Y, @hBr (.bool (!b)) X Y = @hBr (.bool b) Y X) ∧ (∀ b X Y, @hGd (.bool b) true X Y = @hBr (.bool b) X Y) ∧ (∀ b X Y, @hGd (.bool b) false X Y = @hBr (.bool b) Y X) ∧ (∀ b X Y, @hGd undef b X Y = Y.out) ∧
    (∀ P f a b args w K, @CallV P (.func (.func f) a b) args w K = @hOk P f (a ++ args ++ b) w K) :=
  ⟨hVl_some, fun _ => rfl, fun _ _ => rfl, fun _ _ => rfl, fun _ _ => rfl, fun _ => rfl, fun _ _ _ _ => rfl, fun _ _ _ _ => rfl, fun _ _ => rfl, Br_true, Br_false, Br_not, Gd_tt, Gd_ff, Gd_un, fun _ _ _ _ _ _ _ => rfl⟩
theorem S5c {P : Program} {T : TypeId} : (∀ k a b, b ≠ 0 → binT P .quo T (.int k a) (.int k b) = some (.int k (k.wrap (a.tdiv b)))) ∧ (∀ k a b, b ≠ 0 → binT P .rem T (.int k a) (.int k b) = some (.int k (a.tmod b))) ∧
    (∀ k k' a b, 0 ≤ b → binT P .shl T (.int k a) (.int k' b) = some (.int k (k.wrap (a * 2 ^ (min b.toNat k.bits))))) ∧ (∀ k k' a b, 0 ≤ b → binT P .shr T (.int k a) (.int k' b) = some (.int k (a.fdiv (2 ^ (min b.toNat k.bits))))) ∧
    (∀ k a b, binT P .and T (.int k a) (.int k b) = some (.int k (k.wrap (BitVec.ofInt k.bits a &&& BitVec.ofInt k.bits b).toNat))) := by
  refine ⟨fun k a b h => ?_, fun k a b h => ?_, fun k k' a b h => ?_, fun k k' a b h => ?_, fun k a b => ?_⟩
  · simp [binT, binV, intBin, h]
  · simp [binT, binV, intBin, h]
  · simp [binT, binV, show ¬ b < 0 by omega]
  · simp [binT, binV, show ¬ b < 0 by omega]
  · simp [binT, binV, intBin]
theorem teB {P : Program} {T : TypeId} (h : P.underlying T = some .bool) : (∀ a b : Bool, binT P .eql T (.bool a) (.bool b) = some (.bool (decide (a = b)))) ∧ (∀ a b : Bool, binT P .neq T (.bool a) (.bool b) = some (.bool (!decide (a = b)))) := by
  refine ⟨fun a b => ?_, fun a b => ?_⟩ <;> (simp only [binT, binV, eqV, h, Option.map_some]; cases a <;> cases b <;> rfl)
theorem teP {P : Program} {T e : TypeId} (h : P.underlying T = some (.pointer e)) : (∀ a, binT P .eql T (.pointer a) (.pointer none) = some (.bool a.isNone)) ∧ (∀ a, binT P .neq T (.pointer a) (.pointer none) = some (.bool (!a.isNone))) ∧
    (∀ a k, binT P .eql T (pa a k) (.pointer none) = some (.bool a.isNone)) ∧ (∀ a k, binT P .neq T (pa a k) (.pointer none) = some (.bool (!a.isNone))) := by
  refine ⟨fun a => ?_, fun a => ?_, fun a k => ?_, fun a k => ?_⟩ <;> (cases a <;> simp [binT, binV, eqV, h, pa])
theorem teS {P : Program} {T e : TypeId} (h : P.underlying T = some (.slice e)) : (∀ a n c m d, binT P .eql T (.slice a n c) (.slice none m d) = some (.bool a.isNone)) ∧ (∀ a n c m d, binT P .neq T (.slice a n c) (.slice none m d) = some (.bool (!a.isNone))) := by
  refine ⟨fun a n c m d => ?_, fun a n c m d => ?_⟩ <;> (cases a <;> simp [binT, binV, eqV, h])
theorem tcI {P : Program} {S D : TypeId} {k k' : IntKind} (h : P.underlying S = some (.int k)) (h' : P.underlying D = some (.int k')) : ∀ j n, cvV P S D (.int j n) = some (.int k' (k'.wrap n)) := by
  intro j n; simp [cvV, h, h']
theorem tcW {P : Program} {S D : TypeId} {k k' : IntKind} (h : P.underlying S = some (.int k)) (h' : P.underlying D = some (.int k')) : ∀ w j n, cvW P S D w (.int j n) = some (.int k' (k'.wrap n)) := by
  intro w j n; unfold cvW; rw [tcI h h' j n]
theorem tcB {P : Program} {S D e : TypeId} (h : P.underlying S = some (.slice e)) (he : P.underlying e = some (.int .u8)) (h' : P.underlying D = some .string) : ∀ w a n c, cvW P S D w (.slice (some a) n c) = (bytesL w (some a) 0 n).map fun l => .string (strOf l) := by
  intro w a n c; unfold cvW cvV; simp only [h, h', he]
theorem bytes1 (w : World) (A : Option Addr) (i : Nat) : bytesL w A i 1 = (byV (rd w A i)).map fun x => [x] := by
  simp only [bytesL]; cases byV (rd w A i) <;> rfl
theorem bytes2 (w : World) (A : Option Addr) (i : Nat) : bytesL w A i 2 = (byV (rd w A i)).bind fun x => (byV (rd w A (i + 1))).map fun y => [x, y] := by
  simp only [bytesL]; cases byV (rd w A i) <;> cases byV (rd w A (i + 1)) <;> rfl
theorem byV_some (z : Int) : byV (some (.int .u8 z)) = some z := rfl
/-- What was hidden comes out. -/
theorem H0 : (∀ {α : Type} (a : α), @Hd.out α ⟨a⟩ = a) := fun _ => rfl
/-- The way back, guards. -/
theorem S6 {P : Program} {n : Nat} : (∀ R rs t w, post P n rs R .ret t w = @hVl _ (retV P n t w rs) ⟨fun l => R (tupV l) w⟩) ∧ (∀ R rs t w, post P n rs R .normal t w = @hVl _ (retV P n t w rs) ⟨fun l => R (tupV l) w⟩) ∧
    (∀ t w, retV P n t w [] = some []) ∧ (∀ i l t w, retV P n t w (.tmp i :: l) = (retV P n t w l).map (ev n t (.tmp i) :: ·)) ∧
    (∀ a T l t w, retV P n t w (.cell a T :: l) = (ldV P T w (ev n t (.tmp a))).bind fun v => (retV P n t w l).map (v :: ·)) ∧
    True :=
  ⟨fun _ _ _ _ => rfl, fun _ _ _ _ => rfl, fun _ _ => rfl, fun _ _ _ _ => rfl, fun a T l t w => by simp only [retV]; cases ldV P T w (ev n t (.tmp a)) <;> rfl, trivial⟩
theorem S6b : (∀ v, tupV [v] = v) ∧ (∀ a b, tupV [a, b] = .tuple #[a, b]) ∧ (∀ a b c, tupV [a, b, c] = .tuple #[a, b, c]) ∧ (tupV [] = .tuple #[]) :=
  ⟨fun _ => rfl, fun _ _ => rfl, fun _ _ _ => rfl, rfl⟩
def und : Fr := fun _ => undef
theorem fr_upd (l : List Value) (x : Value) : fr (l ++ [x]).toArray = upd (fr l.toArray) l.length x := by
  funext i
  simp only [fr, upd]
  by_cases h : i = l.length
  · subst h; simp
  · rw [if_neg h]
    simp only [Array.getD_eq_getD_getElem?, List.getElem?_toArray]
    by_cases h2 : i < l.length
    · rw [List.getElem?_append_left h2]
    · rw [List.getElem?_eq_none (by simp; omega), List.getElem?_eq_none (by omega)]
theorem fr0 : fr #[] = und := by funext i; simp [fr, und]
/-- The frame at a function's entry. -/
theorem S7 : (fr #[] = und) ∧ (∀ a, fr #[a] = upd und 0 a) ∧ (∀ a b, fr #[a, b] = upd (upd und 0 a) 1 b) ∧ (∀ a b c, fr #[a, b, c] = upd (upd (upd und 0 a) 1 b) 2 c) ∧
    (∀ a b c d, fr #[a, b, c, d] = upd (upd (upd (upd und 0 a) 1 b) 2 c) 3 d) ∧ (∀ a b c d e, fr #[a, b, c, d, e] = upd (upd (upd (upd (upd und 0 a) 1 b) 2 c) 3 d) 4 e) := by
  refine ⟨fr0, ?_, ?_, ?_, ?_, ?_⟩
  · intro a; have := fr_upd [] a; rw [fr0] at this; exact this
  · intro a b; rw [show (#[a, b] : Array Value) = ([a] ++ [b]).toArray from rfl, fr_upd, show fr [a].toArray = upd und 0 a from by have := fr_upd [] a; rw [fr0] at this; exact this]; rfl
  · intro a b c; rw [show (#[a, b, c] : Array Value) = ([a, b] ++ [c]).toArray from rfl, fr_upd, show ([a, b] : List Value).toArray = ([a] ++ [b]).toArray from rfl, fr_upd, show fr [a].toArray = upd und 0 a from by have := fr_upd [] a; rw [fr0] at this; exact this]; rfl
  · intro a b c d; rw [show (#[a, b, c, d] : Array Value) = ([a, b, c] ++ [d]).toArray from rfl, fr_upd, show ([a, b, c] : List Value).toArray = ([a, b] ++ [c]).toArray from rfl, fr_upd, show ([a, b] : List Value).toArray = ([a] ++ [b]).toArray from rfl, fr_upd, show fr [a].toArray = upd und 0 a from by have := fr_upd [] a; rw [fr0] at this; exact this]; rfl
  · intro a b c d e; rw [show (#[a, b, c, d, e] : Array Value) = ([a, b, c, d] ++ [e]).toArray from rfl, fr_upd, show ([a, b, c, d] : List Value).toArray = ([a, b, c] ++ [d]).toArray from rfl, fr_upd, show ([a, b, c] : List Value).toArray = ([a, b] ++ [c]).toArray from rfl, fr_upd, show ([a, b] : List Value).toArray = ([a] ++ [b]).toArray from rfl, fr_upd, show fr [a].toArray = upd und 0 a from by have := fr_upd [] a; rw [fr0] at this; exact this]; rfl
end Go.V
namespace Go.V
open Go.RowKit

def cellO (o : Option Obj) (j : Nat) : Option Value :=
  match o with
  | some (.cells cs _ _) => cs[j]?
  | _ => none
theorem addr_add (b o k : Nat) : (⟨b, o, none⟩ : Addr).add k = ⟨b, o + k, none⟩ := by
  unfold Addr.add; split
  · rename_i h; subst h; rfl
  · rfl
theorem rd_own (w : World) (b o k : Nat) : rd w (some ⟨b, o, none⟩) k = cellO (w.heap[b]?) (o + k) := by
  simp only [rd, Option.bind_some, addr_add, World.cell?, cellO]
  cases w.heap[b]? with
  | none => rfl
  | some x => cases x <;> simp
def ldA (o : Option (Option Nat)) (w : World) (A : Option Addr) (k : Nat) : Option Value :=
  match o with
  | some none => rd w A k
  | some (some n) => if n = 0 then none else (cellsL w (pa A k) 0 n).map fun l => .agg l.toArray
  | none => none
theorem ldV_pa (P : Program) (T : TypeId) (w : World) (A : Option Addr) (k : Nat) : ldV P T w (pa A k) = ldA (aggN P T) w A k := by
  unfold ldV ldA
  cases aggN P T with
  | none => rfl
  | some o => cases o with
    | none => simp only [cellP_pa, Nat.add_zero]
    | some n => rfl
theorem cellsL_bind (w : World) (A : Option Addr) (k i n : Nat) : cellsL w (pa A k) i (n + 1) = (rd w A (k + i)).bind fun x => (cellsL w (pa A k) (i + 1) n).map (x :: ·) := by
  simp only [cellsL, cellP_pa]
  cases rd w A (k + i) <;> rfl
theorem cellsL_zero (w : World) (v : Value) (i : Nat) : cellsL w v i 0 = some [] := rfl
theorem take_set_one (x : Value) : ∀ (L : List Value) (j : Nat), j < L.length → (L.set j x).take (j + 1) = L.take j ++ [x]
  | [], j, h => by simp at h
  | y :: L, 0, h => by simp
  | y :: L, j + 1, h => by simp only [List.set_cons_succ, List.take_succ_cons, List.cons_append]; rw [take_set_one x L j (by simpa using h)]
theorem ldA2 (w : World) (A : Option Addr) (k : Nat) : ldA (some (some 2)) w A k = (rd w A k).bind fun x => (rd w A (k + 1)).bind fun y => some (.agg #[x, y]) := by
  show (if 2 = 0 then none else (cellsL w (pa A k) 0 2).map fun l => Value.agg l.toArray) = _
  rw [if_neg (by decide)]
  simp only [cellsL_bind, cellsL_zero, Nat.add_zero, Nat.zero_add, Nat.reduceAdd]
  cases rd w A k with
  | none => rfl
  | some x =>
    cases rd w A (k + 1) with
    | none => rfl
    | some y =>
      rfl
theorem ldA3 (w : World) (A : Option Addr) (k : Nat) : ldA (some (some 3)) w A k = (rd w A k).bind fun x => (rd w A (k + 1)).bind fun y => (rd w A (k + 2)).bind fun z => some (.agg #[x, y, z]) := by
  show (if 3 = 0 then none else (cellsL w (pa A k) 0 3).map fun l => Value.agg l.toArray) = _
  rw [if_neg (by decide)]
  simp only [cellsL_bind, cellsL_zero, Nat.add_zero, Nat.zero_add, Nat.reduceAdd]
  cases rd w A k with
  | none => rfl
  | some x =>
    cases rd w A (k + 1) with
    | none => rfl
    | some y =>
      cases rd w A (k + 2) with
      | none => rfl
      | some z =>
        rfl
theorem ldA5 (w : World) (A : Option Addr) (k : Nat) : ldA (some (some 5)) w A k = (rd w A k).bind fun x => (rd w A (k + 1)).bind fun y => (rd w A (k + 2)).bind fun z => (rd w A (k + 3)).bind fun u => (rd w A (k + 4)).bind fun v => some (.agg #[x, y, z, u, v]) := by
  show (if 5 = 0 then none else (cellsL w (pa A k) 0 5).map fun l => Value.agg l.toArray) = _
  rw [if_neg (by decide)]
  simp only [cellsL_bind, cellsL_zero, Nat.add_zero, Nat.zero_add, Nat.reduceAdd]
  cases rd w A k with
  | none => rfl
  | some x =>
    cases rd w A (k + 1) with
    | none => rfl
    | some y =>
      cases rd w A (k + 2) with
      | none => rfl
      | some z =>
        cases rd w A (k + 3) with
        | none => rfl
        | some u =>
          cases rd w A (k + 4) with
          | none => rfl
          | some v =>
            rfl
theorem faV_pa (P : Program) (T : TypeId) (A : Option Addr) (k f : Nat) (hA : A.isSome = true) : faV P T (pa A k) f = (foff P T f).map fun off => pa A (k + off) := by
  unfold faV
  cases foff P T f with
  | none => rfl
  | some off => simp [ptrAdd_pa hA]
theorem faV_some (P : Program) (T : TypeId) (a : Addr) (k f : Nat) : faV P T (pa (some a) k) f = (foff P T f).map fun off => pa (some a) (k + off) := faV_pa P T _ k f rfl
theorem iaV_sl (P : Program) (T : TypeId) (A : Option Addr) (n c : Nat) (k : IntKind) (j : Int) (hA : A.isSome = true) (h0 : 0 ≤ j) (h1 : j < n) :
    iaV P T (.slice A n c) (.int k j) = (elT P T).map fun s => pa A (j.toNat * s) := by
  cases A with
  | none => simp at hA
  | some a =>
    unfold iaV
    cases elT P T with
    | none => rfl
    | some s => simp [h0, h1, pa]
theorem lenV_of {P : Program} {T : TypeId} {s : Nat} (h : elT P T = some s) : ∀ (w : World) (A : Option Addr) (n c : Nat), lenV P T w (.slice A n c) = some (.int .i64 n) := by
  intro w A n c
  obtain ⟨e, i, hu, _, _⟩ := elT_some h
  simp [lenV, hu]
theorem lenV_str {P : Program} {T : TypeId} (h : P.underlying T = some .string) : ∀ (w : World) (s : ByteArray), lenV P T w (.string s) = some (.int .i64 s.size) := by
  intro w s
  simp [lenV, h]
theorem heap_old {w : World} {b : Nat} (o : Obj) (h : b < w.heap.size) : (w.alloc o).heap[b]? = w.heap[b]? := Below.heap_alloc w o b h
theorem heap_new {w : World} {b : Nat} (o : Obj) (h : b = w.heap.size) : (w.alloc o).heap[b]? = some o := by subst h; exact heap_alloc_new w o
theorem heap_set {w : World} {b g i : Nat} (v : Value) (h : b ≠ g) : (w.setCell ⟨g, i, none⟩ v).heap[b]? = w.heap[b]? := Below.heap_setCell _ _ _ _ h
def setO (o : Option Obj) (i : Nat) (v : Value) : Option Obj :=
  match o with
  | some (.cells cs T f) => some (.cells (cs.setIfInBounds i v) T f)
  | o => o
theorem heap_set_same (w : World) (g i : Nat) (v : Value) : (w.setCell ⟨g, i, none⟩ v).heap[g]? = setO (w.heap[g]?) i v := by
  simp only [World.setCell, Array.getElem?_modify, if_true]
  cases w.heap[g]? with
  | none => rfl
  | some o => cases o <;> rfl
/-- Cells are written, block by block. -/
def stoS (s : Option Nat) (o : Option Obj) (g j : Nat) (x : Value) (w : World) : Option World :=
  match s, o with
  | some 1, some (.cells cs _ (0, 0)) => if j < cs.size ∧ x.oneCell' = true then some (w.setCell ⟨g, j, none⟩ x) else none
  | _, _ => none
theorem oneCell_cells {x : Value} (h : x.oneCell' = true) : x.cells = #[x] := by
  cases x <;> first | rfl | simp [Value.oneCell'] at h
theorem sto_own {P : Program} {T : TypeId} {w : World} {g o k : Nat} {x : Value} {cs : Array Value} {T' : TypeId} (hs : szT P T = some 1) (hg : w.heap[g]? = some (.cells cs T' (0, 0))) (hj : o + k < cs.size) (hx : x.oneCell' = true) :
    stoT P T w (pa (some ⟨g, o, none⟩) k) x = some (w.setCell ⟨g, o + k, none⟩ x) := by
  simp only [stoT, pa, Option.map_some, addr_add, oneCell_cells hx, hs, List.size_toArray, List.length_cons, List.length_nil, if_true]
  show (match setP w (.pointer (some ⟨g, o + k, none⟩)) 0 x with | some w' => some w' | none => none) = _
  have h1 : w.cell? ⟨g, o + k, none⟩ = some cs[o + k] := by simp [World.cell?, hg, hj]
  have h2 : w.frozen? ⟨g, o + k, none⟩ = false := by simp [World.frozen?, hg]
  simp [setP, addr_add, h1, h2, hx]
theorem sto_S {P : Program} {T : TypeId} {w : World} {g o k : Nat} {x : Value} {u : World} (h : stoS (szT P T) (w.heap[g]?) g (o + k) x w = some u) : stoT P T w (pa (some ⟨g, o, none⟩) k) x = some u := by
  unfold stoS at h
  split at h
  · rename_i hs hg
    split at h
    · rename_i hc
      simp only [Option.some.injEq] at h; subst h
      exact sto_own hs hg hc.1 hc.2
    · cases h
  · cases h
theorem Vl_sto {P : Program} {T : TypeId} {w : World} {g o k : Nat} {x : Value} {K : World → Prop} (h : Vl (stoS (szT P T) (w.heap[g]?) g (o + k) x w) K) : Vl (stoT P T w (pa (some ⟨g, o, none⟩) k) x) K := by
  obtain ⟨u, hu, hk⟩ := h
  exact ⟨u, sto_S hu, hk⟩
/-- A struct is written into a block that was laid for it a moment ago. -/
theorem sto_new {P : Program} {T T' : TypeId} {w : World} {z cs : Array Value} (h : szT P T = some cs.size) (hz : z.size = cs.size) (hc : ∀ x ∈ cs, x.oneCell' = true) :
    stoT P T (w.alloc (.cells z T')) (pa (some ⟨w.heap.size, 0, none⟩) 0) (.agg cs) = some (w.alloc (.cells cs T')) := by
  simp only [stoT, pa, Option.map_some, addr_add, Value.cells, h, if_true, Nat.add_zero]
  have key : ∀ (l : List Value) (z : Array Value) (j : Nat), (∀ x ∈ l, x.oneCell' = true) → j + l.length = z.size →
      stoL (w.alloc (.cells z T')) (.pointer (some ⟨w.heap.size, 0, none⟩)) j l = some (w.alloc (.cells (z.toList.take j ++ l).toArray T')) := by
    intro l
    induction l with
    | nil => intro z j _ hj; simp only [stoL, List.append_nil]; rw [List.take_of_length_le (by simp at hj; simp; omega)]
    | cons x l ih =>
      intro z j hx hj
      simp only [List.length_cons] at hj
      have hlt : j < z.size := by omega
      have h1 : (w.alloc (.cells z T')).cell? ⟨w.heap.size, 0 + j, none⟩ = some z[j] := by
        rw [Nat.zero_add, World.cell?_alloc_new]; simp [hlt]
      have h2 : (w.alloc (.cells z T')).frozen? ⟨w.heap.size, 0 + j, none⟩ = false := by rw [Nat.zero_add]; exact World.frozen?_alloc_new _ _ _ _
      have h3 : (w.alloc (.cells z T')).setCell ⟨w.heap.size, 0 + j, none⟩ x = w.alloc (.cells (z.setIfInBounds j x) T') := by
        rw [Nat.zero_add]; exact World.setCell_alloc_new ..
      simp only [stoL, setP, addr_add, h1, h2, hx x (List.mem_cons_self ..), Option.isSome_some, and_self, if_true, h3]
      rw [ih (z.setIfInBounds j x) (j + 1) (fun y hy => hx y (List.mem_cons_of_mem _ hy)) (by simp; omega)]
      rw [Array.toList_setIfInBounds, take_set_one x z.toList j (by simpa using hlt)]
      simp
  rw [key cs.toList z 0 (fun x hx => hc x (by simpa using hx)) (by simp [hz])]
  simp
theorem nck_pa (A : Option Addr) (k : Nat) (hA : A.isSome = true) : nckV (pa A k) = some (pa A k) := by
  cases A with
  | none => simp at hA
  | some a => rfl
end Go.V
namespace Go.V
open Go.RowKit

/-- Nothing that stood has turned. -/
abbrev Ext (w w' : World) : Prop := Below w.heap.size w w'
theorem Ext.rfl' (w : World) : Ext w w := Below.refl _ _
theorem Ext.tr {a b c : World} (h : Ext a b) (k : Ext b c) : Ext a c := h.trans (k.mono h.size)
theorem Ext.al {a b : World} (h : Ext a b) (o : Obj) : Ext a (b.alloc o) := h.alloc h.size o
theorem Ext.st {a b : World} (h : Ext a b) {g i : Nat} (hg : a.heap.size ≤ g) (v : Value) : Ext a (b.setCell ⟨g, i, none⟩ v) := Below.setCell h (p := ⟨g, i, none⟩) hg v
theorem Ext.dr {a b : World} (h : Ext a b) : Ext a b.drew := Below.drew h
theorem Ext.hp {a b : World} (h : Ext a b) {g : Nat} {o : Obj} (hg : a.heap[g]? = some o) : b.heap[g]? = some o := (h.block g (Array.getElem?_eq_some_iff.1 hg).1).trans hg
theorem Ext.rd {a b : World} (h : Ext a b) {A : Option Addr} {k : Nat} {v : Value} (hr : rd a A k = some v) : rd b A k = some v := by
  cases A with
  | none => simp [V.rd] at hr
  | some x =>
    simp only [V.rd, Option.bind_some] at hr ⊢
    rw [h.cell (lt_of_cell hr)]; exact hr
theorem lt_heap {w : World} {g : Nat} {o : Obj} (h : w.heap[g]? = some o) : g < w.heap.size := (Array.getElem?_eq_some_iff.1 h).1
theorem rd_isSome {w : World} {A : Option Addr} {k : Nat} {v : Value} (h : rd w A k = some v) : A.isSome = true := by
  cases A with
  | none => simp [rd] at h
  | some a => rfl
/-- A slice of elements of one cell reads as a list. -/
def Sq {α : Type} (enc : α → Value) (w : World) (v : Value) (l : List α) : Prop :=
  ∃ A c, v = .slice A l.length c ∧ l.length ≤ c ∧ ∀ i (h : i < l.length), rd w A i = some (enc l[i])
theorem Sq.ext {α : Type} {enc : α → Value} {w w' : World} {v : Value} {l : List α} (h : Sq enc w v l) (hx : Ext w w') : Sq enc w' v l := by
  obtain ⟨A, c, hv, hc, hr⟩ := h
  exact ⟨A, c, hv, hc, fun i hi => hx.rd (hr i hi)⟩
theorem Sq.nil {α : Type} (enc : α → Value) (w : World) : Sq enc w (.slice none 0 0) [] := ⟨none, 0, rfl, Nat.le_refl _, fun i h => by simp at h⟩
/-- Whole numbers, booleans, texts. -/
abbrev Ints (w : World) (v : Value) (l : List Int) : Prop := Sq (.int .i64) w v l
abbrev Bools (w : World) (v : Value) (l : List Bool) : Prop := Sq .bool w v l
abbrev Strs (w : World) (v : Value) (l : List ByteArray) : Prop := Sq .string w v l
/-- A slice of slices of elements of one cell. -/
def Rows {α : Type} (enc : α → Value) (w : World) (v : Value) (l : List (List α)) : Prop :=
  ∃ A c, v = .slice A l.length c ∧ l.length ≤ c ∧ ∀ i (h : i < l.length), ∃ r, rd w A i = some r ∧ Sq enc w r l[i]
theorem Rows.ext {α : Type} {enc : α → Value} {w w' : World} {v : Value} {l : List (List α)} (h : Rows enc w v l) (hx : Ext w w') : Rows enc w' v l := by
  obtain ⟨A, c, hv, hc, hr⟩ := h
  exact ⟨A, c, hv, hc, fun i hi => let ⟨r, h1, h2⟩ := hr i hi; ⟨r, hx.rd h1, h2.ext hx⟩⟩
/-- A slice of productions. -/
def Prods (w : World) (v : Value) (l : List (Int × List Int)) : Prop :=
  ∃ A c, v = .slice A l.length c ∧ l.length ≤ c ∧ ∀ i (h : i < l.length), rd w A (i * 2) = some (.int .i64 l[i].1) ∧ ∃ r, rd w A (i * 2 + 1) = some r ∧ Ints w r l[i].2
theorem Prods.ext {w w' : World} {v : Value} {l : List (Int × List Int)} (h : Prods w v l) (hx : Ext w w') : Prods w' v l := by
  obtain ⟨A, c, hv, hc, hr⟩ := h
  exact ⟨A, c, hv, hc, fun i hi => let ⟨h0, r, h1, h2⟩ := hr i hi; ⟨hx.rd h0, r, hx.rd h1, h2.ext hx⟩⟩
/-- The equations on memory that hold of every world. -/
theorem M0 : (∀ w b o k, rd w (some ⟨b, o, none⟩) k = cellO (w.heap[b]?) (o + k)) ∧ (∀ cs T f j, cellO (some (.cells cs T f)) j = cs[j]?) ∧ (∀ P T w A k, ldV P T w (pa A k) = ldA (aggN P T) w A k) ∧
    (∀ w A k, ldA (some none) w A k = rd w A k) ∧ (∀ P T a k f, faV P T (pa (some a) k) f = (foff P T f).map fun off => pa (some a) (k + off)) ∧ (∀ (w : World) o, (w.alloc o).heap.size = w.heap.size + 1) ∧
    (∀ (w : World) a v, (w.setCell a v).heap.size = w.heap.size) ∧ (∀ (w : World), w.drew.heap = w.heap) ∧ (∀ (w : World) g i v, (w.setCell ⟨g, i, none⟩ v).heap[g]? = setO (w.heap[g]?) i v) ∧
    (∀ cs T f i v, setO (some (.cells cs T f)) i v = some (.cells (cs.setIfInBounds i v) T f)) ∧ (∀ a k, nckV (pa (some a) k) = some (pa (some a) k)) :=
  ⟨rd_own, fun _ _ _ _ => rfl, ldV_pa, fun _ _ _ => rfl, faV_some, fun _ _ => World.size_alloc .., fun _ _ _ => World.size_setCell .., fun _ => rfl, heap_set_same, fun _ _ _ _ _ => rfl, fun _ _ => rfl⟩
/-- Small equations. -/
theorem E0 : (∀ {α β : Type} (f : α → β) a, Option.map f (some a) = some (f a)) ∧ (∀ {α β : Type} (f : α → Option β) a, Option.bind (some a) f = f a) ∧ (∀ n : Nat, n * 1 = n) ∧ (∀ n : Nat, n + 0 = n) ∧ (∀ n : Nat, 0 + n = n) ∧ (∀ n : Nat, 0 * n = 0) ∧
    (∀ n : Nat, ((n : Int)).toNat = n) ∧ (∀ {α : Type} (l : List α) (i : Nat), l.toArray[i]? = l[i]?) ∧ (∀ {α : Type} (a : α) (l : List α), (a :: l)[0]? = some a) ∧ (∀ {α : Type} (a : α) (l : List α) i, (a :: l)[i + 1]? = l[i]?) ∧
    (∀ cs, Value.cells (.agg cs) = cs) ∧ (∀ {α β : Type} (f : α → β) (l : List α), Array.map f l.toArray = (List.map f l).toArray) ∧ (∀ {α β : Type} (f : α → β) a (l : List α), List.map f (a :: l) = f a :: List.map f l) ∧ (∀ {α β : Type} (f : α → β), List.map f [] = []) ∧
    (∀ n : Nat, ((n : Int) + 1) = ((n + 1 : Nat) : Int)) :=
  ⟨fun _ _ => rfl, fun _ _ => rfl, Nat.mul_one, Nat.add_zero, Nat.zero_add, Nat.zero_mul, Int.toNat_natCast, fun _ _ => List.getElem?_toArray .., fun _ _ => List.getElem?_cons_zero .., fun _ _ _ => List.getElem?_cons_succ .., fun _ => rfl, fun _ _ => by simp, fun _ _ _ => rfl, fun _ => rfl, fun _ => rfl⟩
end Go.V
namespace Go.V
open Go.RowKit

/-- The row of a slice's type: its elements' type, cells and bytes, their zero. -/
def SlT (P : Program) (t e size bytes : Nat) (z : Value) : Prop :=
  P.underlying t = some (.slice e) ∧ (P.info? e).map (fun i => (i.zero, i.size, i.bytes)) = some (some z, size, bytes) ∧ z.cells.size = size ∧ 0 < size
theorem SlT.info {P : Program} {t e size bytes : Nat} {z : Value} (h : SlT P t e size bytes z) : ∃ i, P.info? e = some i ∧ i.zero = some z ∧ i.size = size ∧ i.bytes = bytes := info_parts h.2.1
theorem grown_ext {w w' : World} (h : w.grownBy w' none) : Ext w w' := ⟨h.os, h.tape, h.output, h.size, fun k hk => h.block k hk (by simp)⟩
theorem Ext.grown' {a w w' : World} {row : Option Nat} (h : Ext a w) (hg : w.grownBy w' row) (hr : ∀ k, row = some k → a.heap.size ≤ k) : Ext a w' := Below.grown h hg h.size hr
theorem RunA_own {P : Program} {t e size bytes : Nat} {z : Value} (hs : SlT P t e size bytes z) {ty : TypeId} {w : World} {K : KV} {base n m c : Nat} {v : Value} {xs news : List Value} {A : Option Addr}
    (ho : w.ownsRow base e size v n xs) (hl : news.length = m * size) (hnews : ∀ j u, news[j]? = some u → rd w A j = some u) (h1 : ∀ u ∈ news, u.oneCell' = true)
    (h63 : n + m ≤ 9223372036854775807) (hb : (n + m) * bytes ≤ 140737488355328) (hbase : base ≤ w.heap.size)
    (hk : ∀ v' w', w'.ownsRow base e size v' (n + m) (xs ++ news) → w.grownBy w' v.ownBlock → (v'.ownBlock = v.ownBlock ∨ v'.ownBlock = some w.heap.size) → K.out v' w') :
    @RunA P #[t, t] ty #[v, .slice A m c] w K := by
  obtain ⟨i, hi, hz, hsz, hby⟩ := hs.info
  have hpos := hs.2.2.2
  cases A with
  | some a =>
    obtain ⟨v', w', hr, h2, h3, _, h5⟩ := run_append_own_at (P := P) w base t ty e i z size bytes hs.1 hi hz hsz hby hs.2.2.1 hpos v n xs ho a m c news hl
      (fun j u hj => by have := hnews j u hj; simpa [rd] using this) h1 (by unfold maxLen; omega) hb hbase
    exact ⟨v', w', hr, hk v' w' h2 h3 h5⟩
  | none =>
    have hm : m = 0 := by
      cases m with
      | zero => rfl
      | succ m =>
        cases news with
        | nil => simp [Nat.succ_mul] at hl; omega
        | cons x l => have := hnews 0 x rfl; simp [rd] at this
    subst hm
    have hn : news = [] := by simpa using hl
    subst hn
    refine ⟨v, w, ?_, hk v w (by simpa using ho) ⟨rfl, rfl, rfl, Nat.le_refl _, fun _ _ _ => rfl⟩ (.inl rfl)⟩
    rcases ho.2 with ⟨rfl, rfl⟩ | ⟨g, cap, cur, rfl, _, _, hnc, _⟩
    · simp [Builtin.append_, run_underlying P w _ _ hs.1, run_sizeOf P w _ i hi, Builtin.lenOf, Builtin.firstCells]
    · simp [Builtin.append_, run_underlying P w _ _ hs.1, run_sizeOf P w _ i hi, Builtin.lenOf, Builtin.firstCells, hnc, storeCells]
/-- append(s, x), x laid in a block of its own a moment ago. -/
theorem RunA_one {P : Program} {t e bytes : Nat} {z : Value} (hs : SlT P t e 1 bytes z) {ty : TypeId} {w : World} {K : KV} {base n : Nat} {v x : Value} {xs : List Value}
    (ho : w.ownsRow base e 1 v n xs) (h1 : x.oneCell' = true) (h63 : n + 1 ≤ 9223372036854775807) (hb : (n + 1) * bytes ≤ 140737488355328) (hbase : base ≤ w.heap.size)
    (hk : ∀ v' w', w'.ownsRow base e 1 v' (n + 1) (xs ++ [x]) → w.grownBy w' v.ownBlock → (v'.ownBlock = v.ownBlock ∨ ∃ b, v'.ownBlock = some b ∧ w.heap.size ≤ b) → K.out v' w') :
    @RunA P #[t, t] ty #[v, .slice (some ⟨w.heap.size, 0, none⟩) 1 1] (w.alloc (.cells #[x] e)) K := by
  refine RunA_own hs (ho.alloc _) (news := [x]) rfl ?_ (fun u hu => by simp at hu; subst hu; exact h1) h63 hb (by simp; omega) ?_
  · intro j u hj
    match j, hj with
    | 0, hj =>
      simp at hj; subst hj
      rw [rd_own, heap_new _ rfl]; rfl
    | j + 1, hj => simp at hj
  · intro v' w' h2 h3 h4
    refine hk v' w' h2 ((World.grownBy_alloc w _ _).trans h3) (h4.imp id fun h => ⟨_, h, by simp⟩)
/-- make, elements of one cell. -/
theorem RunM_one {P : Program} {t e bytes : Nat} {z : Value} (hs : SlT P t e 1 bytes z) (hz1 : z.oneCell' = true) {w : World} {K : KV} {n : Nat} (h63 : n ≤ 9223372036854775807) (hb : bytes * n ≤ 281474976710656)
    (hk : K.out (.slice (some ⟨w.heap.size, 0, none⟩) n n) (w.alloc (.cells (List.replicate n z).toArray e))) : @RunM P t (.int .i64 n) (.int .i64 n) w K := by
  obtain ⟨i, hi, hz, hsz, hby⟩ := hs.info
  subst hby
  refine ⟨_, _, ?_, hk⟩
  have hw : IntKind.i64.wrap (n : Int) = n := i64_wrap (by omega) (by omega)
  have hzr : (zeroValue e).run P w = .ok z w := by simp [zeroValue, run_typeInfo P w _ i hi, hz]
  have hbz : ¬ ((i.bytes : Int) * (n : Int) > 2 ^ 48) := by
    have : ((i.bytes * n : Nat) : Int) ≤ ((281474976710656 : Nat) : Int) := Int.ofNat_le.2 hb
    rw [Int.natCast_mul] at this
    omega
  have hn0 : ¬ ((n : Int) < 0) := by omega
  have h2 : (2 : Int) ^ 48 = 281474976710656 := rfl
  have hbz' : ¬ (281474976710656 < (i.bytes : Int) * (n : Int)) := by rw [← h2]; omega
  simp only [Instr.makeSlice, Sem.run_bind, run_underlying P w _ _ hs.1, Result.andThen_ok, asInt, asIntOf, Sem.run_pure, run_typeInfo P w _ i hi, hw, run_sizeOf P w _ i hi, hsz, Nat.mul_one, Int.toNat_natCast,
    h2, gt_iff_lt, hn0, hbz', decide_false, Bool.or_self, Bool.false_eq_true, Int.lt_irrefl, if_false, Bool.or_false, run_askRoom]
  by_cases h0 : n = 0
  · subst h0
    simp only [if_true, Sem.run_bind, Sem.run_pure, Result.andThen_ok]
    have hc : (Array.range 0).map (fun x => (#[] : Array Value)[x % (#[] : Array Value).size]!) = (List.replicate 0 z).toArray := by
      apply Array.ext <;> simp
    rw [hc]; rfl
  · simp only [h0, if_false, Sem.run_bind, hzr, Result.andThen_ok, Sem.run_pure, oneCell_cells hz1]
    have hc : (Array.range n).map (fun x => (#[z] : Array Value)[x % 1]!) = (List.replicate n z).toArray := by
      apply Array.ext
      · simp
      · intro k h1 h2; simp [Nat.mod_one]
    show Result.ok _ _ = _
    simp only [List.size_toArray, List.length_cons, List.length_nil, Nat.zero_add] 
    rw [hc]
    rfl
/-- What is owned reads as a list. -/
theorem own_sq {α : Type} {enc : α → Value} {w : World} {base e : Nat} {v : Value} {l : List α} (h : w.ownsRow base e 1 v l.length (l.map enc)) : Sq enc w v l := by
  rcases h.2 with ⟨rfl, hn⟩ | ⟨g, cap, cur, rfl, _, hg, hc, _, hsz, ht⟩
  · cases l with
    | nil => exact Sq.nil _ _
    | cons a l => simp at hn
  · refine ⟨some ⟨g, 0, none⟩, cap, rfl, hc, fun i hi => ?_⟩
    rw [rd_own, hg]
    show cur[0 + i]? = _
    have : (cur.toList.take (l.length * 1))[i]? = (l.map enc)[i]? := by rw [ht]
    rw [List.getElem?_take, if_pos (by omega)] at this
    simp at this
    rw [Nat.zero_add, this]; simp [hi]
end Go.V
