/- The equations by which a verification condition is reckoned. Conditions: none. -/
import Derived.Test.YtgioklmpnbnplaaVe
set_option linter.unusedSimpArgs false
set_option linter.unusedVariables false
namespace Go.V
open Go.RowKit

/-- What simp is not to look into: an argument behind a class. -/
class Hd (α : Type) where
  mk' ::
  out : α
abbrev KV := Hd (Value → World → Prop)
abbrev KP := Hd Prop
def hVl {α : Type} (x : Option α) [k : Hd (α → Prop)] : Prop := Vl x k.out
def hBr (v : Value) [X : KP] [Y : KP] : Prop := Br v X.out Y.out
def hGd (v : Value) (b : Bool) [X : KP] [Y : KP] : Prop := Gd v b X.out Y.out
def hOk (P : Program) (f : Nat) (args : Array Value) (w : World) [K : KV] : Prop := Ok P f args w K.out
def hLp [V : Hd ((Ex → Fr → World → Prop) → Fr → World → Prop)] [Q : Hd (Ex → Fr → World → Prop)] (t : Fr) (w : World) : Prop := Lp V.out Q.out t w
def hDr (P : Program) (n : Nat) [ops : Hd (Array Oper)] [Q : Hd (Ex → Fr → World → Prop)] (t : Fr) (w : World) : Prop := Dr P n ops.out Q.out t w
def RunA (P : Program) (ts : Array TypeId) (ty : TypeId) (args : Array Value) (w : World) [K : KV] : Prop := ∃ v w', (Builtin.append_ ts ty args).run P w = .ok v w' ∧ K.out v w'
def RunU (P : Program) (T : TypeId) (m k v : Value) (w : World) [K : KV] : Prop := ∃ w', (Instr.mapUpdate T m k v).run P w = .ok () w' ∧ K.out undef w'
def RunM (P : Program) (T : TypeId) (l c : Value) (w : World) [K : KV] : Prop := ∃ v w', (Instr.makeSlice T l c).run P w = .ok v w' ∧ K.out v w'
def RunR (P : Program) (T : TypeId) (x : Value) (w : World) [K : KV] : Prop := ∃ v w', (Instr.range T x).run P w = .ok v w' ∧ K.out v w'
def RunN (P : Program) (T : TypeId) (x : Value) (b : Bool) (w : World) [K : KV] : Prop := ∃ v w', (Instr.next x b T).run P w = .ok v w' ∧ K.out v w'
def RunE (P : Program) (x : Value) (w : World) [K : KV] : Prop := ∃ v w', (Instr.entry x).run P w = .ok v w' ∧ K.out v w'
/-- A call of a function value. -/
def CallV (P : Program) (f : Value) (args : Array Value) (w : World) [K : KV] : Prop :=
  match f with
  | .func (.func g) first captured => Ok P g (first ++ args ++ captured) w K.out
  | _ => False
section
variable {P : Program} {n : Nat} {t : Fr} {w : World} {K : Value → World → Prop} {d : Option Tmp} {ty : TypeId} {pos : String} {af : Array Edge} {g : Option (Nat × Bool)}
theorem raw_of {o : Oper} {s : Sem Value} (h : execOp (ev n t) o = (do let v ← s; pure (.value v))) : Raw P n t w o K = ∃ v w', s.run P w = .ok v w' ∧ K v w' := by
  unfold Raw
  rw [h]
  simp only [Sem.run_bind]
  apply propext
  constructor
  · rintro ⟨nx, w', hr, hk⟩
    cases hs : s.run P w with
    | ok v w1 =>
      simp only [hs, Result.andThen_ok, Sem.run_pure, Result.ok.injEq] at hr
      obtain ⟨rfl, rfl⟩ := hr
      exact ⟨v, _, rfl, hk⟩
    | halt x w1 => simp [hs] at hr
  · rintro ⟨v, w', hs, hk⟩
    exact ⟨.value v, w', by simp [hs], hk⟩
theorem raw_of' {o : Oper} {s : Sem Unit} (h : execOp (ev n t) o = (do s; pure .skip)) : Raw P n t w o K = ∃ w', s.run P w = .ok () w' ∧ K undef w' := by
  unfold Raw
  rw [h]
  simp only [Sem.run_bind]
  apply propext
  constructor
  · rintro ⟨nx, w', hr, hk⟩
    cases hs : s.run P w with
    | ok v w1 =>
      simp only [hs, Result.andThen_ok, Sem.run_pure, Result.ok.injEq] at hr
      obtain ⟨rfl, rfl⟩ := hr
      exact ⟨_, rfl, hk⟩
    | halt x w1 => simp [hs] at hr
  · rintro ⟨w', hs, hk⟩
    exact ⟨.skip, w', by simp [hs], hk⟩
theorem vop_move (x : Operand) : vop P n (Oper.mk d (.move x) ty pos af g) t w K = K (ev n t x) w := by show Vl (some _) _ = _; rw [Vl_some]
theorem vop_assign (x : Operand) : vop P n (Oper.mk d (.assign x) ty pos af g) t w K = K (ev n t x) w := by show Vl (some _) _ = _; rw [Vl_some]
theorem vop_makeFunc (fn : Fn) (a b : Array Operand) : vop P n (Oper.mk d (.makeFunc fn a b) ty pos af g) t w K = K (.func fn (a.map (ev n t)) (b.map (ev n t))) w := by show Vl (some _) _ = _; rw [Vl_some]
theorem vop_pick (c a b : Operand) : vop P n (Oper.mk d (.pick c a b) ty pos af g) t w K = @hVl _ (pickV (ev n t c) (ev n t a) (ev n t b)) ⟨fun v => K v w⟩ := rfl
theorem vop_bin (op : BinOp) (T : TypeId) (x y : Operand) (T' : TypeId) : vop P n (Oper.mk d (.binOp op T x y T') ty pos af g) t w K = @hVl _ (binT P op T (ev n t x) (ev n t y)) ⟨fun v => K v w⟩ := rfl
theorem vop_un (op : UnOp) (T : TypeId) (x : Operand) : vop P n (Oper.mk d (.unOp op T x) ty pos af g) t w K = @hVl _ (unV op (ev n t x)) ⟨fun v => K v w⟩ := rfl
theorem vop_extract (x : Operand) (i : Nat) : vop P n (Oper.mk d (.extract x i) ty pos af g) t w K = @hVl _ (extV (ev n t x) i) ⟨fun v => K v w⟩ := rfl
theorem vop_nck (x : Operand) : vop P n (Oper.mk d (.nilCheck x) ty pos af g) t w K = @hVl _ (nckV (ev n t x)) ⟨fun v => K v w⟩ := rfl
theorem vop_load (T : TypeId) (x : Operand) : vop P n (Oper.mk d (.load T x) ty pos af g) t w K = @hVl _ (ldV P T w (ev n t x)) ⟨fun v => K v w⟩ := rfl
theorem vop_fa (T : TypeId) (x : Operand) (f : Nat) : vop P n (Oper.mk d (.fieldAddr T x f) ty pos af g) t w K = @hVl _ (faV P T (ev n t x) f) ⟨fun v => K v w⟩ := rfl
theorem vop_ia (T : TypeId) (x i : Operand) : vop P n (Oper.mk d (.indexAddr T x i) ty pos af g) t w K = @hVl _ (iaV P T (ev n t x) (ev n t i)) ⟨fun v => K v w⟩ := rfl
theorem vop_slice (T : TypeId) (x : Operand) (lo hi mx : Option Operand) : vop P n (Oper.mk d (.slice T x lo hi mx) ty pos af g) t w K = @hVl _ (slV P T (ev n t x) (lo.map (ev n t)) (hi.map (ev n t)) (mx.map (ev n t))) ⟨fun v => K v w⟩ := rfl
theorem vop_convert (S D : TypeId) (x : Operand) : vop P n (Oper.mk d (.convert S D x) ty pos af g) t w K = @hVl _ (cvW P S D w (ev n t x)) ⟨fun v => K v w⟩ := rfl
theorem vop_len (x : Operand) (T : TypeId) : vop P n (Oper.mk d (.call ⟨.builtin .len, #[x], #[T]⟩) ty pos af g) t w K = @hVl _ (lenV P T w (ev n t x)) ⟨fun v => K v w⟩ := rfl
theorem vop_min (x y : Operand) (ts : Array TypeId) : vop P n (Oper.mk d (.call ⟨.builtin .min, #[x, y], ts⟩) ty pos af g) t w K = @hVl _ (minV [ev n t x, ev n t y]) ⟨fun v => K v w⟩ := rfl
theorem vop_max (x y : Operand) (ts : Array TypeId) : vop P n (Oper.mk d (.call ⟨.builtin .max, #[x, y], ts⟩) ty pos af g) t w K = @hVl _ (maxV [ev n t x, ev n t y]) ⟨fun v => K v w⟩ := rfl
theorem vop_alloc (T : TypeId) : vop P n (Oper.mk d (.alloc T) ty pos af g) t w K = @hVl _ (zeroC P T) ⟨fun z => K (pa (some ⟨w.heap.size, 0, none⟩) 0) (w.alloc (.cells z T))⟩ := rfl
theorem vop_box (T : TypeId) (x : Operand) : vop P n (Oper.mk d (.box T x) ty pos af g) t w K = K (pa (some ⟨w.heap.size, 0, none⟩) 0) (w.alloc (.cells (ev n t x).cells T)) := rfl
theorem vop_bsl (T : TypeId) (len : Nat) (parts : Array (Nat × Operand)) : vop P n (Oper.mk d (.buildSlice T len parts) ty pos af g) t w K =
    @hVl _ (bslC P T len (parts.map fun x => (x.1, ev n t x.2))) ⟨fun p => K (.slice (some ⟨w.heap.size, 0, none⟩) len len) (w.alloc (.cells p.1 p.2))⟩ := by
  apply propext
  show (∃ cs e, _ ∧ _) ↔ _
  constructor
  · rintro ⟨cs, e, h, k⟩; exact ⟨(cs, e), h, k⟩
  · rintro ⟨⟨cs, e⟩, h, k⟩; exact ⟨cs, e, h, k⟩
theorem vop_store (T : TypeId) (a x : Operand) : vop P n (Oper.mk d (.store T a x) ty pos af g) t w K = Vl (stoT P T w (ev n t a) (ev n t x)) fun w' => K undef w' := rfl
theorem vop_makeMap (T : TypeId) : vop P n (Oper.mk d (.makeMap T none) ty pos af g) t w K = K (.map (some w.heap.size)) (w.alloc (.map #[] 0)) := rfl
theorem vop_call (f : Nat) (args : Array Operand) (ts : Array TypeId) : vop P n (Oper.mk d (.call ⟨.value (.func f), args, ts⟩) ty pos af g) t w K = @hOk P f (args.map (ev n t)) w ⟨K⟩ := by
  show Ok P f (#[] ++ args.map (ev n t) ++ #[]) w K = Ok P f (args.map (ev n t)) w K
  simp
theorem vop_callv (f : Tmp) (args : Array Operand) (ts : Array TypeId) : vop P n (Oper.mk d (.call ⟨.value (.tmp f), args, ts⟩) ty pos af g) t w K = @CallV P (ev n t (.tmp f)) (args.map (ev n t)) w ⟨K⟩ := by
  show (match ev n t (.tmp f) with | .func (.func g) first captured => Ok P g (first ++ args.map (ev n t) ++ captured) w K | _ => False) = _
  unfold CallV; rfl
theorem CallV_func (f : Nat) (a b args : Array Value) (K : KV) : @CallV P (.func (.func f) a b) args w K = @hOk P f (a ++ args ++ b) w K := rfl
theorem vop_append (x y : Operand) (ts : Array TypeId) : vop P n (Oper.mk d (.call ⟨.builtin .append, #[x, y], ts⟩) ty pos af g) t w K = @RunA P ts ty #[ev n t x, ev n t y] w ⟨K⟩ :=
  raw_of (s := Builtin.append_ ts ty #[ev n t x, ev n t y]) (by simp [execOp, resolve, invoke, builtin])
theorem vop_makeSlice (T : TypeId) (l c : Operand) : vop P n (Oper.mk d (.makeSlice T l c) ty pos af g) t w K = @RunM P T (ev n t l) (ev n t c) w ⟨K⟩ := raw_of (s := Instr.makeSlice T (ev n t l) (ev n t c)) rfl
theorem vop_build (T : TypeId) (parts : Array (Nat × Operand)) : vop P n (Oper.mk d (.build T parts) ty pos af g) t w K = @hVl _ (bld P T (parts.map fun x : Nat × Operand => (x.1, ev n t x.2))) ⟨fun v => K v w⟩ := rfl
theorem vop_lookup (T : TypeId) (m k : Operand) (c : Bool) : vop P n (Oper.mk d (.lookup T m k c) ty pos af g) t w K = @hVl _ (lkO P T w (ev n t m) (ev n t k) c) ⟨fun v => K v w⟩ := rfl
theorem vop_range (T : TypeId) (x : Operand) : vop P n (Oper.mk d (.range T x) ty pos af g) t w K = @RunR P T (ev n t x) w ⟨K⟩ := raw_of (s := Instr.range T (ev n t x)) rfl
theorem vop_next (x : Operand) (b : Bool) : vop P n (Oper.mk d (.next x b) ty pos af g) t w K = @RunN P ty (ev n t x) b w ⟨K⟩ := raw_of (s := Instr.next (ev n t x) b ty) rfl
theorem vop_entry (x : Operand) : vop P n (Oper.mk d (.entry x) ty pos af g) t w K = @RunE P (ev n t x) w ⟨K⟩ := raw_of (s := Instr.entry (ev n t x)) rfl
theorem vop_index (T : TypeId) (x i : Operand) : vop P n (Oper.mk d (.index T x i) ty pos af g) t w K = @hVl _ (idxV P T (ev n t x) (ev n t i)) ⟨fun v => K v w⟩ := rfl
theorem vop_upd (T : TypeId) (m k x : Operand) : vop P n (Oper.mk d (.mapUpdate T m k x) ty pos af g) t w K = @RunU P T (ev n t m) (ev n t k) (ev n t x) w ⟨K⟩ := raw_of' (s := Instr.mapUpdate T (ev n t m) (ev n t k) (ev n t x)) rfl
theorem vop_ins (T : TypeId) (m k x : Operand) : vop P n (Oper.mk d (.insert T m k x) ty pos af g) t w K = @RunU P T (ev n t m) (ev n t k) (ev n t x) w ⟨K⟩ := raw_of' (s := Instr.mapUpdate T (ev n t m) (ev n t k) (ev n t x)) rfl
end
theorem hVl_some {α : Type} (v : α) (k : Hd (α → Prop)) : @hVl α (some v) k = k.out v := Vl_some v k.out
theorem Br_true (X Y : KP) : @hBr (.bool true) X Y = X.out := by simp [hBr, Br]
theorem Br_false (X Y : KP) : @hBr (.bool false) X Y = Y.out := by simp [hBr, Br]
theorem Br_split {b : Bool} {X Y : KP} (h : b = true → X.out) (k : b = false → Y.out) : @hBr (.bool b) X Y := by
  cases b with
  | true => exact .inl ⟨rfl, h rfl⟩
  | false => exact .inr ⟨rfl, k rfl⟩
theorem Br_if {p : Prop} [Decidable p] {X Y : KP} (h : p → X.out) (k : ¬ p → Y.out) : @hBr (.bool (decide p)) X Y :=
  Br_split (fun e => h (of_decide_eq_true e)) (fun e => k (of_decide_eq_false e))
theorem Br_not (b : Bool) (X Y : KP) : @hBr (.bool (!b)) X Y = @hBr (.bool b) Y X := by
  cases b <;> simp [hBr, Br]
theorem Gd_tt (b : Bool) (X Y : KP) : @hGd (.bool b) true X Y = @hBr (.bool b) X Y := by cases b <;> simp [hGd, Gd, hBr, Br]
theorem Gd_ff (b : Bool) (X Y : KP) : @hGd (.bool b) false X Y = @hBr (.bool b) Y X := by cases b <;> simp [hGd, Gd, hBr, Br]
theorem Gd_un (b : Bool) (X Y : KP) : @hGd undef b X Y = Y.out := by simp [hGd, Gd, undef]
theorem hOk.then {P : Program} {f : Nat} {args : Array Value} {w : World} {R : Value → World → Prop} {K : KV} (h : Ok P f args w R) (k : ∀ v w', R v w' → K.out v w') : @hOk P f args w K := Ok.then h k
theorem dec_true {p : Prop} [Decidable p] (h : p) : decide p = true := decide_eq_true h
theorem dec_false {p : Prop} [Decidable p] (h : ¬ p) : decide p = false := decide_eq_false h
theorem i64_wrap {x : Int} (h : -9223372036854775808 ≤ x) (h' : x < 9223372036854775808) : IntKind.i64.wrap x = x := by
  rw [IntKind.wrap_i64]; omega
theorem u64_wrap {x : Int} (h : 0 ≤ x) (h' : x < 18446744073709551616) : IntKind.u64.wrap x = x := by
  rw [IntKind.wrap_u64]; omega
/-- The value that a guard looks at. -/
def gvL (n : Nat) (t : Fr) : List Oper → Nat → Value
  | [], _ => undef
  | o :: _, 0 => match o.dst with
    | some d => if d < n then t d else undef
    | none => undef
  | _ :: l, j + 1 => gvL n t l j
theorem gval_L (n : Nat) (t : Fr) : ∀ (l : List Oper) (j : Nat), gval l.toArray n t j = gvL n t l j
  | [], j => by simp [gval, gvL]
  | o :: l, 0 => by simp [gval, gvL]; cases o.dst <;> rfl
  | o :: l, j + 1 => by rw [gvL, ← gval_L n t l j]; simp [gval]
theorem gvL_zero (n : Nat) (t : Fr) (d : Nat) (op : Op) (ty : TypeId) (pos : String) (af : Array Edge) (g : Option (Nat × Bool)) (l : List Oper) : gvL n t (⟨some d, op, ty, pos, af, g⟩ :: l) 0 = if d < n then t d else undef := rfl
theorem gvL_succ (n : Nat) (t : Fr) (o : Oper) (l : List Oper) (j : Nat) : gvL n t (o :: l) (j + 1) = gvL n t l j := rfl
/-- The operation in one place of a region. -/
def opL : List Oper → Nat → Option Oper
  | [], _ => none
  | o :: _, 0 => some o
  | _ :: l, j + 1 => opL l j
theorem opL_eq : ∀ (l : List Oper) (j : Nat), l[j]? = opL l j
  | [], j => by simp [opL]
  | o :: l, 0 => by simp [opL]
  | o :: l, j + 1 => by rw [opL, ← opL_eq l j]; simp
end Go.V
