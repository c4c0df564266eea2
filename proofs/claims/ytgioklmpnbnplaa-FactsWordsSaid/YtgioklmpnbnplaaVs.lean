/- The equations by which a verification condition is reckoned, as one bundle. Conditions: none. -/
import Derived.Test.YtgioklmpnbnplaaVf
set_option linter.unusedSimpArgs false
set_option linter.unusedVariables false
namespace Go.V
open Go.RowKit

/-- Frames, operands, code. -/
theorem S0 : (∀ t i v j, upd t i v j = if j = i then v else t j) ∧ (∀ t i v, updO t (some i) v = upd t i v) ∧ (∀ t v, updO t none v = t) ∧
    (∀ n t i, ev n t (.tmp i) = if i < n then t i else undef) ∧ (∀ n t v, ev n t (.const v) = v) ∧ (∀ n t g, ev n t (.global g) = .pointer (some ⟨g, 0, none⟩)) ∧ (∀ n t f, ev n t (.func f) = .func (.func f) #[] #[]) :=
  ⟨fun _ _ _ _ => rfl, fun _ _ _ => rfl, fun _ _ => rfl, fun _ _ _ => rfl, fun _ _ _ => rfl, fun _ _ _ => rfl, fun _ _ _ => rfl⟩
theorem S1 {P : Program} {n : Nat} :
    (∀ Q t w, vc P n .skip Q t w = Q .normal t w) ∧ (∀ l Q t w, vc P n (.label l) Q t w = Q .normal t w) ∧ (∀ a b Q t w, vc P n (.seq a b) Q t w = vc P n a (Ex.then (vc P n b Q) Q) t w) ∧
    (∀ c x y Q t w, vc P n (.cond c x y) Q t w = @hBr (ev n t c) ⟨vc P n x Q t w⟩ ⟨vc P n y Q t w⟩) ∧ (∀ id c Q t w, vc P n (.block id c) Q t w = vc P n c (Ex.blk id Q) t w) ∧
    (∀ id Q t w, vc P n (.exit id) Q t w = Q (.exit id) t w) ∧ (∀ Q t w, vc P n .ret Q t w = Q .ret t w) ∧
    (∀ id l Q t w, vc P n (.region id l.toArray false) Q t w = vops P n l.toArray Q l t w) ∧ (∀ id ops Q t w, vc P n (.region id ops true) Q t w = @hDr P n ⟨ops⟩ ⟨Q⟩ t w) ∧
    (∀ c Q t w, vc P n (.loop c) Q t w = @hLp ⟨vc P n c⟩ ⟨Q⟩ t w) :=
  ⟨fun _ _ _ => rfl, fun _ _ _ _ => rfl, fun _ _ _ _ _ => rfl, fun _ _ _ _ _ _ => rfl, fun _ _ _ _ _ => rfl,
    fun _ _ _ _ => rfl, fun _ _ _ => rfl, fun _ l _ _ _ => rfl, fun _ _ _ _ _ => rfl, fun _ _ _ _ => rfl⟩
theorem S2 : (∀ K Q t w, Ex.then K Q .normal t w = K t w) ∧ (∀ K Q t w, Ex.then K Q .ret t w = Q .ret t w) ∧ (∀ K Q t w i, Ex.then K Q (.exit i) t w = Q (.exit i) t w) ∧
    (∀ id Q t w, Ex.blk id Q .normal t w = Q .normal t w) ∧ (∀ id Q t w, Ex.blk id Q .ret t w = Q .ret t w) ∧ (∀ id Q t w i, Ex.blk id Q (.exit i) t w = if i = id then Q .normal t w else Q (.exit i) t w) :=
  ⟨fun _ _ _ _ => rfl, fun _ _ _ _ => rfl, fun _ _ _ _ _ => rfl, fun _ _ _ _ => rfl, fun _ _ _ _ => rfl, fun _ _ _ _ _ => rfl⟩
/-- Regions. -/
theorem S3 {P : Program} {n : Nat} {ops : Array Oper} {Q : Ex → Fr → World → Prop} : (∀ t w, vops P n ops Q [] t w = Q .normal t w) ∧
    (∀ d o ty pos af rest t w, vops P n ops Q (⟨d, o, ty, pos, af, none⟩ :: rest) t w = vop P n ⟨d, o, ty, pos, af, none⟩ t w fun v w' => vops P n ops Q rest (updO t d v) w') ∧
    (∀ d o ty pos af j b rest t w, vops P n ops Q (⟨d, o, ty, pos, af, some (j, b)⟩ :: rest) t w =
      @hGd (gval ops n t j) b ⟨vop P n ⟨d, o, ty, pos, af, some (j, b)⟩ t w fun v w' => vops P n ops Q rest (updO t d v) w'⟩ ⟨vops P n ops Q rest (updO t d undef) w⟩) :=
  ⟨fun _ _ => rfl, fun _ _ _ _ _ _ _ _ => rfl, fun _ _ _ _ _ _ _ _ _ _ => rfl⟩
theorem S4 {P : Program} {n : Nat} {t : Fr} {w : World} {K : Value → World → Prop} {d : Option Tmp} {ty : TypeId} {pos : String} {af : Array Edge} {g : Option (Nat × Bool)} :
    (∀ x, vop P n (Oper.mk d (.move x) ty pos af g) t w K = K (ev n t x) w) ∧ (∀ x, vop P n (Oper.mk d (.assign x) ty pos af g) t w K = K (ev n t x) w) ∧
    (∀ fn a b, vop P n (Oper.mk d (.makeFunc fn a b) ty pos af g) t w K = K (.func fn (a.map (ev n t)) (b.map (ev n t))) w) ∧
    (∀ c a b, vop P n (Oper.mk d (.pick c a b) ty pos af g) t w K = @hVl _ (pickV (ev n t c) (ev n t a) (ev n t b)) ⟨fun v => K v w⟩) ∧
    (∀ op T x y T', vop P n (Oper.mk d (.binOp op T x y T') ty pos af g) t w K = @hVl _ (binT P op T (ev n t x) (ev n t y)) ⟨fun v => K v w⟩) ∧
    (∀ op T x, vop P n (Oper.mk d (.unOp op T x) ty pos af g) t w K = @hVl _ (unV op (ev n t x)) ⟨fun v => K v w⟩) ∧
    (∀ x i, vop P n (Oper.mk d (.extract x i) ty pos af g) t w K = @hVl _ (extV (ev n t x) i) ⟨fun v => K v w⟩) ∧
    (∀ x, vop P n (Oper.mk d (.nilCheck x) ty pos af g) t w K = @hVl _ (nckV (ev n t x)) ⟨fun v => K v w⟩) ∧
    (∀ T x, vop P n (Oper.mk d (.load T x) ty pos af g) t w K = @hVl _ (ldV P T w (ev n t x)) ⟨fun v => K v w⟩) ∧
    (∀ T x f, vop P n (Oper.mk d (.fieldAddr T x f) ty pos af g) t w K = @hVl _ (faV P T (ev n t x) f) ⟨fun v => K v w⟩) ∧
    (∀ T x i, vop P n (Oper.mk d (.indexAddr T x i) ty pos af g) t w K = @hVl _ (iaV P T (ev n t x) (ev n t i)) ⟨fun v => K v w⟩) ∧
    (∀ T x lo hi mx, vop P n (Oper.mk d (.slice T x lo hi mx) ty pos af g) t w K = @hVl _ (slV P T (ev n t x) (lo.map (ev n t)) (hi.map (ev n t)) (mx.map (ev n t))) ⟨fun v => K v w⟩) ∧
    (∀ S D x, vop P n (Oper.mk d (.convert S D x) ty pos af g) t w K = @hVl _ (cvW P S D w (ev n t x)) ⟨fun v => K v w⟩) ∧
    (∀ x T, vop P n (Oper.mk d (.call ⟨.builtin .len, #[x], #[T]⟩) ty pos af g) t w K = @hVl _ (lenV P T w (ev n t x)) ⟨fun v => K v w⟩) ∧
    (∀ x y ts, vop P n (Oper.mk d (.call ⟨.builtin .min, #[x, y], ts⟩) ty pos af g) t w K = @hVl _ (minV [ev n t x, ev n t y]) ⟨fun v => K v w⟩) ∧
    (∀ x y ts, vop P n (Oper.mk d (.call ⟨.builtin .max, #[x, y], ts⟩) ty pos af g) t w K = @hVl _ (maxV [ev n t x, ev n t y]) ⟨fun v => K v w⟩) ∧
    (∀ T, vop P n (Oper.mk d (.alloc T) ty pos af g) t w K = @hVl _ (zeroC P T) ⟨fun z => K (pa (some ⟨w.heap.size, 0, none⟩) 0) (w.alloc (.cells z T))⟩) ∧
    (∀ T x, vop P n (Oper.mk d (.box T x) ty pos af g) t w K = K (pa (some ⟨w.heap.size, 0, none⟩) 0) (w.alloc (.cells (ev n t x).cells T))) ∧
    (∀ T len parts, vop P n (Oper.mk d (.buildSlice T len parts) ty pos af g) t w K = @hVl _ (bslC P T len (parts.map fun x => (x.1, ev n t x.2))) ⟨fun p => K (.slice (some ⟨w.heap.size, 0, none⟩) len len) (w.alloc (.cells p.1 p.2))⟩) ∧
    (∀ T a x, vop P n (Oper.mk d (.store T a x) ty pos af g) t w K = @hVl _ (stoT P T w (ev n t a) (ev n t x)) ⟨fun w' => K undef w'⟩) ∧
    (∀ T, vop P n (Oper.mk d (.makeMap T none) ty pos af g) t w K = K (.map (some w.heap.size)) (w.alloc (.map #[] 0))) ∧
    (∀ f args ts, vop P n (Oper.mk d (.call ⟨.value (.func f), args, ts⟩) ty pos af g) t w K = @hOk P f (args.map (ev n t)) w ⟨K⟩) ∧
    (∀ f args ts, vop P n (Oper.mk d (.call ⟨.value (.tmp f), args, ts⟩) ty pos af g) t w K = @CallV P (ev n t (.tmp f)) (args.map (ev n t)) w ⟨K⟩) ∧
    (∀ x y ts, vop P n (Oper.mk d (.call ⟨.builtin .append, #[x, y], ts⟩) ty pos af g) t w K = @RunA P ts ty #[ev n t x, ev n t y] w ⟨K⟩) ∧
    (∀ T l c, vop P n (Oper.mk d (.makeSlice T l c) ty pos af g) t w K = @RunM P T (ev n t l) (ev n t c) w ⟨K⟩) ∧
    (∀ T parts, vop P n (Oper.mk d (.build T parts) ty pos af g) t w K = @hVl _ (bld P T (parts.map fun x : Nat × Operand => (x.1, ev n t x.2))) ⟨fun v => K v w⟩) ∧
    (∀ T m k c, vop P n (Oper.mk d (.lookup T m k c) ty pos af g) t w K = @hVl _ (lkO P T w (ev n t m) (ev n t k) c) ⟨fun v => K v w⟩) ∧
    (∀ T x, vop P n (Oper.mk d (.range T x) ty pos af g) t w K = @RunR P T (ev n t x) w ⟨K⟩) ∧
    (∀ x b, vop P n (Oper.mk d (.next x b) ty pos af g) t w K = @RunN P ty (ev n t x) b w ⟨K⟩) ∧
    (∀ x, vop P n (Oper.mk d (.entry x) ty pos af g) t w K = @RunE P (ev n t x) w ⟨K⟩) ∧
    (∀ T x i, vop P n (Oper.mk d (.index T x i) ty pos af g) t w K = @hVl _ (idxV P T (ev n t x) (ev n t i)) ⟨fun v => K v w⟩) ∧
    (∀ T m k x, vop P n (Oper.mk d (.mapUpdate T m k x) ty pos af g) t w K = @RunU P T (ev n t m) (ev n t k) (ev n t x) w ⟨K⟩) ∧
    (∀ T m k x, vop P n (Oper.mk d (.insert T m k x) ty pos af g) t w K = @RunU P T (ev n t m) (ev n t k) (ev n t x) w ⟨K⟩) :=
  ⟨vop_move, vop_assign, vop_makeFunc, vop_pick, vop_bin, vop_un, vop_extract, vop_nck, vop_load, vop_fa, vop_ia, vop_slice, vop_convert, vop_len, vop_min, vop_max, vop_alloc, vop_box, vop_bsl, vop_store, vop_makeMap, vop_call, vop_callv, vop_append, vop_makeSlice,
    vop_build, vop_lookup, vop_range, vop_next, vop_entry, vop_index, vop_upd, vop_ins⟩
/-- Values. -/
theorem S5 {P : Program} {T : TypeId} : (∀ k a b, binT P .add T (.int k a) (.int k b) = some (.int k (k.wrap (a + b)))) ∧ (∀ k a b, binT P .sub T (.int k a) (.int k b) = some (.int k (k.wrap (a - b)))) ∧
    (∀ k a b, binT P .mul T (.int k a) (.int k b) = some (.int k (k.wrap (a * b)))) ∧ (∀ k a b, binT P .eql T (.int k a) (.int k b) = some (.bool (decide (a = b)))) ∧ (∀ k a b, binT P .neq T (.int k a) (.int k b) = some (.bool (!decide (a = b)))) ∧
    (∀ k a b, binT P .lss T (.int k a) (.int k b) = some (.bool (decide (a < b)))) ∧ (∀ k a b, binT P .leq T (.int k a) (.int k b) = some (.bool (decide (a ≤ b)))) ∧ (∀ k a b, binT P .gtr T (.int k a) (.int k b) = some (.bool (decide (b < a)))) ∧
    (∀ k a b, binT P .geq T (.int k a) (.int k b) = some (.bool (decide (b ≤ a)))) ∧
    (∀ a b, binT P .eql T (.string a) (.string b) = some (.bool (decide (a = b)))) ∧ (∀ a b, binT P .neq T (.string a) (.string b) = some (.bool (!decide (a = b)))) := by
  refine ⟨?_, ?_, ?_, ?_, ?_, ?_, ?_, ?_, ?_, fun _ _ => rfl, fun _ _ => rfl⟩ <;>
    (intro k a b; simp [binT, binV, intBin])
theorem S5b : (∀ {α : Type} (v : α) k, @hVl α (some v) k = k.out v) ∧ (∀ x, unV .not (.bool x) = some (.bool !x)) ∧ (∀ k a, unV .neg (.int k a) = some (.int k (k.wrap (0 - a)))) ∧ (∀ a b, pickV (.bool true) a b = some a) ∧ (∀ a b, pickV (.bool false) a b = some b) ∧ (∀ a, nckV (.pointer (some a)) = some (.pointer (some a))) ∧
    (∀ k a k' b, minV [.int k a, .int k' b] = some (.int k (if b < a then b else a))) ∧ (∀ k a k' b, maxV [.int k a, .int k' b] = some (.int k (if a < b then b else a))) ∧
    (∀ v i, extV (.tuple v) i = v[i]?) ∧
    (∀ X Y, @hBr (.bool true) X Y = X.out) ∧ (∀ X Y, @hBr (.bool false) X Y = Y.out) ∧ (∀ b X Y, @hBr (.bool (!b)) X Y = @hBr (.bool b) Y X) ∧ (∀ b X Y, @hGd (.bool b) true X Y = @hBr (.bool b) X Y) ∧ (∀ b X Y, @hGd (.bool b) false X Y = @hBr (.bool b) Y X) ∧ (∀ b X Y, @hGd undef b X Y = Y.out) ∧
    (∀ P f a b args w K, @CallV P (.func (.func f) a b) args w K = @hOk P f (a ++ args ++ b) w K) :=
  ⟨hVl_some, fun _ => rfl, fun _ _ => rfl, fun _ _ => rfl, fun _ _ => rfl, fun _ => rfl, fun _ _ _ _ => rfl, fun _ _ _ _ => rfl, fun _ _ => rfl, Br_true, Br_false, Br_not, Gd_tt, Gd_ff, Gd_un, fun _ _ _ _ _ _ _ => rfl⟩
theorem S5c {P : Program} {T : TypeId} : (∀ k a b, b ≠ 0 → binT P .quo T (.int k a) (.int k b) = some (.int k (k.wrap (a.tdiv b)))) ∧ (∀ k a b, b ≠ 0 → binT P .rem T (.int k a) (.int k b) = some (.int k (a.tmod b))) ∧
    (∀ k k' a b, 0 ≤ b → binT P .shl T (.int k a) (.int k' b) = some (.int k (k.wrap (a * 2 ^ (min b.toNat k.bits))))) ∧ (∀ k k' a b, 0 ≤ b → binT P .shr T (.int k a) (.int k' b) = some (.int k (a.fdiv (2 ^ (min b.toNat k.bits))))) ∧
    (∀ k a b, binT P .and T (.int k a) (.int k b) = some (.int k (k.wrap (BitVec.ofInt k.bits a &&& BitVec.ofInt k.bits b).toNat))) := by
  refine ⟨fun k a b h => ?_, fun k a b h => ?_, fun k k' a b h => ?_, fun k k' a b h => ?_, fun k a b => ?_⟩
  · simp [binT, binV, intBin, h]
  · simp [binT, binV, intBin, h]
  · simp [binT, binV, show ¬ b < 0 by omega]
  · simp [binT, binV, show ¬ b < 0 by omega]
  · simp [binT, binV, intBin]
theorem teB {P : Program} {T : TypeId} (h : P.underlying T = some .bool) : (∀ a b : Bool, binT P .eql T (.bool a) (.bool b) = some (.bool (decide (a = b)))) ∧ (∀ a b : Bool, binT P .neq T (.bool a) (.bool b) = some (.bool (!decide (a = b)))) := by
  refine ⟨fun a b => ?_, fun a b => ?_⟩ <;> (simp only [binT, binV, eqV, h, Option.map_some]; cases a <;> cases b <;> rfl)
theorem teP {P : Program} {T e : TypeId} (h : P.underlying T = some (.pointer e)) : (∀ a, binT P .eql T (.pointer a) (.pointer none) = some (.bool a.isNone)) ∧ (∀ a, binT P .neq T (.pointer a) (.pointer none) = some (.bool (!a.isNone))) ∧
    (∀ a k, binT P .eql T (pa a k) (.pointer none) = some (.bool a.isNone)) ∧ (∀ a k, binT P .neq T (pa a k) (.pointer none) = some (.bool (!a.isNone))) := by
  refine ⟨fun a => ?_, fun a => ?_, fun a k => ?_, fun a k => ?_⟩ <;> (cases a <;> simp [binT, binV, eqV, h, pa])
theorem teS {P : Program} {T e : TypeId} (h : P.underlying T = some (.slice e)) : (∀ a n c m d, binT P .eql T (.slice a n c) (.slice none m d) = some (.bool a.isNone)) ∧ (∀ a n c m d, binT P .neq T (.slice a n c) (.slice none m d) = some (.bool (!a.isNone))) := by
  refine ⟨fun a n c m d => ?_, fun a n c m d => ?_⟩ <;> (cases a <;> simp [binT, binV, eqV, h])
theorem tcI {P : Program} {S D : TypeId} {k k' : IntKind} (h : P.underlying S = some (.int k)) (h' : P.underlying D = some (.int k')) : ∀ j n, cvV P S D (.int j n) = some (.int k' (k'.wrap n)) := by
  intro j n; simp [cvV, h, h']
theorem tcW {P : Program} {S D : TypeId} {k k' : IntKind} (h : P.underlying S = some (.int k)) (h' : P.underlying D = some (.int k')) : ∀ w j n, cvW P S D w (.int j n) = some (.int k' (k'.wrap n)) := by
  intro w j n; unfold cvW; rw [tcI h h' j n]
theorem tcB {P : Program} {S D e : TypeId} (h : P.underlying S = some (.slice e)) (he : P.underlying e = some (.int .u8)) (h' : P.underlying D = some .string) : ∀ w a n c, cvW P S D w (.slice (some a) n c) = (bytesL w (some a) 0 n).map fun l => .string (strOf l) := by
  intro w a n c; unfold cvW cvV; simp only [h, h', he]
theorem bytes1 (w : World) (A : Option Addr) (i : Nat) : bytesL w A i 1 = (byV (rd w A i)).map fun x => [x] := by
  simp only [bytesL]; cases byV (rd w A i) <;> rfl
theorem bytes2 (w : World) (A : Option Addr) (i : Nat) : bytesL w A i 2 = (byV (rd w A i)).bind fun x => (byV (rd w A (i + 1))).map fun y => [x, y] := by
  simp only [bytesL]; cases byV (rd w A i) <;> cases byV (rd w A (i + 1)) <;> rfl
theorem byV_some (z : Int) : byV (some (.int .u8 z)) = some z := rfl
/-- What was hidden comes out. -/
theorem H0 : (∀ {α : Type} (a : α), @Hd.out α ⟨a⟩ = a) := fun _ => rfl
/-- The way back, guards. -/
theorem S6 {P : Program} {n : Nat} : (∀ R rs t w, post P n rs R .ret t w = @hVl _ (retV P n t w rs) ⟨fun l => R (tupV l) w⟩) ∧ (∀ R rs t w, post P n rs R .normal t w = @hVl _ (retV P n t w rs) ⟨fun l => R (tupV l) w⟩) ∧
    (∀ t w, retV P n t w [] = some []) ∧ (∀ i l t w, retV P n t w (.tmp i :: l) = (retV P n t w l).map (ev n t (.tmp i) :: ·)) ∧
    (∀ a T l t w, retV P n t w (.cell a T :: l) = (ldV P T w (ev n t (.tmp a))).bind fun v => (retV P n t w l).map (v :: ·)) ∧
    True :=
  ⟨fun _ _ _ _ => rfl, fun _ _ _ _ => rfl, fun _ _ => rfl, fun _ _ _ _ => rfl, fun a T l t w => by simp only [retV]; cases ldV P T w (ev n t (.tmp a)) <;> rfl, trivial⟩
theorem S6b : (∀ v, tupV [v] = v) ∧ (∀ a b, tupV [a, b] = .tuple #[a, b]) ∧ (∀ a b c, tupV [a, b, c] = .tuple #[a, b, c]) ∧ (tupV [] = .tuple #[]) :=
  ⟨fun _ => rfl, fun _ _ => rfl, fun _ _ _ => rfl, rfl⟩
def und : Fr := fun _ => undef
theorem fr_upd (l : List Value) (x : Value) : fr (l ++ [x]).toArray = upd (fr l.toArray) l.length x := by
  funext i
  simp only [fr, upd]
  by_cases h : i = l.length
  · subst h; simp
  · rw [if_neg h]
    simp only [Array.getD_eq_getD_getElem?, List.getElem?_toArray]
    by_cases h2 : i < l.length
    · rw [List.getElem?_append_left h2]
    · rw [List.getElem?_eq_none (by simp; omega), List.getElem?_eq_none (by omega)]
theorem fr0 : fr #[] = und := by funext i; simp [fr, und]
/-- The frame at a function's entry. -/
theorem S7 : (fr #[] = und) ∧ (∀ a, fr #[a] = upd und 0 a) ∧ (∀ a b, fr #[a, b] = upd (upd und 0 a) 1 b) ∧ (∀ a b c, fr #[a, b, c] = upd (upd (upd und 0 a) 1 b) 2 c) ∧
    (∀ a b c d, fr #[a, b, c, d] = upd (upd (upd (upd und 0 a) 1 b) 2 c) 3 d) ∧ (∀ a b c d e, fr #[a, b, c, d, e] = upd (upd (upd (upd (upd und 0 a) 1 b) 2 c) 3 d) 4 e) := by
  refine ⟨fr0, ?_, ?_, ?_, ?_, ?_⟩
  · intro a; have := fr_upd [] a; rw [fr0] at this; exact this
  · intro a b; rw [show (#[a, b] : Array Value) = ([a] ++ [b]).toArray from rfl, fr_upd, show fr [a].toArray = upd und 0 a from by have := fr_upd [] a; rw [fr0] at this; exact this]; rfl
  · intro a b c; rw [show (#[a, b, c] : Array Value) = ([a, b] ++ [c]).toArray from rfl, fr_upd, show ([a, b] : List Value).toArray = ([a] ++ [b]).toArray from rfl, fr_upd, show fr [a].toArray = upd und 0 a from by have := fr_upd [] a; rw [fr0] at this; exact this]; rfl
  · intro a b c d; rw [show (#[a, b, c, d] : Array Value) = ([a, b, c] ++ [d]).toArray from rfl, fr_upd, show ([a, b, c] : List Value).toArray = ([a, b] ++ [c]).toArray from rfl, fr_upd, show ([a, b] : List Value).toArray = ([a] ++ [b]).toArray from rfl, fr_upd, show fr [a].toArray = upd und 0 a from by have := fr_upd [] a; rw [fr0] at this; exact this]; rfl
  · intro a b c d e; rw [show (#[a, b, c, d, e] : Array Value) = ([a, b, c, d] ++ [e]).toArray from rfl, fr_upd, show ([a, b, c, d] : List Value).toArray = ([a, b, c] ++ [d]).toArray from rfl, fr_upd, show ([a, b, c] : List Value).toArray = ([a, b] ++ [c]).toArray from rfl, fr_upd, show ([a, b] : List Value).toArray = ([a] ++ [b]).toArray from rfl, fr_upd, show fr [a].toArray = upd und 0 a from by have := fr_upd [] a; rw [fr0] at this; exact this]; rfl
end Go.V
