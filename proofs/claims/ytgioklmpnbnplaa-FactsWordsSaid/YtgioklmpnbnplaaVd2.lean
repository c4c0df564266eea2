/- The equations by which a region that draws is reckoned. Conditions: none. -/
import Derived.Test.YtgioklmpnbnplaaVq
set_option linter.unusedSimpArgs false
set_option linter.unusedVariables false
namespace Go.V
open Go.RowKit

def upto (k : Nat) (i : Nat) : Bool := decide (i < k)
def vplO (P : Program) (n : Nat) (ops : Array Oper) (Q : Ex → Fr → World → Prop) (M : List Nat) (need : Nat → Bool) (i : Nat) (l : List Nat) (o : Option Oper) (t : Fr) (w : World) : Prop :=
  match o with
  | none => False
  | some o => match o.guard with
    | none => vopK P n o t w M (need i) fun v w' => vpl P n ops Q M need l (updO t o.dst v) w'
    | some (j, b) => Gd (gval ops n t j) b (vopK P n o t w M (need i) fun v w' => vpl P n ops Q M need l (updO t o.dst v) w') (vpl P n ops Q M need l (updO t o.dst undef) w)
theorem D1 {P : Program} {n : Nat} {Q : Ex → Fr → World → Prop} {M : List Nat} {need : Nat → Bool} : (∀ ops t w, vpl P n ops Q M need [] t w = Q .normal t w) ∧
    (∀ i l os t w, vpl P n os.toArray Q M need (i :: l) t w = vplO P n os.toArray Q M need i l (opL os i) t w) ∧
    (∀ ops i l d op ty pos af t w, vplO P n ops Q M need i l (some ⟨d, op, ty, pos, af, none⟩) t w = vopK P n ⟨d, op, ty, pos, af, none⟩ t w M (need i) fun v w' => vpl P n ops Q M need l (updO t d v) w') ∧
    (∀ ops i l d op ty pos af j b t w, vplO P n ops Q M need i l (some ⟨d, op, ty, pos, af, some (j, b)⟩) t w =
      @hGd (gval ops n t j) b ⟨vopK P n ⟨d, op, ty, pos, af, some (j, b)⟩ t w M (need i) fun v w' => vpl P n ops Q M need l (updO t d v) w'⟩ ⟨vpl P n ops Q M need l (updO t d undef) w⟩) :=
  ⟨fun _ _ _ => rfl, fun i l os t w => by simp only [vpl, vplO, List.getElem?_toArray, opL_eq]; cases opL os i <;> rfl, fun _ _ _ _ _ _ _ _ _ _ => rfl, fun _ _ _ _ _ _ _ _ _ _ _ _ => rfl⟩
theorem D2 : (∀ l n t j, gval l.toArray n t j = gvL n t l j) ∧ (∀ n t d op ty pos af g l, gvL n t (⟨some d, op, ty, pos, af, g⟩ :: l) 0 = if d < n then t d else undef) ∧ (∀ n t o l j, gvL n t (o :: l) (j + 1) = gvL n t l j) ∧ (∀ o l, opL (o :: l) 0 = some o) ∧ (∀ o l j, opL (o :: l) (j + 1) = opL l j) ∧ (∀ k i, upto k i = decide (i < k)) ∧
    (∀ v, NotIn [] v = True) ∧ (∀ M g o k, NotIn M (pa (some ⟨g, o, none⟩) k) = (g ∉ M)) ∧ (∀ M g, NotIn M (.map (some g)) = (g ∉ M)) ∧ (∀ M a n c, NotIn M (.slice a n c) = True) ∧ (∀ M (w : World) o, Keep M w (w.alloc o) = True) ∧ (∀ M w, Keep M w w = True) ∧ (∀ M k n, NotIn M (.int k n) = True) ∧ (∀ M k n, NotInS M (.int k n) = True) ∧ (∀ M g o n c, NotInS M (.slice (some ⟨g, o, none⟩) n c) = (g ∉ M)) ∧ (∀ v, NotInS [] v = True) :=
  ⟨fun l n t j => gval_L n t l j, fun _ _ _ _ _ _ _ _ _ => rfl, fun _ _ _ _ _ => rfl, fun _ _ => rfl, fun _ _ _ => rfl, fun _ _ => rfl, fun v => by unfold NotIn; split <;> simp, fun M g o k => by simp [NotIn, pa, addr_add], fun _ _ => rfl, fun _ _ _ _ => rfl,
    fun M w o => eq_true ⟨by simp, fun b hb _ => heap_old o hb⟩, fun M w => eq_true (Keep.refl M w), fun _ _ _ => rfl, fun _ _ _ => rfl, fun _ _ _ _ _ => rfl, fun v => by unfold NotInS; split <;> simp⟩
section
variable {P : Program} {n : Nat} {t : Fr} {w : World} {M : List Nat} {nd : Bool} {K : Value → World → Prop} {d : Option Tmp} {ty : TypeId} {pos : String} {af : Array Edge} {g : Option (Nat × Bool)}
theorem kro {op : Op} {x : Option Value} (h : way op = .ro) (hx : ro P n t w op = x) (hr : RF M n t op = True) : vopK P n (Oper.mk d op ty pos af g) t w M nd K = @hVl _ x ⟨fun v => K v w⟩ := by
  unfold vopK hVl; simp only [h, hx, hr, true_and]
theorem kst {op : Op} (h : way op ≠ .ro) : vopK P n (Oper.mk d op ty pos af g) t w M nd K = vop P n (Oper.mk d op ty pos af g) t w fun v w' => (nd = true → Keep M w w') ∧ K v w' := by
  unfold vopK; split
  · rename_i h'; exact absurd h' h
  · rfl
theorem D3 : (∀ x, vopK P n (Oper.mk d (.move x) ty pos af g) t w M nd K = K (ev n t x) w) ∧ (∀ x, vopK P n (Oper.mk d (.assign x) ty pos af g) t w M nd K = K (ev n t x) w) ∧
    (∀ fn a b, vopK P n (Oper.mk d (.makeFunc fn a b) ty pos af g) t w M nd K = K (.func fn (a.map (ev n t)) (b.map (ev n t))) w) ∧
    (∀ c a b, vopK P n (Oper.mk d (.pick c a b) ty pos af g) t w M nd K = @hVl _ (pickV (ev n t c) (ev n t a) (ev n t b)) ⟨fun v => K v w⟩) ∧
    (∀ op T x y T', vopK P n (Oper.mk d (.binOp op T x y T') ty pos af g) t w M nd K = @hVl _ (binT P op T (ev n t x) (ev n t y)) ⟨fun v => K v w⟩) ∧
    (∀ op T x, vopK P n (Oper.mk d (.unOp op T x) ty pos af g) t w M nd K = @hVl _ (unV op (ev n t x)) ⟨fun v => K v w⟩) ∧
    (∀ x i, vopK P n (Oper.mk d (.extract x i) ty pos af g) t w M nd K = @hVl _ (extV (ev n t x) i) ⟨fun v => K v w⟩) ∧
    (∀ x, vopK P n (Oper.mk d (.nilCheck x) ty pos af g) t w M nd K = @hVl _ (nckV (ev n t x)) ⟨fun v => K v w⟩) ∧
    (∀ T x, vopK P n (Oper.mk d (.load T x) ty pos af g) t w M nd K = @hVl _ (ldV P T w (ev n t x)) ⟨fun v => NotIn M (ev n t x) ∧ K v w⟩) ∧
    (∀ T x f, vopK P n (Oper.mk d (.fieldAddr T x f) ty pos af g) t w M nd K = @hVl _ (faV P T (ev n t x) f) ⟨fun v => K v w⟩) ∧
    (∀ T x i, vopK P n (Oper.mk d (.indexAddr T x i) ty pos af g) t w M nd K = @hVl _ (iaV P T (ev n t x) (ev n t i)) ⟨fun v => K v w⟩) ∧
    (∀ T x lo hi mx, vopK P n (Oper.mk d (.slice T x lo hi mx) ty pos af g) t w M nd K = @hVl _ (slV P T (ev n t x) (lo.map (ev n t)) (hi.map (ev n t)) (mx.map (ev n t))) ⟨fun v => K v w⟩) ∧
    (∀ T m k c, vopK P n (Oper.mk d (.lookup T m k c) ty pos af g) t w M nd K = @hVl _ (lkO P T w (ev n t m) (ev n t k) c) ⟨fun v => NotIn M (ev n t m) ∧ K v w⟩) ∧
    (∀ T x i, vopK P n (Oper.mk d (.index T x i) ty pos af g) t w M nd K = @hVl _ (idxV P T (ev n t x) (ev n t i)) ⟨fun v => K v w⟩) ∧
    (∀ T parts, vopK P n (Oper.mk d (.build T parts) ty pos af g) t w M nd K = @hVl _ (bld P T (parts.map fun x : Nat × Operand => (x.1, ev n t x.2))) ⟨fun v => K v w⟩) ∧
    (∀ S D x, vopK P n (Oper.mk d (.convert S D x) ty pos af g) t w M nd K = @hVl _ (cvW P S D w (ev n t x)) ⟨fun v => NotInS M (ev n t x) ∧ K v w⟩) ∧
    (∀ x T, vopK P n (Oper.mk d (.call ⟨.builtin .len, #[x], #[T]⟩) ty pos af g) t w M nd K = @hVl _ (lenV P T w (ev n t x)) ⟨fun v => NotIn M (ev n t x) ∧ K v w⟩) ∧
    (∀ x y ts, vopK P n (Oper.mk d (.call ⟨.builtin .min, #[x, y], ts⟩) ty pos af g) t w M nd K = @hVl _ (minV [ev n t x, ev n t y]) ⟨fun v => (NotIn M (ev n t x) ∧ NotIn M (ev n t y)) ∧ K v w⟩) ∧
    (∀ x y ts, vopK P n (Oper.mk d (.call ⟨.builtin .max, #[x, y], ts⟩) ty pos af g) t w M nd K = @hVl _ (maxV [ev n t x, ev n t y]) ⟨fun v => (NotIn M (ev n t x) ∧ NotIn M (ev n t y)) ∧ K v w⟩) := by
  refine ⟨fun x => ?_, fun x => ?_, fun fn a b => ?_, fun c a b => kro rfl rfl rfl, fun op T x y T' => kro rfl rfl rfl, fun op T x => kro rfl rfl rfl, fun x i => kro rfl rfl rfl, fun x => kro rfl rfl rfl, fun T x => ?_, fun T x f => kro rfl rfl rfl,
    fun T x i => kro rfl rfl rfl, fun T x lo hi mx => kro rfl rfl rfl, fun T m k c => ?_, fun T x i => kro rfl rfl rfl, fun T parts => kro rfl rfl rfl, fun S D x => rfl, fun x T => ?_, fun x y ts => ?_, fun x y ts => ?_⟩
  · rw [kro (x := some (ev n t x)) rfl rfl rfl, hVl_some]; rfl
  · rw [kro (x := some (ev n t x)) rfl rfl rfl, hVl_some]; rfl
  · rw [kro (x := some (.func fn (a.map (ev n t)) (b.map (ev n t)))) rfl rfl rfl, hVl_some]; rfl
  · rfl
  · rfl
  · show (Vl (lenV P T w (ev n t x)) fun v => (∀ y ∈ [x], NotIn M (ev n t y)) ∧ K v w) = Vl (lenV P T w (ev n t x)) fun v => NotIn M (ev n t x) ∧ K v w
    simp
  · show (Vl (minV [ev n t x, ev n t y]) fun v => (∀ z ∈ [x, y], NotIn M (ev n t z)) ∧ K v w) = Vl (minV [ev n t x, ev n t y]) fun v => (NotIn M (ev n t x) ∧ NotIn M (ev n t y)) ∧ K v w
    simp
  · show (Vl (maxV [ev n t x, ev n t y]) fun v => (∀ z ∈ [x, y], NotIn M (ev n t z)) ∧ K v w) = Vl (maxV [ev n t x, ev n t y]) fun v => (NotIn M (ev n t x) ∧ NotIn M (ev n t y)) ∧ K v w
    simp
theorem D4 : (∀ T, vopK P n (Oper.mk d (.alloc T) ty pos af g) t w M nd K = vop P n (Oper.mk d (.alloc T) ty pos af g) t w fun v w' => (nd = true → Keep M w w') ∧ K v w') ∧
    (∀ T x, vopK P n (Oper.mk d (.box T x) ty pos af g) t w M nd K = vop P n (Oper.mk d (.box T x) ty pos af g) t w fun v w' => (nd = true → Keep M w w') ∧ K v w') ∧
    (∀ T len p, vopK P n (Oper.mk d (.buildSlice T len p) ty pos af g) t w M nd K = vop P n (Oper.mk d (.buildSlice T len p) ty pos af g) t w fun v w' => (nd = true → Keep M w w') ∧ K v w') ∧
    (∀ T a x, vopK P n (Oper.mk d (.store T a x) ty pos af g) t w M nd K = vop P n (Oper.mk d (.store T a x) ty pos af g) t w fun v w' => (nd = true → Keep M w w') ∧ K v w') ∧
    (∀ T, vopK P n (Oper.mk d (.makeMap T none) ty pos af g) t w M nd K = vop P n (Oper.mk d (.makeMap T none) ty pos af g) t w fun v w' => (nd = true → Keep M w w') ∧ K v w') ∧
    (∀ f a ts, vopK P n (Oper.mk d (.call ⟨.value f, a, ts⟩) ty pos af g) t w M nd K = vop P n (Oper.mk d (.call ⟨.value f, a, ts⟩) ty pos af g) t w fun v w' => (nd = true → Keep M w w') ∧ K v w') ∧
    (∀ a ts, vopK P n (Oper.mk d (.call ⟨.builtin .append, a, ts⟩) ty pos af g) t w M nd K = vop P n (Oper.mk d (.call ⟨.builtin .append, a, ts⟩) ty pos af g) t w fun v w' => (nd = true → Keep M w w') ∧ K v w') ∧
    (∀ T l c, vopK P n (Oper.mk d (.makeSlice T l c) ty pos af g) t w M nd K = vop P n (Oper.mk d (.makeSlice T l c) ty pos af g) t w fun v w' => (nd = true → Keep M w w') ∧ K v w') ∧
    (∀ T m k x, vopK P n (Oper.mk d (.mapUpdate T m k x) ty pos af g) t w M nd K = vop P n (Oper.mk d (.mapUpdate T m k x) ty pos af g) t w fun v w' => (nd = true → Keep M w w') ∧ K v w') ∧
    (∀ T m k x, vopK P n (Oper.mk d (.insert T m k x) ty pos af g) t w M nd K = vop P n (Oper.mk d (.insert T m k x) ty pos af g) t w fun v w' => (nd = true → Keep M w w') ∧ K v w') := by
  refine ⟨fun _ => kst (by simp [way]), fun _ _ => kst (by simp [way]), fun _ _ _ => kst (by simp [way]), fun _ _ _ => kst (by simp [way]), fun _ => kst (by simp [way]), fun _ _ _ => kst (by simp [way]), fun _ _ => kst (by simp [way]), fun _ _ _ => kst (by simp [way]),
    fun _ _ _ _ => kst (by simp [way]), fun _ _ _ _ => kst (by simp [way])⟩
end
theorem Keep.of_ext {w w' : World} (h : Ext w w') (M : List Nat) : Keep M w w' := ⟨h.size, fun b hb _ => h.block b hb⟩
end Go.V
