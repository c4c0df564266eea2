/- The walk of math/bits.Mul at 1 and a small number. Conditions: none. -/
import Derived.Test.YtgioklmpnbnplaaTy
import Derived.Test.YtgioklmpnbnplaaVi
set_option linter.unusedSimpArgs false
set_option linter.unusedVariables false
set_option maxRecDepth 100000
namespace Go.Proofs.Ytgioklmpnbnplaa
open Go.V
theorem andU (n : Nat) (h : n < 4294967296) : IntKind.u64.wrap ((BitVec.ofInt IntKind.u64.bits (n : Int) &&& BitVec.ofInt IntKind.u64.bits 4294967295).toNat : Int) = (n : Int) := by
  have h1 : (BitVec.ofInt IntKind.u64.bits (n : Int) &&& BitVec.ofInt IntKind.u64.bits 4294967295).toNat = n := by
    rw [BitVec.toNat_and]
    have e1 : (BitVec.ofInt IntKind.u64.bits (n : Int)).toNat = n := by
      rw [BitVec.toNat_ofInt]
      show ((n : Int) % ((2 ^ 64 : Nat) : Int)).toNat = n
      omega
    have e2 : (BitVec.ofInt IntKind.u64.bits 4294967295).toNat = 4294967295 := rfl
    rw [e1, e2]
    have := Nat.and_two_pow_sub_one_eq_mod n 32
    have e3 : (2 ^ 32 - 1 : Nat) = 4294967295 := rfl
    rw [e3] at this
    rw [this]; omega
  rw [h1]; exact u64_wrap (by omega) (by omega)
theorem shrU (n : Nat) (h : n < 4294967296) : ((n : Nat) : Int).fdiv (2 ^ min 32 IntKind.u64.bits) = 0 := by
  have e : min 32 IntKind.u64.bits = 32 := rfl
  rw [e, Int.fdiv_eq_ediv_of_nonneg _ (Int.pow_nonneg (by decide))]
  omega
theorem mul64_ok (n : Nat) (hn : n ≤ 1000000) (w : World) : Ok Try.prog 162 #[.int .u64 1, .int .u64 n] w fun v w' => v = .tuple #[.int .u64 0, .int .u64 n] ∧ w' = w := by
  have a1 : IntKind.u64.wrap ((BitVec.ofInt IntKind.u64.bits 1 &&& BitVec.ofInt IntKind.u64.bits 4294967295).toNat : Int) = 1 := andU 1 (by omega)
  have a0 : IntKind.u64.wrap ((BitVec.ofInt IntKind.u64.bits 0 &&& BitVec.ofInt IntKind.u64.bits 4294967295).toNat : Int) = 0 := andU 0 (by omega)
  have an := andU n (by omega)
  have s1 : (1 : Int).fdiv (2 ^ min 32 IntKind.u64.bits) = 0 := shrU 1 (by omega)
  have s0 : (0 : Int).fdiv (2 ^ min 32 IntKind.u64.bits) = 0 := shrU 0 (by omega)
  have sn := shrU n (by omega)
  (refine Ok.enter Try.func162 rfl (by kernel_rfl) (Nat.le_of_ble_eq_true rfl) ?_; simp only [Try.f162, S7])
  simp (disch := first | omega | assumption | (simp only [O1, World.size_alloc, World.size_setCell, World.size_drew]; first | done | omega)) only [O1, D2, ↓H0, S0, ↓S1, ↓S2, ↓S3, ↓S4, S5, S5b, S5c, ↓S6, S6b, M0, E0, ty, tl, te, tc, i64_wrap, u64_wrap, iaV_sl, iaV_arr, faV_pa, nck_pa, heap_new, heap_old, heap_set, ↓reduceIte, Nat.reduceEqDiff, Nat.reduceLT, Nat.reduceAdd, Int.reduceLT, Int.reduceLE, decide_false, decide_true, dec_true, dec_false, true_and, and_true, true_imp_iff, Bool.not_true, Bool.not_false, Option.map_none, Int.reduceToNat, Int.toNat_zero, Int.toNat_one, lkV_false, lkV_true, a1, a0, an, s1, s0, sn, Int.one_mul, Int.zero_mul, Int.mul_zero, Int.zero_add, Int.add_zero]
theorem mul_ok (n : Nat) (hn : n ≤ 1000000) (w : World) : Ok Try.prog 133 #[.int .u64 1, .int .u64 n] w fun v w' => v = .tuple #[.int .u64 0, .int .u64 n] ∧ w' = w := by
  (refine Ok.enter Try.func133 rfl (by kernel_rfl) (Nat.le_of_ble_eq_true rfl) ?_; simp only [Try.f133, S7])
  simp (disch := first | omega | assumption | (simp only [O1, World.size_alloc, World.size_setCell, World.size_drew]; first | done | omega)) only [O1, D2, ↓H0, S0, ↓S1, ↓S2, ↓S3, ↓S4, S5, S5b, S5c, ↓S6, S6b, M0, E0, ty, tl, te, tc, i64_wrap, u64_wrap, iaV_sl, iaV_arr, faV_pa, nck_pa, heap_new, heap_old, heap_set, ↓reduceIte, Nat.reduceEqDiff, Nat.reduceLT, Nat.reduceAdd, Int.reduceLT, Int.reduceLE, decide_false, decide_true, dec_true, dec_false, true_and, and_true, true_imp_iff, Bool.not_true, Bool.not_false, Option.map_none, Int.reduceToNat, Int.toNat_zero, Int.toNat_one, lkV_false, lkV_true]
  refine (mul64_ok n hn w).then ?_; rintro _ w ⟨rfl, rfl⟩
  simp (disch := first | omega | assumption | (simp only [O1, World.size_alloc, World.size_setCell, World.size_drew]; first | done | omega)) only [O1, D2, ↓H0, S0, ↓S1, ↓S2, ↓S3, ↓S4, S5, S5b, S5c, ↓S6, S6b, M0, E0, ty, tl, te, tc, i64_wrap, u64_wrap, iaV_sl, iaV_arr, faV_pa, nck_pa, heap_new, heap_old, heap_set, ↓reduceIte, Nat.reduceEqDiff, Nat.reduceLT, Nat.reduceAdd, Int.reduceLT, Int.reduceLE, decide_false, decide_true, dec_true, dec_false, true_and, and_true, true_imp_iff, Bool.not_true, Bool.not_false, Option.map_none, Int.reduceToNat, Int.toNat_zero, Int.toNat_one, lkV_false, lkV_true]
end Go.Proofs.Ytgioklmpnbnplaa
