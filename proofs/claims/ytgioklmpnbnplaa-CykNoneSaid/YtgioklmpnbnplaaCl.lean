/- The walks of the laws on charts. Conditions: none. -/
import Derived.Test.YtgioklmpnbnplaaCh
set_option linter.unusedSimpArgs false
set_option linter.unusedVariables false
set_option maxRecDepth 100000
namespace Go.Proofs.Ytgioklmpnbnplaa
open Go.V

def dbl : CG := ⟨0, 1, 1, false, [(0, [-1]), (0, [0, 0])]⟩
theorem doubles_ok (w : World) : Ok Try.prog 24 #[] w fun v w' => RepCG w' v dbl ∧ Ext w w' := by
  (refine Ok.enter Try.func24 rfl (by kernel_rfl) (Nat.le_of_ble_eq_true rfl) ?_; simp only [Try.f24, S7])
  simp (disch := first | omega | assumption | (simp only [O1, World.size_alloc, World.size_setCell, World.size_drew]; first | done | omega)) only [O1, D2, ↓H0, S0, ↓S1, ↓S2, ↓S3, ↓S4, S5, S5b, S5c, ↓S6, S6b, M0, E0, ty, tl, te, tc, i64_wrap, u64_wrap, iaV_sl, iaV_arr, faV_pa, nck_pa, heap_new, heap_old, heap_set, ↓reduceIte, Nat.reduceEqDiff, Nat.reduceLT, Nat.reduceAdd, Int.reduceLT, Int.reduceLE, decide_false, decide_true, dec_true, dec_false, true_and, and_true, true_imp_iff, Bool.not_true, Bool.not_false, Option.map_none, Int.reduceToNat, Int.toNat_zero, Int.toNat_one, lkV_false, lkV_true, bsl1 sl23, bsl2 sl23, bd35_1, bd28_1_2_4]
  simp (disch := first | omega | assumption | (simp only [O1, World.size_alloc, World.size_setCell, World.size_drew]; first | done | omega)) only [O1, D2, ↓H0, S0, ↓S1, ↓S2, ↓S3, ↓S4, S5, S5b, S5c, ↓S6, S6b, M0, E0, ty, tl, te, tc, i64_wrap, u64_wrap, iaV_sl, iaV_arr, faV_pa, nck_pa, heap_new, heap_old, heap_set, ↓reduceIte, Nat.reduceEqDiff, Nat.reduceLT, Nat.reduceAdd, Int.reduceLT, Int.reduceLE, decide_false, decide_true, dec_true, dec_false, true_and, and_true, true_imp_iff, Bool.not_true, Bool.not_false, Option.map_none, Int.reduceToNat, Int.toNat_zero, Int.toNat_one, lkV_false, lkV_true, bsl2_2 sl26, bd28_1_2_4]
  obtain ⟨W, hW⟩ : ∃ W, W = (((w.alloc (.cells #[.int .i64 0, .int .i64 0, .int .i64 0, .bool false, .slice none 0 0] 28)).alloc (.cells #[.int .i64 (-1)] 3)).alloc (.cells #[.int .i64 0, .int .i64 0] 3)).alloc
    (.cells #[.int .i64 0, .slice (some ⟨w.heap.size + 1, 0, none⟩) 1 1, .int .i64 0, .slice (some ⟨w.heap.size + 1 + 1, 0, none⟩) 2 2] 35) := ⟨_, rfl⟩
  rw [← hW]
  have hg : W.heap[w.heap.size]? = some (.cells #[.int .i64 0, .int .i64 0, .int .i64 0, .bool false, .slice none 0 0] 28 (0, 0)) := by
    rw [hW, heap_old _ (by simp <;> omega), heap_old _ (by simp <;> omega), heap_old _ (by simp), heap_new _ rfl]
  have hsz : W.heap.size = w.heap.size + 4 := by rw [hW]; simp
  have hx : Ext w W := by rw [hW]; exact ((((Ext.rfl' w).al _).al _).al _).al _
  obtain ⟨W2, hs, h1, h2, h3⟩ := sto_agg (P := Try.prog) (T := 28) (ds := #[.int .i64 0, .int .i64 1, .int .i64 1, .bool false, .slice (some ⟨w.heap.size + 1 + 1 + 1, 0, none⟩) 2 2]) (by simp only [ty]; rfl) hg rfl (by simp [Value.oneCell'])
  simp (disch := first | omega | assumption | (simp only [O1, World.size_alloc, World.size_setCell, World.size_drew]; first | done | omega)) only [O1, D2, ↓H0, S0, ↓S1, ↓S2, ↓S3, ↓S4, S5, S5b, S5c, ↓S6, S6b, M0, E0, ty, tl, te, tc, i64_wrap, u64_wrap, iaV_sl, iaV_arr, faV_pa, nck_pa, heap_new, heap_old, heap_set, ↓reduceIte, Nat.reduceEqDiff, Nat.reduceLT, Nat.reduceAdd, Int.reduceLT, Int.reduceLE, decide_false, decide_true, dec_true, dec_false, true_and, and_true, true_imp_iff, Bool.not_true, Bool.not_false, Option.map_none, Int.reduceToNat, Int.toNat_zero, Int.toNat_one, lkV_false, lkV_true, hs, h1, ldA5]
  refine ⟨?_, hx.grown' h2 fun k hk => by cases hk; omega⟩
  have k1 : W2.heap[w.heap.size + 1]? = some (.cells #[.int .i64 (-1)] 3 (0, 0)) := by
    rw [h2.block _ (by omega) (by simp), hW, heap_old _ (by simp <;> omega), heap_old _ (by simp), heap_new _ (by simp)]
  have k2 : W2.heap[w.heap.size + 1 + 1]? = some (.cells #[.int .i64 0, .int .i64 0] 3 (0, 0)) := by
    rw [h2.block _ (by omega) (by simp; omega), hW, heap_old _ (by simp), heap_new _ (by simp)]
  have k3 : W2.heap[w.heap.size + 1 + 1 + 1]? = some (.cells #[.int .i64 0, .slice (some ⟨w.heap.size + 1, 0, none⟩) 1 1, .int .i64 0, .slice (some ⟨w.heap.size + 1 + 1, 0, none⟩) 2 2] 35 (0, 0)) := by
    rw [h2.block _ (by omega) (by simp; omega), hW, heap_new _ (by simp)]
  refine ⟨_, rfl, some ⟨w.heap.size + 1 + 1 + 1, 0, none⟩, 2, rfl, by simp [dbl], fun i hi => ?_⟩
  match i, hi with
  | 0, _ =>
    refine ⟨by rw [rd_own, k3]; rfl, _, by rw [rd_own, k3]; rfl, some ⟨w.heap.size + 1, 0, none⟩, 1, rfl, by simp [dbl], fun j hj => ?_⟩
    match j, hj with
    | 0, _ => rw [rd_own, k1]; rfl
  | 1, _ =>
    refine ⟨by rw [rd_own, k3]; rfl, _, by rw [rd_own, k3]; rfl, some ⟨w.heap.size + 1 + 1, 0, none⟩, 2, rfl, by simp [dbl], fun j hj => ?_⟩
    match j, hj with
    | 0, _ => rw [rd_own, k2]; rfl
    | 1, _ => rw [rd_own, k2]; rfl
theorem andN (a : Int) (c : Nat) (hc : c < 1000000) : ∃ m : Nat, m ≤ c ∧ IntKind.i64.wrap ((BitVec.ofInt IntKind.i64.bits a &&& BitVec.ofInt IntKind.i64.bits (c : Int)).toNat : Int) = (m : Int) := by
  have h1 : (BitVec.ofInt IntKind.i64.bits a &&& BitVec.ofInt IntKind.i64.bits (c : Int)).toNat ≤ c := by
    rw [BitVec.toNat_and]
    refine Nat.le_trans Nat.and_le_right ?_
    rw [BitVec.toNat_ofInt]
    show ((c : Int) % ((2 ^ 64 : Nat) : Int)).toNat ≤ c
    omega
  exact ⟨_, h1, i64_wrap (by omega) (by omega)⟩
theorem shrN (b i : Nat) (h : i ≤ 64) : ((b : Int)).fdiv (2 ^ min i IntKind.i64.bits) = ((b / 2 ^ i : Nat) : Int) := by
  rw [show min i IntKind.i64.bits = i from Nat.min_eq_left h, Int.fdiv_eq_ediv_of_nonneg _ (Int.pow_nonneg (by decide))]
  simp
theorem shlN (b i : Nat) (h : i ≤ 64) : ((b : Int)) * (2 ^ min i IntKind.i64.bits) = ((b * 2 ^ i : Nat) : Int) := by
  rw [show min i IntKind.i64.bits = i from Nat.min_eq_left h]
  simp
theorem modN (b : Nat) : ((b : Nat) : Int).tmod 2 = ((b % 2 : Nat) : Int) := by
  rw [Int.tmod_eq_emod_of_nonneg (by omega)]; omega
theorem bits_split (b i : Nat) : b % 2 ^ (i + 1) = b % 2 ^ i + 2 ^ i * (b / 2 ^ i % 2) := by
  rw [Nat.pow_succ, Nat.mod_mul]
theorem rtimes_ok (a b : Nat) (w : World) (ha : a ≤ 1099511627776) (hb : b ≤ 1099511627776) : Ok Try.prog 25 #[.int .i64 a, .int .i64 b] w fun v w' => v = .int .i64 (sat (a * b)) ∧ w' = w := by
  (refine Ok.enter Try.func25 rfl (by kernel_rfl) (Nat.le_of_ble_eq_true rfl) ?_; simp only [Try.f25, S7])
  simp (disch := first | omega | assumption | (simp only [O1, World.size_alloc, World.size_setCell, World.size_drew]; first | done | omega)) only [O1, D2, ↓H0, S0, ↓S1, ↓S2, ↓S3, ↓S4, S5, S5b, S5c, ↓S6, S6b, M0, E0, ty, tl, te, tc, i64_wrap, u64_wrap, iaV_sl, iaV_arr, faV_pa, nck_pa, heap_new, heap_old, heap_set, ↓reduceIte, Nat.reduceEqDiff, Nat.reduceLT, Nat.reduceAdd, Int.reduceLT, Int.reduceLE, decide_false, decide_true, dec_true, dec_false, true_and, and_true, true_imp_iff, Bool.not_true, Bool.not_false, Option.map_none, Int.reduceToNat, Int.toNat_zero, Int.toNat_one, lkV_false, lkV_true]
  refine ⟨fun k t W => ∃ i : Nat, k + i = 41 ∧ W = w ∧ a * (b % 2 ^ i) ≤ 1099511627776 ∧ t 0 = .int .i64 a ∧ t 1 = .int .i64 b ∧ t 5 = .int .i64 (a * (b % 2 ^ i) : Nat) ∧ t 6 = .int .i64 i, ⟨41, 0, by omega, rfl, by simp [Nat.mod_one], ?_⟩, ?_⟩
  · simp (disch := first | omega | assumption | (simp only [O1, World.size_alloc, World.size_setCell, World.size_drew]; first | done | omega)) only [O1, D2, ↓H0, S0, ↓S1, ↓S2, ↓S3, ↓S4, S5, S5b, S5c, ↓S6, S6b, M0, E0, ty, tl, te, tc, i64_wrap, u64_wrap, iaV_sl, iaV_arr, faV_pa, nck_pa, heap_new, heap_old, heap_set, ↓reduceIte, Nat.reduceEqDiff, Nat.reduceLT, Nat.reduceAdd, Int.reduceLT, Int.reduceLE, decide_false, decide_true, dec_true, dec_false, true_and, and_true, true_imp_iff, Bool.not_true, Bool.not_false, Option.map_none, Int.reduceToNat, Int.toNat_zero, Int.toNat_one, lkV_false, lkV_true]
    simp [Nat.mod_one]
  rintro k t W ⟨i, hk, rfl, hle, f0, f1, f5, f6⟩
  have hsh := shrN b i (by omega)
  have hsm : Int.fdiv 1099511627776 (2 ^ min i IntKind.i64.bits) = ((1099511627776 / 2 ^ i : Nat) : Int) := shrN 1099511627776 i (by omega)
  have hsl := shlN a i (by omega)
  have hb2 := bits_split b i
  have hlt := Nat.mod_lt (b / 2 ^ i) (show 0 < 2 by omega)
  simp (disch := first | omega | assumption | (simp only [O1, World.size_alloc, World.size_setCell, World.size_drew]; first | done | omega)) only [O1, D2, ↓H0, S0, ↓S1, ↓S2, ↓S3, ↓S4, S5, S5b, S5c, ↓S6, S6b, M0, E0, ty, tl, te, tc, i64_wrap, u64_wrap, iaV_sl, iaV_arr, faV_pa, nck_pa, heap_new, heap_old, heap_set, ↓reduceIte, Nat.reduceEqDiff, Nat.reduceLT, Nat.reduceAdd, Int.reduceLT, Int.reduceLE, decide_false, decide_true, dec_true, dec_false, true_and, and_true, true_imp_iff, Bool.not_true, Bool.not_false, Option.map_none, Int.reduceToNat, Int.toNat_zero, Int.toNat_one, lkV_false, lkV_true, f0, f1, f5, f6]
  refine Br_if (fun h => ?_) (fun h' => ?_) <;> (try simp (disch := first | omega | assumption | (simp only [O1, World.size_alloc, World.size_setCell, World.size_drew]; first | done | omega)) only [O1, D2, ↓H0, S0, ↓S1, ↓S2, ↓S3, ↓S4, S5, S5b, S5c, ↓S6, S6b, M0, E0, ty, tl, te, tc, i64_wrap, u64_wrap, iaV_sl, iaV_arr, faV_pa, nck_pa, heap_new, heap_old, heap_set, ↓reduceIte, Nat.reduceEqDiff, Nat.reduceLT, Nat.reduceAdd, Int.reduceLT, Int.reduceLE, decide_false, decide_true, dec_true, dec_false, true_and, and_true, true_imp_iff, Bool.not_true, Bool.not_false, Option.map_none, Int.reduceToNat, Int.toNat_zero, Int.toNat_one, lkV_false, lkV_true, f0, f1, f5, f6, hsh, modN])
  · by_cases hbit : b / 2 ^ i % 2 = 1
    · rw [hbit] at hb2
      rw [decide_eq_true (by omega)]
      simp (disch := first | omega | assumption | (simp only [O1, World.size_alloc, World.size_setCell, World.size_drew]; first | done | omega)) only [O1, D2, ↓H0, S0, ↓S1, ↓S2, ↓S3, ↓S4, S5, S5b, S5c, ↓S6, S6b, M0, E0, ty, tl, te, tc, i64_wrap, u64_wrap, iaV_sl, iaV_arr, faV_pa, nck_pa, heap_new, heap_old, heap_set, ↓reduceIte, Nat.reduceEqDiff, Nat.reduceLT, Nat.reduceAdd, Int.reduceLT, Int.reduceLE, decide_false, decide_true, dec_true, dec_false, true_and, and_true, true_imp_iff, Bool.not_true, Bool.not_false, Option.map_none, Int.reduceToNat, Int.toNat_zero, Int.toNat_one, lkV_false, lkV_true, f0, f1, f5, f6, hsm]
      have hp : 0 < 2 ^ i := Nat.pow_pos (by omega)
      have hbm : b % 2 ^ (i + 1) ≤ b := Nat.mod_le _ _
      refine Br_if (fun h2 => ?_) (fun h2' => ?_) <;> (try simp (disch := first | omega | assumption | (simp only [O1, World.size_alloc, World.size_setCell, World.size_drew]; first | done | omega)) only [O1, D2, ↓H0, S0, ↓S1, ↓S2, ↓S3, ↓S4, S5, S5b, S5c, ↓S6, S6b, M0, E0, ty, tl, te, tc, i64_wrap, u64_wrap, iaV_sl, iaV_arr, faV_pa, nck_pa, heap_new, heap_old, heap_set, ↓reduceIte, Nat.reduceEqDiff, Nat.reduceLT, Nat.reduceAdd, Int.reduceLT, Int.reduceLE, decide_false, decide_true, dec_true, dec_false, true_and, and_true, true_imp_iff, Bool.not_true, Bool.not_false, Option.map_none, Int.reduceToNat, Int.toNat_zero, Int.toNat_one, lkV_false, lkV_true, f0, f1, f5, f6])
      · have h3 : 1099511627776 < a * 2 ^ i := by
          have := (Nat.div_lt_iff_lt_mul hp).1 (show 1099511627776 / 2 ^ i < a by omega)
          omega
        have h4 : a * 2 ^ i ≤ a * b := Nat.mul_le_mul_left _ (by omega)
        rw [sat, Nat.min_eq_right (by omega)]; rfl
      · have h3 : a * 2 ^ i ≤ 1099511627776 := (Nat.le_div_iff_mul_le hp).1 (by omega)
        have e1 : a * (b % 2 ^ (i + 1)) = a * (b % 2 ^ i) + a * 2 ^ i := by rw [hb2, Nat.mul_one, Nat.mul_add]
        have h4 : a * (b % 2 ^ (i + 1)) ≤ a * b := Nat.mul_le_mul_left _ hbm
        rw [hsl, i64_wrap (x := ((a * 2 ^ i : Nat) : Int)) (by omega) (by omega), ← Int.natCast_add, ← e1, i64_wrap (by omega) (by omega)]
        refine Br_if (fun h5 => ?_) (fun h5' => ?_) <;> (try simp (disch := first | omega | assumption | (simp only [O1, World.size_alloc, World.size_setCell, World.size_drew]; first | done | omega)) only [O1, D2, ↓H0, S0, ↓S1, ↓S2, ↓S3, ↓S4, S5, S5b, S5c, ↓S6, S6b, M0, E0, ty, tl, te, tc, i64_wrap, u64_wrap, iaV_sl, iaV_arr, faV_pa, nck_pa, heap_new, heap_old, heap_set, ↓reduceIte, Nat.reduceEqDiff, Nat.reduceLT, Nat.reduceAdd, Int.reduceLT, Int.reduceLE, decide_false, decide_true, dec_true, dec_false, true_and, and_true, true_imp_iff, Bool.not_true, Bool.not_false, Option.map_none, Int.reduceToNat, Int.toNat_zero, Int.toNat_one, lkV_false, lkV_true, f0, f1, f5, f6])
        · rw [sat, Nat.min_eq_right (by omega)]; rfl
        · exact ⟨k - 1, by omega, i + 1, by omega, by omega, rfl, rfl⟩
    · rw [decide_eq_false (by omega)]
      have h0 : b / 2 ^ i % 2 = 0 := by omega
      have hb2 : b % 2 ^ (i + 1) = b % 2 ^ i := by rw [hb2, h0]; omega
      simp (disch := first | omega | assumption | (simp only [O1, World.size_alloc, World.size_setCell, World.size_drew]; first | done | omega)) only [O1, D2, ↓H0, S0, ↓S1, ↓S2, ↓S3, ↓S4, S5, S5b, S5c, ↓S6, S6b, M0, E0, ty, tl, te, tc, i64_wrap, u64_wrap, iaV_sl, iaV_arr, faV_pa, nck_pa, heap_new, heap_old, heap_set, ↓reduceIte, Nat.reduceEqDiff, Nat.reduceLT, Nat.reduceAdd, Int.reduceLT, Int.reduceLE, decide_false, decide_true, dec_true, dec_false, true_and, and_true, true_imp_iff, Bool.not_true, Bool.not_false, Option.map_none, Int.reduceToNat, Int.toNat_zero, Int.toNat_one, lkV_false, lkV_true, f0, f1, f5, f6]
      exact ⟨k - 1, by omega, i + 1, by omega, by rw [hb2]; exact hle, by rw [hb2], rfl⟩
  · have hi : i = 41 := by omega
    subst hi
    rw [Nat.mod_eq_of_lt (show b < 2 ^ 41 by omega)] at hle ⊢
    rw [sat, Nat.min_eq_left hle]

/-! the plain law: binary bracketings -/
theorem dbl_small : Small dbl := ⟨by simp [dbl], by simp [dbl], by simp [dbl]⟩
theorem dbl_norm : Norm dbl := by
  refine ⟨by simp [dbl], by simp [dbl], by simp [dbl], fun i h => ?_⟩
  match i, h with
  | 0, _ => exact ⟨by simp [dbl], by simp [dbl], by simp, by simp [dbl], by simp [dbl], by simp [dbl]⟩
  | 1, _ => exact ⟨by simp [dbl], by simp [dbl], fun _ => by show ordM (0, [-1]) (0, [0, 0]) < 0; decide, by simp [dbl], by simp [dbl], by simp [dbl]⟩
def Zeros (x : List Int) : Prop := ∀ i, x.getD i 0 = 0
theorem un_dbl {x : List Int} (h : Zeros x) (i : Nat) : un dbl x i 0 = 1 := by
  unfold un; rw [h i]; rfl
theorem tot_dbl (L R : Int → Nat) : totP dbl.prods L R 0 = sat (L 0 * R 0) := by simp [totP, one, dbl]
def cat (n : Nat) : Nat := cnt dbl [] 0 n 0
theorem sumK_shift (f : Nat → Nat) (i a m : Nat) : sumK f (a + i) m = sumK (fun k => f (k + i)) a m := by
  induction m with
  | zero => rfl
  | succ m ih => simp only [sumK, ih]; congr 2; omega
theorem zeros_nil : Zeros [] := fun i => by simp
theorem cnt_step {x : List Int} {d : Nat} (hd : 2 ≤ d) (ih : ∀ m, m < d → ∀ i, 1 ≤ m → cnt dbl x i (i + m) 0 = cat m) (i : Nat) : cnt dbl x i (i + d) 0 = sat (sumK (fun k => sat (cat k * cat (d - k))) 1 (d - 1)) := by
  rw [cnt, tab_step _ _ _ _ (by omega)]
  congr 1
  rw [show i + 1 = 1 + i by omega, sumK_shift, show i + d - (1 + i) = d - 1 by omega]
  refine sumK_congr fun k hk1 hk2 => ?_
  rw [tot_dbl]
  have a1 := ih k (by omega) i (by omega)
  have a2 := ih (d - k) (by omega) (k + i) (by omega)
  rw [show k + i + (d - k) = i + d by omega] at a2
  rw [show i + k = k + i by omega] at a1
  rw [cnt] at a1 a2
  rw [a1, a2]
theorem cnt_same : ∀ (d : Nat) {x : List Int}, Zeros x → ∀ i : Nat, 1 ≤ d → cnt dbl x i (i + d) 0 = cat d := by
  intro d
  induction d using Nat.strongRecOn with
  | _ d ih =>
    intro x h i hd
    by_cases h1 : d = 1
    · subst h1
      rw [cnt, tab_one, un_dbl h, cat, cnt, show (1 : Nat) = 0 + 1 from rfl, tab_one, un_dbl zeros_nil]
    · rw [cnt_step (by omega) (fun m hm i hi => ih m hm h i hi), cat]
      have := cnt_step (x := []) (d := d) (by omega) (fun m hm i hi => ih m hm zeros_nil i hi) 0
      rw [Nat.zero_add] at this
      rw [this]
theorem cat_step {d : Nat} (hd : 2 ≤ d) : cat d = sat (sumK (fun k => sat (cat k * cat (d - k))) 1 (d - 1)) := by
  have := cnt_step (x := []) hd (fun m hm i hi => cnt_same m zeros_nil i hi) 0
  rw [Nat.zero_add] at this
  exact this
theorem cat_zero : cat 0 = 0 := rfl
theorem cat_one : cat 1 = 1 := by rw [cat, cnt, show (1 : Nat) = 0 + 1 from rfl, tab_one, un_dbl zeros_nil]
theorem cat_le (n : Nat) : cat n ≤ 1099511627776 := tab_le _ _ (un_le dbl []) 0 n 0
theorem sumK_ge {f : Nat → Nat} {a m : Nat} (h : ∀ k, a ≤ k → k < a + m → 1 ≤ f k) : m ≤ sumK f a m := by
  induction m with
  | zero => simp
  | succ m ih => simp only [sumK]; have := ih fun k h1 h2 => h k h1 (by omega); have := h (a + m) (by omega) (by omega); omega
theorem cat_pos : ∀ (n : Nat), 1 ≤ n → 1 ≤ cat n := by
  intro n
  induction n using Nat.strongRecOn with
  | _ n ih =>
    intro hn
    by_cases h1 : n = 1
    · subst h1; rw [cat_one]; omega
    · rw [cat_step (by omega)]
      have := sumK_ge (f := fun k => sat (cat k * cat (n - k))) (a := 1) (m := n - 1) fun k h1 h2 => by
        have p1 := ih k (by omega) (by omega)
        have p2 := ih (n - k) (by omega) (by omega)
        have : cat k * cat (n - k) ≠ 0 := Nat.mul_ne_zero (by omega) (by omega)
        have h0 : sat (cat k * cat (n - k)) ≠ 0 := fun h => this (sat_pos.1 h)
        omega
      have h0 : sat (sumK (fun k => sat (cat k * cat (n - k))) 1 (n - 1)) ≠ 0 := fun h => by have := sat_pos.1 h; omega
      omega
theorem cat_two : cat 2 = 1 := by
  rw [cat_step (by omega)]
  simp only [Nat.reduceSub, sumK, Nat.add_zero, cat_one]; rfl
theorem cat_more {n : Nat} (hn : 3 ≤ n) : 1 < cat n := by
  rw [cat_step (by omega)]
  have := sumK_ge (f := fun k => sat (cat k * cat (n - k))) (a := 1) (m := n - 1) fun k h1 h2 => by
    have p1 := cat_pos k (by omega)
    have p2 := cat_pos (n - k) (by omega)
    have : cat k * cat (n - k) ≠ 0 := Nat.mul_ne_zero (by omega) (by omega)
    have h0 : sat (cat k * cat (n - k)) ≠ 0 := fun h => this (sat_pos.1 h)
    omega
  have h2 : sat (sumK (fun k => sat (cat k * cat (n - k))) 1 (n - 1)) ≥ sat 2 := by generalize sumK (fun k => sat (cat k * cat (n - k))) 1 (n - 1) = y at *; unfold sat; omega
  have : sat 2 = 2 := rfl
  omega
theorem cat_three : cat 3 = 2 := by
  rw [cat_step (by omega)]
  simp only [Nat.reduceSub, sumK, Nat.add_zero, Nat.reduceAdd, cat_one, cat_two]; rfl
theorem trees_dbl {x : List Int} (h : Zeros x) (hx : x ≠ []) : treesM dbl x = cat x.length := by
  rw [treesM, if_neg hx]
  have := cnt_same x.length h 0 (List.length_pos_iff.2 hx)
  rw [Nat.zero_add] at this
  exact this
theorem wordy_zeros {x : List Int} (h : Zeros x) (hl : x.length ≤ 64) : Wordy dbl x := by
  refine ⟨hl, fun s hs => ?_⟩
  obtain ⟨i, hi, rfl⟩ := List.mem_iff_getElem.1 hs
  have := h i
  rw [List.getD_eq_getElem?_getD, List.getElem?_eq_getElem hi] at this
  simp at this
  rw [this]; simp [dbl]
theorem zeros_rep (n : Nat) : Zeros (List.replicate n 0) := fun i => by
  rw [List.getD_eq_getElem?_getD, List.getElem?_replicate]; split <;> rfl

/-! the walks -/
theorem make_dbl (v xv : Value) (x : List Int) (w : World) (hg : RepCG w v dbl) (hx : Ints w xv x) (hz : Zeros x) (hl : x.length ≤ 64) :
    Ok Try.prog 23 #[v, xv] w fun v w' => Ext w w' ∧ ∃ b, v = pa (some ⟨b, 0, none⟩) 0 ∧ ChartR w' b dbl x := by
  refine (make_ok v xv dbl x w hg hx dbl_small).then ?_
  rintro u w' ⟨hx, h | h⟩
  · exact absurd ⟨dbl_norm, wordy_zeros hz hl⟩ h.1
  · exact ⟨hx, h.2.2⟩
set_option maxHeartbeats 1000000 in
theorem speaks13_ok (w : World) : Ok Try.prog 22 #[] w fun v w' => v = .bool true ∧ Ext w w' := by
  (refine Ok.enter Try.func22 rfl (by kernel_rfl) (Nat.le_of_ble_eq_true rfl) ?_; simp only [Try.f22, S7])
  simp (disch := first | omega | assumption | (simp only [O1, World.size_alloc, World.size_setCell, World.size_drew]; first | done | omega)) only [O1, D2, ↓H0, S0, ↓S1, ↓S2, ↓S3, ↓S4, S5, S5b, S5c, ↓S6, S6b, M0, E0, ty, tl, te, tc, i64_wrap, u64_wrap, iaV_sl, iaV_arr, faV_pa, nck_pa, heap_new, heap_old, heap_set, ↓reduceIte, Nat.reduceEqDiff, Nat.reduceLT, Nat.reduceAdd, Int.reduceLT, Int.reduceLE, decide_false, decide_true, dec_true, dec_false, true_and, and_true, true_imp_iff, Bool.not_true, Bool.not_false, Option.map_none, Int.reduceToNat, Int.toNat_zero, Int.toNat_one, lkV_false, lkV_true]
  refine (doubles_ok w).then ?_; rintro d W ⟨hd, hx⟩
  simp (disch := first | omega | assumption | (simp only [O1, World.size_alloc, World.size_setCell, World.size_drew]; first | done | omega)) only [O1, D2, ↓H0, S0, ↓S1, ↓S2, ↓S3, ↓S4, S5, S5b, S5c, ↓S6, S6b, M0, E0, ty, tl, te, tc, i64_wrap, u64_wrap, iaV_sl, iaV_arr, faV_pa, nck_pa, heap_new, heap_old, heap_set, ↓reduceIte, Nat.reduceEqDiff, Nat.reduceLT, Nat.reduceAdd, Int.reduceLT, Int.reduceLE, decide_false, decide_true, dec_true, dec_false, true_and, and_true, true_imp_iff, Bool.not_true, Bool.not_false, Option.map_none, Int.reduceToNat, Int.toNat_zero, Int.toNat_one, lkV_false, lkV_true, bsl3 sl23]
  have hx1 := (Ext.rfl' W).al (.cells #[.int .i64 0, .int .i64 0, .int .i64 0] 3)
  refine (make_dbl d _ [0, 0, 0] _ (hd.ext hx1) ⟨some ⟨W.heap.size, 0, none⟩, 3, rfl, by simp, fun i hi => ?_⟩ (zeros_rep 3) (by simp)).then ?_
  · rw [rd_own, heap_new _ rfl]
    match i, hi with
    | 0, _ => rfl
    | 1, _ => rfl
    | 2, _ => rfl
  rintro _ W2 ⟨hx2, b, rfl, hc⟩
  have ht : treesM dbl [0, 0, 0] = 2 := by rw [trees_dbl (x := [0, 0, 0]) (zeros_rep 3) (by simp)]; exact cat_three
  simp (disch := first | omega | assumption | (simp only [O1, World.size_alloc, World.size_setCell, World.size_drew]; first | done | omega)) only [O1, D2, ↓H0, S0, ↓S1, ↓S2, ↓S3, ↓S4, S5, S5b, S5c, ↓S6, S6b, M0, E0, ty, tl, te, tc, i64_wrap, u64_wrap, iaV_sl, iaV_arr, faV_pa, nck_pa, heap_new, heap_old, heap_set, ↓reduceIte, Nat.reduceEqDiff, Nat.reduceLT, Nat.reduceAdd, Int.reduceLT, Int.reduceLE, decide_false, decide_true, dec_true, dec_false, true_and, and_true, true_imp_iff, Bool.not_true, Bool.not_false, Option.map_none, Int.reduceToNat, Int.toNat_zero, Int.toNat_one, lkV_false, lkV_true]
  refine (yes_ok b dbl _ W2 hc (by simp)).then ?_; rintro _ W3 ⟨rfl, hx3⟩
  rw [ht]
  simp (disch := first | omega | assumption | (simp only [O1, World.size_alloc, World.size_setCell, World.size_drew]; first | done | omega)) only [O1, D2, ↓H0, S0, ↓S1, ↓S2, ↓S3, ↓S4, S5, S5b, S5c, ↓S6, S6b, M0, E0, ty, tl, te, tc, i64_wrap, u64_wrap, iaV_sl, iaV_arr, faV_pa, nck_pa, heap_new, heap_old, heap_set, ↓reduceIte, Nat.reduceEqDiff, Nat.reduceLT, Nat.reduceAdd, Int.reduceLT, Int.reduceLE, decide_false, decide_true, dec_true, dec_false, true_and, and_true, true_imp_iff, Bool.not_true, Bool.not_false, Option.map_none, Int.reduceToNat, Int.toNat_zero, Int.toNat_one, lkV_false, lkV_true]
  refine (trees_ok b dbl _ W3 (hc.ext hx3) (by simp)).then ?_; rintro _ W4 ⟨rfl, hx4⟩
  rw [ht]
  simp (disch := first | omega | assumption | (simp only [O1, World.size_alloc, World.size_setCell, World.size_drew]; first | done | omega)) only [O1, D2, ↓H0, S0, ↓S1, ↓S2, ↓S3, ↓S4, S5, S5b, S5c, ↓S6, S6b, M0, E0, ty, tl, te, tc, i64_wrap, u64_wrap, iaV_sl, iaV_arr, faV_pa, nck_pa, heap_new, heap_old, heap_set, ↓reduceIte, Nat.reduceEqDiff, Nat.reduceLT, Nat.reduceAdd, Int.reduceLT, Int.reduceLE, decide_false, decide_true, dec_true, dec_false, true_and, and_true, true_imp_iff, Bool.not_true, Bool.not_false, Option.map_none, Int.reduceToNat, Int.toNat_zero, Int.toNat_one, lkV_false, lkV_true]
  have hc4 := (hc.ext hx3).ext hx4
  refine (has_ok b dbl _ 0 0 2 W4 hc4 (by simp)).then ?_; rintro _ W4 ⟨rfl, rfl⟩
  have hh : hasM dbl [0, 0, 0] 0 0 2 = true := by
    rw [hasM, decide_eq_true]
    refine ⟨by omega, by omega, by simp, ?_⟩
    have := cnt_same 2 (x := [0, 0, 0]) (zeros_rep 3) 0 (by omega)
    rw [cat_two] at this
    show 0 < cnt dbl [0, 0, 0] 0 2 0
    rw [show (2 : Nat) = 0 + 2 from rfl, this]; omega
  rw [hh]
  simp (disch := first | omega | assumption | (simp only [O1, World.size_alloc, World.size_setCell, World.size_drew]; first | done | omega)) only [O1, D2, ↓H0, S0, ↓S1, ↓S2, ↓S3, ↓S4, S5, S5b, S5c, ↓S6, S6b, M0, E0, ty, tl, te, tc, i64_wrap, u64_wrap, iaV_sl, iaV_arr, faV_pa, nck_pa, heap_new, heap_old, heap_set, ↓reduceIte, Nat.reduceEqDiff, Nat.reduceLT, Nat.reduceAdd, Int.reduceLT, Int.reduceLE, decide_false, decide_true, dec_true, dec_false, true_and, and_true, true_imp_iff, Bool.not_true, Bool.not_false, Option.map_none, Int.reduceToNat, Int.toNat_zero, Int.toNat_one, lkV_false, lkV_true]
  refine (cell_ok b dbl _ 1 3 W4 hc4 (by simp) (by simp [dbl])).then ?_; rintro v W5 ⟨hv, hx5⟩
  have hcl : cellM dbl [0, 0, 0] 1 3 = [0] := by
    have := cnt_same 2 (x := [0, 0, 0]) (zeros_rep 3) 1 (by omega)
    rw [cat_two] at this
    rw [cellM, if_pos (by simp)]
    show cellL dbl [0, 0, 0] 1 3 (0 + 1) = [0]
    rw [cellL_succ, if_pos (by show 0 < cnt dbl [0, 0, 0] 1 3 0; rw [show (3 : Nat) = 1 + 2 from rfl, this]; omega)]
    rfl
  rw [hcl] at hv
  obtain ⟨Q, q, rfl, _, _⟩ := hv
  simp (disch := first | omega | assumption | (simp only [O1, World.size_alloc, World.size_setCell, World.size_drew]; first | done | omega)) only [O1, D2, ↓H0, S0, ↓S1, ↓S2, ↓S3, ↓S4, S5, S5b, S5c, ↓S6, S6b, M0, E0, ty, tl, te, tc, i64_wrap, u64_wrap, iaV_sl, iaV_arr, faV_pa, nck_pa, heap_new, heap_old, heap_set, ↓reduceIte, Nat.reduceEqDiff, Nat.reduceLT, Nat.reduceAdd, Int.reduceLT, Int.reduceLE, decide_false, decide_true, dec_true, dec_false, true_and, and_true, true_imp_iff, Bool.not_true, Bool.not_false, Option.map_none, Int.reduceToNat, Int.toNat_zero, Int.toNat_one, lkV_false, lkV_true, List.length_cons, List.length_nil]
  exact hx.tr (hx1.tr (hx2.tr (hx3.tr (hx4.tr hx5))))
set_option maxHeartbeats 2000000 in
theorem counts_ok (a : Int) (w : World) : Ok Try.prog 3 #[.int .i64 a] w fun v w' => v = .bool true ∧ Ext w w' := by
  (refine Ok.enter Try.func3 rfl (by kernel_rfl) (Nat.le_of_ble_eq_true rfl) ?_; simp only [Try.f3, S7])
  simp (disch := first | omega | assumption | (simp only [O1, World.size_alloc, World.size_setCell, World.size_drew]; first | done | omega)) only [O1, D2, ↓H0, S0, ↓S1, ↓S2, ↓S3, ↓S4, S5, S5b, S5c, ↓S6, S6b, M0, E0, ty, tl, te, tc, i64_wrap, u64_wrap, iaV_sl, iaV_arr, faV_pa, nck_pa, heap_new, heap_old, heap_set, ↓reduceIte, Nat.reduceEqDiff, Nat.reduceLT, Nat.reduceAdd, Int.reduceLT, Int.reduceLE, decide_false, decide_true, dec_true, dec_false, true_and, and_true, true_imp_iff, Bool.not_true, Bool.not_false, Option.map_none, Int.reduceToNat, Int.toNat_zero, Int.toNat_one, lkV_false, lkV_true]
  refine (speaks13_ok w).then ?_; rintro _ W ⟨rfl, hx⟩
  obtain ⟨m, hm, he⟩ := andN a 31 (by omega)
  have he : IntKind.i64.wrap ((BitVec.ofInt IntKind.i64.bits a &&& BitVec.ofInt IntKind.i64.bits 31).toNat : Int) = (m : Int) := he
  have e1 : (1 : Int) + (m : Int) = ((m + 1 : Nat) : Int) := by omega
  simp (disch := first | omega | assumption | (simp only [O1, World.size_alloc, World.size_setCell, World.size_drew]; first | done | omega)) only [O1, D2, ↓H0, S0, ↓S1, ↓S2, ↓S3, ↓S4, S5, S5b, S5c, ↓S6, S6b, M0, E0, ty, tl, te, tc, i64_wrap, u64_wrap, iaV_sl, iaV_arr, faV_pa, nck_pa, heap_new, heap_old, heap_set, ↓reduceIte, Nat.reduceEqDiff, Nat.reduceLT, Nat.reduceAdd, Int.reduceLT, Int.reduceLE, decide_false, decide_true, dec_true, dec_false, true_and, and_true, true_imp_iff, Bool.not_true, Bool.not_false, Option.map_none, Int.reduceToNat, Int.toNat_zero, Int.toNat_one, lkV_false, lkV_true, he, e1]
  obtain ⟨N, hN⟩ : ∃ N, N = m + 1 := ⟨_, rfl⟩
  rw [← hN]
  refine RunM_one sl23 rfl (by omega) (by omega) ?_
  simp (disch := first | omega | assumption | (simp only [O1, World.size_alloc, World.size_setCell, World.size_drew]; first | done | omega)) only [O1, D2, ↓H0, S0, ↓S1, ↓S2, ↓S3, ↓S4, S5, S5b, S5c, ↓S6, S6b, M0, E0, ty, tl, te, tc, i64_wrap, u64_wrap, iaV_sl, iaV_arr, faV_pa, nck_pa, heap_new, heap_old, heap_set, ↓reduceIte, Nat.reduceEqDiff, Nat.reduceLT, Nat.reduceAdd, Int.reduceLT, Int.reduceLE, decide_false, decide_true, dec_true, dec_false, true_and, and_true, true_imp_iff, Bool.not_true, Bool.not_false, Option.map_none, Int.reduceToNat, Int.toNat_zero, Int.toNat_one, lkV_false, lkV_true]
  refine (doubles_ok _).then ?_; rintro d W2 ⟨hd, hx2⟩
  simp (disch := first | omega | assumption | (simp only [O1, World.size_alloc, World.size_setCell, World.size_drew]; first | done | omega)) only [O1, D2, ↓H0, S0, ↓S1, ↓S2, ↓S3, ↓S4, S5, S5b, S5c, ↓S6, S6b, M0, E0, ty, tl, te, tc, i64_wrap, u64_wrap, iaV_sl, iaV_arr, faV_pa, nck_pa, heap_new, heap_old, heap_set, ↓reduceIte, Nat.reduceEqDiff, Nat.reduceLT, Nat.reduceAdd, Int.reduceLT, Int.reduceLE, decide_false, decide_true, dec_true, dec_false, true_and, and_true, true_imp_iff, Bool.not_true, Bool.not_false, Option.map_none, Int.reduceToNat, Int.toNat_zero, Int.toNat_one, lkV_false, lkV_true]
  refine (make_dbl d _ (List.replicate N 0) _ hd ?_ (zeros_rep N) (by simp; omega)).then ?_
  · refine ⟨some ⟨W.heap.size, 0, none⟩, N, by simp, by simp, fun i hi => ?_⟩
    rw [rd_own, hx2.hp (heap_new (w := W) (.cells (List.replicate N (Value.int .i64 0)).toArray 3) rfl)]
    simp at hi
    simp [cellO, hi]
  rintro _ W3 ⟨hx3, b, rfl, hc⟩
  simp (disch := first | omega | assumption | (simp only [O1, World.size_alloc, World.size_setCell, World.size_drew]; first | done | omega)) only [O1, D2, ↓H0, S0, ↓S1, ↓S2, ↓S3, ↓S4, S5, S5b, S5c, ↓S6, S6b, M0, E0, ty, tl, te, tc, i64_wrap, u64_wrap, iaV_sl, iaV_arr, faV_pa, nck_pa, heap_new, heap_old, heap_set, ↓reduceIte, Nat.reduceEqDiff, Nat.reduceLT, Nat.reduceAdd, Int.reduceLT, Int.reduceLE, decide_false, decide_true, dec_true, dec_false, true_and, and_true, true_imp_iff, Bool.not_true, Bool.not_false, Option.map_none, Int.reduceToNat, Int.toNat_zero, Int.toNat_one, lkV_false, lkV_true, bsl2 sl23]
  have hxa := ((hx.al (.cells (List.replicate N (Value.int .i64 0)).toArray 3)).tr hx2).tr hx3
  refine ⟨fun k t U => ∃ n : Nat, k + n = N + 1 ∧ 2 ≤ n ∧ Ext w U ∧ Ext W3 U ∧ U.ownsRow W3.heap.size 3 1 (t 5) n ((List.range n).map fun m => .int .i64 (cat m)) ∧ t 0 = .int .i64 N ∧ t 4 = pa (some ⟨b, 0, none⟩) 0 ∧ t 6 = .int .i64 n,
    ⟨N - 1, 2, by omega, by omega, hxa.al _, (Ext.rfl' W3).al _, ?_, ?_⟩, ?_⟩
  · have := World.ownsRow_lit (e := 3) (size := 1) W3 #[.int .i64 0, .int .i64 1] 2 (base := W3.heap.size) (Nat.le_refl _) (by decide) rfl
    simp (disch := first | omega | assumption | (simp only [O1, World.size_alloc, World.size_setCell, World.size_drew]; first | done | omega)) only [O1, D2, ↓H0, S0, ↓S1, ↓S2, ↓S3, ↓S4, S5, S5b, S5c, ↓S6, S6b, M0, E0, ty, tl, te, tc, i64_wrap, u64_wrap, iaV_sl, iaV_arr, faV_pa, nck_pa, heap_new, heap_old, heap_set, ↓reduceIte, Nat.reduceEqDiff, Nat.reduceLT, Nat.reduceAdd, Int.reduceLT, Int.reduceLE, decide_false, decide_true, dec_true, dec_false, true_and, and_true, true_imp_iff, Bool.not_true, Bool.not_false, Option.map_none, Int.reduceToNat, Int.toNat_zero, Int.toNat_one, lkV_false, lkV_true]
    simpa [List.range_succ, cat_one, cat_zero] using this
  · simp (disch := first | omega | assumption | (simp only [O1, World.size_alloc, World.size_setCell, World.size_drew]; first | done | omega)) only [O1, D2, ↓H0, S0, ↓S1, ↓S2, ↓S3, ↓S4, S5, S5b, S5c, ↓S6, S6b, M0, E0, ty, tl, te, tc, i64_wrap, u64_wrap, iaV_sl, iaV_arr, faV_pa, nck_pa, heap_new, heap_old, heap_set, ↓reduceIte, Nat.reduceEqDiff, Nat.reduceLT, Nat.reduceAdd, Int.reduceLT, Int.reduceLE, decide_false, decide_true, dec_true, dec_false, true_and, and_true, true_imp_iff, Bool.not_true, Bool.not_false, Option.map_none, Int.reduceToNat, Int.toNat_zero, Int.toNat_one, lkV_false, lkV_true] <;> rfl
  rintro k t U ⟨n, hk, hn2, hxw, hxU, hown, f0, f4, f6⟩
  simp (disch := first | omega | assumption | (simp only [O1, World.size_alloc, World.size_setCell, World.size_drew]; first | done | omega)) only [O1, D2, ↓H0, S0, ↓S1, ↓S2, ↓S3, ↓S4, S5, S5b, S5c, ↓S6, S6b, M0, E0, ty, tl, te, tc, i64_wrap, u64_wrap, iaV_sl, iaV_arr, faV_pa, nck_pa, heap_new, heap_old, heap_set, ↓reduceIte, Nat.reduceEqDiff, Nat.reduceLT, Nat.reduceAdd, Int.reduceLT, Int.reduceLE, decide_false, decide_true, dec_true, dec_false, true_and, and_true, true_imp_iff, Bool.not_true, Bool.not_false, Option.map_none, Int.reduceToNat, Int.toNat_zero, Int.toNat_one, lkV_false, lkV_true, f0, f4, f6]
  refine Br_if (fun h => ?_) (fun h' => ?_) <;> (try simp (disch := first | omega | assumption | (simp only [O1, World.size_alloc, World.size_setCell, World.size_drew]; first | done | omega)) only [O1, D2, ↓H0, S0, ↓S1, ↓S2, ↓S3, ↓S4, S5, S5b, S5c, ↓S6, S6b, M0, E0, ty, tl, te, tc, i64_wrap, u64_wrap, iaV_sl, iaV_arr, faV_pa, nck_pa, heap_new, heap_old, heap_set, ↓reduceIte, Nat.reduceEqDiff, Nat.reduceLT, Nat.reduceAdd, Int.reduceLT, Int.reduceLE, decide_false, decide_true, dec_true, dec_false, true_and, and_true, true_imp_iff, Bool.not_true, Bool.not_false, Option.map_none, Int.reduceToNat, Int.toNat_zero, Int.toNat_one, lkV_false, lkV_true, f0, f4, f6])
  · have hnN : n ≤ N := by omega
    have hcat : ∀ j, (hj : j < n) → ((List.range n).map fun m => (cat m : Int))[j]'(by simpa using hj) = (cat j : Int) := fun j hj => by simp
    have hsq : Ints U (t 5) ((List.range n).map fun m => (cat m : Int)) := own_sq (e := 3) (base := W3.heap.size) (by simpa [Function.comp_def] using hown)
    obtain ⟨A, c, h5, hlc, hA⟩ := hsq
    refine ⟨fun k2 t V => ∃ q : Nat, k2 + q = n ∧ 1 ≤ q ∧ Ext U V ∧ t 7 = .int .i64 (sat (sumK (fun k => sat (cat k * cat (n - k))) 1 (q - 1))) ∧ t 0 = .int .i64 N ∧ t 4 = pa (some ⟨b, 0, none⟩) 0 ∧ t 6 = .int .i64 n ∧ t 5 = .slice A n c ∧ t 8 = .int .i64 q,
      ⟨n - 1, 1, by omega, by omega, Ext.rfl' U, ?_, ?_⟩, ?_⟩
    · simp (disch := first | omega | assumption | (simp only [O1, World.size_alloc, World.size_setCell, World.size_drew]; first | done | omega)) only [O1, D2, ↓H0, S0, ↓S1, ↓S2, ↓S3, ↓S4, S5, S5b, S5c, ↓S6, S6b, M0, E0, ty, tl, te, tc, i64_wrap, u64_wrap, iaV_sl, iaV_arr, faV_pa, nck_pa, heap_new, heap_old, heap_set, ↓reduceIte, Nat.reduceEqDiff, Nat.reduceLT, Nat.reduceAdd, Int.reduceLT, Int.reduceLE, decide_false, decide_true, dec_true, dec_false, true_and, and_true, true_imp_iff, Bool.not_true, Bool.not_false, Option.map_none, Int.reduceToNat, Int.toNat_zero, Int.toNat_one, lkV_false, lkV_true]; rfl
    · simp (disch := first | omega | assumption | (simp only [O1, World.size_alloc, World.size_setCell, World.size_drew]; first | done | omega)) only [O1, D2, ↓H0, S0, ↓S1, ↓S2, ↓S3, ↓S4, S5, S5b, S5c, ↓S6, S6b, M0, E0, ty, tl, te, tc, i64_wrap, u64_wrap, iaV_sl, iaV_arr, faV_pa, nck_pa, heap_new, heap_old, heap_set, ↓reduceIte, Nat.reduceEqDiff, Nat.reduceLT, Nat.reduceAdd, Int.reduceLT, Int.reduceLE, decide_false, decide_true, dec_true, dec_false, true_and, and_true, true_imp_iff, Bool.not_true, Bool.not_false, Option.map_none, Int.reduceToNat, Int.toNat_zero, Int.toNat_one, lkV_false, lkV_true, f0, f4, f6, h5]
      exact ⟨by simp, rfl⟩
    have hownU := hown
    rw [h5] at hownU
    simp only [List.length_map, List.length_range] at h5 hownU hlc
    clear f0 f4 f6
    rintro k2 t V ⟨q, hkq, hq1, hxV, f7, f0, f4, f6, f5, f8⟩
    simp (disch := first | omega | assumption | (simp only [O1, World.size_alloc, World.size_setCell, World.size_drew]; first | done | omega)) only [O1, D2, ↓H0, S0, ↓S1, ↓S2, ↓S3, ↓S4, S5, S5b, S5c, ↓S6, S6b, M0, E0, ty, tl, te, tc, i64_wrap, u64_wrap, iaV_sl, iaV_arr, faV_pa, nck_pa, heap_new, heap_old, heap_set, ↓reduceIte, Nat.reduceEqDiff, Nat.reduceLT, Nat.reduceAdd, Int.reduceLT, Int.reduceLE, decide_false, decide_true, dec_true, dec_false, true_and, and_true, true_imp_iff, Bool.not_true, Bool.not_false, Option.map_none, Int.reduceToNat, Int.toNat_zero, Int.toNat_one, lkV_false, lkV_true, f0, f4, f5, f6, f7, f8]
    refine Br_if (fun g1 => ?_) (fun g1' => ?_) <;> (try simp (disch := first | omega | assumption | (simp only [O1, World.size_alloc, World.size_setCell, World.size_drew]; first | done | omega)) only [O1, D2, ↓H0, S0, ↓S1, ↓S2, ↓S3, ↓S4, S5, S5b, S5c, ↓S6, S6b, M0, E0, ty, tl, te, tc, i64_wrap, u64_wrap, iaV_sl, iaV_arr, faV_pa, nck_pa, heap_new, heap_old, heap_set, ↓reduceIte, Nat.reduceEqDiff, Nat.reduceLT, Nat.reduceAdd, Int.reduceLT, Int.reduceLE, decide_false, decide_true, dec_true, dec_false, true_and, and_true, true_imp_iff, Bool.not_true, Bool.not_false, Option.map_none, Int.reduceToNat, Int.toNat_zero, Int.toNat_one, lkV_false, lkV_true, f0, f4, f5, f6, f7, f8])
    · have r1 := hxV.dr.rd (hA q (by simp; omega))
      have r2 := hxV.dr.rd (hA (n - q) (by simp; omega))
      rw [hcat q (by omega)] at r1
      rw [hcat (n - q) (by omega)] at r2
      have hAs := rd_isSome r1
      have e3 : (n : Int) - (q : Int) = ((n - q : Nat) : Int) := by omega
      refine Dr_plan [] (fun _ => true) [0, 1, 2, 3, 4, 5, 6, 7, 8, 9, 10, 11, 12, 13] mixed (by kernel_rfl) ?_
      simp (disch := first | omega | assumption | (simp only [O1, World.size_alloc, World.size_setCell, World.size_drew]; first | done | omega)) only [↓D1, ↓D3, ↓D4, List.not_mem_nil, not_false_eq_true, Bool.false_eq_true, false_imp_iff, upto, O1, D2, ↓H0, S0, ↓S1, ↓S2, ↓S3, ↓S4, S5, S5b, S5c, ↓S6, S6b, M0, E0, ty, tl, te, tc, i64_wrap, u64_wrap, iaV_sl, iaV_arr, faV_pa, nck_pa, heap_new, heap_old, heap_set, ↓reduceIte, Nat.reduceEqDiff, Nat.reduceLT, Nat.reduceAdd, Int.reduceLT, Int.reduceLE, decide_false, decide_true, dec_true, dec_false, true_and, and_true, true_imp_iff, Bool.not_true, Bool.not_false, Option.map_none, Int.reduceToNat, Int.toNat_zero, Int.toNat_one, lkV_false, lkV_true, f0, f4, f5, f6, f7, f8, r1, r2, e3]
      refine (rtimes_ok _ _ _ (cat_le q) (cat_le (n - q))).then ?_; rintro _ V2 ⟨rfl, rfl⟩
      simp (disch := first | omega | assumption | (simp only [O1, World.size_alloc, World.size_setCell, World.size_drew]; first | done | omega)) only [↓D1, ↓D3, ↓D4, List.not_mem_nil, not_false_eq_true, Bool.false_eq_true, false_imp_iff, upto, O1, D2, ↓H0, S0, ↓S1, ↓S2, ↓S3, ↓S4, S5, S5b, S5c, ↓S6, S6b, M0, E0, ty, tl, te, tc, i64_wrap, u64_wrap, iaV_sl, iaV_arr, faV_pa, nck_pa, heap_new, heap_old, heap_set, ↓reduceIte, Nat.reduceEqDiff, Nat.reduceLT, Nat.reduceAdd, Int.reduceLT, Int.reduceLE, decide_false, decide_true, dec_true, dec_false, true_and, and_true, true_imp_iff, Bool.not_true, Bool.not_false, Option.map_none, Int.reduceToNat, Int.toNat_zero, Int.toNat_one, lkV_false, lkV_true, f0, f4, f5, f6, f7, f8, r1, r2, e3]
      obtain ⟨y, hy⟩ : ∃ y, y = sumK (fun k => sat (cat k * cat (n - k))) 1 (q - 1) := ⟨_, rfl⟩
      obtain ⟨z, hz⟩ : ∃ z, z = sat (cat q * cat (n - q)) := ⟨_, rfl⟩
      have e4 : sumK (fun k => sat (cat k * cat (n - k))) 1 (q + 1 - 1) = y + z := by
        rw [show q + 1 - 1 = (q - 1) + 1 by omega, sumK, show 1 + (q - 1) = q by omega, ← hy, ← hz]
      have e5 := sat_sat y z
      have e6 : z ≤ 1099511627776 := by rw [hz]; exact sat_le _
      have e7 := sat_le y
      rw [← hy, ← hz, i64_wrap (by omega) (by omega)]
      refine Br_if (fun g2 => ?_) (fun g2' => ?_) <;> (try simp (disch := first | omega | assumption | (simp only [O1, World.size_alloc, World.size_setCell, World.size_drew]; first | done | omega)) only [O1, D2, ↓H0, S0, ↓S1, ↓S2, ↓S3, ↓S4, S5, S5b, S5c, ↓S6, S6b, M0, E0, ty, tl, te, tc, i64_wrap, u64_wrap, iaV_sl, iaV_arr, faV_pa, nck_pa, heap_new, heap_old, heap_set, ↓reduceIte, Nat.reduceEqDiff, Nat.reduceLT, Nat.reduceAdd, Int.reduceLT, Int.reduceLE, decide_false, decide_true, dec_true, dec_false, true_and, and_true, true_imp_iff, Bool.not_true, Bool.not_false, Option.map_none, Int.reduceToNat, Int.toNat_zero, Int.toNat_one, lkV_false, lkV_true, f0, f4, f5, f6, f7, f8])
      · refine ⟨k2 - 1, by omega, q + 1, by omega, by omega, hxV.dr, ?_, rfl⟩
        rw [e4, ← e5, sat, Nat.min_eq_right (by omega)]; rfl
      · refine ⟨k2 - 1, by omega, q + 1, by omega, by omega, hxV.dr, ?_, rfl⟩
        rw [e4, ← e5]
        congr 1
        generalize sat y = u at *
        unfold sat; omega
    · have hq : q = n := by omega
      subst hq
      rw [← cat_step hn2]
      simp (disch := first | omega | assumption | (simp only [O1, World.size_alloc, World.size_setCell, World.size_drew]; first | done | omega)) only [O1, D2, ↓H0, S0, ↓S1, ↓S2, ↓S3, ↓S4, S5, S5b, S5c, ↓S6, S6b, M0, E0, ty, tl, te, tc, i64_wrap, u64_wrap, iaV_sl, iaV_arr, faV_pa, nck_pa, heap_new, heap_old, heap_set, ↓reduceIte, Nat.reduceEqDiff, Nat.reduceLT, Nat.reduceAdd, Int.reduceLT, Int.reduceLE, decide_false, decide_true, dec_true, dec_false, true_and, and_true, true_imp_iff, Bool.not_true, Bool.not_false, Option.map_none, Int.reduceToNat, Int.toNat_zero, Int.toNat_one, lkV_false, lkV_true, bsl1 sl23, f5]
      have hU := hxV.size
      have hU3 := hxU.size
      refine RunA_lit sl23 (hownU.kept (grown_none hxV none) (by cases A <;> simp [Value.ownBlock])) rfl (by simp [Value.oneCell']) (by omega) (by omega) (by omega) ?_
      intro v' W1 ho1 hg1 hv1
      simp (disch := first | omega | assumption | (simp only [O1, World.size_alloc, World.size_setCell, World.size_drew]; first | done | omega)) only [O1, D2, ↓H0, S0, ↓S1, ↓S2, ↓S3, ↓S4, S5, S5b, S5c, ↓S6, S6b, M0, E0, ty, tl, te, tc, i64_wrap, u64_wrap, iaV_sl, iaV_arr, faV_pa, nck_pa, heap_new, heap_old, heap_set, ↓reduceIte, Nat.reduceEqDiff, Nat.reduceLT, Nat.reduceAdd, Int.reduceLT, Int.reduceLE, decide_false, decide_true, dec_true, dec_false, true_and, and_true, true_imp_iff, Bool.not_true, Bool.not_false, Option.map_none, Int.reduceToNat, Int.toNat_zero, Int.toNat_one, lkV_false, lkV_true, f0, f4, f6]
      have hA0 := fun k hk => ((hownU.lt k hk).1)
      have hx3w := hxa.size
      refine ⟨k - 1, by omega, q + 1, by omega, by omega, ((hxw.tr hxV).al _).grown' hg1 (fun k hk => by have := hA0 k hk; omega), ((hxU.tr hxV).al _).grown' hg1 hA0, ?_, rfl⟩
      simpa [List.range_succ] using ho1
  · have hnN : n = N + 1 := by omega
    subst hnN
    have hsq : Ints U (t 5) ((List.range (N + 1)).map fun m => (cat m : Int)) := own_sq (e := 3) (base := W3.heap.size) (by simpa [Function.comp_def] using hown)
    obtain ⟨A, c, h5, hlc, hA⟩ := hsq
    simp only [List.length_map, List.length_range] at h5
    have r1 := ((Ext.rfl' U).dr).rd (hA N (by simp))
    have hAs := rd_isSome r1
    rw [show ((List.range (N + 1)).map fun m => (cat m : Int))[N]'(by simp) = (cat N : Int) by simp] at r1
    have hcU := (hc.ext hxU).ext (Ext.rfl' U).dr
    have ht : treesM dbl (List.replicate N 0) = cat N := by rw [trees_dbl (zeros_rep N) (by simp; omega)]; simp
    refine Dr_plan [] (fun _ => true) [0, 2, 3, 4, 5, 1, 6, 7, 8, 10, 11, 9, 12, 13, 14] mixed (by kernel_rfl) ?_
    simp (disch := first | omega | assumption | (simp only [O1, World.size_alloc, World.size_setCell, World.size_drew]; first | done | omega)) only [↓D1, ↓D3, ↓D4, List.not_mem_nil, not_false_eq_true, Bool.false_eq_true, false_imp_iff, upto, O1, D2, ↓H0, S0, ↓S1, ↓S2, ↓S3, ↓S4, S5, S5b, S5c, ↓S6, S6b, M0, E0, ty, tl, te, tc, i64_wrap, u64_wrap, iaV_sl, iaV_arr, faV_pa, nck_pa, heap_new, heap_old, heap_set, ↓reduceIte, Nat.reduceEqDiff, Nat.reduceLT, Nat.reduceAdd, Int.reduceLT, Int.reduceLE, decide_false, decide_true, dec_true, dec_false, true_and, and_true, true_imp_iff, Bool.not_true, Bool.not_false, Option.map_none, Int.reduceToNat, Int.toNat_zero, Int.toNat_one, lkV_false, lkV_true, f0, f4, f6, h5, r1]
    refine (trees_ok b dbl _ _ hcU (by simp; omega)).then ?_; rintro _ W5 ⟨rfl, hx5⟩
    rw [ht]
    have hK5 := Keep.of_ext hx5 []
    simp (disch := first | omega | assumption | (simp only [O1, World.size_alloc, World.size_setCell, World.size_drew]; first | done | omega)) only [↓D1, ↓D3, ↓D4, List.not_mem_nil, not_false_eq_true, Bool.false_eq_true, false_imp_iff, upto, O1, D2, ↓H0, S0, ↓S1, ↓S2, ↓S3, ↓S4, S5, S5b, S5c, ↓S6, S6b, M0, E0, ty, tl, te, tc, i64_wrap, u64_wrap, iaV_sl, iaV_arr, faV_pa, nck_pa, heap_new, heap_old, heap_set, ↓reduceIte, Nat.reduceEqDiff, Nat.reduceLT, Nat.reduceAdd, Int.reduceLT, Int.reduceLE, decide_false, decide_true, dec_true, dec_false, true_and, and_true, true_imp_iff, Bool.not_true, Bool.not_false, Option.map_none, Int.reduceToNat, Int.toNat_zero, Int.toNat_one, lkV_false, lkV_true, f0, f4, f6, h5, r1, hK5]
    refine (amb_ok b dbl _ _ (hcU.ext hx5) (by simp; omega)).then ?_; rintro _ W6 ⟨rfl, hx6⟩
    have hK6 := Keep.of_ext hx6 []
    have hd : decide (1 < treesM dbl (List.replicate N 0)) = decide ((2 : Int) < (N : Int)) := by
      rw [ht, decide_eq_decide]
      constructor
      · intro h
        by_cases h1 : N = 1
        · rw [h1, cat_one] at h; omega
        · by_cases h2 : N = 2
          · rw [h2, cat_two] at h; omega
          · omega
      · intro h; exact cat_more (by omega)
    rw [hd]
    simp (disch := first | omega | assumption | (simp only [O1, World.size_alloc, World.size_setCell, World.size_drew]; first | done | omega)) only [↓D1, ↓D3, ↓D4, List.not_mem_nil, not_false_eq_true, Bool.false_eq_true, false_imp_iff, upto, O1, D2, ↓H0, S0, ↓S1, ↓S2, ↓S3, ↓S4, S5, S5b, S5c, ↓S6, S6b, M0, E0, ty, tl, te, tc, i64_wrap, u64_wrap, iaV_sl, iaV_arr, faV_pa, nck_pa, heap_new, heap_old, heap_set, ↓reduceIte, Nat.reduceEqDiff, Nat.reduceLT, Nat.reduceAdd, Int.reduceLT, Int.reduceLE, decide_false, decide_true, dec_true, dec_false, true_and, and_true, true_imp_iff, Bool.not_true, Bool.not_false, Option.map_none, Int.reduceToNat, Int.toNat_zero, Int.toNat_one, lkV_false, lkV_true, f0, f4, f6, hK6]
    exact ((hxw.dr).tr hx5).tr hx6
end Go.Proofs.Ytgioklmpnbnplaa
