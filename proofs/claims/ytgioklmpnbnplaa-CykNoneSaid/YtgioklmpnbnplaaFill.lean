/- The walk of cyk's fill. Conditions: none. -/
import Derived.Test.YtgioklmpnbnplaaCkm
set_option linter.unusedSimpArgs false
set_option linter.unusedVariables false
set_option maxRecDepth 100000
namespace Go.Proofs.Ytgioklmpnbnplaa
open Go.V

set_option maxHeartbeats 4000000 in
theorem fill_ok (b D n m7 : Nat) (a0 a1 a2 a3 a4 : Value) (cs : Array Value) (T T' : Nat) (N : Nat) (i j : Nat) (F : Int → List (Int × Int)) (C : Nat → Nat → Int → Nat) (tot : (Int → Nat) → (Int → Nat) → Int → Nat) (w : World)
    (h1 : w.heap[b]? = some (.cells #[a0, a1, a2, a3, a4, .int .i64 n, .slice (some ⟨D, 0, none⟩) N N] T (0, 0))) (h2 : w.heap[D]? = some (.cells cs T' (0, 0))) (hN : N = n * n) (hsz : cs.size = N) (hn : n ≤ 64) (hij : i < j) (hj : j ≤ n)
    (hF : MapS Pairs w m7 F) (hlen : ∀ l, (F l).length ≤ 1000000000)
    (hL : ∀ k, i < k → k < j → ∃ c, cs[ixN n i k]? = some (.map (some c)) ∧ MapI w c (fun A => encN (C i k A))) (hR : ∀ k, i < k → k < j → ∃ c, cs[ixN n k j]? = some (.map (some c)) ∧ MapI w c (fun A => encN (C k j A)))
    (hC : ∀ i j A, C i j A ≤ 1099511627776)
    (htot : ∀ (L R : Int → Nat) (ks : List Int), ks.Nodup → (∀ l, l ∈ ks ↔ L l ≠ 0) → ∀ A, conS L R F A ks = tot L R A) :
    Ok Try.prog 87 #[pa (some ⟨b, 0, none⟩) 0, .int .i64 i, .int .i64 j, .map (some m7)] w fun v w' => ∃ c, w'.heap[D]? = some (.cells (cs.setIfInBounds (ixN n i j) (.map (some c))) T' (0, 0)) ∧
      MapI w' c (fun A => encN (sat (sumK (fun k => tot (C i k) (C k j) A) (i + 1) (j - (i + 1))))) ∧ w.grownBy w' (some D) := by
  obtain ⟨f7, hm7, hF⟩ := hF
  (refine Ok.enter Try.func87 rfl (by kernel_rfl) (Nat.le_of_ble_eq_true rfl) ?_; simp only [Try.f87, S7])
  simp (disch := first | omega | assumption | (simp only [O1, World.size_alloc, World.size_setCell, World.size_drew]; first | done | omega)) only [O1, D2, ↓H0, S0, ↓S1, ↓S2, ↓S3, ↓S4, S5, S5b, S5c, ↓S6, S6b, M0, E0, ty, tl, te, tc, i64_wrap, u64_wrap, iaV_sl, iaV_arr, faV_pa, nck_pa, heap_new, heap_old, heap_set, ↓reduceIte, Nat.reduceEqDiff, Nat.reduceLT, Nat.reduceAdd, Int.reduceLT, Int.reduceLE, decide_false, decide_true, dec_true, dec_false, true_and, and_true, true_imp_iff, Bool.not_true, Bool.not_false, Option.map_none, Int.reduceToNat, Int.toNat_zero, Int.toNat_one, lkV_false, lkV_true]
  have hx0 := (Ext.rfl' w).al (.map #[] 0)
  refine ⟨fun k t W => ∃ kk : Nat, k + kk = j ∧ i + 1 ≤ kk ∧ Ext w W ∧ MapI W w.heap.size (fun A => encN (sat (sumK (fun k => tot (C i k) (C k j) A) (i + 1) (kk - (i + 1))))) ∧
    t 0 = pa (some ⟨b, 0, none⟩) 0 ∧ t 1 = .int .i64 i ∧ t 2 = .int .i64 j ∧ t 3 = .map (some m7) ∧ t 8 = .map (some w.heap.size) ∧ t 9 = .int .i64 kk, ⟨j - (i + 1), i + 1, by omega, by omega, hx0, ?_, ?_⟩, ?_⟩
  · rw [Nat.sub_self]; exact MapF.new _ _
  · simp (disch := first | omega | assumption | (simp only [O1, World.size_alloc, World.size_setCell, World.size_drew]; first | done | omega)) only [O1, D2, ↓H0, S0, ↓S1, ↓S2, ↓S3, ↓S4, S5, S5b, S5c, ↓S6, S6b, M0, E0, ty, tl, te, tc, i64_wrap, u64_wrap, iaV_sl, iaV_arr, faV_pa, nck_pa, heap_new, heap_old, heap_set, ↓reduceIte, Nat.reduceEqDiff, Nat.reduceLT, Nat.reduceAdd, Int.reduceLT, Int.reduceLE, decide_false, decide_true, dec_true, dec_false, true_and, and_true, true_imp_iff, Bool.not_true, Bool.not_false, Option.map_none, Int.reduceToNat, Int.toNat_zero, Int.toNat_one, lkV_false, lkV_true] <;> rfl
  rintro k t W ⟨kk, hk, hik, hx, hm8, f0, f1, f2, f3, f8, f9⟩
  have hb := hx.hp h1
  have hD := hx.hp h2
  simp (disch := first | omega | assumption | (simp only [O1, World.size_alloc, World.size_setCell, World.size_drew]; first | done | omega)) only [O1, D2, ↓H0, S0, ↓S1, ↓S2, ↓S3, ↓S4, S5, S5b, S5c, ↓S6, S6b, M0, E0, ty, tl, te, tc, i64_wrap, u64_wrap, iaV_sl, iaV_arr, faV_pa, nck_pa, heap_new, heap_old, heap_set, ↓reduceIte, Nat.reduceEqDiff, Nat.reduceLT, Nat.reduceAdd, Int.reduceLT, Int.reduceLE, decide_false, decide_true, dec_true, dec_false, true_and, and_true, true_imp_iff, Bool.not_true, Bool.not_false, Option.map_none, Int.reduceToNat, Int.toNat_zero, Int.toNat_one, lkV_false, lkV_true, f0, f1, f2, f3, f8, f9]
  refine Br_if (fun h3 => ?_) (fun h3' => ?_) <;> (try simp (disch := first | omega | assumption | (simp only [O1, World.size_alloc, World.size_setCell, World.size_drew]; first | done | omega)) only [O1, D2, ↓H0, S0, ↓S1, ↓S2, ↓S3, ↓S4, S5, S5b, S5c, ↓S6, S6b, M0, E0, ty, tl, te, tc, i64_wrap, u64_wrap, iaV_sl, iaV_arr, faV_pa, nck_pa, heap_new, heap_old, heap_set, ↓reduceIte, Nat.reduceEqDiff, Nat.reduceLT, Nat.reduceAdd, Int.reduceLT, Int.reduceLE, decide_false, decide_true, dec_true, dec_false, true_and, and_true, true_imp_iff, Bool.not_true, Bool.not_false, Option.map_none, Int.reduceToNat, Int.toNat_zero, Int.toNat_one, lkV_false, lkV_true, f0, f1, f2, f3, f8, f9])
  · have hkj : kk < j := by omega
    refine (at_pos b n _ _ _ _ _ _ _ i kk W hb hn (by omega) (by omega)).then ?_; rintro _ W ⟨rfl, rfl⟩
    simp (disch := first | omega | assumption | (simp only [O1, World.size_alloc, World.size_setCell, World.size_drew]; first | done | omega)) only [O1, D2, ↓H0, S0, ↓S1, ↓S2, ↓S3, ↓S4, S5, S5b, S5c, ↓S6, S6b, M0, E0, ty, tl, te, tc, i64_wrap, u64_wrap, iaV_sl, iaV_arr, faV_pa, nck_pa, heap_new, heap_old, heap_set, ↓reduceIte, Nat.reduceEqDiff, Nat.reduceLT, Nat.reduceAdd, Int.reduceLT, Int.reduceLE, decide_false, decide_true, dec_true, dec_false, true_and, and_true, true_imp_iff, Bool.not_true, Bool.not_false, Option.map_none, Int.reduceToNat, Int.toNat_zero, Int.toNat_one, lkV_false, lkV_true, f0, f1, f2, f3, f8, f9]
    refine (at_pos b n _ _ _ _ _ _ _ kk j W hb hn (by omega) (by omega)).then ?_; rintro _ W ⟨rfl, rfl⟩
    simp (disch := first | omega | assumption | (simp only [O1, World.size_alloc, World.size_setCell, World.size_drew]; first | done | omega)) only [O1, D2, ↓H0, S0, ↓S1, ↓S2, ↓S3, ↓S4, S5, S5b, S5c, ↓S6, S6b, M0, E0, ty, tl, te, tc, i64_wrap, u64_wrap, iaV_sl, iaV_arr, faV_pa, nck_pa, heap_new, heap_old, heap_set, ↓reduceIte, Nat.reduceEqDiff, Nat.reduceLT, Nat.reduceAdd, Int.reduceLT, Int.reduceLE, decide_false, decide_true, dec_true, dec_false, true_and, and_true, true_imp_iff, Bool.not_true, Bool.not_false, Option.map_none, Int.reduceToNat, Int.toNat_zero, Int.toNat_one, lkV_false, lkV_true, f0, f1, f2, f3, f8, f9]
    obtain ⟨c1, hc1, hm1⟩ := hL kk (by omega) (by omega)
    obtain ⟨c2, hc2, hm2⟩ := hR kk (by omega) (by omega)
    have hi1 := ixN_lt (n := n) (i := i) (j := kk) (by omega) (by omega)
    have hi2 := ixN_lt (n := n) (i := kk) (j := j) (by omega) (by omega)
    rw [← hN] at hi1 hi2
    refine Dr_plan [] (fun _ => true) [0, 1, 2, 3, 4, 5, 6, 7, 8, 9, 10, 11, 12, 13, 14, 15] mixed (by kernel_rfl) ?_
    simp (disch := first | omega | assumption | (simp only [O1, World.size_alloc, World.size_setCell, World.size_drew]; first | done | omega)) only [↓D1, ↓D3, ↓D4, List.not_mem_nil, not_false_eq_true, Bool.false_eq_true, false_imp_iff, upto, O1, D2, ↓H0, S0, ↓S1, ↓S2, ↓S3, ↓S4, S5, S5b, S5c, ↓S6, S6b, M0, E0, ty, tl, te, tc, i64_wrap, u64_wrap, iaV_sl, iaV_arr, faV_pa, nck_pa, heap_new, heap_old, heap_set, ↓reduceIte, Nat.reduceEqDiff, Nat.reduceLT, Nat.reduceAdd, Int.reduceLT, Int.reduceLE, decide_false, decide_true, dec_true, dec_false, true_and, and_true, true_imp_iff, Bool.not_true, Bool.not_false, Option.map_none, Int.reduceToNat, Int.toNat_zero, Int.toNat_one, lkV_false, lkV_true, f0, f1, f2, f3, f8, f9, hb, hD, hc1, hc2]
    have hmA := (hm1.ext hx)
    refine RunR_map mp117 (MapF.hp (w := W) (w' := W.drew) hmA rfl) ?_
    intro W2 rem hIt hxW hsW hrem hnd
    have hxW' : Ext W W2 := ((Ext.rfl' W).dr).tr hxW
    have hr0 : W.drew.heap.size = W.heap.size := rfl
    rw [hr0] at hIt hsW ⊢
    have hc1' := hm1.lt
    have hc2' := hm2.lt
    have hsl := hx.size
    have h8 := hm8.lt
    have hk1 : ∀ l, l ∈ rem.map (·.1) ↔ C i kk l ≠ 0 := by
      intro l
      constructor
      · intro h
        obtain ⟨⟨l', v⟩, hm, rfl⟩ := List.mem_map.1 h
        have := (hrem l' v).1 hm
        intro h0; simp [encN, h0] at this
      · intro h
        exact List.mem_map.2 ⟨(l, .int .i64 (C i kk l)), (hrem _ _).2 (by simp [encN, h]), rfl⟩
    have hT := htot (C i kk) (C kk j) _ hnd hk1
    simp (disch := first | omega | assumption | (simp only [O1, World.size_alloc, World.size_setCell, World.size_drew]; first | done | omega)) only [O1, D2, ↓H0, S0, ↓S1, ↓S2, ↓S3, ↓S4, S5, S5b, S5c, ↓S6, S6b, M0, E0, ty, tl, te, tc, i64_wrap, u64_wrap, iaV_sl, iaV_arr, faV_pa, nck_pa, heap_new, heap_old, heap_set, ↓reduceIte, Nat.reduceEqDiff, Nat.reduceLT, Nat.reduceAdd, Int.reduceLT, Int.reduceLE, decide_false, decide_true, dec_true, dec_false, true_and, and_true, true_imp_iff, Bool.not_true, Bool.not_false, Option.map_none, Int.reduceToNat, Int.toNat_zero, Int.toNat_one, lkV_false, lkV_true, f0, f1, f2, f3, f8, f9]
    refine ⟨fun k t U => ∃ rem' cur, ∃ S : Int → Nat, k = rem'.length ∧ Ext w U ∧ IterF (fun n : Int => Value.int .i64 n) U W.heap.size c1 (fun A => encN (C i kk A)) rem' cur ∧ MapI U w.heap.size (fun A => encN (sat (S A))) ∧ (rem'.map (·.1)).Nodup ∧
      (∀ A, S A + conS (C i kk) (C kk j) F A (rem'.map (·.1)) = sumK (fun k => tot (C i k) (C k j) A) (i + 1) (kk + 1 - (i + 1))) ∧ U.heap.size > W.heap.size ∧
      t 0 = pa (some ⟨b, 0, none⟩) 0 ∧ t 1 = .int .i64 i ∧ t 2 = .int .i64 j ∧ t 3 = .map (some m7) ∧ t 8 = .map (some w.heap.size) ∧ t 9 = .int .i64 kk ∧ t 15 = .map (some c2) ∧ t 61 = .pointer (some ⟨W.heap.size, 0, none⟩),
      ⟨rem.length, rem, none, _, rfl, hx.tr hxW', hIt, hm8.ext hxW', hnd, ?_, by omega, ?_⟩, ?_⟩
    · intro A
      rw [hT A, show kk + 1 - (i + 1) = (kk - (i + 1)) + 1 by omega, sumK, show i + 1 + (kk - (i + 1)) = kk by omega]
    · simp (disch := first | omega | assumption | (simp only [O1, World.size_alloc, World.size_setCell, World.size_drew]; first | done | omega)) only [O1, D2, ↓H0, S0, ↓S1, ↓S2, ↓S3, ↓S4, S5, S5b, S5c, ↓S6, S6b, M0, E0, ty, tl, te, tc, i64_wrap, u64_wrap, iaV_sl, iaV_arr, faV_pa, nck_pa, heap_new, heap_old, heap_set, ↓reduceIte, Nat.reduceEqDiff, Nat.reduceLT, Nat.reduceAdd, Int.reduceLT, Int.reduceLE, decide_false, decide_true, dec_true, dec_false, true_and, and_true, true_imp_iff, Bool.not_true, Bool.not_false, Option.map_none, Int.reduceToNat, Int.toNat_zero, Int.toNat_one, lkV_false, lkV_true, f0, f1, f2, f3, f8, f9] <;> rfl
    clear f0 f1 f2 f3 f8 f9 hIt hxW hsW hxW'
    rintro k2 t U ⟨rem', cur, S, rfl, hxU, hIt, hm8, hnd', hS, hUW, f0, f1, f2, f3, f8, f9, f15, f61⟩
    simp (disch := first | omega | assumption | (simp only [O1, World.size_alloc, World.size_setCell, World.size_drew]; first | done | omega)) only [O1, D2, ↓H0, S0, ↓S1, ↓S2, ↓S3, ↓S4, S5, S5b, S5c, ↓S6, S6b, M0, E0, ty, tl, te, tc, i64_wrap, u64_wrap, iaV_sl, iaV_arr, faV_pa, nck_pa, heap_new, heap_old, heap_set, ↓reduceIte, Nat.reduceEqDiff, Nat.reduceLT, Nat.reduceAdd, Int.reduceLT, Int.reduceLE, decide_false, decide_true, dec_true, dec_false, true_and, and_true, true_imp_iff, Bool.not_true, Bool.not_false, Option.map_none, Int.reduceToNat, Int.toNat_zero, Int.toNat_one, lkV_false, lkV_true, f0, f1, f2, f3, f8, f9, f15, f61]
    refine RunN_map hIt (by omega) (fun h0 => ?_) (fun l v U2 hmem hfl hIt2 hg2 hs2 hlt2 => ?_)
    · subst h0
      simp (disch := first | omega | assumption | (simp only [O1, World.size_alloc, World.size_setCell, World.size_drew]; first | done | omega)) only [O1, D2, ↓H0, S0, ↓S1, ↓S2, ↓S3, ↓S4, S5, S5b, S5c, ↓S6, S6b, M0, E0, ty, tl, te, tc, i64_wrap, u64_wrap, iaV_sl, iaV_arr, faV_pa, nck_pa, heap_new, heap_old, heap_set, ↓reduceIte, Nat.reduceEqDiff, Nat.reduceLT, Nat.reduceAdd, Int.reduceLT, Int.reduceLE, decide_false, decide_true, dec_true, dec_false, true_and, and_true, true_imp_iff, Bool.not_true, Bool.not_false, Option.map_none, Int.reduceToNat, Int.toNat_zero, Int.toNat_one, lkV_false, lkV_true, f0, f1, f2, f3, f8, f9, f15, f61]
      refine ⟨k - 1, by omega, kk + 1, by omega, by omega, hxU, ?_, rfl⟩
      have : ∀ A, S A = sumK (fun k => tot (C i k) (C k j) A) (i + 1) (kk + 1 - (i + 1)) := fun A => by have := hS A; simpa [conS] using this
      simpa only [this] using hm8
    have hvl : v = .int .i64 (C i kk l) ∧ C i kk l ≠ 0 := by
      by_cases h : C i kk l = 0
      · simp [encN, h] at hfl
      · simp [encN, h] at hfl; exact ⟨hfl.symm, h⟩
    obtain ⟨rfl, hl0⟩ := hvl
    have hxU2 : Ext w U2 := hxU.grown' hg2 (fun k hk => by cases hk; omega)
    have hm8' : MapI U2 w.heap.size (fun A => encN (sat (S A))) := hm8.hp (hg2.block _ (by omega) (by simp; omega))
    simp (disch := first | omega | assumption | (simp only [O1, World.size_alloc, World.size_setCell, World.size_drew]; first | done | omega)) only [O1, D2, ↓H0, S0, ↓S1, ↓S2, ↓S3, ↓S4, S5, S5b, S5c, ↓S6, S6b, M0, E0, ty, tl, te, tc, i64_wrap, u64_wrap, iaV_sl, iaV_arr, faV_pa, nck_pa, heap_new, heap_old, heap_set, ↓reduceIte, Nat.reduceEqDiff, Nat.reduceLT, Nat.reduceAdd, Int.reduceLT, Int.reduceLE, decide_false, decide_true, dec_true, dec_false, true_and, and_true, true_imp_iff, Bool.not_true, Bool.not_false, Option.map_none, Int.reduceToNat, Int.toNat_zero, Int.toNat_one, lkV_false, lkV_true, f0, f1, f2, f3, f8, f9, f15, f61]
    refine RunE_map hIt2 ?_
    have hl7 := lkO_int mp113 kInt (hm7.ext hxU2)
    have hq := hF l
    generalize hq7 : (f7 l).getD (.slice none 0 0) = q at hq
    obtain ⟨Q, qc, rfl, hqc, hQ⟩ := hq
    simp (disch := first | omega | assumption | (simp only [O1, World.size_alloc, World.size_setCell, World.size_drew]; first | done | omega)) only [O1, D2, ↓H0, S0, ↓S1, ↓S2, ↓S3, ↓S4, S5, S5b, S5c, ↓S6, S6b, M0, E0, ty, tl, te, tc, i64_wrap, u64_wrap, iaV_sl, iaV_arr, faV_pa, nck_pa, heap_new, heap_old, heap_set, ↓reduceIte, Nat.reduceEqDiff, Nat.reduceLT, Nat.reduceAdd, Int.reduceLT, Int.reduceLE, decide_false, decide_true, dec_true, dec_false, true_and, and_true, true_imp_iff, Bool.not_true, Bool.not_false, Option.map_none, Int.reduceToNat, Int.toNat_zero, Int.toNat_one, lkV_false, lkV_true, f0, f1, f2, f3, f8, f9, f15, f61, hl7, hq7]
    refine ⟨fun k3 t V => ∃ q : Nat, ∃ G : Int → Nat, k3 + q = (F l).length ∧ Ext w V ∧ IterF (fun n : Int => Value.int .i64 n) V W.heap.size c1 (fun A => encN (C i kk A)) (rem'.filter fun x => decide (x.1 ≠ l)) (some (l, .int .i64 (C i kk l))) ∧ MapI V w.heap.size (fun A => encN (sat (G A))) ∧
      (∀ A, G A = S A + conL (C i kk) (C kk j) l A ((F l).take q)) ∧ V.heap.size > W.heap.size ∧
      t 0 = pa (some ⟨b, 0, none⟩) 0 ∧ t 1 = .int .i64 i ∧ t 2 = .int .i64 j ∧ t 3 = .map (some m7) ∧ t 8 = .map (some w.heap.size) ∧ t 9 = .int .i64 kk ∧ t 15 = .map (some c2) ∧ t 61 = .pointer (some ⟨W.heap.size, 0, none⟩) ∧
      t 17 = .int .i64 (C i kk l) ∧ t 69 = .slice Q (F l).length qc ∧ t 70 = .int .i64 (F l).length ∧ t 71 = .int .i64 q,
      ⟨(F l).length, 0, S, by omega, hxU2, hIt2, hm8', fun A => by simp [conL], by omega, ?_⟩, ?_⟩
    · simp (disch := first | omega | assumption | (simp only [O1, World.size_alloc, World.size_setCell, World.size_drew]; first | done | omega)) only [O1, D2, ↓H0, S0, ↓S1, ↓S2, ↓S3, ↓S4, S5, S5b, S5c, ↓S6, S6b, M0, E0, ty, tl, te, tc, i64_wrap, u64_wrap, iaV_sl, iaV_arr, faV_pa, nck_pa, heap_new, heap_old, heap_set, ↓reduceIte, Nat.reduceEqDiff, Nat.reduceLT, Nat.reduceAdd, Int.reduceLT, Int.reduceLE, decide_false, decide_true, dec_true, dec_false, true_and, and_true, true_imp_iff, Bool.not_true, Bool.not_false, Option.map_none, Int.reduceToNat, Int.toNat_zero, Int.toNat_one, lkV_false, lkV_true, f0, f1, f2, f3, f8, f9, f15, f61] <;> rfl
    clear f0 f1 f2 f3 f8 f9 f15 f61 hIt hIt2 hm8 hm8' hl7
    rintro k3 t V ⟨q, G, hkq, hxV, hIt, hm8, hG, hVW, f0, f1, f2, f3, f8, f9, f15, f61, f17, f69, f70, f71⟩
    simp (disch := first | omega | assumption | (simp only [O1, World.size_alloc, World.size_setCell, World.size_drew]; first | done | omega)) only [O1, D2, ↓H0, S0, ↓S1, ↓S2, ↓S3, ↓S4, S5, S5b, S5c, ↓S6, S6b, M0, E0, ty, tl, te, tc, i64_wrap, u64_wrap, iaV_sl, iaV_arr, faV_pa, nck_pa, heap_new, heap_old, heap_set, ↓reduceIte, Nat.reduceEqDiff, Nat.reduceLT, Nat.reduceAdd, Int.reduceLT, Int.reduceLE, decide_false, decide_true, dec_true, dec_false, true_and, and_true, true_imp_iff, Bool.not_true, Bool.not_false, Option.map_none, Int.reduceToNat, Int.toNat_zero, Int.toNat_one, lkV_false, lkV_true, f0, f1, f2, f3, f8, f9, f15, f61, f17, f69, f70, f71]
    refine Br_if (fun h4 => ?_) (fun h4' => ?_) <;> (try simp (disch := first | omega | assumption | (simp only [O1, World.size_alloc, World.size_setCell, World.size_drew]; first | done | omega)) only [O1, D2, ↓H0, S0, ↓S1, ↓S2, ↓S3, ↓S4, S5, S5b, S5c, ↓S6, S6b, M0, E0, ty, tl, te, tc, i64_wrap, u64_wrap, iaV_sl, iaV_arr, faV_pa, nck_pa, heap_new, heap_old, heap_set, ↓reduceIte, Nat.reduceEqDiff, Nat.reduceLT, Nat.reduceAdd, Int.reduceLT, Int.reduceLE, decide_false, decide_true, dec_true, dec_false, true_and, and_true, true_imp_iff, Bool.not_true, Bool.not_false, Option.map_none, Int.reduceToNat, Int.toNat_zero, Int.toNat_one, lkV_false, lkV_true, f0, f1, f2, f3, f8, f9, f15, f61, f17, f69, f70, f71])
    · have hq : q < (F l).length := by omega
      have hlF := hlen l
      have hs1 := hxV.rd (hQ q hq).1
      have hs2 := hxV.rd (hQ q hq).2
      have hQs := rd_isSome hs1
      have hC1 := hC i kk l
      generalize hp : (F l)[q] = p at *
      have hC2 := hC kk j p.2
      have hV := hm8.lt
      have hm2' := (hm2.ext hxV)
      have hlR := lkO_int mp117 kInt (hm2'.ext ((Ext.rfl' V).al (.cells #[.int .i64 p.1, .int .i64 p.2] 116)))
      have ht1 : ∀ A, conL (C i kk) (C kk j) l A ((F l).take (q + 1)) = conL (C i kk) (C kk j) l A ((F l).take q) + (if p.1 = A then sat (C i kk l * C kk j p.2) else 0) := by
        intro A
        rw [List.take_succ_eq_append_getElem hq, conL_append, hp]; simp [conL]
      simp (disch := first | omega | assumption | (simp only [O1, World.size_alloc, World.size_setCell, World.size_drew]; first | done | omega)) only [O1, D2, ↓H0, S0, ↓S1, ↓S2, ↓S3, ↓S4, S5, S5b, S5c, ↓S6, S6b, M0, E0, ty, tl, te, tc, i64_wrap, u64_wrap, iaV_sl, iaV_arr, faV_pa, nck_pa, heap_new, heap_old, heap_set, ↓reduceIte, Nat.reduceEqDiff, Nat.reduceLT, Nat.reduceAdd, Int.reduceLT, Int.reduceLE, decide_false, decide_true, dec_true, dec_false, true_and, and_true, true_imp_iff, Bool.not_true, Bool.not_false, Option.map_none, Int.reduceToNat, Int.toNat_zero, Int.toNat_one, lkV_false, lkV_true, f0, f1, f2, f3, f8, f9, f15, f61, f17, f69, f70, f71, hs1, hs2, ldA2, st116, hlR, encN_get, encN_some]
      refine Br_if (fun h5 => ?_) (fun h5 => ?_) <;> (try simp (disch := first | omega | assumption | (simp only [O1, World.size_alloc, World.size_setCell, World.size_drew]; first | done | omega)) only [O1, D2, ↓H0, S0, ↓S1, ↓S2, ↓S3, ↓S4, S5, S5b, S5c, ↓S6, S6b, M0, E0, ty, tl, te, tc, i64_wrap, u64_wrap, iaV_sl, iaV_arr, faV_pa, nck_pa, heap_new, heap_old, heap_set, ↓reduceIte, Nat.reduceEqDiff, Nat.reduceLT, Nat.reduceAdd, Int.reduceLT, Int.reduceLE, decide_false, decide_true, dec_true, dec_false, true_and, and_true, true_imp_iff, Bool.not_true, Bool.not_false, Option.map_none, Int.reduceToNat, Int.toNat_zero, Int.toNat_one, lkV_false, lkV_true, f0, f1, f2, f3, f8, f9, f15, f61, f17, f69, f70, f71])
      · have hx1 : Ext V (V.alloc (.cells #[.int .i64 p.1, .int .i64 p.2] 116)).drew := ((Ext.rfl' V).al _).dr
        have hm81 := hm8.ext hx1
        have hl8 := lkO_int mp117 kInt hm81
        refine Dr_plan [] (upto 11) [0, 1, 2, 3, 4, 5, 6, 7, 8, 9, 10, 11] mixed (by kernel_rfl) ?_
        simp (disch := first | omega | assumption | (simp only [O1, World.size_alloc, World.size_setCell, World.size_drew]; first | done | omega)) only [↓D1, ↓D3, ↓D4, List.not_mem_nil, not_false_eq_true, Bool.false_eq_true, false_imp_iff, upto, O1, D2, ↓H0, S0, ↓S1, ↓S2, ↓S3, ↓S4, S5, S5b, S5c, ↓S6, S6b, M0, E0, ty, tl, te, tc, i64_wrap, u64_wrap, iaV_sl, iaV_arr, faV_pa, nck_pa, heap_new, heap_old, heap_set, ↓reduceIte, Nat.reduceEqDiff, Nat.reduceLT, Nat.reduceAdd, Int.reduceLT, Int.reduceLE, decide_false, decide_true, dec_true, dec_false, true_and, and_true, true_imp_iff, Bool.not_true, Bool.not_false, Option.map_none, Int.reduceToNat, Int.toNat_zero, Int.toNat_one, lkV_false, lkV_true, f0, f1, f2, f3, f8, f9, f15, f61, f17, f69, f70, f71, hl8, encN_get]
        refine (times_ok _ _ _ (by omega) (by omega) (by omega) (by omega)).then ?_; rintro _ V1 ⟨rfl, rfl⟩
        simp (disch := first | omega | assumption | (simp only [O1, World.size_alloc, World.size_setCell, World.size_drew]; first | done | omega)) only [↓D1, ↓D3, ↓D4, List.not_mem_nil, not_false_eq_true, Bool.false_eq_true, false_imp_iff, upto, O1, D2, ↓H0, S0, ↓S1, ↓S2, ↓S3, ↓S4, S5, S5b, S5c, ↓S6, S6b, M0, E0, ty, tl, te, tc, i64_wrap, u64_wrap, iaV_sl, iaV_arr, faV_pa, nck_pa, heap_new, heap_old, heap_set, ↓reduceIte, Nat.reduceEqDiff, Nat.reduceLT, Nat.reduceAdd, Int.reduceLT, Int.reduceLE, decide_false, decide_true, dec_true, dec_false, true_and, and_true, true_imp_iff, Bool.not_true, Bool.not_false, Option.map_none, Int.reduceToNat, Int.toNat_zero, Int.toNat_one, lkV_false, lkV_true, f0, f1, f2, f3, f8, f9, f15, f61, f17, f69, f70, f71, hl8, encN_get]
        have e1 : min ((C i kk l : Int) * (C kk j p.2 : Int)) 1099511627776 = ((sat (C i kk l * C kk j p.2) : Nat) : Int) := by
          have := Int.natCast_mul (C i kk l) (C kk j p.2)
          unfold sat; omega
        rw [e1]
        have e2 := sat_le (G p.1)
        have e3 := sat_le (C i kk l * C kk j p.2)
        refine (add_ok _ _ _ (by omega) (by omega) (by omega) (by omega)).then ?_; rintro _ V1 ⟨rfl, rfl⟩
        simp (disch := first | omega | assumption | (simp only [O1, World.size_alloc, World.size_setCell, World.size_drew]; first | done | omega)) only [↓D1, ↓D3, ↓D4, List.not_mem_nil, not_false_eq_true, Bool.false_eq_true, false_imp_iff, upto, O1, D2, ↓H0, S0, ↓S1, ↓S2, ↓S3, ↓S4, S5, S5b, S5c, ↓S6, S6b, M0, E0, ty, tl, te, tc, i64_wrap, u64_wrap, iaV_sl, iaV_arr, faV_pa, nck_pa, heap_new, heap_old, heap_set, ↓reduceIte, Nat.reduceEqDiff, Nat.reduceLT, Nat.reduceAdd, Int.reduceLT, Int.reduceLE, decide_false, decide_true, dec_true, dec_false, true_and, and_true, true_imp_iff, Bool.not_true, Bool.not_false, Option.map_none, Int.reduceToNat, Int.toNat_zero, Int.toNat_one, lkV_false, lkV_true, f0, f1, f2, f3, f8, f9, f15, f61, f17, f69, f70, f71, hl8, encN_get, upto]
        refine RunU_map mp117 kInt hm81 p.1 _ ?_
        intro V2 hm9 hgV2 hsV2
        have hx2 : Ext w V2 := (hxV.tr hx1).grown' hgV2 (fun k hk => by cases hk; omega)
        have hIt1 := hIt.ext hx1
        have hIt2 : IterF (fun n : Int => Value.int .i64 n) V2 W.heap.size c1 (fun A => encN (C i kk A)) (rem'.filter fun x => decide (x.1 ≠ l)) (some (l, .int .i64 (C i kk l))) :=
          hIt1.hp (hgV2.block _ hIt1.lt (by simp; omega)) (hgV2.block _ hIt1.map.lt (by simp; omega))
        have hsz1 := hx1.size
        simp (disch := first | omega | assumption | (simp only [O1, World.size_alloc, World.size_setCell, World.size_drew]; first | done | omega)) only [↓D1, ↓D3, ↓D4, List.not_mem_nil, not_false_eq_true, Bool.false_eq_true, false_imp_iff, upto, O1, D2, ↓H0, S0, ↓S1, ↓S2, ↓S3, ↓S4, S5, S5b, S5c, ↓S6, S6b, M0, E0, ty, tl, te, tc, i64_wrap, u64_wrap, iaV_sl, iaV_arr, faV_pa, nck_pa, heap_new, heap_old, heap_set, ↓reduceIte, Nat.reduceEqDiff, Nat.reduceLT, Nat.reduceAdd, Int.reduceLT, Int.reduceLE, decide_false, decide_true, dec_true, dec_false, true_and, and_true, true_imp_iff, Bool.not_true, Bool.not_false, Option.map_none, Int.reduceToNat, Int.toNat_zero, Int.toNat_one, lkV_false, lkV_true, f0, f1, f2, f3, f8, f9, f15, f61, f17, f69, f70, f71, upto]
        refine ⟨k3 - 1, by omega, q + 1, fun A => G A + (if p.1 = A then sat (C i kk l * C kk j p.2) else 0), by omega, hx2, hIt2, ?_, fun A => ?_, by omega, rfl⟩
        · have e4 : (fun k' => if k' = p.1 then some (Value.int .i64 (min (((sat (G p.1) : Nat) : Int) + ((sat (C i kk l * C kk j p.2) : Nat) : Int)) 1099511627776)) else encN (sat (G k'))) =
              fun A => encN (sat (G A + (if p.1 = A then sat (C i kk l * C kk j p.2) else 0))) := by
            funext A
            by_cases hA : A = p.1
            · subst hA
              have e5 : min (((sat (G p.1) : Nat) : Int) + ((sat (C i kk l * C kk j p.2) : Nat) : Int)) 1099511627776 = ((sat (G p.1 + sat (C i kk l * C kk j p.2)) : Nat) : Int) := by
                rw [← sat_sat]; generalize sat (G p.1) = x at *; generalize sat (C i kk l * C kk j p.2) = y at *; unfold sat; omega
              have e6 : sat (C i kk l * C kk j p.2) ≠ 0 := by
                rw [ne_eq, sat_pos]; exact Nat.mul_ne_zero hl0 h5
              have e7 : sat (G p.1 + sat (C i kk l * C kk j p.2)) ≠ 0 := by rw [ne_eq, sat_pos]; omega
              rw [if_pos rfl, if_pos rfl, e5, encN, if_neg e7]
            · rw [if_neg hA, if_neg (fun h => hA h.symm), Nat.add_zero]
          rw [e4] at hm9; exact hm9
        · rw [ht1]; have := hG A; show G A + _ = _; omega
      · refine ⟨k3 - 1, by omega, q + 1, G, by omega, hxV.al _, hIt.ext ((Ext.rfl' V).al _), hm8.ext ((Ext.rfl' V).al _), fun A => ?_, by omega, rfl⟩
        have h0 : C kk j p.2 = 0 := by omega
        rw [ht1, hG, h0]; simp [sat]
    · have hq : q = (F l).length := by omega
      subst hq
      refine ⟨_, hlt2, _, _, G, rfl, hxV, hIt, hm8, ?_, ?_, hVW⟩
      · have := hnd'.filter (fun x => decide (x ≠ l))
        rw [List.filter_map] at this
        exact this
      · intro A
        have h1 := hS A
        rw [conS_filter _ _ _ _ l _ hnd' (List.mem_map.2 ⟨_, hmem, rfl⟩)] at h1
        rw [hG, List.take_of_length_le (by omega), ← h1, List.filter_map]
        simp only [Function.comp_def]
        omega
  · refine (at_pos b n _ _ _ _ _ _ _ i j W hb hn hij hj).then ?_; rintro _ W ⟨rfl, rfl⟩
    have hi := ixN_lt (n := n) (i := i) (j := j) hij hj
    rw [← hN] at hi
    have hst := sto_own (P := Try.prog) (T := 117) (w := W) (g := D) (o := 0) (k := ixN n i j) (x := .map (some w.heap.size)) (by simp only [ty]) hD (by omega) rfl
    simp (disch := first | omega | assumption | (simp only [O1, World.size_alloc, World.size_setCell, World.size_drew]; first | done | omega)) only [O1, D2, ↓H0, S0, ↓S1, ↓S2, ↓S3, ↓S4, S5, S5b, S5c, ↓S6, S6b, M0, E0, ty, tl, te, tc, i64_wrap, u64_wrap, iaV_sl, iaV_arr, faV_pa, nck_pa, heap_new, heap_old, heap_set, ↓reduceIte, Nat.reduceEqDiff, Nat.reduceLT, Nat.reduceAdd, Int.reduceLT, Int.reduceLE, decide_false, decide_true, dec_true, dec_false, true_and, and_true, true_imp_iff, Bool.not_true, Bool.not_false, Option.map_none, Int.reduceToNat, Int.toNat_zero, Int.toNat_one, lkV_false, lkV_true, f0, f1, f2, f3, f8, f9, hb, hst]
    have hk : kk = j := by omega
    subst hk
    have hDl := lt_heap h2
    refine ⟨w.heap.size, by rw [hD]; rfl, hm8.hp (heap_set _ (by omega)), ⟨hx.os, hx.tape, hx.output, by simpa using hx.size, fun b hb hne => ?_⟩⟩
    rw [heap_set _ (by rintro rfl; simp at hne)]
    exact hx.block b hb
end Go.Proofs.Ytgioklmpnbnplaa
