/- The walks of cnf.Normal and of cyk.right. Conditions: none. -/
import Derived.Test.YtgioklmpnbnplaaOrd
set_option linter.unusedSimpArgs false
set_option linter.unusedVariables false
set_option maxRecDepth 100000
namespace Go.Proofs.Ytgioklmpnbnplaa
open Go.V

/-- A grammar of numbers. -/
structure CG where
  start : Int
  count : Int
  terms : Int
  empty : Bool
  prods : List (Int × List Int)
def RepCG (w : World) (v : Value) (g : CG) : Prop := ∃ pv, v = .agg #[.int .i64 g.start, .int .i64 g.count, .int .i64 g.terms, .bool g.empty, pv] ∧ Prods w pv g.prods
theorem RepCG.ext {w w' : World} {v : Value} {g : CG} (h : RepCG w v g) (hx : Ext w w') : RepCG w' v g := by
  obtain ⟨pv, hv, hp⟩ := h; exact ⟨pv, hv, hp.ext hx⟩
/-- The i-th production is as it should be. -/
def NormAt (g : CG) (i : Nat) (p : Int × List Int) : Prop :=
  0 ≤ p.1 ∧ p.1 < g.count ∧ (0 < i → ordM (g.prods.getD (i - 1) (0, [])) p < 0) ∧ (∀ s ∈ p.2, s < g.count ∧ -g.terms ≤ s ∧ (s < 0 ↔ p.2.length = 1)) ∧ 1 ≤ p.2.length ∧ p.2.length ≤ 2
def Norm (g : CG) : Prop := 0 ≤ g.start ∧ g.start < g.count ∧ 0 ≤ g.terms ∧ ∀ i (h : i < g.prods.length), NormAt g i g.prods[i]
def Small (g : CG) : Prop := g.prods.length ≤ 1000000000 ∧ (∀ p ∈ g.prods, p.2.length ≤ 1000000) ∧ g.terms ≤ 9223372036854775807

set_option maxHeartbeats 1000000 in
theorem normal_ok (v : Value) (g : CG) (w : World) (hg : RepCG w v g) (hs : Small g) : Ok Try.prog 81 #[v] w fun v w' => (∃ b, v = .bool b ∧ (b = true ↔ Norm g)) ∧ Ext w w' := by
  obtain ⟨pv, rfl, hp⟩ := hg
  obtain ⟨hs1, hs2, hs3⟩ := hs
  obtain ⟨A, c, rfl, hc, hA⟩ := hp
  (refine Ok.enter Try.func81 rfl (by kernel_rfl) (Nat.le_of_ble_eq_true rfl) ?_; simp only [Try.f81, S7])
  simp (disch := first | omega | assumption | (simp only [O1, World.size_alloc, World.size_setCell, World.size_drew]; first | done | omega)) only [O1, D2, ↓H0, S0, ↓S1, ↓S2, ↓S3, ↓S4, S5, S5b, S5c, ↓S6, S6b, M0, E0, ty, tl, te, tc, i64_wrap, u64_wrap, iaV_sl, iaV_arr, faV_pa, nck_pa, heap_new, heap_old, heap_set, ↓reduceIte, Nat.reduceEqDiff, Nat.reduceLT, Nat.reduceAdd, Int.reduceLT, Int.reduceLE, decide_false, decide_true, dec_true, dec_false, true_and, and_true, true_imp_iff, Bool.not_true, Bool.not_false, Option.map_none, Int.reduceToNat, Int.toNat_zero, Int.toNat_one, lkV_false, lkV_true]
  have no : ∀ {W : World}, Ext w W → ¬ Norm g → (∃ b, Value.bool false = .bool b ∧ (b = true ↔ Norm g)) ∧ Ext w W := fun hx h => ⟨⟨false, rfl, by simp [h]⟩, hx⟩
  have hx0 := (Ext.rfl' w).al (.cells #[.int .i64 g.start, .int .i64 g.count, .int .i64 g.terms, .bool g.empty, .slice A g.prods.length c] 28)
  refine Br_if (fun h1 => ?_) (fun h1 => ?_) <;> (try simp (disch := first | omega | assumption | (simp only [O1, World.size_alloc, World.size_setCell, World.size_drew]; first | done | omega)) only [O1, D2, ↓H0, S0, ↓S1, ↓S2, ↓S3, ↓S4, S5, S5b, S5c, ↓S6, S6b, M0, E0, ty, tl, te, tc, i64_wrap, u64_wrap, iaV_sl, iaV_arr, faV_pa, nck_pa, heap_new, heap_old, heap_set, ↓reduceIte, Nat.reduceEqDiff, Nat.reduceLT, Nat.reduceAdd, Int.reduceLT, Int.reduceLE, decide_false, decide_true, dec_true, dec_false, true_and, and_true, true_imp_iff, Bool.not_true, Bool.not_false, Option.map_none, Int.reduceToNat, Int.toNat_zero, Int.toNat_one, lkV_false, lkV_true])
  · exact no hx0 fun hn => by have := hn.1; omega
  refine Br_if (fun h2 => ?_) (fun h2 => ?_) <;> (try simp (disch := first | omega | assumption | (simp only [O1, World.size_alloc, World.size_setCell, World.size_drew]; first | done | omega)) only [O1, D2, ↓H0, S0, ↓S1, ↓S2, ↓S3, ↓S4, S5, S5b, S5c, ↓S6, S6b, M0, E0, ty, tl, te, tc, i64_wrap, u64_wrap, iaV_sl, iaV_arr, faV_pa, nck_pa, heap_new, heap_old, heap_set, ↓reduceIte, Nat.reduceEqDiff, Nat.reduceLT, Nat.reduceAdd, Int.reduceLT, Int.reduceLE, decide_false, decide_true, dec_true, dec_false, true_and, and_true, true_imp_iff, Bool.not_true, Bool.not_false, Option.map_none, Int.reduceToNat, Int.toNat_zero, Int.toNat_one, lkV_false, lkV_true])
  · exact no hx0 fun hn => by have := hn.2.1; omega
  refine Br_if (fun h3 => ?_) (fun h3 => ?_) <;> (try simp (disch := first | omega | assumption | (simp only [O1, World.size_alloc, World.size_setCell, World.size_drew]; first | done | omega)) only [O1, D2, ↓H0, S0, ↓S1, ↓S2, ↓S3, ↓S4, S5, S5b, S5c, ↓S6, S6b, M0, E0, ty, tl, te, tc, i64_wrap, u64_wrap, iaV_sl, iaV_arr, faV_pa, nck_pa, heap_new, heap_old, heap_set, ↓reduceIte, Nat.reduceEqDiff, Nat.reduceLT, Nat.reduceAdd, Int.reduceLT, Int.reduceLE, decide_false, decide_true, dec_true, dec_false, true_and, and_true, true_imp_iff, Bool.not_true, Bool.not_false, Option.map_none, Int.reduceToNat, Int.toNat_zero, Int.toNat_one, lkV_false, lkV_true])
  · exact no hx0 fun hn => by have := hn.2.2.1; omega
  refine ⟨fun k t W => ∃ i : Nat, k + i = g.prods.length ∧ (∀ j (h : j < g.prods.length), j < i → NormAt g j g.prods[j]) ∧ Ext w W ∧ W.heap[w.heap.size]? = some (.cells #[.int .i64 g.start, .int .i64 g.count, .int .i64 g.terms, .bool g.empty, .slice A g.prods.length c] 28 (0, 0)) ∧
    t 1 = pa (some ⟨w.heap.size, 0, none⟩) 0 ∧ t 23 = .slice A g.prods.length c ∧ t 24 = .int .i64 g.prods.length ∧ t 25 = .int .i64 i, ⟨g.prods.length, 0, by omega, fun j _ h => by omega, hx0, heap_new _ rfl, ?_⟩, ?_⟩
  · simp (disch := first | omega | assumption | (simp only [O1, World.size_alloc, World.size_setCell, World.size_drew]; first | done | omega)) only [O1, D2, ↓H0, S0, ↓S1, ↓S2, ↓S3, ↓S4, S5, S5b, S5c, ↓S6, S6b, M0, E0, ty, tl, te, tc, i64_wrap, u64_wrap, iaV_sl, iaV_arr, faV_pa, nck_pa, heap_new, heap_old, heap_set, ↓reduceIte, Nat.reduceEqDiff, Nat.reduceLT, Nat.reduceAdd, Int.reduceLT, Int.reduceLE, decide_false, decide_true, dec_true, dec_false, true_and, and_true, true_imp_iff, Bool.not_true, Bool.not_false, Option.map_none, Int.reduceToNat, Int.toNat_zero, Int.toNat_one, lkV_false, lkV_true]; rfl
  rintro k t W ⟨i, hki, hN, hx, hg, f1, f23, f24, f25⟩
  simp (disch := first | omega | assumption | (simp only [O1, World.size_alloc, World.size_setCell, World.size_drew]; first | done | omega)) only [O1, D2, ↓H0, S0, ↓S1, ↓S2, ↓S3, ↓S4, S5, S5b, S5c, ↓S6, S6b, M0, E0, ty, tl, te, tc, i64_wrap, u64_wrap, iaV_sl, iaV_arr, faV_pa, nck_pa, heap_new, heap_old, heap_set, ↓reduceIte, Nat.reduceEqDiff, Nat.reduceLT, Nat.reduceAdd, Int.reduceLT, Int.reduceLE, decide_false, decide_true, dec_true, dec_false, true_and, and_true, true_imp_iff, Bool.not_true, Bool.not_false, Option.map_none, Int.reduceToNat, Int.toNat_zero, Int.toNat_one, lkV_false, lkV_true, f1, f23, f24, f25]
  refine Br_if (fun hlt => ?_) (fun hge => ?_) <;> (try simp (disch := first | omega | assumption | (simp only [O1, World.size_alloc, World.size_setCell, World.size_drew]; first | done | omega)) only [O1, D2, ↓H0, S0, ↓S1, ↓S2, ↓S3, ↓S4, S5, S5b, S5c, ↓S6, S6b, M0, E0, ty, tl, te, tc, i64_wrap, u64_wrap, iaV_sl, iaV_arr, faV_pa, nck_pa, heap_new, heap_old, heap_set, ↓reduceIte, Nat.reduceEqDiff, Nat.reduceLT, Nat.reduceAdd, Int.reduceLT, Int.reduceLE, decide_false, decide_true, dec_true, dec_false, true_and, and_true, true_imp_iff, Bool.not_true, Bool.not_false, Option.map_none, Int.reduceToNat, Int.toNat_zero, Int.toNat_one, lkV_false, lkV_true, f1, f23, f24, f25])
  · have hi : i < g.prods.length := by omega
    obtain ⟨hl, r, hr, hR⟩ := hA i hi
    have hR0 := hR
    obtain ⟨B, d, rfl, hd, hB⟩ := hR
    have hl' := hx.rd hl
    have hr' := hx.rd hr
    have hAs := rd_isSome hl
    have hz := (Array.getElem?_eq_some_iff.1 hg).1
    generalize hp : g.prods[i] = p at *
    have hp1 : ∀ {q : Prop}, (NormAt g i p → q) → (Norm g → q) := fun h hn => h (hp ▸ hn.2.2.2 i hi)
    simp (disch := first | omega | assumption | (simp only [O1, World.size_alloc, World.size_setCell, World.size_drew]; first | done | omega)) only [O1, D2, ↓H0, S0, ↓S1, ↓S2, ↓S3, ↓S4, S5, S5b, S5c, ↓S6, S6b, M0, E0, ty, tl, te, tc, i64_wrap, u64_wrap, iaV_sl, iaV_arr, faV_pa, nck_pa, heap_new, heap_old, heap_set, ↓reduceIte, Nat.reduceEqDiff, Nat.reduceLT, Nat.reduceAdd, Int.reduceLT, Int.reduceLE, decide_false, decide_true, dec_true, dec_false, true_and, and_true, true_imp_iff, Bool.not_true, Bool.not_false, Option.map_none, Int.reduceToNat, Int.toNat_zero, Int.toNat_one, lkV_false, lkV_true, f1, f23, f24, f25, hl', hr', ldA2, st35]
    have hx1 := (hx.al (.cells #[.int .i64 p.1, .slice B p.2.length d] 35))
    have hx2 := hx1.dr
    refine Dr_plan [] (fun _ => true) [0, 1, 2, 3, 4, 5, 6, 7, 8, 9, 10, 11, 12, 13, 14, 15, 16, 17, 18, 19, 20, 21, 22, 23, 24] mixed (by kernel_rfl) ?_
    simp (disch := first | omega | assumption | (simp only [O1, World.size_alloc, World.size_setCell, World.size_drew]; first | done | omega)) only [↓D1, ↓D3, ↓D4, List.not_mem_nil, not_false_eq_true, Bool.false_eq_true, false_imp_iff, upto, O1, D2, ↓H0, S0, ↓S1, ↓S2, ↓S3, ↓S4, S5, S5b, S5c, ↓S6, S6b, M0, E0, ty, tl, te, tc, i64_wrap, u64_wrap, iaV_sl, iaV_arr, faV_pa, nck_pa, heap_new, heap_old, heap_set, ↓reduceIte, Nat.reduceEqDiff, Nat.reduceLT, Nat.reduceAdd, Int.reduceLT, Int.reduceLE, decide_false, decide_true, dec_true, dec_false, true_and, and_true, true_imp_iff, Bool.not_true, Bool.not_false, Option.map_none, Int.reduceToNat, Int.toNat_zero, Int.toNat_one, lkV_false, lkV_true, f1, f23, f24, f25, hg, ldA2, hz]
    refine Br_if (fun h4 => ?_) (fun h4 => ?_) <;> (try simp (disch := first | omega | assumption | (simp only [O1, World.size_alloc, World.size_setCell, World.size_drew]; first | done | omega)) only [↓D1, ↓D3, ↓D4, List.not_mem_nil, not_false_eq_true, Bool.false_eq_true, false_imp_iff, upto, O1, D2, ↓H0, S0, ↓S1, ↓S2, ↓S3, ↓S4, S5, S5b, S5c, ↓S6, S6b, M0, E0, ty, tl, te, tc, i64_wrap, u64_wrap, iaV_sl, iaV_arr, faV_pa, nck_pa, heap_new, heap_old, heap_set, ↓reduceIte, Nat.reduceEqDiff, Nat.reduceLT, Nat.reduceAdd, Int.reduceLT, Int.reduceLE, decide_false, decide_true, dec_true, dec_false, true_and, and_true, true_imp_iff, Bool.not_true, Bool.not_false, Option.map_none, Int.reduceToNat, Int.toNat_zero, Int.toNat_one, lkV_false, lkV_true, f1, f23, f24, f25, hg, ldA2, hz])
    · exact no hx2 (hp1 fun hn => by have := hn.1; omega)
    refine Br_if (fun h5 => ?_) (fun h5 => ?_) <;> (try simp (disch := first | omega | assumption | (simp only [O1, World.size_alloc, World.size_setCell, World.size_drew]; first | done | omega)) only [↓D1, ↓D3, ↓D4, List.not_mem_nil, not_false_eq_true, Bool.false_eq_true, false_imp_iff, upto, O1, D2, ↓H0, S0, ↓S1, ↓S2, ↓S3, ↓S4, S5, S5b, S5c, ↓S6, S6b, M0, E0, ty, tl, te, tc, i64_wrap, u64_wrap, iaV_sl, iaV_arr, faV_pa, nck_pa, heap_new, heap_old, heap_set, ↓reduceIte, Nat.reduceEqDiff, Nat.reduceLT, Nat.reduceAdd, Int.reduceLT, Int.reduceLE, decide_false, decide_true, dec_true, dec_false, true_and, and_true, true_imp_iff, Bool.not_true, Bool.not_false, Option.map_none, Int.reduceToNat, Int.toNat_zero, Int.toNat_one, lkV_false, lkV_true, f1, f23, f24, f25, hg, ldA2, hz])
    · exact no hx2 (hp1 fun hn => by have := hn.2.1; omega)
    (refine join (α := ∀ (t' : Fr) (W' : World), (Ext w W' ∧ W'.heap[w.heap.size]? = some (.cells #[.int .i64 g.start, .int .i64 g.count, .int .i64 g.terms, .bool g.empty, .slice A g.prods.length c] 28 (0, 0)) ∧ W'.heap[W.heap.size]? = some (.cells #[.int .i64 p.1, .slice B p.2.length d] 35 (0, 0)) ∧
      t' 1 = pa (some ⟨w.heap.size, 0, none⟩) 0 ∧ t' 23 = .slice A g.prods.length c ∧ t' 24 = .int .i64 g.prods.length ∧ t' 25 = .int .i64 i ∧ t' 4 = pa (some ⟨W.heap.size, 0, none⟩) 0 ∧ t' 56 = .slice B p.2.length d ∧ t' 57 = .int .i64 p.2.length ∧ t' 58 = .int .i64 0 ∧
      (0 < i → ordM (g.prods.getD (i - 1) (0, [])) p < 0)) → @hLp ?V ?Q t' W') (fun key => ?_) ?_; rotate_left 2)
    · have hW := ((Ext.rfl' W).al (.cells #[.int .i64 p.1, .slice B p.2.length d] 35)).dr
      refine Br_if (fun h6' => ?_) (fun h6 => ?_) <;> (try simp (disch := first | omega | assumption | (simp only [O1, World.size_alloc, World.size_setCell, World.size_drew]; first | done | omega)) only [↓D1, ↓D3, ↓D4, List.not_mem_nil, not_false_eq_true, Bool.false_eq_true, false_imp_iff, upto, O1, D2, ↓H0, S0, ↓S1, ↓S2, ↓S3, ↓S4, S5, S5b, S5c, ↓S6, S6b, M0, E0, ty, tl, te, tc, i64_wrap, u64_wrap, iaV_sl, iaV_arr, faV_pa, nck_pa, heap_new, heap_old, heap_set, ↓reduceIte, Nat.reduceEqDiff, Nat.reduceLT, Nat.reduceAdd, Int.reduceLT, Int.reduceLE, decide_false, decide_true, dec_true, dec_false, true_and, and_true, true_imp_iff, Bool.not_true, Bool.not_false, Option.map_none, Int.reduceToNat, Int.toNat_zero, Int.toNat_one, lkV_false, lkV_true, f1, f23, f24, f25, hg, ldA2, hz])
      · have ht : ((i : Int) - 1).toNat = i - 1 := by omega
        obtain ⟨hl2, r2, hr2, hR2⟩ := hA (i - 1) (by omega)
        have hl2' := hx2.rd hl2
        have hr2' := hx2.rd hr2
        have hD : g.prods.getD (i - 1) (0, []) = g.prods[i - 1] := by simp [List.getD_eq_getElem?_getD, List.getElem?_eq_getElem (show i - 1 < g.prods.length by omega)]
        simp (disch := first | omega | assumption | (simp only [O1, World.size_alloc, World.size_setCell, World.size_drew]; first | done | omega)) only [↓D1, ↓D3, ↓D4, List.not_mem_nil, not_false_eq_true, Bool.false_eq_true, false_imp_iff, upto, O1, D2, ↓H0, S0, ↓S1, ↓S2, ↓S3, ↓S4, S5, S5b, S5c, ↓S6, S6b, M0, E0, ty, tl, te, tc, i64_wrap, u64_wrap, iaV_sl, iaV_arr, faV_pa, nck_pa, heap_new, heap_old, heap_set, ↓reduceIte, Nat.reduceEqDiff, Nat.reduceLT, Nat.reduceAdd, Int.reduceLT, Int.reduceLE, decide_false, decide_true, dec_true, dec_false, true_and, and_true, true_imp_iff, Bool.not_true, Bool.not_false, Option.map_none, Int.reduceToNat, Int.toNat_zero, Int.toNat_one, lkV_false, lkV_true, f1, f23, f24, f25, hg, ldA2, hz, ht, hl2', hr2']
        refine (order_ok g.prods[i - 1] p _ _ _ (hR2.ext hx2) (hR0.ext hx2) (hs2 _ (List.getElem_mem _)) (hs2 _ (hp ▸ List.getElem_mem _))).then ?_
        rintro _ W2 ⟨rfl, hx3⟩
        simp (disch := first | omega | assumption | (simp only [O1, World.size_alloc, World.size_setCell, World.size_drew]; first | done | omega)) only [↓D1, ↓D3, ↓D4, List.not_mem_nil, not_false_eq_true, Bool.false_eq_true, false_imp_iff, upto, O1, D2, ↓H0, S0, ↓S1, ↓S2, ↓S3, ↓S4, S5, S5b, S5c, ↓S6, S6b, M0, E0, ty, tl, te, tc, i64_wrap, u64_wrap, iaV_sl, iaV_arr, faV_pa, nck_pa, heap_new, heap_old, heap_set, ↓reduceIte, Nat.reduceEqDiff, Nat.reduceLT, Nat.reduceAdd, Int.reduceLT, Int.reduceLE, decide_false, decide_true, dec_true, dec_false, true_and, and_true, true_imp_iff, Bool.not_true, Bool.not_false, Option.map_none, Int.reduceToNat, Int.toNat_zero, Int.toNat_one, lkV_false, lkV_true]
        refine ⟨Keep.of_ext hx3 _, ?_⟩
        have hx4 := hx2.tr hx3
        refine Br_if (fun h7 => ?_) (fun h7 => ?_) <;> (try simp (disch := first | omega | assumption | (simp only [O1, World.size_alloc, World.size_setCell, World.size_drew]; first | done | omega)) only [↓D1, ↓D3, ↓D4, List.not_mem_nil, not_false_eq_true, Bool.false_eq_true, false_imp_iff, upto, O1, D2, ↓H0, S0, ↓S1, ↓S2, ↓S3, ↓S4, S5, S5b, S5c, ↓S6, S6b, M0, E0, ty, tl, te, tc, i64_wrap, u64_wrap, iaV_sl, iaV_arr, faV_pa, nck_pa, heap_new, heap_old, heap_set, ↓reduceIte, Nat.reduceEqDiff, Nat.reduceLT, Nat.reduceAdd, Int.reduceLT, Int.reduceLE, decide_false, decide_true, dec_true, dec_false, true_and, and_true, true_imp_iff, Bool.not_true, Bool.not_false, Option.map_none, Int.reduceToNat, Int.toNat_zero, Int.toNat_one, lkV_false, lkV_true, f1, f23, f24, f25, hz])
        · exact no hx4 (hp1 fun hn => by have := hn.2.2.1 (by omega); rw [hD] at this; omega)
        · have hx5 := hx3.hp (heap_new (w := W) (.cells #[.int .i64 p.1, .slice B p.2.length d] 35) rfl)
          simp (disch := first | omega | assumption | (simp only [O1, World.size_alloc, World.size_setCell, World.size_drew]; first | done | omega)) only [O1, D2, ↓H0, S0, ↓S1, ↓S2, ↓S3, ↓S4, S5, S5b, S5c, ↓S6, S6b, M0, E0, ty, tl, te, tc, i64_wrap, u64_wrap, iaV_sl, iaV_arr, faV_pa, nck_pa, heap_new, heap_old, heap_set, ↓reduceIte, Nat.reduceEqDiff, Nat.reduceLT, Nat.reduceAdd, Int.reduceLT, Int.reduceLE, decide_false, decide_true, dec_true, dec_false, true_and, and_true, true_imp_iff, Bool.not_true, Bool.not_false, Option.map_none, Int.reduceToNat, Int.toNat_zero, Int.toNat_one, lkV_false, lkV_true, f1, f23, f24, f25, hx5]
          refine key _ _ ⟨hx4, (hW.tr hx3).hp hg, hx5, ?_⟩
          simp (disch := first | omega | assumption | (simp only [O1, World.size_alloc, World.size_setCell, World.size_drew]; first | done | omega)) only [O1, D2, ↓H0, S0, ↓S1, ↓S2, ↓S3, ↓S4, S5, S5b, S5c, ↓S6, S6b, M0, E0, ty, tl, te, tc, i64_wrap, u64_wrap, iaV_sl, iaV_arr, faV_pa, nck_pa, heap_new, heap_old, heap_set, ↓reduceIte, Nat.reduceEqDiff, Nat.reduceLT, Nat.reduceAdd, Int.reduceLT, Int.reduceLE, decide_false, decide_true, dec_true, dec_false, true_and, and_true, true_imp_iff, Bool.not_true, Bool.not_false, Option.map_none, Int.reduceToNat, Int.toNat_zero, Int.toNat_one, lkV_false, lkV_true, f1, f23, f24, f25]
          rw [hD]; omega
      · refine key _ _ ⟨hx2, hW.hp hg, heap_new (w := W) _ rfl, ?_⟩
        simp (disch := first | omega | assumption | (simp only [O1, World.size_alloc, World.size_setCell, World.size_drew]; first | done | omega)) only [O1, D2, ↓H0, S0, ↓S1, ↓S2, ↓S3, ↓S4, S5, S5b, S5c, ↓S6, S6b, M0, E0, ty, tl, te, tc, i64_wrap, u64_wrap, iaV_sl, iaV_arr, faV_pa, nck_pa, heap_new, heap_old, heap_set, ↓reduceIte, Nat.reduceEqDiff, Nat.reduceLT, Nat.reduceAdd, Int.reduceLT, Int.reduceLE, decide_false, decide_true, dec_true, dec_false, true_and, and_true, true_imp_iff, Bool.not_true, Bool.not_false, Option.map_none, Int.reduceToNat, Int.toNat_zero, Int.toNat_one, lkV_false, lkV_true, f1, f23, f24, f25]
        omega
    rintro t W' ⟨hx, hg, hq, f1, f23, f24, f25, f4, f56, f57, f58, hO⟩
    have hlp : p.2.length ≤ 1000000 := hs2 _ (hp ▸ List.getElem_mem _)
    refine ⟨fun k t U => ∃ j : Nat, k + j = p.2.length ∧ (∀ s ∈ p.2.take j, s < g.count ∧ -g.terms ≤ s ∧ (s < 0 ↔ p.2.length = 1)) ∧ U = W' ∧ t 1 = pa (some ⟨w.heap.size, 0, none⟩) 0 ∧ t 23 = .slice A g.prods.length c ∧ t 24 = .int .i64 g.prods.length ∧ t 25 = .int .i64 i ∧ t 4 = pa (some ⟨W.heap.size, 0, none⟩) 0 ∧ t 56 = .slice B p.2.length d ∧ t 57 = .int .i64 p.2.length ∧
      t 58 = .int .i64 j, ⟨p.2.length, 0, by omega, by simp, rfl, f1, f23, f24, f25, f4, f56, f57, f58⟩, ?_⟩
    clear f1 f23 f24 f25 f4 f56 f57 f58
    rintro k2 t U ⟨j, hkj, hJ, rfl, f1, f23, f24, f25, f4, f56, f57, f58⟩
    simp (disch := first | omega | assumption | (simp only [O1, World.size_alloc, World.size_setCell, World.size_drew]; first | done | omega)) only [O1, D2, ↓H0, S0, ↓S1, ↓S2, ↓S3, ↓S4, S5, S5b, S5c, ↓S6, S6b, M0, E0, ty, tl, te, tc, i64_wrap, u64_wrap, iaV_sl, iaV_arr, faV_pa, nck_pa, heap_new, heap_old, heap_set, ↓reduceIte, Nat.reduceEqDiff, Nat.reduceLT, Nat.reduceAdd, Int.reduceLT, Int.reduceLE, decide_false, decide_true, dec_true, dec_false, true_and, and_true, true_imp_iff, Bool.not_true, Bool.not_false, Option.map_none, Int.reduceToNat, Int.toNat_zero, Int.toNat_one, lkV_false, lkV_true, f1, f23, f24, f25, f4, f56, f57, f58]
    refine Br_if (fun h8 => ?_) (fun h8' => ?_) <;> (try simp (disch := first | omega | assumption | (simp only [O1, World.size_alloc, World.size_setCell, World.size_drew]; first | done | omega)) only [O1, D2, ↓H0, S0, ↓S1, ↓S2, ↓S3, ↓S4, S5, S5b, S5c, ↓S6, S6b, M0, E0, ty, tl, te, tc, i64_wrap, u64_wrap, iaV_sl, iaV_arr, faV_pa, nck_pa, heap_new, heap_old, heap_set, ↓reduceIte, Nat.reduceEqDiff, Nat.reduceLT, Nat.reduceAdd, Int.reduceLT, Int.reduceLE, decide_false, decide_true, dec_true, dec_false, true_and, and_true, true_imp_iff, Bool.not_true, Bool.not_false, Option.map_none, Int.reduceToNat, Int.toNat_zero, Int.toNat_one, lkV_false, lkV_true, f1, f23, f24, f25, f4, f56, f57, f58, hg, hq])
    · have hj : j < p.2.length := by omega
      have hs := hx.rd (hB j hj)
      have hBs := rd_isSome hs
      generalize hse : p.2[j] = s at *
      have hsm : s ∈ p.2 := hse ▸ List.getElem_mem _
      have hxs : ∀ {q : Prop}, ((s < g.count ∧ -g.terms ≤ s ∧ (s < 0 ↔ p.2.length = 1)) → q) → (Norm g → q) := fun h => hp1 fun hn => h (hn.2.2.2.1 s hsm)
      simp (disch := first | omega | assumption | (simp only [O1, World.size_alloc, World.size_setCell, World.size_drew]; first | done | omega)) only [O1, D2, ↓H0, S0, ↓S1, ↓S2, ↓S3, ↓S4, S5, S5b, S5c, ↓S6, S6b, M0, E0, ty, tl, te, tc, i64_wrap, u64_wrap, iaV_sl, iaV_arr, faV_pa, nck_pa, heap_new, heap_old, heap_set, ↓reduceIte, Nat.reduceEqDiff, Nat.reduceLT, Nat.reduceAdd, Int.reduceLT, Int.reduceLE, decide_false, decide_true, dec_true, dec_false, true_and, and_true, true_imp_iff, Bool.not_true, Bool.not_false, Option.map_none, Int.reduceToNat, Int.toNat_zero, Int.toNat_one, lkV_false, lkV_true, f1, f23, f24, f25, f4, f56, f57, f58, hg, hq, hs]
      refine Br_if (fun h9 => ?_) (fun h9 => ?_) <;> (try simp (disch := first | omega | assumption | (simp only [O1, World.size_alloc, World.size_setCell, World.size_drew]; first | done | omega)) only [O1, D2, ↓H0, S0, ↓S1, ↓S2, ↓S3, ↓S4, S5, S5b, S5c, ↓S6, S6b, M0, E0, ty, tl, te, tc, i64_wrap, u64_wrap, iaV_sl, iaV_arr, faV_pa, nck_pa, heap_new, heap_old, heap_set, ↓reduceIte, Nat.reduceEqDiff, Nat.reduceLT, Nat.reduceAdd, Int.reduceLT, Int.reduceLE, decide_false, decide_true, dec_true, dec_false, true_and, and_true, true_imp_iff, Bool.not_true, Bool.not_false, Option.map_none, Int.reduceToNat, Int.toNat_zero, Int.toNat_one, lkV_false, lkV_true, f1, f23, f24, f25, f4, f56, f57, f58, hg, hq])
      · exact no hx (hxs fun hn => by have := hn.1; omega)
      refine Br_if (fun h10 => ?_) (fun h10 => ?_) <;> (try simp (disch := first | omega | assumption | (simp only [O1, World.size_alloc, World.size_setCell, World.size_drew]; first | done | omega)) only [O1, D2, ↓H0, S0, ↓S1, ↓S2, ↓S3, ↓S4, S5, S5b, S5c, ↓S6, S6b, M0, E0, ty, tl, te, tc, i64_wrap, u64_wrap, iaV_sl, iaV_arr, faV_pa, nck_pa, heap_new, heap_old, heap_set, ↓reduceIte, Nat.reduceEqDiff, Nat.reduceLT, Nat.reduceAdd, Int.reduceLT, Int.reduceLE, decide_false, decide_true, dec_true, dec_false, true_and, and_true, true_imp_iff, Bool.not_true, Bool.not_false, Option.map_none, Int.reduceToNat, Int.toNat_zero, Int.toNat_one, lkV_false, lkV_true, f1, f23, f24, f25, f4, f56, f57, f58, hg, hq])
      · exact no hx (hxs fun hn => by have := hn.2.1; omega)
      refine Br_if (fun h11 => ?_) (fun h11 => ?_) <;> (try simp (disch := first | omega | assumption | (simp only [O1, World.size_alloc, World.size_setCell, World.size_drew]; first | done | omega)) only [O1, D2, ↓H0, S0, ↓S1, ↓S2, ↓S3, ↓S4, S5, S5b, S5c, ↓S6, S6b, M0, E0, ty, tl, te, tc, i64_wrap, u64_wrap, iaV_sl, iaV_arr, faV_pa, nck_pa, heap_new, heap_old, heap_set, ↓reduceIte, Nat.reduceEqDiff, Nat.reduceLT, Nat.reduceAdd, Int.reduceLT, Int.reduceLE, decide_false, decide_true, dec_true, dec_false, true_and, and_true, true_imp_iff, Bool.not_true, Bool.not_false, Option.map_none, Int.reduceToNat, Int.toNat_zero, Int.toNat_one, lkV_false, lkV_true, f1, f23, f24, f25, f4, f56, f57, f58, hg, hq])
      · simp only [decide_eq_decide] at h11
        refine ⟨k2 - 1, by omega, j + 1, by omega, ?_, rfl⟩
        rw [List.take_succ_eq_append_getElem hj, hse]
        intro x hx'
        simp only [List.mem_append, List.mem_singleton] at hx'
        rcases hx' with hx' | rfl
        · exact hJ x hx'
        · exact ⟨by omega, by omega, by omega⟩
      · simp only [decide_eq_decide] at h11
        exact no hx (hxs fun hn => by have := hn.2.2; omega)
    · refine Br_if (fun h12 => ?_) (fun h12 => ?_) <;> (try simp (disch := first | omega | assumption | (simp only [O1, World.size_alloc, World.size_setCell, World.size_drew]; first | done | omega)) only [O1, D2, ↓H0, S0, ↓S1, ↓S2, ↓S3, ↓S4, S5, S5b, S5c, ↓S6, S6b, M0, E0, ty, tl, te, tc, i64_wrap, u64_wrap, iaV_sl, iaV_arr, faV_pa, nck_pa, heap_new, heap_old, heap_set, ↓reduceIte, Nat.reduceEqDiff, Nat.reduceLT, Nat.reduceAdd, Int.reduceLT, Int.reduceLE, decide_false, decide_true, dec_true, dec_false, true_and, and_true, true_imp_iff, Bool.not_true, Bool.not_false, Option.map_none, Int.reduceToNat, Int.toNat_zero, Int.toNat_one, lkV_false, lkV_true, f1, f23, f24, f25, f4, f56, f57, f58, hg, hq])
      · exact no hx (hp1 fun hn => by have := hn.2.2.2.2.1; omega)
      refine Br_if (fun h13 => ?_) (fun h13 => ?_) <;> (try simp (disch := first | omega | assumption | (simp only [O1, World.size_alloc, World.size_setCell, World.size_drew]; first | done | omega)) only [O1, D2, ↓H0, S0, ↓S1, ↓S2, ↓S3, ↓S4, S5, S5b, S5c, ↓S6, S6b, M0, E0, ty, tl, te, tc, i64_wrap, u64_wrap, iaV_sl, iaV_arr, faV_pa, nck_pa, heap_new, heap_old, heap_set, ↓reduceIte, Nat.reduceEqDiff, Nat.reduceLT, Nat.reduceAdd, Int.reduceLT, Int.reduceLE, decide_false, decide_true, dec_true, dec_false, true_and, and_true, true_imp_iff, Bool.not_true, Bool.not_false, Option.map_none, Int.reduceToNat, Int.toNat_zero, Int.toNat_one, lkV_false, lkV_true, f1, f23, f24, f25, f4, f56, f57, f58, hg, hq])
      · exact no hx (hp1 fun hn => by have := hn.2.2.2.2.2; omega)
      rw [List.take_of_length_le (by omega)] at hJ
      refine ⟨k - 1, by omega, i + 1, by omega, fun m hm hmi => ?_, hx, rfl⟩
      by_cases hmi' : m = i
      · subst hmi'; rw [hp]; exact ⟨by omega, by omega, hO, hJ, by omega, by omega⟩
      · exact hN m hm (by omega)
  · refine ⟨⟨true, rfl, ?_⟩, hx⟩
    exact ⟨fun _ => ⟨by omega, by omega, by omega, fun j hj => hN j hj (by omega)⟩, fun _ => rfl⟩
end Go.Proofs.Ytgioklmpnbnplaa
