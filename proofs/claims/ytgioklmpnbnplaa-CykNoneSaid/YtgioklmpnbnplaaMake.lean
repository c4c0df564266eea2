/- The walk of cyk.Make. Conditions: none. -/
import Derived.Test.YtgioklmpnbnplaaCkt
set_option linter.unusedSimpArgs false
set_option linter.unusedVariables false
set_option maxRecDepth 100000
namespace Go.Proofs.Ytgioklmpnbnplaa
open Go.V

set_option maxHeartbeats 8000000 in
theorem make_ok (v xv : Value) (g : CG) (x : List Int) (w : World) (hg : RepCG w v g) (hx : Ints w xv x) (hs : Small g) :
    Ok Try.prog 23 #[v, xv] w fun v w' => Ext w w' ∧ ((¬ (Norm g ∧ Wordy g x) ∧ v = .pointer none) ∨ (Norm g ∧ Wordy g x ∧ ∃ b, v = pa (some ⟨b, 0, none⟩) 0 ∧ ChartR w' b g x)) := by
  have hs1 := hs.1
  have hg0 := hg
  have hx0 := hx
  obtain ⟨pv, rfl, hp⟩ := hg
  have hp0 := hp
  obtain ⟨A, c, rfl, hc, hA⟩ := hx
  obtain ⟨B, d, rfl, hd, hB⟩ := hp
  (refine Ok.enter Try.func23 rfl (by kernel_rfl) (Nat.le_of_ble_eq_true rfl) ?_; simp only [Try.f23, S7])
  simp (disch := first | omega | assumption | (simp only [O1, World.size_alloc, World.size_setCell, World.size_drew]; first | done | omega)) only [O1, D2, ↓H0, S0, ↓S1, ↓S2, ↓S3, ↓S4, S5, S5b, S5c, ↓S6, S6b, M0, E0, ty, tl, te, tc, i64_wrap, u64_wrap, iaV_sl, iaV_arr, faV_pa, nck_pa, heap_new, heap_old, heap_set, ↓reduceIte, Nat.reduceEqDiff, Nat.reduceLT, Nat.reduceAdd, Int.reduceLT, Int.reduceLE, decide_false, decide_true, dec_true, dec_false, true_and, and_true, true_imp_iff, Bool.not_true, Bool.not_false, Option.map_none, Int.reduceToNat, Int.toNat_zero, Int.toNat_one, lkV_false, lkV_true, ldA5]
  have hW : Ext w (w.alloc (.cells #[.int .i64 g.start, .int .i64 g.count, .int .i64 g.terms, .bool g.empty, .slice B g.prods.length d] 28)) := (Ext.rfl' w).al _
  refine (right_ok _ _ g x _ (hg0.ext hW) (hx0.ext hW) hs).then ?_
  rintro _ W2 ⟨⟨r, rfl, hr⟩, hx2⟩
  have hw2 := hW.tr hx2
  have hb2 := hx2.hp (heap_new (w := w) (.cells #[.int .i64 g.start, .int .i64 g.count, .int .i64 g.terms, .bool g.empty, .slice B g.prods.length d] 28) rfl)
  cases r
  · simp (disch := first | omega | assumption | (simp only [O1, World.size_alloc, World.size_setCell, World.size_drew]; first | done | omega)) only [O1, D2, ↓H0, S0, ↓S1, ↓S2, ↓S3, ↓S4, S5, S5b, S5c, ↓S6, S6b, M0, E0, ty, tl, te, tc, i64_wrap, u64_wrap, iaV_sl, iaV_arr, faV_pa, nck_pa, heap_new, heap_old, heap_set, ↓reduceIte, Nat.reduceEqDiff, Nat.reduceLT, Nat.reduceAdd, Int.reduceLT, Int.reduceLE, decide_false, decide_true, dec_true, dec_false, true_and, and_true, true_imp_iff, Bool.not_true, Bool.not_false, Option.map_none, Int.reduceToNat, Int.toNat_zero, Int.toNat_one, lkV_false, lkV_true]
    exact ⟨hw2, .inl fun h => by have := hr.2 h; cases this⟩
  obtain ⟨hN, hwd⟩ := hr.1 rfl
  simp (disch := first | omega | assumption | (simp only [O1, World.size_alloc, World.size_setCell, World.size_drew]; first | done | omega)) only [O1, D2, ↓H0, S0, ↓S1, ↓S2, ↓S3, ↓S4, S5, S5b, S5c, ↓S6, S6b, M0, E0, ty, tl, te, tc, i64_wrap, u64_wrap, iaV_sl, iaV_arr, faV_pa, nck_pa, heap_new, heap_old, heap_set, ↓reduceIte, Nat.reduceEqDiff, Nat.reduceLT, Nat.reduceAdd, Int.reduceLT, Int.reduceLE, decide_false, decide_true, dec_true, dec_false, true_and, and_true, true_imp_iff, Bool.not_true, Bool.not_false, Option.map_none, Int.reduceToNat, Int.toNat_zero, Int.toNat_one, lkV_false, lkV_true]
  have hn := hwd.1
  obtain ⟨N, hNe⟩ : ∃ N, N = x.length * x.length := ⟨_, rfl⟩
  have hNi : (x.length : Int) * (x.length : Int) = (N : Int) := by rw [hNe, Int.natCast_mul]
  have hNb : N ≤ 4096 := by rw [hNe]; exact Nat.mul_le_mul (show x.length ≤ 64 by omega) (show x.length ≤ 64 by omega)
  have hz := lt_heap hb2
  refine Dr_plan [] (fun _ => true) [0, 1, 2, 3, 4, 5, 6, 7, 8, 9, 10, 11] mixed (by kernel_rfl) ?_
  simp (disch := first | omega | assumption | (simp only [O1, World.size_alloc, World.size_setCell, World.size_drew]; first | done | omega)) only [↓D1, ↓D3, ↓D4, List.not_mem_nil, not_false_eq_true, Bool.false_eq_true, false_imp_iff, upto, O1, D2, ↓H0, S0, ↓S1, ↓S2, ↓S3, ↓S4, S5, S5b, S5c, ↓S6, S6b, M0, E0, ty, tl, te, tc, i64_wrap, u64_wrap, iaV_sl, iaV_arr, faV_pa, nck_pa, heap_new, heap_old, heap_set, ↓reduceIte, Nat.reduceEqDiff, Nat.reduceLT, Nat.reduceAdd, Int.reduceLT, Int.reduceLE, decide_false, decide_true, dec_true, dec_false, true_and, and_true, true_imp_iff, Bool.not_true, Bool.not_false, Option.map_none, Int.reduceToNat, Int.toNat_zero, Int.toNat_one, lkV_false, lkV_true, hb2, ldA5, hNi]
  refine RunM_one sl109 rfl (by omega) (by omega) ?_
  simp (disch := first | omega | assumption | (simp only [O1, World.size_alloc, World.size_setCell, World.size_drew]; first | done | omega)) only [↓D1, ↓D3, ↓D4, List.not_mem_nil, not_false_eq_true, Bool.false_eq_true, false_imp_iff, upto, O1, D2, ↓H0, S0, ↓S1, ↓S2, ↓S3, ↓S4, S5, S5b, S5c, ↓S6, S6b, M0, E0, ty, tl, te, tc, i64_wrap, u64_wrap, iaV_sl, iaV_arr, faV_pa, nck_pa, heap_new, heap_old, heap_set, ↓reduceIte, Nat.reduceEqDiff, Nat.reduceLT, Nat.reduceAdd, Int.reduceLT, Int.reduceLE, decide_false, decide_true, dec_true, dec_false, true_and, and_true, true_imp_iff, Bool.not_true, Bool.not_false, Option.map_none, Int.reduceToNat, Int.toNat_zero, Int.toNat_one, lkV_false, lkV_true, bd111_0_1_2, hb2]
  obtain ⟨s0, hs0⟩ : ∃ s0, s0 = W2.heap.size := ⟨_, rfl⟩
  rw [← hs0]
  obtain ⟨ch, hch⟩ : ∃ ch, ch = Obj.cells #[.int .i64 g.start, .int .i64 g.count, .int .i64 g.terms, .bool g.empty, .slice B g.prods.length d, .int .i64 x.length, .slice (some ⟨s0, 0, none⟩) N N] 111 (0, 0) := ⟨_, rfl⟩
  rw [← hch]
  have hxa := (((Ext.rfl' W2).dr).al (.cells (List.replicate N (Value.map none)).toArray 117)).al ch
  have hxb := hxa.al (.map #[] 0)
  have hxc := hxb.al (.map #[] 0)
  refine ⟨fun k t W => ∃ (i : Nat) (o : Nat → Nat × Int), k + i = g.prods.length ∧ Ext w W ∧ s0 + 4 ≤ W.heap.size ∧ W.heap[s0 + 1]? = some ch ∧ W.heap[s0]? = some (.cells (List.replicate N (Value.map none)).toArray 117 (0, 0)) ∧
    RowsM 3 1 (s0 + 4) o 6 W (s0 + 1 + 1) (fun k => (F6 (g.prods.take i) k).map (Value.int .i64)) ∧ RowsM 116 2 (s0 + 4) o 7 W (s0 + 1 + 1 + 1) (fun k => flat2 (F7 (g.prods.take i) k)) ∧
    t 1 = .slice A x.length c ∧ t 5 = pa (some ⟨s0 + 1, 0, none⟩) 0 ∧ t 6 = .map (some (s0 + 1 + 1)) ∧ t 7 = .map (some (s0 + 1 + 1 + 1)) ∧ t 37 = .slice B g.prods.length d ∧ t 38 = .int .i64 g.prods.length ∧ t 39 = .int .i64 i,
    ⟨g.prods.length, 0, fun _ => (0, 0), by omega, hw2.tr hxc, by simp [hs0], ?_, ?_, ?_, ?_, ?_⟩, ?_⟩
  · rw [heap_old _ (by simp [hs0]), heap_old _ (by simp [hs0]), heap_new _ (by simp [hs0])]
  · rw [heap_old _ (by simp [hs0]; omega), heap_old _ (by simp [hs0]; omega), heap_old _ (by simp [hs0]), heap_new _ (by simp [hs0])]
  · have := RowsM.new 3 1 (s0 + 4) (fun _ => ((0 : Nat), (0 : Int))) 6 ((W2.drew.alloc (.cells (List.replicate N (Value.map none)).toArray 117)).alloc ch) (by simp [hs0])
    have e : ((W2.drew.alloc (.cells (List.replicate N (Value.map none)).toArray 117)).alloc ch).heap.size = s0 + 1 + 1 := by simp [hs0]
    rw [e] at this
    exact this.kept (row := none) (World.grownBy_alloc _ _ _) (fun g h => by cases h) (fun _ _ => rfl)
  · have := RowsM.new 116 2 (s0 + 4) (fun _ => ((0 : Nat), (0 : Int))) 7 (((W2.drew.alloc (.cells (List.replicate N (Value.map none)).toArray 117)).alloc ch).alloc (.map #[] 0)) (by simp [hs0])
    have e : (((W2.drew.alloc (.cells (List.replicate N (Value.map none)).toArray 117)).alloc ch).alloc (.map #[] 0)).heap.size = s0 + 1 + 1 + 1 := by simp [hs0]
    rw [e] at this
    exact this
  · simp (disch := first | omega | assumption | (simp only [O1, World.size_alloc, World.size_setCell, World.size_drew]; first | done | omega)) only [O1, D2, ↓H0, S0, ↓S1, ↓S2, ↓S3, ↓S4, S5, S5b, S5c, ↓S6, S6b, M0, E0, ty, tl, te, tc, i64_wrap, u64_wrap, iaV_sl, iaV_arr, faV_pa, nck_pa, heap_new, heap_old, heap_set, ↓reduceIte, Nat.reduceEqDiff, Nat.reduceLT, Nat.reduceAdd, Int.reduceLT, Int.reduceLE, decide_false, decide_true, dec_true, dec_false, true_and, and_true, true_imp_iff, Bool.not_true, Bool.not_false, Option.map_none, Int.reduceToNat, Int.toNat_zero, Int.toNat_one, lkV_false, lkV_true] <;> rfl
  clear hxa hxb hxc
  rintro k t W ⟨i, o, hki, hxW, hsW, hbW, hDW, h6, h7, f1, f5, f6, f7, f37, f38, f39⟩
  simp (disch := first | omega | assumption | (simp only [O1, World.size_alloc, World.size_setCell, World.size_drew]; first | done | omega)) only [O1, D2, ↓H0, S0, ↓S1, ↓S2, ↓S3, ↓S4, S5, S5b, S5c, ↓S6, S6b, M0, E0, ty, tl, te, tc, i64_wrap, u64_wrap, iaV_sl, iaV_arr, faV_pa, nck_pa, heap_new, heap_old, heap_set, ↓reduceIte, Nat.reduceEqDiff, Nat.reduceLT, Nat.reduceAdd, Int.reduceLT, Int.reduceLE, decide_false, decide_true, dec_true, dec_false, true_and, and_true, true_imp_iff, Bool.not_true, Bool.not_false, Option.map_none, Int.reduceToNat, Int.toNat_zero, Int.toNat_one, lkV_false, lkV_true, f1, f5, f6, f7, f37, f38, f39]
  refine Br_if (fun h3 => ?_) (fun h3' => ?_) <;> (try simp (disch := first | omega | assumption | (simp only [O1, World.size_alloc, World.size_setCell, World.size_drew]; first | done | omega)) only [O1, D2, ↓H0, S0, ↓S1, ↓S2, ↓S3, ↓S4, S5, S5b, S5c, ↓S6, S6b, M0, E0, ty, tl, te, tc, i64_wrap, u64_wrap, iaV_sl, iaV_arr, faV_pa, nck_pa, heap_new, heap_old, heap_set, ↓reduceIte, Nat.reduceEqDiff, Nat.reduceLT, Nat.reduceAdd, Int.reduceLT, Int.reduceLE, decide_false, decide_true, dec_true, dec_false, true_and, and_true, true_imp_iff, Bool.not_true, Bool.not_false, Option.map_none, Int.reduceToNat, Int.toNat_zero, Int.toNat_one, lkV_false, lkV_true, f1, f5, f6, f7, f37, f38, f39])
  · have hi : i < g.prods.length := by omega
    obtain ⟨hl, r, hr, hR⟩ := hB i hi
    obtain ⟨Q, q, rfl, hq, hQ⟩ := hR
    have hNp := hN.2.2.2 i hi
    have htk : g.prods.take (i + 1) = g.prods.take i ++ [g.prods[i]] := List.take_succ_eq_append_getElem hi
    have hpl : (g.prods.take i).length ≤ 1000000000 := by rw [List.length_take]; have := hs.1; omega
    have hl' := hxW.rd hl
    have hr' := hxW.rd hr
    have hAs := rd_isSome hl
    generalize hp : g.prods[i] = p at *
    simp (disch := first | omega | assumption | (simp only [O1, World.size_alloc, World.size_setCell, World.size_drew]; first | done | omega)) only [O1, D2, ↓H0, S0, ↓S1, ↓S2, ↓S3, ↓S4, S5, S5b, S5c, ↓S6, S6b, M0, E0, ty, tl, te, tc, i64_wrap, u64_wrap, iaV_sl, iaV_arr, faV_pa, nck_pa, heap_new, heap_old, heap_set, ↓reduceIte, Nat.reduceEqDiff, Nat.reduceLT, Nat.reduceAdd, Int.reduceLT, Int.reduceLE, decide_false, decide_true, dec_true, dec_false, true_and, and_true, true_imp_iff, Bool.not_true, Bool.not_false, Option.map_none, Int.reduceToNat, Int.toNat_zero, Int.toNat_one, lkV_false, lkV_true, f1, f5, f6, f7, f37, f38, f39, hl', hr', ldA2, st35]
    have hV0 : Ext W (W.alloc (.cells #[.int .i64 p.1, .slice Q p.2.length q] 35)) := (Ext.rfl' W).al _
    have hV : Ext W (W.alloc (.cells #[.int .i64 p.1, .slice Q p.2.length q] 35)).drew := hV0.dr
    refine Br_if (fun h4 => ?_) (fun h4' => ?_) <;> (try simp (disch := first | omega | assumption | (simp only [O1, World.size_alloc, World.size_setCell, World.size_drew]; first | done | omega)) only [O1, D2, ↓H0, S0, ↓S1, ↓S2, ↓S3, ↓S4, S5, S5b, S5c, ↓S6, S6b, M0, E0, ty, tl, te, tc, i64_wrap, u64_wrap, iaV_sl, iaV_arr, faV_pa, nck_pa, heap_new, heap_old, heap_set, ↓reduceIte, Nat.reduceEqDiff, Nat.reduceLT, Nat.reduceAdd, Int.reduceLT, Int.reduceLE, decide_false, decide_true, dec_true, dec_false, true_and, and_true, true_imp_iff, Bool.not_true, Bool.not_false, Option.map_none, Int.reduceToNat, Int.toNat_zero, Int.toNat_one, lkV_false, lkV_true, f1, f5, f6, f7, f37, f38, f39])
    · have h1p : p.2.length = 1 := by omega
      obtain ⟨s, hps⟩ : ∃ s, p.2 = [s] := List.length_eq_one_iff.1 h1p
      have hsb := hNp.2.2.2.1 s (by rw [hps]; exact List.mem_singleton.2 rfl)
      have hq0 := (hxW.tr hV).rd (hQ 0 (by omega))
      have hqs := rd_isSome hq0
      have e0 : p.2[0]'(by omega) = s := by simp [hps]
      rw [e0] at hq0
      have ht3 := hs.2.2
      obtain ⟨f, v, n, hmf, hv, hown, howner, hback⟩ := h6.at (-1 - s)
      have hmfV := hmf.ext hV
      have hlk := lkO_int mp112 kInt hmfV
      obtain ⟨M, hM⟩ : ∃ M, M = v.ownBlock.toList := ⟨_, rfl⟩
      have hM0 : ∀ b, b ∈ M → s0 + 4 ≤ b ∧ b < W.heap.size := by
        intro b hb
        rw [hM, Option.mem_toList] at hb
        exact hown.lt b hb
      have hM1 : W.heap.size ∉ M := fun h => by have := hM0 _ h; omega
      have hM2 : s0 + 1 + 1 ∉ M := fun h => by have := hM0 _ h; omega
      have hwsz := hxW.size
      have hM3 : NotIn M (pa Q 0) := NotIn_rd (hQ 0 (by omega)) fun b hb h => by have := hM0 _ h; omega
      have hwr : IntKind.i64.wrap (-1 - s) = -1 - s := i64_wrap (by omega) (by omega)
      refine Dr_plan M (upto 17) [0, 1, 2, 3, 4, 5, 6, 7, 8, 9, 10, 11, 12, 13, 14, 15, 16, 17] mixed (by kernel_rfl) ?_
      simp (disch := first | omega | assumption | (simp only [O1, World.size_alloc, World.size_setCell, World.size_drew]; first | done | omega)) only [↓D1, ↓D3, ↓D4, List.not_mem_nil, not_false_eq_true, Bool.false_eq_true, false_imp_iff, upto, O1, D2, ↓H0, S0, ↓S1, ↓S2, ↓S3, ↓S4, S5, S5b, S5c, ↓S6, S6b, M0, E0, ty, tl, te, tc, i64_wrap, u64_wrap, iaV_sl, iaV_arr, faV_pa, nck_pa, heap_new, heap_old, heap_set, ↓reduceIte, Nat.reduceEqDiff, Nat.reduceLT, Nat.reduceAdd, Int.reduceLT, Int.reduceLE, decide_false, decide_true, dec_true, dec_false, true_and, and_true, true_imp_iff, Bool.not_true, Bool.not_false, Option.map_none, Int.reduceToNat, Int.toNat_zero, Int.toNat_one, lkV_false, lkV_true, f1, f5, f6, f7, f37, f38, f39, hq0, hM1, hM2, hM3, hlk, hv, hwr, bsl1 sl23]
      obtain ⟨V, hVe⟩ : ∃ V, V = (W.alloc (.cells #[.int .i64 p.1, .slice Q p.2.length q] 35)).drew := ⟨_, rfl⟩
      rw [← hVe] at hV hmfV hlk ⊢
      have hVs : V.heap.size = W.heap.size + 1 := by rw [hVe]; simp
      rw [← hVs]
      have hn1 := hown.1
      have hFl := F6_len (g.prods.take i) (-1 - s)
      simp only [List.length_map, Nat.mul_one] at hn1
      refine RunA_lit sl23 (hown.kept (grown_none hV none) (by cases v.ownBlock <;> simp)) rfl (by simp [Value.oneCell']) (by omega) (by omega) (by omega) ?_
      intro v' W1 ho1 hg1 hv1
      have hg0 : W.grownBy W1 v.ownBlock := ((grown_none hV _).trans (World.grownBy_alloc V _ _)).trans hg1
      have hKp : Keep M (V.alloc (.cells #[.int .i64 p.1] 3)) W1 := Keep.of_grown hg1 fun g hg => by rw [hM, Option.mem_toList]; exact hg
      have hmf1 := hmf.hp (hg0.block _ hmf.lt fun e => by have := (howner _ e.symm).1; omega)
      simp (disch := first | omega | assumption | (simp only [O1, World.size_alloc, World.size_setCell, World.size_drew]; first | done | omega)) only [↓D1, ↓D3, ↓D4, List.not_mem_nil, not_false_eq_true, Bool.false_eq_true, false_imp_iff, upto, O1, D2, ↓H0, S0, ↓S1, ↓S2, ↓S3, ↓S4, S5, S5b, S5c, ↓S6, S6b, M0, E0, ty, tl, te, tc, i64_wrap, u64_wrap, iaV_sl, iaV_arr, faV_pa, nck_pa, heap_new, heap_old, heap_set, ↓reduceIte, Nat.reduceEqDiff, Nat.reduceLT, Nat.reduceAdd, Int.reduceLT, Int.reduceLE, decide_false, decide_true, dec_true, dec_false, true_and, and_true, true_imp_iff, Bool.not_true, Bool.not_false, Option.map_none, Int.reduceToNat, Int.toNat_zero, Int.toNat_one, lkV_false, lkV_true, f1, f5, f6, f7, f37, f38, f39, hKp]
      refine RunU_map mp112 kInt hmf1 (-1 - s) v' ?_
      intro W3 hm3 hg3 hs3
      simp (disch := first | omega | assumption | (simp only [O1, World.size_alloc, World.size_setCell, World.size_drew]; first | done | omega)) only [↓D1, ↓D3, ↓D4, List.not_mem_nil, not_false_eq_true, Bool.false_eq_true, false_imp_iff, upto, O1, D2, ↓H0, S0, ↓S1, ↓S2, ↓S3, ↓S4, S5, S5b, S5c, ↓S6, S6b, M0, E0, ty, tl, te, tc, i64_wrap, u64_wrap, iaV_sl, iaV_arr, faV_pa, nck_pa, heap_new, heap_old, heap_set, ↓reduceIte, Nat.reduceEqDiff, Nat.reduceLT, Nat.reduceAdd, Int.reduceLT, Int.reduceLE, decide_false, decide_true, dec_true, dec_false, true_and, and_true, true_imp_iff, Bool.not_true, Bool.not_false, Option.map_none, Int.reduceToNat, Int.toNat_zero, Int.toNat_one, lkV_false, lkV_true, f1, f5, f6, f7, f37, f38, f39]
      have hr1 : ∀ g, v.ownBlock = some g → s0 + 4 ≤ g := fun g hg => (howner g hg).1
      have hxW3 : Ext w W3 := (hxW.grown' hg0 fun k hk => by have := hr1 k hk; omega).grown' hg3 fun k hk => by cases hk; omega
      have hW1s := hg0.size
      have keepB : ∀ b, b < W.heap.size → b < s0 + 1 + 1 → W3.heap[b]? = W.heap[b]? := fun b hb hb' =>
        (hg3.block b (by omega) (by simp; omega)).trans (hg0.block b hb fun e => by have := hr1 b e.symm; omega)
      have hv2 : v'.ownBlock = v.ownBlock ∨ ∃ b, v'.ownBlock = some b ∧ W.heap.size ≤ b := hv1.imp id fun ⟨b, h, h'⟩ => ⟨b, h, by omega⟩
      have h6' := hback W1 W3 v' _ _ hg0 hv2 ho1 hm3 hg3
      have h7a := h7.kept (o' := fun g => if g < W.heap.size then o g else (6, -1 - s)) hg0 (fun g hg => .inr ⟨hr1 g hg, by rw [(howner g hg).2]; simp⟩) (fun g hg => if_pos hg)
      have h7b := h7a.kept (o' := fun g => if g < W.heap.size then o g else (6, -1 - s)) hg3 (fun g hg => .inl (by cases hg; omega)) (fun _ _ => rfl)
      refine ⟨k - 1, by omega, i + 1, fun g => if g < W.heap.size then o g else (6, -1 - s), by omega, hxW3, by omega, (keepB _ (by omega) (by omega)).trans hbW, (keepB _ (by omega) (by omega)).trans hDW, ?_, ?_, rfl⟩
      · have e : (fun k' => if k' = -1 - s then (F6 (g.prods.take i) (-1 - s)).map (Value.int .i64) ++ (#[Value.int .i64 p.1] : Array Value).toList else (F6 (g.prods.take i) k').map (Value.int .i64)) = fun k' => (F6 (g.prods.take (i + 1)) k').map (Value.int .i64) := by
          funext k'
          rw [htk, F6_snoc]
          have h1 : one p = true := by simp [one, h1p]
          by_cases hk' : k' = -1 - s
          · rw [if_pos hk', if_pos ⟨h1, by rw [hps, hk']; rfl⟩, hk']; simp
          · rw [if_neg hk', if_neg fun h => hk' (by rw [← h.2, hps]; rfl)]
        rw [e] at h6'; exact h6'
      · have e : (fun k' => flat2 (F7 (g.prods.take i) k')) = fun k' => flat2 (F7 (g.prods.take (i + 1)) k') := by
          funext k'
          rw [htk, F7_snoc, if_neg]
          simp [one, h1p]
        rw [e] at h7b; exact h7b
    · have h2p : p.2.length = 2 := by have h1 := hNp.2.2.2.2.1; have h2 := hNp.2.2.2.2.2; omega
      obtain ⟨s, u, hps⟩ : ∃ s u, p.2 = [s, u] := by
        match hm : p.2, h2p with
        | [s, u], _ => exact ⟨s, u, rfl⟩
      have hq0 := (hxW.tr hV).rd (hQ 0 (by omega))
      have hq1 := (hxW.tr hV).rd (hQ 1 (by omega))
      have hqs := rd_isSome hq0
      have e0 : p.2[0]'(by omega) = s := by simp [hps]
      have e1 : p.2[1]'(by omega) = u := by simp [hps]
      rw [e0] at hq0
      rw [e1] at hq1
      obtain ⟨f, v, n, hmf, hv, hown, howner, hback⟩ := h7.at s
      have hmfV := hmf.ext hV
      have hlk := lkO_int mp113 kInt hmfV
      obtain ⟨M, hM⟩ : ∃ M, M = v.ownBlock.toList := ⟨_, rfl⟩
      have hM0 : ∀ b, b ∈ M → s0 + 4 ≤ b ∧ b < W.heap.size := by
        intro b hb
        rw [hM, Option.mem_toList] at hb
        exact hown.lt b hb
      have hM1 : W.heap.size ∉ M := fun h => by have := hM0 _ h; omega
      have hM2 : s0 + 1 + 1 + 1 ∉ M := fun h => by have := hM0 _ h; omega
      have hwsz := hxW.size
      have hM3 : NotIn M (pa Q 0) := NotIn_rd (hQ 0 (by omega)) fun b hb h => by have := hM0 _ h; omega
      have hM4 : NotIn M (pa Q 1) := NotIn_rd (hQ 0 (by omega)) fun b hb h => by have := hM0 _ h; omega
      refine Dr_plan M (upto 20) [0, 1, 2, 3, 4, 5, 6, 7, 8, 9, 10, 11, 12, 13, 14, 15, 16, 17, 18, 19, 20] mixed (by kernel_rfl) ?_
      simp (disch := first | omega | assumption | (simp only [O1, World.size_alloc, World.size_setCell, World.size_drew]; first | done | omega)) only [↓D1, ↓D3, ↓D4, List.not_mem_nil, not_false_eq_true, Bool.false_eq_true, false_imp_iff, upto, O1, D2, ↓H0, S0, ↓S1, ↓S2, ↓S3, ↓S4, S5, S5b, S5c, ↓S6, S6b, M0, E0, ty, tl, te, tc, i64_wrap, u64_wrap, iaV_sl, iaV_arr, faV_pa, nck_pa, heap_new, heap_old, heap_set, ↓reduceIte, Nat.reduceEqDiff, Nat.reduceLT, Nat.reduceAdd, Int.reduceLT, Int.reduceLE, decide_false, decide_true, dec_true, dec_false, true_and, and_true, true_imp_iff, Bool.not_true, Bool.not_false, Option.map_none, Int.reduceToNat, Int.toNat_zero, Int.toNat_one, lkV_false, lkV_true, f1, f5, f6, f7, f37, f38, f39, hq0, hq1, hM1, hM2, hM3, hM4, hlk, hv, bd116_0_1, bsl1_2 sl114]
      obtain ⟨V, hVe⟩ : ∃ V, V = (W.alloc (.cells #[.int .i64 p.1, .slice Q p.2.length q] 35)).drew := ⟨_, rfl⟩
      rw [← hVe] at hV hmfV hlk ⊢
      have hVs : V.heap.size = W.heap.size + 1 := by rw [hVe]; simp
      rw [← hVs]
      have hn1 := hown.1
      have hFl := F7_len (g.prods.take i) s
      rw [flat2_length] at hn1
      refine RunA_lit sl114 (hown.kept (grown_none hV none) (by cases v.ownBlock <;> simp)) rfl (by simp [Value.oneCell']) (by omega) (by omega) (by omega) ?_
      intro v' W1 ho1 hg1 hv1
      have hg0 : W.grownBy W1 v.ownBlock := ((grown_none hV _).trans (World.grownBy_alloc V _ _)).trans hg1
      have hKp : Keep M (V.alloc (.cells #[.int .i64 p.1, .int .i64 u] 116)) W1 := Keep.of_grown hg1 fun g hg => by rw [hM, Option.mem_toList]; exact hg
      have hmf1 := hmf.hp (hg0.block _ hmf.lt fun e => by have := (howner _ e.symm).1; omega)
      simp (disch := first | omega | assumption | (simp only [O1, World.size_alloc, World.size_setCell, World.size_drew]; first | done | omega)) only [↓D1, ↓D3, ↓D4, List.not_mem_nil, not_false_eq_true, Bool.false_eq_true, false_imp_iff, upto, O1, D2, ↓H0, S0, ↓S1, ↓S2, ↓S3, ↓S4, S5, S5b, S5c, ↓S6, S6b, M0, E0, ty, tl, te, tc, i64_wrap, u64_wrap, iaV_sl, iaV_arr, faV_pa, nck_pa, heap_new, heap_old, heap_set, ↓reduceIte, Nat.reduceEqDiff, Nat.reduceLT, Nat.reduceAdd, Int.reduceLT, Int.reduceLE, decide_false, decide_true, dec_true, dec_false, true_and, and_true, true_imp_iff, Bool.not_true, Bool.not_false, Option.map_none, Int.reduceToNat, Int.toNat_zero, Int.toNat_one, lkV_false, lkV_true, f1, f5, f6, f7, f37, f38, f39, hKp]
      refine RunU_map mp113 kInt hmf1 s v' ?_
      intro W3 hm3 hg3 hs3
      simp (disch := first | omega | assumption | (simp only [O1, World.size_alloc, World.size_setCell, World.size_drew]; first | done | omega)) only [↓D1, ↓D3, ↓D4, List.not_mem_nil, not_false_eq_true, Bool.false_eq_true, false_imp_iff, upto, O1, D2, ↓H0, S0, ↓S1, ↓S2, ↓S3, ↓S4, S5, S5b, S5c, ↓S6, S6b, M0, E0, ty, tl, te, tc, i64_wrap, u64_wrap, iaV_sl, iaV_arr, faV_pa, nck_pa, heap_new, heap_old, heap_set, ↓reduceIte, Nat.reduceEqDiff, Nat.reduceLT, Nat.reduceAdd, Int.reduceLT, Int.reduceLE, decide_false, decide_true, dec_true, dec_false, true_and, and_true, true_imp_iff, Bool.not_true, Bool.not_false, Option.map_none, Int.reduceToNat, Int.toNat_zero, Int.toNat_one, lkV_false, lkV_true, f1, f5, f6, f7, f37, f38, f39]
      have hr1 : ∀ g, v.ownBlock = some g → s0 + 4 ≤ g := fun g hg => (howner g hg).1
      have hxW3 : Ext w W3 := (hxW.grown' hg0 fun k hk => by have := hr1 k hk; omega).grown' hg3 fun k hk => by cases hk; omega
      have hW1s := hg0.size
      have keepB : ∀ b, b < W.heap.size → b < s0 + 1 + 1 → W3.heap[b]? = W.heap[b]? := fun b hb hb' =>
        (hg3.block b (by omega) (by simp; omega)).trans (hg0.block b hb fun e => by have := hr1 b e.symm; omega)
      have hv2 : v'.ownBlock = v.ownBlock ∨ ∃ b, v'.ownBlock = some b ∧ W.heap.size ≤ b := hv1.imp id fun ⟨b, h, h'⟩ => ⟨b, h, by omega⟩
      have h7' := hback W1 W3 v' _ _ hg0 hv2 ho1 hm3 hg3
      have h6a := h6.kept (o' := fun g => if g < W.heap.size then o g else (7, s)) hg0 (fun g hg => .inr ⟨hr1 g hg, by rw [(howner g hg).2]; simp⟩) (fun g hg => if_pos hg)
      have h6b := h6a.kept (o' := fun g => if g < W.heap.size then o g else (7, s)) hg3 (fun g hg => .inl (by cases hg; omega)) (fun _ _ => rfl)
      have h1 : one p = false := by simp [one, h2p]
      refine ⟨k - 1, by omega, i + 1, fun g => if g < W.heap.size then o g else (7, s), by omega, hxW3, by omega, (keepB _ (by omega) (by omega)).trans hbW, (keepB _ (by omega) (by omega)).trans hDW, ?_, ?_, rfl⟩
      · have e : (fun k' => (F6 (g.prods.take i) k').map (Value.int .i64)) = fun k' => (F6 (g.prods.take (i + 1)) k').map (Value.int .i64) := by
          funext k'
          rw [htk, F6_snoc, if_neg]
          simp [h1]
        rw [e] at h6b; exact h6b
      · have e : (fun k' => if k' = s then flat2 (F7 (g.prods.take i) s) ++ (#[Value.int .i64 p.1, Value.int .i64 u] : Array Value).toList else flat2 (F7 (g.prods.take i) k')) = fun k' => flat2 (F7 (g.prods.take (i + 1)) k') := by
          funext k'
          rw [htk, F7_snoc]
          by_cases hk' : k' = s
          · rw [if_pos hk', if_pos ⟨h1, by rw [hps, hk']; rfl⟩, hk', hps]; simp [flat2]
          · rw [if_neg hk', if_neg fun h => hk' (by rw [← h.2, hps]; rfl)]
        rw [e] at h7'; exact h7'
  · have hik : i = g.prods.length := by omega
    subst hik
    rw [List.take_length] at h6 h7
    clear f37 f38 f39 hki
    refine ⟨fun k t U => ∃ (i : Nat) (cs : Array Value), k + i = x.length ∧ Ext w U ∧ s0 + 4 ≤ U.heap.size ∧ U.heap[s0 + 1]? = some ch ∧ U.heap[s0]? = some (.cells cs 117 (0, 0)) ∧ cs.size = N ∧ Cells U g x cs (fun a b => b = a + 1 ∧ a < i) ∧
      RowsM 3 1 (s0 + 4) o 6 U (s0 + 1 + 1) (fun k => (F6 g.prods k).map (Value.int .i64)) ∧ RowsM 116 2 (s0 + 4) o 7 U (s0 + 1 + 1 + 1) (fun k => flat2 (F7 g.prods k)) ∧
      t 5 = pa (some ⟨s0 + 1, 0, none⟩) 0 ∧ t 6 = .map (some (s0 + 1 + 1)) ∧ t 7 = .map (some (s0 + 1 + 1 + 1)) ∧ t 85 = .slice A x.length c ∧ t 86 = .int .i64 x.length ∧ t 87 = .int .i64 i,
      ⟨x.length, 0, _, by omega, hxW, hsW, hbW, hDW, by simp, fun a b _ _ h => by omega, h6, h7, ?_⟩, ?_⟩
    · simp (disch := first | omega | assumption | (simp only [O1, World.size_alloc, World.size_setCell, World.size_drew]; first | done | omega)) only [O1, D2, ↓H0, S0, ↓S1, ↓S2, ↓S3, ↓S4, S5, S5b, S5c, ↓S6, S6b, M0, E0, ty, tl, te, tc, i64_wrap, u64_wrap, iaV_sl, iaV_arr, faV_pa, nck_pa, heap_new, heap_old, heap_set, ↓reduceIte, Nat.reduceEqDiff, Nat.reduceLT, Nat.reduceAdd, Int.reduceLT, Int.reduceLE, decide_false, decide_true, dec_true, dec_false, true_and, and_true, true_imp_iff, Bool.not_true, Bool.not_false, Option.map_none, Int.reduceToNat, Int.toNat_zero, Int.toNat_one, lkV_false, lkV_true, f5, f6, f7] <;> rfl
    clear hxW hsW hbW hDW h6 h7 f1 f5 f6 f7
    rintro k t U ⟨i, cs, hki, hxU, hsU, hbU, hDU, hcs, hCl, h6, h7, f5, f6, f7, f85, f86, f87⟩
    simp (disch := first | omega | assumption | (simp only [O1, World.size_alloc, World.size_setCell, World.size_drew]; first | done | omega)) only [O1, D2, ↓H0, S0, ↓S1, ↓S2, ↓S3, ↓S4, S5, S5b, S5c, ↓S6, S6b, M0, E0, ty, tl, te, tc, i64_wrap, u64_wrap, iaV_sl, iaV_arr, faV_pa, nck_pa, heap_new, heap_old, heap_set, ↓reduceIte, Nat.reduceEqDiff, Nat.reduceLT, Nat.reduceAdd, Int.reduceLT, Int.reduceLE, decide_false, decide_true, dec_true, dec_false, true_and, and_true, true_imp_iff, Bool.not_true, Bool.not_false, Option.map_none, Int.reduceToNat, Int.toNat_zero, Int.toNat_one, lkV_false, lkV_true, f5, f6, f7, f85, f86, f87]
    refine Br_if (fun h5 => ?_) (fun h5' => ?_) <;> (try simp (disch := first | omega | assumption | (simp only [O1, World.size_alloc, World.size_setCell, World.size_drew]; first | done | omega)) only [O1, D2, ↓H0, S0, ↓S1, ↓S2, ↓S3, ↓S4, S5, S5b, S5c, ↓S6, S6b, M0, E0, ty, tl, te, tc, i64_wrap, u64_wrap, iaV_sl, iaV_arr, faV_pa, nck_pa, heap_new, heap_old, heap_set, ↓reduceIte, Nat.reduceEqDiff, Nat.reduceLT, Nat.reduceAdd, Int.reduceLT, Int.reduceLE, decide_false, decide_true, dec_true, dec_false, true_and, and_true, true_imp_iff, Bool.not_true, Bool.not_false, Option.map_none, Int.reduceToNat, Int.toNat_zero, Int.toNat_one, lkV_false, lkV_true, f5, f6, f7, f85, f86, f87])
    · have hi : i < x.length := by omega
      have hs1 := hxU.rd (hA i hi)
      have hAs := rd_isSome hs1
      generalize hxi : x[i] = s at *
      obtain ⟨f, v, n, hmf, hv, hown, howner, hback⟩ := h6.at s
      have hmfV := hmf.ext ((Ext.rfl' U).al (.map #[] 0))
      have hlk := lkO_int mp112 kInt hmfV
      have hn1 := hown.1
      simp only [List.length_map, Nat.mul_one] at hn1
      rw [← hn1] at hown
      obtain ⟨Q, q, rfl, hq, hQ⟩ := own_sq hown
      simp (disch := first | omega | assumption | (simp only [O1, World.size_alloc, World.size_setCell, World.size_drew]; first | done | omega)) only [O1, D2, ↓H0, S0, ↓S1, ↓S2, ↓S3, ↓S4, S5, S5b, S5c, ↓S6, S6b, M0, E0, ty, tl, te, tc, i64_wrap, u64_wrap, iaV_sl, iaV_arr, faV_pa, nck_pa, heap_new, heap_old, heap_set, ↓reduceIte, Nat.reduceEqDiff, Nat.reduceLT, Nat.reduceAdd, Int.reduceLT, Int.reduceLE, decide_false, decide_true, dec_true, dec_false, true_and, and_true, true_imp_iff, Bool.not_true, Bool.not_false, Option.map_none, Int.reduceToNat, Int.toNat_zero, Int.toNat_one, lkV_false, lkV_true, f5, f6, f7, f85, f86, f87, hs1, hlk, hv]
      refine ⟨fun k2 t V => ∃ m : Nat, k2 + m = (F6 g.prods s).length ∧ Ext U V ∧ V.heap.size > U.heap.size ∧ MapI V U.heap.size (fun A => if A ∈ (F6 g.prods s).take m then some (.int .i64 1) else none) ∧
        t 5 = pa (some ⟨s0 + 1, 0, none⟩) 0 ∧ t 6 = .map (some (s0 + 1 + 1)) ∧ t 7 = .map (some (s0 + 1 + 1 + 1)) ∧ t 85 = .slice A x.length c ∧ t 86 = .int .i64 x.length ∧ t 87 = .int .i64 i ∧
        t 10 = .int .i64 i ∧ t 12 = .map (some U.heap.size) ∧ t 95 = .slice Q (F6 g.prods s).length q ∧ t 96 = .int .i64 (F6 g.prods s).length ∧ t 97 = .int .i64 m,
        ⟨(F6 g.prods s).length, 0, by omega, (Ext.rfl' U).al _, by simp, ?_, ?_⟩, ?_⟩
      · simpa using MapF.new (fun n : Int => Value.int .i64 n) U
      · simp (disch := first | omega | assumption | (simp only [O1, World.size_alloc, World.size_setCell, World.size_drew]; first | done | omega)) only [O1, D2, ↓H0, S0, ↓S1, ↓S2, ↓S3, ↓S4, S5, S5b, S5c, ↓S6, S6b, M0, E0, ty, tl, te, tc, i64_wrap, u64_wrap, iaV_sl, iaV_arr, faV_pa, nck_pa, heap_new, heap_old, heap_set, ↓reduceIte, Nat.reduceEqDiff, Nat.reduceLT, Nat.reduceAdd, Int.reduceLT, Int.reduceLE, decide_false, decide_true, dec_true, dec_false, true_and, and_true, true_imp_iff, Bool.not_true, Bool.not_false, Option.map_none, Int.reduceToNat, Int.toNat_zero, Int.toNat_one, lkV_false, lkV_true, f5, f6, f7, f85, f86, f87] <;> rfl
      clear f5 f6 f7 f85 f86 f87 hlk hmfV
      have hFl := F6_len g.prods s
      rintro k2 t V ⟨m, hkm, hxV, hVs, hm8, f5, f6, f7, f85, f86, f87, f10, f12, f95, f96, f97⟩
      simp (disch := first | omega | assumption | (simp only [O1, World.size_alloc, World.size_setCell, World.size_drew]; first | done | omega)) only [O1, D2, ↓H0, S0, ↓S1, ↓S2, ↓S3, ↓S4, S5, S5b, S5c, ↓S6, S6b, M0, E0, ty, tl, te, tc, i64_wrap, u64_wrap, iaV_sl, iaV_arr, faV_pa, nck_pa, heap_new, heap_old, heap_set, ↓reduceIte, Nat.reduceEqDiff, Nat.reduceLT, Nat.reduceAdd, Int.reduceLT, Int.reduceLE, decide_false, decide_true, dec_true, dec_false, true_and, and_true, true_imp_iff, Bool.not_true, Bool.not_false, Option.map_none, Int.reduceToNat, Int.toNat_zero, Int.toNat_one, lkV_false, lkV_true, f5, f6, f7, f85, f86, f87, f10, f12, f95, f96, f97]
      refine Br_if (fun h6 => ?_) (fun h6' => ?_) <;> (try simp (disch := first | omega | assumption | (simp only [O1, World.size_alloc, World.size_setCell, World.size_drew]; first | done | omega)) only [O1, D2, ↓H0, S0, ↓S1, ↓S2, ↓S3, ↓S4, S5, S5b, S5c, ↓S6, S6b, M0, E0, ty, tl, te, tc, i64_wrap, u64_wrap, iaV_sl, iaV_arr, faV_pa, nck_pa, heap_new, heap_old, heap_set, ↓reduceIte, Nat.reduceEqDiff, Nat.reduceLT, Nat.reduceAdd, Int.reduceLT, Int.reduceLE, decide_false, decide_true, dec_true, dec_false, true_and, and_true, true_imp_iff, Bool.not_true, Bool.not_false, Option.map_none, Int.reduceToNat, Int.toNat_zero, Int.toNat_one, lkV_false, lkV_true, f5, f6, f7, f85, f86, f87, f10, f12, f95, f96, f97])
      · have hm : m < (F6 g.prods s).length := by omega
        have hq1 := hxV.rd (hQ m hm)
        have hQs := rd_isSome hq1
        simp (disch := first | omega | assumption | (simp only [O1, World.size_alloc, World.size_setCell, World.size_drew]; first | done | omega)) only [O1, D2, ↓H0, S0, ↓S1, ↓S2, ↓S3, ↓S4, S5, S5b, S5c, ↓S6, S6b, M0, E0, ty, tl, te, tc, i64_wrap, u64_wrap, iaV_sl, iaV_arr, faV_pa, nck_pa, heap_new, heap_old, heap_set, ↓reduceIte, Nat.reduceEqDiff, Nat.reduceLT, Nat.reduceAdd, Int.reduceLT, Int.reduceLE, decide_false, decide_true, dec_true, dec_false, true_and, and_true, true_imp_iff, Bool.not_true, Bool.not_false, Option.map_none, Int.reduceToNat, Int.toNat_zero, Int.toNat_one, lkV_false, lkV_true, f5, f6, f7, f85, f86, f87, f10, f12, f95, f96, f97, hq1]
        refine RunU_map mp117 kInt hm8 _ _ ?_
        intro V2 hm9 hg9 hs9
        simp (disch := first | omega | assumption | (simp only [O1, World.size_alloc, World.size_setCell, World.size_drew]; first | done | omega)) only [O1, D2, ↓H0, S0, ↓S1, ↓S2, ↓S3, ↓S4, S5, S5b, S5c, ↓S6, S6b, M0, E0, ty, tl, te, tc, i64_wrap, u64_wrap, iaV_sl, iaV_arr, faV_pa, nck_pa, heap_new, heap_old, heap_set, ↓reduceIte, Nat.reduceEqDiff, Nat.reduceLT, Nat.reduceAdd, Int.reduceLT, Int.reduceLE, decide_false, decide_true, dec_true, dec_false, true_and, and_true, true_imp_iff, Bool.not_true, Bool.not_false, Option.map_none, Int.reduceToNat, Int.toNat_zero, Int.toNat_one, lkV_false, lkV_true, f5, f6, f7, f85, f86, f87, f10, f12, f95, f96, f97]
        refine ⟨k2 - 1, by omega, m + 1, by omega, hxV.grown' hg9 (fun k hk => by cases hk; omega), by omega, ?_, rfl⟩
        have e : (fun k' => if k' = (F6 g.prods s)[m] then some (Value.int .i64 1) else if k' ∈ (F6 g.prods s).take m then some (.int .i64 1) else none) = fun A => if A ∈ (F6 g.prods s).take (m + 1) then some (.int .i64 1) else none := by
          funext A
          rw [List.take_succ_eq_append_getElem hm]
          simp only [List.mem_append, List.mem_singleton]
          by_cases h1 : A = (F6 g.prods s)[m]
          · rw [if_pos h1, if_pos (.inr h1)]
          · rw [if_neg h1]
            by_cases h2 : A ∈ (F6 g.prods s).take m
            · rw [if_pos h2, if_pos (.inl h2)]
            · rw [if_neg h2, if_neg (fun h => h.elim h2 h1)]
        rw [e] at hm9; exact hm9
      · rw [List.take_of_length_le (by omega)] at hm8
        have hbV := hxV.hp hbU
        have hDV := hxV.hp hDU
        rw [hch] at hbV
        refine (at_pos (s0 + 1) x.length _ _ _ _ _ _ _ i (i + 1) V hbV hn (by omega) (by omega)).then ?_; rintro _ V ⟨rfl, rfl⟩
        have hi1 := ixN_lt (n := x.length) (i := i) (j := i + 1) (by omega) (by omega)
        rw [← hNe] at hi1
        have hst := sto_own (P := Try.prog) (T := 117) (w := V) (g := s0) (o := 0) (k := ixN x.length i (i + 1)) (x := .map (some U.heap.size)) (by simp only [ty]) hDV (by omega) rfl
        simp (disch := first | omega | assumption | (simp only [O1, World.size_alloc, World.size_setCell, World.size_drew]; first | done | omega)) only [O1, D2, ↓H0, S0, ↓S1, ↓S2, ↓S3, ↓S4, S5, S5b, S5c, ↓S6, S6b, M0, E0, ty, tl, te, tc, i64_wrap, u64_wrap, iaV_sl, iaV_arr, faV_pa, nck_pa, heap_new, heap_old, heap_set, ↓reduceIte, Nat.reduceEqDiff, Nat.reduceLT, Nat.reduceAdd, Int.reduceLT, Int.reduceLE, decide_false, decide_true, dec_true, dec_false, true_and, and_true, true_imp_iff, Bool.not_true, Bool.not_false, Option.map_none, Int.reduceToNat, Int.toNat_zero, Int.toNat_one, lkV_false, lkV_true, f5, f6, f7, f85, f86, f87, f10, f12, f95, f96, f97, hbV, hst]
        have hDl := lt_heap hDU
        have hwsz := hxU.size
        have hgU : U.grownBy (V.setCell ⟨s0, ixN x.length i (i + 1), none⟩ (.map (some U.heap.size))) (some s0) :=
          ⟨hxV.os, hxV.tape, hxV.output, by simpa using hxV.size, fun b hb hne => by rw [heap_set _ (by rintro rfl; exact hne rfl)]; exact hxV.block b hb⟩
        have hm9 : MapI (V.setCell ⟨s0, ixN x.length i (i + 1), none⟩ (.map (some U.heap.size))) U.heap.size (fun A => encN (cnt g x i (i + 1) A)) := by
          have e : (fun A => encN (cnt g x i (i + 1) A)) = fun A => if A ∈ F6 g.prods s then some (Value.int .i64 1) else none := by
            funext A
            rw [cnt, tab_one, un, show x.getD i 0 = s by simp [List.getD_eq_getElem?_getD, List.getElem?_eq_getElem hi, hxi]]
            by_cases h1 : A ∈ F6 g.prods s <;> simp [h1, encN]
          rw [e]; exact hm8.hp (heap_set _ (by omega))
        refine ⟨k - 1, by omega, i + 1, cs.setIfInBounds (ixN x.length i (i + 1)) (.map (some U.heap.size)), by omega, hxU.grown' hgU (fun k hk => by cases hk; omega), by omega, (congrArg some hch).symm, by rw [hDV]; rfl, by simpa using hcs,
          hCl.put hDU hgU (by omega) (by omega) (by omega) hm9 (fun a b _ _ h => by omega), h6.kept hgU (fun g hg => .inl (by cases hg; omega)) (fun _ _ => rfl), h7.kept hgU (fun g hg => .inl (by cases hg; omega)) (fun _ _ => rfl), rfl⟩
    · have hi : i = x.length := by omega
      subst hi
      clear f85 f86 f87 hki
      refine ⟨fun k t W => ∃ (l : Nat) (cs : Array Value), k + l = x.length + 2 ∧ 2 ≤ l ∧ Ext w W ∧ s0 + 4 ≤ W.heap.size ∧ W.heap[s0 + 1]? = some ch ∧ W.heap[s0]? = some (.cells cs 117 (0, 0)) ∧ cs.size = N ∧ Cells W g x cs (fun a b => b - a < l) ∧
        RowsM 116 2 (s0 + 4) o 7 W (s0 + 1 + 1 + 1) (fun k => flat2 (F7 g.prods k)) ∧
        t 5 = pa (some ⟨s0 + 1, 0, none⟩) 0 ∧ t 7 = .map (some (s0 + 1 + 1 + 1)) ∧ t 17 = .int .i64 l,
        ⟨x.length, 2, cs, by omega, by omega, hxU, hsU, hbU, hDU, hcs, hCl.keep (World.grownBy.refl U none) (fun b h => by cases h) (fun a b h1 h2 h => by omega), h7, ?_⟩, ?_⟩
      · simp (disch := first | omega | assumption | (simp only [O1, World.size_alloc, World.size_setCell, World.size_drew]; first | done | omega)) only [O1, D2, ↓H0, S0, ↓S1, ↓S2, ↓S3, ↓S4, S5, S5b, S5c, ↓S6, S6b, M0, E0, ty, tl, te, tc, i64_wrap, u64_wrap, iaV_sl, iaV_arr, faV_pa, nck_pa, heap_new, heap_old, heap_set, ↓reduceIte, Nat.reduceEqDiff, Nat.reduceLT, Nat.reduceAdd, Int.reduceLT, Int.reduceLE, decide_false, decide_true, dec_true, dec_false, true_and, and_true, true_imp_iff, Bool.not_true, Bool.not_false, Option.map_none, Int.reduceToNat, Int.toNat_zero, Int.toNat_one, lkV_false, lkV_true, f5, f6, f7] <;> rfl
      clear hxU hsU hbU hDU hcs hCl h6 h7 f5 f6 f7 cs
      rintro k t U ⟨l, cs, hkl, hl2, hxU, hsU, hbU, hDU, hcs, hCl, h7, f5, f7, f17⟩
      have hbU' := hbU
      rw [hch] at hbU'
      simp (disch := first | omega | assumption | (simp only [O1, World.size_alloc, World.size_setCell, World.size_drew]; first | done | omega)) only [O1, D2, ↓H0, S0, ↓S1, ↓S2, ↓S3, ↓S4, S5, S5b, S5c, ↓S6, S6b, M0, E0, ty, tl, te, tc, i64_wrap, u64_wrap, iaV_sl, iaV_arr, faV_pa, nck_pa, heap_new, heap_old, heap_set, ↓reduceIte, Nat.reduceEqDiff, Nat.reduceLT, Nat.reduceAdd, Int.reduceLT, Int.reduceLE, decide_false, decide_true, dec_true, dec_false, true_and, and_true, true_imp_iff, Bool.not_true, Bool.not_false, Option.map_none, Int.reduceToNat, Int.toNat_zero, Int.toNat_one, lkV_false, lkV_true, f5, f7, f17, hbU']
      refine Br_if (fun h7' => ?_) (fun h7'' => ?_) <;> (try simp (disch := first | omega | assumption | (simp only [O1, World.size_alloc, World.size_setCell, World.size_drew]; first | done | omega)) only [O1, D2, ↓H0, S0, ↓S1, ↓S2, ↓S3, ↓S4, S5, S5b, S5c, ↓S6, S6b, M0, E0, ty, tl, te, tc, i64_wrap, u64_wrap, iaV_sl, iaV_arr, faV_pa, nck_pa, heap_new, heap_old, heap_set, ↓reduceIte, Nat.reduceEqDiff, Nat.reduceLT, Nat.reduceAdd, Int.reduceLT, Int.reduceLE, decide_false, decide_true, dec_true, dec_false, true_and, and_true, true_imp_iff, Bool.not_true, Bool.not_false, Option.map_none, Int.reduceToNat, Int.toNat_zero, Int.toNat_one, lkV_false, lkV_true, f5, f7, f17, hbU'])
      · have hln : l ≤ x.length := by omega
        refine ⟨fun k2 t V => ∃ (i : Nat) (cs : Array Value), k2 + i = x.length + 1 ∧ i + l ≤ x.length + 1 ∧ Ext w V ∧ s0 + 4 ≤ V.heap.size ∧ V.heap[s0 + 1]? = some ch ∧ V.heap[s0]? = some (.cells cs 117 (0, 0)) ∧ cs.size = N ∧ Cells V g x cs (fun a b => b - a < l ∨ (b - a = l ∧ a < i)) ∧
          RowsM 116 2 (s0 + 4) o 7 V (s0 + 1 + 1 + 1) (fun k => flat2 (F7 g.prods k)) ∧
          t 5 = pa (some ⟨s0 + 1, 0, none⟩) 0 ∧ t 7 = .map (some (s0 + 1 + 1 + 1)) ∧ t 17 = .int .i64 l ∧ t 18 = .int .i64 i,
          ⟨x.length + 1, 0, cs, by omega, by omega, hxU, hsU, hbU, hDU, hcs, hCl.keep (World.grownBy.refl U none) (fun b h => by cases h) (fun a b h1 h2 h => by omega), h7, ?_⟩, ?_⟩
        · simp (disch := first | omega | assumption | (simp only [O1, World.size_alloc, World.size_setCell, World.size_drew]; first | done | omega)) only [O1, D2, ↓H0, S0, ↓S1, ↓S2, ↓S3, ↓S4, S5, S5b, S5c, ↓S6, S6b, M0, E0, ty, tl, te, tc, i64_wrap, u64_wrap, iaV_sl, iaV_arr, faV_pa, nck_pa, heap_new, heap_old, heap_set, ↓reduceIte, Nat.reduceEqDiff, Nat.reduceLT, Nat.reduceAdd, Int.reduceLT, Int.reduceLE, decide_false, decide_true, dec_true, dec_false, true_and, and_true, true_imp_iff, Bool.not_true, Bool.not_false, Option.map_none, Int.reduceToNat, Int.toNat_zero, Int.toNat_one, lkV_false, lkV_true, f5, f7, f17] <;> rfl
        clear hxU hsU hbU hDU hcs hCl h7 f5 f7 f17 cs hbU'
        rintro k2 t V ⟨i, cs, hki, hil, hxV, hsV, hbV, hDV, hcs, hCl, h7, f5, f7, f17, f18⟩
        have hbV' := hbV
        rw [hch] at hbV'
        simp (disch := first | omega | assumption | (simp only [O1, World.size_alloc, World.size_setCell, World.size_drew]; first | done | omega)) only [O1, D2, ↓H0, S0, ↓S1, ↓S2, ↓S3, ↓S4, S5, S5b, S5c, ↓S6, S6b, M0, E0, ty, tl, te, tc, i64_wrap, u64_wrap, iaV_sl, iaV_arr, faV_pa, nck_pa, heap_new, heap_old, heap_set, ↓reduceIte, Nat.reduceEqDiff, Nat.reduceLT, Nat.reduceAdd, Int.reduceLT, Int.reduceLE, decide_false, decide_true, dec_true, dec_false, true_and, and_true, true_imp_iff, Bool.not_true, Bool.not_false, Option.map_none, Int.reduceToNat, Int.toNat_zero, Int.toNat_one, lkV_false, lkV_true, f5, f7, f17, f18, hbV']
        refine Br_if (fun h8 => ?_) (fun h8' => ?_) <;> (try simp (disch := first | omega | assumption | (simp only [O1, World.size_alloc, World.size_setCell, World.size_drew]; first | done | omega)) only [O1, D2, ↓H0, S0, ↓S1, ↓S2, ↓S3, ↓S4, S5, S5b, S5c, ↓S6, S6b, M0, E0, ty, tl, te, tc, i64_wrap, u64_wrap, iaV_sl, iaV_arr, faV_pa, nck_pa, heap_new, heap_old, heap_set, ↓reduceIte, Nat.reduceEqDiff, Nat.reduceLT, Nat.reduceAdd, Int.reduceLT, Int.reduceLE, decide_false, decide_true, dec_true, dec_false, true_and, and_true, true_imp_iff, Bool.not_true, Bool.not_false, Option.map_none, Int.reduceToNat, Int.toNat_zero, Int.toNat_one, lkV_false, lkV_true, f5, f7, f17, f18, hbV'])
        · have e : (i : Int) + (l : Int) = ((i + l : Nat) : Int) := by omega
          rw [e]
          obtain ⟨f7m, hm7, hr7⟩ := h7.read
          have hF : MapS Pairs V (s0 + 1 + 1 + 1) (F7 g.prods) := by
            refine ⟨f7m, hm7, fun k => ?_⟩
            obtain ⟨n, hn⟩ := hr7 k
            exact own_pairs hn (flat2_length _) (fun i h => flat2_get _ i h)
          refine (fill_ok (s0 + 1) s0 x.length (s0 + 1 + 1 + 1) _ _ _ _ _ cs 111 117 N i (i + l) (F7 g.prods) (cnt g x) (totP g.prods) V hbV' hDV hNe hcs hn (by omega) (by omega) hF
            (fun k => by have := F7_len g.prods k; omega) (fun k h1 h2 => hCl i k h1 (by omega) (by omega)) (fun k h1 h2 => hCl k (i + l) h2 (by omega) (by omega)) (fun a b c => tab_le _ _ (un_le g x) a b c) (totP_ok g.prods)).then ?_
          rintro _ V2 ⟨c2, hD2, hm2, hg2⟩
          simp (disch := first | omega | assumption | (simp only [O1, World.size_alloc, World.size_setCell, World.size_drew]; first | done | omega)) only [O1, D2, ↓H0, S0, ↓S1, ↓S2, ↓S3, ↓S4, S5, S5b, S5c, ↓S6, S6b, M0, E0, ty, tl, te, tc, i64_wrap, u64_wrap, iaV_sl, iaV_arr, faV_pa, nck_pa, heap_new, heap_old, heap_set, ↓reduceIte, Nat.reduceEqDiff, Nat.reduceLT, Nat.reduceAdd, Int.reduceLT, Int.reduceLE, decide_false, decide_true, dec_true, dec_false, true_and, and_true, true_imp_iff, Bool.not_true, Bool.not_false, Option.map_none, Int.reduceToNat, Int.toNat_zero, Int.toNat_one, lkV_false, lkV_true, f5, f7, f17, f18]
          have hwsz := hxV.size
          have hm2' : MapI V2 c2 (fun A => encN (cnt g x i (i + l) A)) := by
            have e : (fun A => encN (cnt g x i (i + l) A)) = fun A => encN (sat (sumK (fun k => totP g.prods (cnt g x i k) (cnt g x k (i + l)) A) (i + 1) (i + l - (i + 1)))) := by
              funext A; rw [cnt, tab_step _ _ _ _ (by omega)]
            rw [e]; exact hm2
          have hV2 := hg2.size
          exact ⟨k2 - 1, by omega, i + 1, _, by omega, by omega, hxV.grown' hg2 (fun k hk => by cases hk; omega), by omega, (hg2.block _ (by omega) (by simp)).trans hbV, hD2, by simpa using hcs,
            hCl.put hDV hg2 (by omega) (by omega) (by omega) hm2' (fun a b h1 h2 h => by omega), h7.kept hg2 (fun g hg => .inl (by cases hg; omega)) (fun _ _ => rfl), rfl⟩
        · exact ⟨k - 1, by omega, l + 1, cs, by omega, by omega, hxV, hsV, (congrArg some hch).symm, hDV, hcs, hCl.keep (World.grownBy.refl V none) (fun b h => by cases h) (fun a b h1 h2 h => by omega), h7, rfl⟩
      · refine ⟨hxU, .inr ⟨hN, hwd, s0 + 1, rfl, s0, _, cs, by rw [← hNe]; exact hbU', hp0.ext hxU, hDU, by rw [hcs, hNe], fun a b h1 h2 => hCl a b h1 h2 (by omega)⟩⟩
end Go.Proofs.Ytgioklmpnbnplaa
