/- The walks of the laws' small example and of FactsLong. Conditions: none. -/
import Derived.Test.YtgioklmpnbnplaaFa1
import Derived.Test.YtgioklmpnbnplaaFa2
import Derived.Test.YtgioklmpnbnplaaKr2
set_option linter.unusedSimpArgs false
set_option linter.unusedVariables false
set_option maxRecDepth 100000
namespace Go.Proofs.Ytgioklmpnbnplaa
open Go.V

theorem all1 {α : Type} {q : α → Prop} {a : α} (h : q a) : ∀ i (hi : i < [a].length), q [a][i] := fun i hi => by
  have : i = 0 := by simpa using hi
  subst this; exact h
def gLoop : PG := ⟨0, 1, [⟨#[83]⟩], [⟨#[120]⟩], [(0, [0, 0]), (0, [-1]), (0, [])]⟩
theorem gLoop_small : SmallP gLoop := ⟨by simp [gLoop], by simp [gLoop], by simp [gLoop], by simp [gLoop]⟩
theorem gLoop_sound : SoundP gLoop := by
  refine ⟨⟨by simp [gLoop], by simp [gLoop], by simp [gLoop], by simp [gLoop], by simp [gLoop], ?_⟩, ⟨by simp [gLoop], ⟨by simp [gLoop], ?_⟩, by simp [gLoop], by simp [gLoop], by simp [gLoop]⟩, ?_⟩
  · intro s hs
    simp only [gLoop, List.mem_singleton] at hs
    subst hs
    exact ⟨by decide, by decide⟩
  · intro s hs
    simp only [gLoop, List.mem_singleton] at hs
    subst hs
    exact ⟨by decide, by decide⟩
  · intro i hi
    match i, hi with
    | 0, _ => exact ⟨by simp [gLoop], by simp [gLoop], by simp [gLoop], by simp, by simp [gLoop]⟩
    | 1, _ => exact ⟨by simp [gLoop], by simp [gLoop], by simp [gLoop], by simp [gLoop], by simp [gLoop]⟩
    | 2, _ => exact ⟨by simp [gLoop], by simp [gLoop], by simp [gLoop], by simp [gLoop], by simp [gLoop]⟩
theorem gLoop_null : Gen false gLoop.prods 0 := .mk (0, []) (by simp [gLoop]) (by simp) (by simp)
theorem gLoop_tg : Tg (StepP gLoop.prods) 0 0 := by
  refine .one ⟨(0, [0, 0]), by simp [gLoop], rfl, 0, by simp, rfl, by omega, fun j hj hne => ?_⟩
  have : j = 1 := by simp at hj; omega
  subst this
  exact ⟨by simp, gLoop_null⟩
theorem tells1 {S : Int → Prop} {l : List Bool} (h : Tells 1 S l) (hS : S 0) : l = [true] := by
  obtain ⟨h1, h2⟩ := h
  match l, h1 with
  | [b], _ => have := (h2 0 (by omega)).2 hS; simpa using this
set_option maxHeartbeats 1000000 in
theorem speaks09_ok (w : World) : Ok Try.prog 31 #[] w fun v w' => v = .bool true ∧ Ext w w' := by
  (refine Ok.enter Try.func31 rfl (by kernel_rfl) (Nat.le_of_ble_eq_true rfl) ?_; simp only [Try.f31, S7])
  simp (disch := first | omega | assumption | (simp only [O1, World.size_alloc, World.size_setCell, World.size_drew]; first | done | omega)) only [O1, D2, ↓H0, S0, ↓S1, ↓S2, ↓S3, ↓S4, S5, S5b, S5c, ↓S6, S6b, M0, E0, ty, tl, te, tc, i64_wrap, u64_wrap, iaV_sl, iaV_arr, faV_pa, nck_pa, heap_new, heap_old, heap_set, ↓reduceIte, Nat.reduceEqDiff, Nat.reduceLT, Nat.reduceAdd, Int.reduceLT, Int.reduceLE, decide_false, decide_true, dec_true, dec_false, true_and, and_true, true_imp_iff, Bool.not_true, Bool.not_false, Option.map_none, Int.reduceToNat, Int.toNat_zero, Int.toNat_one, lkV_false, lkV_true, bsl1 sl39, bsl2 sl23, bsl1 sl23, bd35_1, bd35_ (), bsl3_2 sl26, bd41_1_2_3_4]
  obtain ⟨X, hX⟩ : ∃ X, X = ((((w.alloc (.cells #[.string ⟨#[83]⟩] 9)).alloc (.cells #[.string ⟨#[120]⟩] 9)).alloc (.cells #[.int .i64 0, .int .i64 0] 3)).alloc (.cells #[.int .i64 (-1)] 3)).alloc
    (.cells #[.int .i64 0, .slice (some ⟨w.heap.size + 1 + 1, 0, none⟩) 2 2, .int .i64 0, .slice (some ⟨w.heap.size + 1 + 1 + 1, 0, none⟩) 1 1, .int .i64 0, .slice none 0 0] 35) := ⟨_, rfl⟩
  have hXs : X.heap.size = w.heap.size + 1 + 1 + 1 + 1 + 1 := by rw [hX]; simp
  have hst := st41 (T' := 41) X (.int .i64 0) (.int .i64 1) (.slice (some ⟨w.heap.size, 0, none⟩) 1 1) (.slice (some ⟨w.heap.size + 1, 0, none⟩) 1 1) (.slice (some ⟨w.heap.size + 1 + 1 + 1 + 1, 0, none⟩) 3 3) rfl rfl rfl rfl rfl
  rw [hXs] at hst
  rw [← hX]
  obtain ⟨W, hW⟩ : ∃ W, W = X.alloc (.cells #[.int .i64 0, .int .i64 1, .slice (some ⟨w.heap.size, 0, none⟩) 1 1, .slice (some ⟨w.heap.size + 1, 0, none⟩) 1 1, .slice (some ⟨w.heap.size + 1 + 1 + 1 + 1, 0, none⟩) 3 3] 41) := ⟨_, rfl⟩
  rw [← hW] at hst
  rw [hX] at hW
  simp (disch := first | omega | assumption | (simp only [O1, World.size_alloc, World.size_setCell, World.size_drew]; first | done | omega)) only [O1, D2, ↓H0, S0, ↓S1, ↓S2, ↓S3, ↓S4, S5, S5b, S5c, ↓S6, S6b, M0, E0, ty, tl, te, tc, i64_wrap, u64_wrap, iaV_sl, iaV_arr, faV_pa, nck_pa, heap_new, heap_old, heap_set, ↓reduceIte, Nat.reduceEqDiff, Nat.reduceLT, Nat.reduceAdd, Int.reduceLT, Int.reduceLE, decide_false, decide_true, dec_true, dec_false, true_and, and_true, true_imp_iff, Bool.not_true, Bool.not_false, Option.map_none, Int.reduceToNat, Int.toNat_zero, Int.toNat_one, lkV_false, lkV_true, hst, hXs]
  have hx : Ext w W := by rw [hW]; exact ((((((Ext.rfl' w).al _).al _).al _).al _).al _).al _
  have k0 : W.heap[w.heap.size]? = some (.cells #[.string ⟨#[83]⟩] 9 (0, 0)) := by rw [hW]; simp (disch := first | omega | assumption | (simp only [O1, World.size_alloc, World.size_setCell, World.size_drew]; first | done | omega)) only [O1, ↓heap_new, ↓heap_old, ↓heap_set, World.size_alloc, World.size_drew, World.size_setCell]
  have k1 : W.heap[w.heap.size + 1]? = some (.cells #[.string ⟨#[120]⟩] 9 (0, 0)) := by rw [hW]; simp (disch := first | omega | assumption | (simp only [O1, World.size_alloc, World.size_setCell, World.size_drew]; first | done | omega)) only [O1, ↓heap_new, ↓heap_old, ↓heap_set, World.size_alloc, World.size_drew, World.size_setCell]
  have k2 : W.heap[w.heap.size + 1 + 1]? = some (.cells #[.int .i64 0, .int .i64 0] 3 (0, 0)) := by rw [hW]; simp (disch := first | omega | assumption | (simp only [O1, World.size_alloc, World.size_setCell, World.size_drew]; first | done | omega)) only [O1, ↓heap_new, ↓heap_old, ↓heap_set, World.size_alloc, World.size_drew, World.size_setCell]
  have k3 : W.heap[w.heap.size + 1 + 1 + 1]? = some (.cells #[.int .i64 (-1)] 3 (0, 0)) := by rw [hW]; simp (disch := first | omega | assumption | (simp only [O1, World.size_alloc, World.size_setCell, World.size_drew]; first | done | omega)) only [O1, ↓heap_new, ↓heap_old, ↓heap_set, World.size_alloc, World.size_drew, World.size_setCell]
  have k4 : W.heap[w.heap.size + 1 + 1 + 1 + 1]? = some (.cells #[.int .i64 0, .slice (some ⟨w.heap.size + 1 + 1, 0, none⟩) 2 2, .int .i64 0, .slice (some ⟨w.heap.size + 1 + 1 + 1, 0, none⟩) 1 1, .int .i64 0, .slice none 0 0] 35 (0, 0)) := by rw [hW]; simp (disch := first | omega | assumption | (simp only [O1, World.size_alloc, World.size_setCell, World.size_drew]; first | done | omega)) only [O1, ↓heap_new, ↓heap_old, ↓heap_set, World.size_alloc, World.size_drew, World.size_setCell]
  have k5 : W.heap[w.heap.size + 1 + 1 + 1 + 1 + 1]? = some (.cells #[.int .i64 0, .int .i64 1, .slice (some ⟨w.heap.size, 0, none⟩) 1 1, .slice (some ⟨w.heap.size + 1, 0, none⟩) 1 1, .slice (some ⟨w.heap.size + 1 + 1 + 1 + 1, 0, none⟩) 3 3] 41 (0, 0)) := by rw [hW]; simp (disch := first | omega | assumption | (simp only [O1, World.size_alloc, World.size_setCell, World.size_drew]; first | done | omega)) only [O1, ↓heap_new, ↓heap_old, ↓heap_set, World.size_alloc, World.size_drew, World.size_setCell]
  have hrep : RepPG W (.agg #[.int .i64 0, .int .i64 1, .slice (some ⟨w.heap.size, 0, none⟩) 1 1, .slice (some ⟨w.heap.size + 1, 0, none⟩) 1 1, .slice (some ⟨w.heap.size + 1 + 1 + 1 + 1, 0, none⟩) 3 3]) gLoop := by
    refine ⟨_, _, _, rfl, ⟨_, 1, rfl, by simp [gLoop], fun i hi => ?_⟩, ⟨_, 1, rfl, by simp [gLoop], fun i hi => ?_⟩, ⟨some ⟨w.heap.size + 1 + 1 + 1 + 1, 0, none⟩, 3, rfl, by simp [gLoop], fun i hi => ?_⟩⟩
    · have : i = 0 := by simp [gLoop] at hi; exact hi
      subst this; rw [rd_own, k0]; rfl
    · have : i = 0 := by simp [gLoop] at hi; exact hi
      subst this; rw [rd_own, k1]; rfl
    · match i, hi with
      | 0, _ =>
        refine ⟨by rw [rd_own, k4]; rfl, _, by rw [rd_own, k4]; rfl, some ⟨w.heap.size + 1 + 1, 0, none⟩, 2, rfl, by simp [gLoop], fun j hj => ?_⟩
        match j, hj with
        | 0, _ => rw [rd_own, k2]; rfl
        | 1, _ => rw [rd_own, k2]; rfl
      | 1, _ =>
        refine ⟨by rw [rd_own, k4]; rfl, _, by rw [rd_own, k4]; rfl, some ⟨w.heap.size + 1 + 1 + 1, 0, none⟩, 1, rfl, by simp [gLoop], fun j hj => ?_⟩
        match j, hj with
        | 0, _ => rw [rd_own, k3]; rfl
      | 2, _ => exact ⟨by rw [rd_own, k4]; rfl, _, by rw [rd_own, k4]; rfl, none, 0, rfl, by simp [gLoop], fun j hj => by simp [gLoop] at hj⟩
  generalize w.heap.size + 1 + 1 + 1 + 1 + 1 = q at k5 ⊢
  refine Dr_plan [] (fun _ => true) [0, 2, 4, 1, 3, 5, 6, 7, 8] mixed (by kernel_rfl) ?_
  simp (disch := first | omega | assumption | (simp only [O1, World.size_alloc, World.size_setCell, World.size_drew]; first | done | omega)) only [↓D1, ↓D3, ↓D4, List.not_mem_nil, not_false_eq_true, Bool.false_eq_true, false_imp_iff, upto, O1, D2, ↓H0, S0, ↓S1, ↓S2, ↓S3, ↓S4, S5, S5b, S5c, ↓S6, S6b, M0, E0, ty, tl, te, tc, i64_wrap, u64_wrap, iaV_sl, iaV_arr, faV_pa, nck_pa, heap_new, heap_old, heap_set, ↓reduceIte, Nat.reduceEqDiff, Nat.reduceLT, Nat.reduceAdd, Int.reduceLT, Int.reduceLE, decide_false, decide_true, dec_true, dec_false, true_and, and_true, true_imp_iff, Bool.not_true, Bool.not_false, Option.map_none, Int.reduceToNat, Int.toNat_zero, Int.toNat_one, lkV_false, lkV_true, k5, ldA5]
  have hd := (Ext.rfl' W).dr
  refine (nullable_ok _ gLoop _ (hrep.ext hd) gLoop_small).then ?_
  rintro _ W1 ⟨h1, hx1⟩
  rcases h1 with ⟨h, _⟩ | ⟨_, l1, h1, hT1⟩
  · exact absurd gLoop_sound h
  rw [tells1 (l := l1) hT1 gLoop_null] at h1
  obtain ⟨A1, c1, rfl, hc1, hA1⟩ := h1
  have hk1 := Keep.of_ext hx1 []
  have kq1 := hx1.hp (show W.drew.heap[q]? = _ from k5)
  simp (disch := first | omega | assumption | (simp only [O1, World.size_alloc, World.size_setCell, World.size_drew]; first | done | omega)) only [↓D1, ↓D3, ↓D4, List.not_mem_nil, not_false_eq_true, Bool.false_eq_true, false_imp_iff, upto, O1, D2, ↓H0, S0, ↓S1, ↓S2, ↓S3, ↓S4, S5, S5b, S5c, ↓S6, S6b, M0, E0, ty, tl, te, tc, i64_wrap, u64_wrap, iaV_sl, iaV_arr, faV_pa, nck_pa, heap_new, heap_old, heap_set, ↓reduceIte, Nat.reduceEqDiff, Nat.reduceLT, Nat.reduceAdd, Int.reduceLT, Int.reduceLE, decide_false, decide_true, dec_true, dec_false, true_and, and_true, true_imp_iff, Bool.not_true, Bool.not_false, Option.map_none, Int.reduceToNat, Int.toNat_zero, Int.toNat_one, lkV_false, lkV_true, kq1, hk1, ldA5]
  refine (shortest_ok _ gLoop _ (hrep.ext (hd.tr hx1)) gLoop_small).then ?_
  rintro _ W2 ⟨h2, hx2⟩
  rcases h2 with ⟨h, _⟩ | ⟨_, l2, h2, hT2⟩
  · exact absurd gLoop_sound h
  have hl2 : l2 = [0] := by
    obtain ⟨k, hk, hk0⟩ := hT2.2.2 0 0 (cost_zero.2 gLoop_null)
    have hl : l2.length = 1 := hT2.1
    match l2, hl with
    | [b], _ => simp at hk; rw [hk]; congr 1; omega
  rw [hl2] at h2
  obtain ⟨A2, c2, rfl, hc2, hA2⟩ := h2
  have hk2 := Keep.of_ext hx2 []
  have kq2 := hx2.hp kq1
  simp (disch := first | omega | assumption | (simp only [O1, World.size_alloc, World.size_setCell, World.size_drew]; first | done | omega)) only [↓D1, ↓D3, ↓D4, List.not_mem_nil, not_false_eq_true, Bool.false_eq_true, false_imp_iff, upto, O1, D2, ↓H0, S0, ↓S1, ↓S2, ↓S3, ↓S4, S5, S5b, S5c, ↓S6, S6b, M0, E0, ty, tl, te, tc, i64_wrap, u64_wrap, iaV_sl, iaV_arr, faV_pa, nck_pa, heap_new, heap_old, heap_set, ↓reduceIte, Nat.reduceEqDiff, Nat.reduceLT, Nat.reduceAdd, Int.reduceLT, Int.reduceLE, decide_false, decide_true, dec_true, dec_false, true_and, and_true, true_imp_iff, Bool.not_true, Bool.not_false, Option.map_none, Int.reduceToNat, Int.toNat_zero, Int.toNat_one, lkV_false, lkV_true, kq2, hk2, ldA5]
  refine (loops_ok _ gLoop _ (hrep.ext ((hd.tr hx1).tr hx2)) gLoop_small).then ?_
  rintro _ W3 ⟨h3, hx3⟩
  rcases h3 with ⟨h, _⟩ | ⟨_, l3, h3, hT3⟩
  · exact absurd gLoop_sound h
  rw [tells1 (l := l3) hT3 gLoop_tg] at h3
  obtain ⟨A3, c3, rfl, hc3, hA3⟩ := h3
  have hk3 := Keep.of_ext hx3 []
  have r1 := (hx2.tr hx3).rd (hA1 0 (by simp))
  have r2 := hx3.rd (hA2 0 (by simp))
  have r3 := hA3 0 (by simp)
  have s1 := rd_isSome r1
  have s2 := rd_isSome r2
  have s3 := rd_isSome r3
  simp (disch := first | omega | assumption | (simp only [O1, World.size_alloc, World.size_setCell, World.size_drew]; first | done | omega)) only [↓D1, ↓D3, ↓D4, List.not_mem_nil, not_false_eq_true, Bool.false_eq_true, false_imp_iff, upto, O1, D2, ↓H0, S0, ↓S1, ↓S2, ↓S3, ↓S4, S5, S5b, S5c, ↓S6, S6b, M0, E0, ty, tl, te, tc, i64_wrap, u64_wrap, iaV_sl, iaV_arr, faV_pa, nck_pa, heap_new, heap_old, heap_set, ↓reduceIte, Nat.reduceEqDiff, Nat.reduceLT, Nat.reduceAdd, Int.reduceLT, Int.reduceLE, decide_false, decide_true, dec_true, dec_false, true_and, and_true, true_imp_iff, Bool.not_true, Bool.not_false, Option.map_none, Int.reduceToNat, Int.toNat_zero, Int.toNat_one, lkV_false, lkV_true, hk3, List.length_cons, List.length_nil]
  simp (disch := first | omega | assumption | (simp only [O1, World.size_alloc, World.size_setCell, World.size_drew]; first | done | omega)) only [O1, D2, ↓H0, S0, ↓S1, ↓S2, ↓S3, ↓S4, S5, S5b, S5c, ↓S6, S6b, M0, E0, ty, tl, te, tc, i64_wrap, u64_wrap, iaV_sl, iaV_arr, faV_pa, nck_pa, heap_new, heap_old, heap_set, ↓reduceIte, Nat.reduceEqDiff, Nat.reduceLT, Nat.reduceAdd, Int.reduceLT, Int.reduceLE, decide_false, decide_true, dec_true, dec_false, true_and, and_true, true_imp_iff, Bool.not_true, Bool.not_false, Option.map_none, Int.reduceToNat, Int.toNat_zero, Int.toNat_one, lkV_false, lkV_true, r1, r2, r3, List.length_cons, List.length_nil, List.getElem_cons_zero]
  exact hx.tr (hd.tr ((hx1.tr hx2).tr hx3))

/-! a chain that doubles -/
def nmL (j : Nat) : ByteArray := strOf [((65 + j % 26 : Nat) : Int), ((97 + j / 26 : Nat) : Int)]
def prL (N j : Nat) : Int × List Int := ((j : Int), if j = N then [-1] else [((j + 1 : Nat) : Int), ((j + 1 : Nat) : Int)])
def gChain (N : Nat) : PG := ⟨0, 0, (List.range (N + 1)).map nmL, [⟨#[120]⟩], (List.range (N + 1)).map (prL N)⟩
theorem names44 : ((List.range 44).map nmL).Nodup := by decide +kernel
theorem nmL_ok (j : Nat) : nmL j ≠ ByteArray.empty ∧ ((nmL j).size : Int) ≤ 65536 := by
  have : (nmL j).size = 2 := rfl
  refine ⟨fun h => ?_, by omega⟩
  rw [h] at this; cases this
theorem names_dist {N : Nat} (h : N ≤ 43) : Dist ((List.range (N + 1)).map nmL) 65536 := by
  refine ⟨?_, fun s hs => ?_⟩
  · refine names44.sublist (List.Sublist.map _ ?_)
    exact List.range_sublist.2 (by omega)
  · obtain ⟨j, _, rfl⟩ := List.mem_map.1 hs
    exact nmL_ok j
theorem gChain_small {N : Nat} (h : N ≤ 43) : SmallP (gChain N) := by
  refine ⟨by simp [gChain]; omega, by simp [gChain], by simp [gChain]; omega, fun p hp => ?_⟩
  obtain ⟨j, _, rfl⟩ := List.mem_map.1 hp
  unfold prL; split <;> simp
theorem gChain_sound {N : Nat} (h : N ≤ 43) : SoundP (gChain N) := by
  refine ⟨⟨by simp [gChain], by simp [gChain]; omega, by simp [gChain], by simp [gChain]; omega, names_dist h⟩, ⟨by simp [gChain], ⟨by simp [gChain], fun s hs => ?_⟩, by simp [gChain]; omega, by simp [gChain], by simp [gChain]⟩, fun i hi => ?_⟩
  · simp only [gChain, List.mem_singleton] at hs
    subst hs
    exact ⟨by decide, by decide⟩
  · have hi' : i < N + 1 := by simpa [gChain] using hi
    have hp : (gChain N).prods[i] = prL N i := by simp [gChain]
    rw [hp]
    have hn : (gChain N).names.length = N + 1 := by simp [gChain]
    have ht : (gChain N).terms.length = 1 := rfl
    refine ⟨by simp [prL], by rw [hn]; simp [prL]; omega, by unfold prL; split <;> simp, fun h0 => ?_, fun s hs => ?_⟩
    · have : (gChain N).prods.getD (i - 1) (0, []) = prL N (i - 1) := by
        rw [List.getD_eq_getElem?_getD]
        simp [gChain, show i - 1 < N + 1 by omega]
      rw [this]; simp [prL]
    · rw [hn, ht]
      unfold prL at hs
      split at hs <;> simp at hs <;> omega
def pw (d : Nat) : Nat := min (2 ^ d) 1099511627776
theorem pw_succ (d : Nat) : min (pw d + pw d) 1099511627776 = pw (d + 1) := by
  unfold pw
  rw [Nat.pow_succ]
  generalize 2 ^ d = x
  omega
theorem pw_le (d : Nat) : pw d ≤ 1099511627776 := Nat.min_le_right _ _
theorem cost_two (c : Int → Nat) (a : Int) (h : 0 ≤ a) : costOf c [a, a] = min (min (c a) 1099511627776 + c a) 1099511627776 := by
  simp [costOf, costN, h]
theorem chain_cost (N : Nat) : ∀ d, d ≤ N → Cost (gChain N).prods ((N - d : Nat) : Int) (pw d)
  | 0, _ => by
    have hp : prL N N ∈ (gChain N).prods := List.mem_map.2 ⟨N, by simp, rfl⟩
    have := Cost.mk (ps := (gChain N).prods) (prL N N) hp (fun _ => 0) (fun s hs h0 => by simp [prL] at hs; omega)
    have e : costOf (fun _ => 0) (prL N N).2 = pw 0 := by simp [prL, costOf, costN, pw]
    rw [e] at this
    simpa [prL] using this
  | d + 1, h => by
    have ih := chain_cost N d (by omega)
    have hj : N - (d + 1) ≠ N := by omega
    have e0 : N - (d + 1) + 1 = N - d := by omega
    have hp : prL N (N - (d + 1)) ∈ (gChain N).prods := List.mem_map.2 ⟨N - (d + 1), by simp; omega, rfl⟩
    have := Cost.mk (ps := (gChain N).prods) _ hp (fun _ => pw d) (fun s hs h0 => by
      unfold prL at hs
      rw [if_neg hj, e0] at hs
      simp at hs
      rw [hs]; exact ih)
    have e : costOf (fun _ => pw d) (prL N (N - (d + 1))).2 = pw (d + 1) := by
      unfold prL
      rw [if_neg hj, cost_two _ _ (by omega), Nat.min_eq_left (pw_le d), pw_succ]
    rw [e] at this
    exact this
theorem chain_least (N : Nat) {a : Int} {m : Nat} (h : Cost (gChain N).prods a m) : 0 ≤ a ∧ a ≤ N ∧ pw (N - a.toNat) ≤ m := by
  induction h with
  | mk p hp c hh ih =>
    obtain ⟨j, hj, rfl⟩ := List.mem_map.1 hp
    have hjN : j < N + 1 := by simpa using hj
    refine ⟨by simp [prL], by simp [prL]; omega, ?_⟩
    by_cases e : j = N
    · subst e
      have : costOf c (prL j j).2 = 1 := by simp [prL, costOf, costN]
      rw [this]; simp [prL, pw]
    · have hs := ih ((j + 1 : Nat) : Int) (by simp [prL, e]) (by omega)
      have h1 : pw (N - (j + 1)) ≤ c ((j + 1 : Nat) : Int) := by simpa using hs.2.2
      have e2 : costOf c (prL N j).2 = min (min (c ((j + 1 : Nat) : Int)) 1099511627776 + c ((j + 1 : Nat) : Int)) 1099511627776 := by
        unfold prL
        rw [if_neg e]; exact cost_two c _ (by omega)
      rw [e2]
      have e3 : N - (prL N j).1.toNat = (N - (j + 1)) + 1 := by simp [prL]; omega
      rw [e3, ← pw_succ]
      have := pw_le (N - (j + 1))
      omega
theorem chain_short {N : Nat} {l : List Int} (h : Short (N + 1) (gChain N).prods l) {j : Nat} (hj : j ≤ N) : l[j]? = some ((pw (N - j) : Nat) : Int) := by
  have hc := chain_cost N (N - j) (by omega)
  rw [show N - (N - j) = j by omega] at hc
  obtain ⟨k, hk, hle⟩ := h.2.2 j _ hc
  rcases h.2.1 j _ hk with h1 | ⟨m, h1, _, h2⟩
  · omega
  · have hkm : k = m := by omega
    subst hkm
    have := (chain_least N h2).2.2
    simp only [Int.toNat_natCast] at this
    rw [hk]; congr 2; omega
theorem range_snoc {α : Type} (f : Nat → α) (i : Nat) : (List.range (i + 1)).map f = (List.range i).map f ++ [f i] := by simp [List.range_succ]
/-- What stands while the chain is made. -/
structure LongW (w U : World) (b base : Nat) (N i j : Nat) (nv tv pv : Value) : Prop where
  ext : Ext w U
  box : U.heap[b]? = some (.cells #[.int .i64 0, .int .i64 0, nv, tv, pv] 41 (0, 0))
  nrow : Row Value.string base 9 U nv ((List.range i).map nmL)
  trow : Row Value.string 0 9 U tv [⟨#[120]⟩]
  tlt : ∀ k, tv.ownBlock = some k → k < base
  prow : PRow 35 base U.heap.size U pv ((List.range j).map (prL N))
  bb : b < base
  wb : w.heap.size ≤ b
  le : base ≤ U.heap.size
theorem LongW.ext' {w U V : World} {b base N i j : Nat} {nv tv pv : Value} (h : LongW w U b base N i j nv tv pv) (hx : Ext U V) : LongW w V b base N i j nv tv pv :=
  ⟨h.ext.tr hx, hx.hp h.box, h.nrow.ext hx, h.trow.ext hx, h.tlt, (h.prow.ext hx).up hx.size, h.bb, h.wb, Nat.le_trans h.le hx.size⟩
theorem LongW.name {w V X : World} {b base N i j : Nat} {nv tv pv nv' : Value} {s : ByteArray} (h : LongW w V b base N i j nv tv pv) (hs : s = nmL i) (hR : Row Value.string base 9 X nv' ((List.range i).map nmL ++ [s])) (hg : V.grownBy X nv.ownBlock) :
    stoT Try.prog 39 X (pa (some ⟨b, 0, none⟩) 2) nv' = some (X.setCell ⟨b, 2, none⟩ nv') ∧ LongW w (X.setCell ⟨b, 2, none⟩ nv') b base N (i + 1) j nv' tv pv := by
  have hbl := lt_heap h.box
  have hnb : nv.ownBlock ≠ some b := h.nrow.ne h.box (by decide)
  have hXb : X.heap[b]? = some (.cells #[.int .i64 0, .int .i64 0, nv, tv, pv] 41 (0, 0)) := (hg.block b hbl (fun e => hnb e.symm)).trans h.box
  have hst := sto_own (P := Try.prog) (T := 39) (w := X) (g := b) (o := 0) (k := 2) (x := nv') (by simp only [ty]) hXb (by simp) hR.one
  have hc : Chg (fun k => k = b ∨ nv.ownBlock = some k) V (X.setCell ⟨b, 2, none⟩ nv') := (Chg.grown hg (M := fun k => k = b ∨ nv.ownBlock = some k) fun k hk => .inr hk).tr (Chg.grown (row := some b) set_grown (M := fun k => k = b) fun k hk => by cases hk; rfl) fun x _ h => .inl h
  have hbb := h.bb
  have hwb := h.wb
  refine ⟨hst, h.ext.chg hc ?_, ?_, ?_, h.trow.chg hc ?_, h.tlt, (h.prow.chg hc ?_ ?_).up hc.size, h.bb, h.wb, Nat.le_trans h.le hc.size⟩
  · rintro x (rfl | hx)
    · exact h.wb
    · have := (h.nrow.lt x hx).1; omega
  · rw [heap_set_same, hXb]; rfl
  · rw [range_snoc, ← hs]
    exact hR.kept (row := some b) set_grown (.inr (hR.ne hXb (by decide)))
  · rintro k hk (rfl | hx)
    · exact h.trow.ne h.box (by decide) hk
    · have := (h.nrow.lt k hx).1; have := h.tlt k hk; omega
  · rintro k hk (rfl | hx)
    · exact h.prow.ne h.box (by decide) hk
    · obtain ⟨cs, f, hq⟩ := h.nrow.typed hx
      exact h.prow.ne hq (by decide) hk
  · rintro k _ (rfl | hx)
    · exact ⟨_, _, _, by decide, h.box⟩
    · obtain ⟨cs, f, hq⟩ := h.nrow.typed hx
      exact ⟨_, _, _, by decide, hq⟩
theorem LongW.prod {w V X : World} {b base N i j : Nat} {nv tv pv pv' : Value} (h : LongW w V b base N i j nv tv pv) (hR : PRow 35 base V.heap.size X pv' ((List.range j).map (prL N) ++ [prL N j])) (hg : V.grownBy X pv.ownBlock) :
    stoT Try.prog 26 X (pa (some ⟨b, 0, none⟩) 4) pv' = some (X.setCell ⟨b, 4, none⟩ pv') ∧ LongW w (X.setCell ⟨b, 4, none⟩ pv') b base N i (j + 1) nv tv pv' := by
  have hbl := lt_heap h.box
  have hnb : pv.ownBlock ≠ some b := h.prow.ne h.box (by decide)
  have hXb : X.heap[b]? = some (.cells #[.int .i64 0, .int .i64 0, nv, tv, pv] 41 (0, 0)) := (hg.block b hbl (fun e => hnb e.symm)).trans h.box
  have hst := sto_own (P := Try.prog) (T := 26) (w := X) (g := b) (o := 0) (k := 4) (x := pv') (by simp only [ty]) hXb (by simp) hR.one
  have hc : Chg (fun k => k = b ∨ pv.ownBlock = some k) V (X.setCell ⟨b, 4, none⟩ pv') := (Chg.grown hg (M := fun k => k = b ∨ pv.ownBlock = some k) fun k hk => .inr hk).tr (Chg.grown (row := some b) set_grown (M := fun k => k = b) fun k hk => by cases hk; rfl) fun x _ h => .inl h
  have hbb := h.bb
  have hwb := h.wb
  refine ⟨hst, h.ext.chg hc ?_, ?_, h.nrow.chg hc ?_, h.trow.chg hc ?_, h.tlt, ?_, h.bb, h.wb, Nat.le_trans h.le hc.size⟩
  · rintro x (rfl | hx)
    · exact h.wb
    · have := (h.prow.lt x hx).1; omega
  · rw [heap_set_same, hXb]; rfl
  · rintro k hk (rfl | hx)
    · exact h.nrow.ne h.box (by decide) hk
    · obtain ⟨cs, f, hq⟩ := h.prow.typed hx
      exact h.nrow.ne hq (by decide) hk
  · rintro k hk (rfl | hx)
    · exact h.trow.ne h.box (by decide) hk
    · obtain ⟨cs, f, hq⟩ := h.prow.typed hx
      exact h.trow.ne hq (by decide) hk
  · rw [range_snoc]
    refine (hR.chg (Chg.grown (row := some b) set_grown (M := fun k => k = b) fun k hk => by cases hk; rfl) (fun k hk hm => ?_) fun k _ hm => ?_).up hc.size
    · subst hm; exact hR.ne hXb (by decide) hk
    · subst hm; exact ⟨_, _, _, by decide, hXb⟩
set_option maxHeartbeats 2000000 in
theorem long_ok (a : Int) (w : World) : Ok Try.prog 5 #[.int .i64 a] w fun v w' => v = .bool true ∧ Ext w w' := by
  (refine Ok.enter Try.func5 rfl (by kernel_rfl) (Nat.le_of_ble_eq_true rfl) ?_; simp only [Try.f5, S7])
  simp (disch := first | omega | assumption | (simp only [O1, World.size_alloc, World.size_setCell, World.size_drew]; first | done | omega)) only [O1, D2, ↓H0, S0, ↓S1, ↓S2, ↓S3, ↓S4, S5, S5b, S5c, ↓S6, S6b, M0, E0, ty, tl, te, tc, i64_wrap, u64_wrap, iaV_sl, iaV_arr, faV_pa, nck_pa, heap_new, heap_old, heap_set, ↓reduceIte, Nat.reduceEqDiff, Nat.reduceLT, Nat.reduceAdd, Int.reduceLT, Int.reduceLE, decide_false, decide_true, dec_true, dec_false, true_and, and_true, true_imp_iff, Bool.not_true, Bool.not_false, Option.map_none, Int.reduceToNat, Int.toNat_zero, Int.toNat_one, lkV_false, lkV_true]
  refine (speaks09_ok w).then ?_; rintro _ W ⟨rfl, hx⟩
  obtain ⟨m, hm, he⟩ := andI a 7 (by omega)
  have he : IntKind.i64.wrap ((BitVec.ofInt IntKind.i64.bits a &&& BitVec.ofInt IntKind.i64.bits 7).toNat : Int) = (m : Int) := he
  have e1 : (36 : Int) + (m : Int) = ((m + 36 : Nat) : Int) := by omega
  have hst := st41 (T' := 41) (W.alloc (.cells #[.string ⟨#[120]⟩] 9)) (.int .i64 0) (.int .i64 0) (.slice none 0 0) (.slice (some ⟨W.heap.size, 0, none⟩) 1 1) (.slice none 0 0) rfl rfl rfl rfl rfl
  simp only [World.size_alloc] at hst
  simp (disch := first | omega | assumption | (simp only [O1, World.size_alloc, World.size_setCell, World.size_drew]; first | done | omega)) only [O1, D2, ↓H0, S0, ↓S1, ↓S2, ↓S3, ↓S4, S5, S5b, S5c, ↓S6, S6b, M0, E0, ty, tl, te, tc, i64_wrap, u64_wrap, iaV_sl, iaV_arr, faV_pa, nck_pa, heap_new, heap_old, heap_set, ↓reduceIte, Nat.reduceEqDiff, Nat.reduceLT, Nat.reduceAdd, Int.reduceLT, Int.reduceLE, decide_false, decide_true, dec_true, dec_false, true_and, and_true, true_imp_iff, Bool.not_true, Bool.not_false, Option.map_none, Int.reduceToNat, Int.toNat_zero, Int.toNat_one, lkV_false, lkV_true, he, e1, bsl1 sl39, bd41_3]
  simp (disch := first | omega | assumption | (simp only [O1, World.size_alloc, World.size_setCell, World.size_drew]; first | done | omega)) only [O1, D2, ↓H0, S0, ↓S1, ↓S2, ↓S3, ↓S4, S5, S5b, S5c, ↓S6, S6b, M0, E0, ty, tl, te, tc, i64_wrap, u64_wrap, iaV_sl, iaV_arr, faV_pa, nck_pa, heap_new, heap_old, heap_set, ↓reduceIte, Nat.reduceEqDiff, Nat.reduceLT, Nat.reduceAdd, Int.reduceLT, Int.reduceLE, decide_false, decide_true, dec_true, dec_false, true_and, and_true, true_imp_iff, Bool.not_true, Bool.not_false, Option.map_none, Int.reduceToNat, Int.toNat_zero, Int.toNat_one, lkV_false, lkV_true, hst]
  obtain ⟨N, hN⟩ : ∃ N, N = m + 36 := ⟨_, rfl⟩
  rw [← hN]
  obtain ⟨U0, hU0⟩ : ∃ U0, U0 = (W.alloc (.cells #[.string ⟨#[120]⟩] 9)).alloc (.cells #[.int .i64 0, .int .i64 0, .slice none 0 0, .slice (some ⟨W.heap.size, 0, none⟩) 1 1, .slice none 0 0] 41) := ⟨_, rfl⟩
  have hs0 : U0.heap.size = W.heap.size + 1 + 1 := by rw [hU0]; simp
  have hws := hx.size
  have hL0 : LongW w U0 (W.heap.size + 1) U0.heap.size N 0 0 (.slice none 0 0) (.slice (some ⟨W.heap.size, 0, none⟩) 1 1) (.slice none 0 0) := by
    refine ⟨by rw [hU0]; exact (hx.al _).al _, by rw [hU0]; simp (disch := first | omega | assumption | (simp only [O1, World.size_alloc, World.size_setCell, World.size_drew]; first | done | omega)) only [O1, ↓heap_new, ↓heap_old, ↓heap_set, World.size_alloc, World.size_drew, World.size_setCell], Row.nil _, ?_, fun k hk => by simp only [Value.ownBlock, Option.some.injEq] at hk; omega, PRow.nil _, by omega, by omega, Nat.le_refl _⟩
    rw [hU0]
    exact ((Row.lit1 (enc := Value.string) (e := 9) (base := W.heap.size) W ⟨#[120]⟩ (Nat.le_refl _)).mono (Nat.zero_le _)).ext ((Ext.rfl' _).al _)
  rw [← hU0]
  generalize hb : W.heap.size + 1 = b at hL0 ⊢
  generalize hbs : U0.heap.size = base at hL0 ⊢
  refine ⟨fun k t U => ∃ (i : Nat) (nv tv pv : Value), k + i = N + 1 ∧ LongW w U b base N i i nv tv pv ∧ t 0 = .int .i64 N ∧ t 3 = pa (some ⟨b, 0, none⟩) 0 ∧ t 4 = .int .i64 i, ⟨N + 1, 0, _, _, _, by omega, hL0, ?_⟩, ?_⟩
  · simp (disch := first | omega | assumption | (simp only [O1, World.size_alloc, World.size_setCell, World.size_drew]; first | done | omega)) only [O1, D2, ↓H0, S0, ↓S1, ↓S2, ↓S3, ↓S4, S5, S5b, S5c, ↓S6, S6b, M0, E0, ty, tl, te, tc, i64_wrap, u64_wrap, iaV_sl, iaV_arr, faV_pa, nck_pa, heap_new, heap_old, heap_set, ↓reduceIte, Nat.reduceEqDiff, Nat.reduceLT, Nat.reduceAdd, Int.reduceLT, Int.reduceLE, decide_false, decide_true, dec_true, dec_false, true_and, and_true, true_imp_iff, Bool.not_true, Bool.not_false, Option.map_none, Int.reduceToNat, Int.toNat_zero, Int.toNat_one, lkV_false, lkV_true] <;> rfl
  clear hL0
  rintro k t U ⟨i, nv, tv, pv, hk, hL, f0, f3, f4⟩
  have hbx := hL.box
  simp (disch := first | omega | assumption | (simp only [O1, World.size_alloc, World.size_setCell, World.size_drew]; first | done | omega)) only [O1, D2, ↓H0, S0, ↓S1, ↓S2, ↓S3, ↓S4, S5, S5b, S5c, ↓S6, S6b, M0, E0, ty, tl, te, tc, i64_wrap, u64_wrap, iaV_sl, iaV_arr, faV_pa, nck_pa, heap_new, heap_old, heap_set, ↓reduceIte, Nat.reduceEqDiff, Nat.reduceLT, Nat.reduceAdd, Int.reduceLT, Int.reduceLE, decide_false, decide_true, dec_true, dec_false, true_and, and_true, true_imp_iff, Bool.not_true, Bool.not_false, Option.map_none, Int.reduceToNat, Int.toNat_zero, Int.toNat_one, lkV_false, lkV_true, f0, f3, f4]
  refine Br_if (fun h => ?_) (fun h' => ?_) <;> (try simp (disch := first | omega | assumption | (simp only [O1, World.size_alloc, World.size_setCell, World.size_drew]; first | done | omega)) only [O1, D2, ↓H0, S0, ↓S1, ↓S2, ↓S3, ↓S4, S5, S5b, S5c, ↓S6, S6b, M0, E0, ty, tl, te, tc, i64_wrap, u64_wrap, iaV_sl, iaV_arr, faV_pa, nck_pa, heap_new, heap_old, heap_set, ↓reduceIte, Nat.reduceEqDiff, Nat.reduceLT, Nat.reduceAdd, Int.reduceLT, Int.reduceLE, decide_false, decide_true, dec_true, dec_false, true_and, and_true, true_imp_iff, Bool.not_true, Bool.not_false, Option.map_none, Int.reduceToNat, Int.toNat_zero, Int.toNat_one, lkV_false, lkV_true, f0, f3, f4])
  · have hiN : i ≤ N := by omega
    have er : ((i : Nat) : Int).tmod 26 = ((i % 26 : Nat) : Int) := tmodI i 26
    have eq : ((i : Nat) : Int).tdiv 26 = ((i / 26 : Nat) : Int) := tdivI i 26
    have e65 : (65 : Int) + ((i % 26 : Nat) : Int) = ((65 + i % 26 : Nat) : Int) := by omega
    have e97 : (97 : Int) + ((i / 26 : Nat) : Int) = ((97 + i / 26 : Nat) : Int) := by omega
    have u1 : IntKind.u8.wrap ((65 + i % 26 : Nat) : Int) = ((65 + i % 26 : Nat) : Int) := u8_wrap (by omega) (by omega)
    have u2 : IntKind.u8.wrap ((97 + i / 26 : Nat) : Int) = ((97 + i / 26 : Nat) : Int) := u8_wrap (by omega) (by omega)
    simp (disch := first | omega | assumption | (simp only [O1, World.size_alloc, World.size_setCell, World.size_drew]; first | done | omega)) only [O1, D2, ↓H0, S0, ↓S1, ↓S2, ↓S3, ↓S4, S5, S5b, S5c, ↓S6, S6b, M0, E0, ty, tl, te, tc, i64_wrap, u64_wrap, iaV_sl, iaV_arr, faV_pa, nck_pa, heap_new, heap_old, heap_set, ↓reduceIte, Nat.reduceEqDiff, Nat.reduceLT, Nat.reduceAdd, Int.reduceLT, Int.reduceLE, decide_false, decide_true, dec_true, dec_false, true_and, and_true, true_imp_iff, Bool.not_true, Bool.not_false, Option.map_none, Int.reduceToNat, Int.toNat_zero, Int.toNat_one, lkV_false, lkV_true, f0, f3, f4, hbx, er, eq, e65, e97, u1, u2, bsl2 sl42, bytes2, byV_some, bsl1 sl39]
    obtain ⟨V, hV⟩ : ∃ V, V = U.alloc (.cells #[.int .u8 ((65 + i % 26 : Nat) : Int), .int .u8 ((97 + i / 26 : Nat) : Int)] 5) := ⟨_, rfl⟩
    have hVs : V.heap.size = U.heap.size + 1 := by rw [hV]; simp
    have hLV : LongW w V b base N i i nv tv pv := by rw [hV]; exact hL.ext' ((Ext.rfl' U).al _)
    rw [← hV, ← hVs]
    refine RunA_row (enc := Value.string) (x := nmL i) sl39 hLV.nrow rfl (by simp; omega) (by omega) hLV.le ?_
    intro nv' X hR hg hsz hv
    obtain ⟨hst1, hLX⟩ := hLV.name rfl hR hg
    simp (disch := first | omega | assumption | (simp only [O1, World.size_alloc, World.size_setCell, World.size_drew]; first | done | omega)) only [O1, D2, ↓H0, S0, ↓S1, ↓S2, ↓S3, ↓S4, S5, S5b, S5c, ↓S6, S6b, M0, E0, ty, tl, te, tc, i64_wrap, u64_wrap, iaV_sl, iaV_arr, faV_pa, nck_pa, heap_new, heap_old, heap_set, ↓reduceIte, Nat.reduceEqDiff, Nat.reduceLT, Nat.reduceAdd, Int.reduceLT, Int.reduceLE, decide_false, decide_true, dec_true, dec_false, true_and, and_true, true_imp_iff, Bool.not_true, Bool.not_false, Option.map_none, Int.reduceToNat, Int.toNat_zero, Int.toNat_one, lkV_false, lkV_true, f0, f3, f4, hst1, bsl2 sl23]
    generalize X.setCell ⟨b, 2, none⟩ nv' = X1 at hLX ⊢
    have ei : ((i : Nat) : Int) + 1 = ((i + 1 : Nat) : Int) := by omega
    refine Br_if (fun hi => ?_) (fun hi => ?_) <;> (try simp (disch := first | omega | assumption | (simp only [O1, World.size_alloc, World.size_setCell, World.size_drew]; first | done | omega)) only [O1, D2, ↓H0, S0, ↓S1, ↓S2, ↓S3, ↓S4, S5, S5b, S5c, ↓S6, S6b, M0, E0, ty, tl, te, tc, i64_wrap, u64_wrap, iaV_sl, iaV_arr, faV_pa, nck_pa, heap_new, heap_old, heap_set, ↓reduceIte, Nat.reduceEqDiff, Nat.reduceLT, Nat.reduceAdd, Int.reduceLT, Int.reduceLE, decide_false, decide_true, dec_true, dec_false, true_and, and_true, true_imp_iff, Bool.not_true, Bool.not_false, Option.map_none, Int.reduceToNat, Int.toNat_zero, Int.toNat_one, lkV_false, lkV_true, f0, f3, f4, bsl1 sl23])
    · have hiN2 : i = N := by omega
      obtain ⟨X2, hX2⟩ : ∃ X2, X2 = (X1.alloc (.cells #[.int .i64 ((i + 1 : Nat) : Int), .int .i64 ((i + 1 : Nat) : Int)] 3)).alloc (.cells #[.int .i64 (-1)] 3) := ⟨_, rfl⟩
      have hLX2 : LongW w X2 b base N (i + 1) i nv' tv pv := by rw [hX2]; exact hLX.ext' (((Ext.rfl' X1).al _).al _)
      have hRr : Row (.int .i64) 0 3 X2 (.slice (some ⟨X1.heap.size + 1, 0, none⟩) 1 1) (prL N i).2 := by
        have h1 := Row.lit1 (enc := Value.int .i64) (e := 3) (base := 0) (X1.alloc (.cells #[.int .i64 ((i + 1 : Nat) : Int), .int .i64 ((i + 1 : Nat) : Int)] 3)) (-1) (Nat.zero_le _)
        rw [World.size_alloc, ← hX2] at h1
        unfold prL; rw [if_pos hiN2]; exact h1
      have hbX := hLX2.box
      rw [← hX2]
      simp (disch := first | omega | assumption | (simp only [O1, World.size_alloc, World.size_setCell, World.size_drew]; first | done | omega)) only [O1, D2, ↓H0, S0, ↓S1, ↓S2, ↓S3, ↓S4, S5, S5b, S5c, ↓S6, S6b, M0, E0, ty, tl, te, tc, i64_wrap, u64_wrap, iaV_sl, iaV_arr, faV_pa, nck_pa, heap_new, heap_old, heap_set, ↓reduceIte, Nat.reduceEqDiff, Nat.reduceLT, Nat.reduceAdd, Int.reduceLT, Int.reduceLE, decide_false, decide_true, dec_true, dec_false, true_and, and_true, true_imp_iff, Bool.not_true, Bool.not_false, Option.map_none, Int.reduceToNat, Int.toNat_zero, Int.toNat_one, lkV_false, lkV_true, f0, f3, f4, hbX, bd35_0_1, bsl1_2 sl26]
      refine RunA_prod (p := prL N i) sl26 hLX2.prow hRr (by decide) (by simp; omega) (by omega) hLX2.le (Nat.le_refl _) ?_
      intro pv' Y hR2 hg2 hsz2 hv2 hg3
      obtain ⟨hst2, hLY⟩ := hLX2.prod hR2 hg2
      simp (disch := first | omega | assumption | (simp only [O1, World.size_alloc, World.size_setCell, World.size_drew]; first | done | omega)) only [O1, D2, ↓H0, S0, ↓S1, ↓S2, ↓S3, ↓S4, S5, S5b, S5c, ↓S6, S6b, M0, E0, ty, tl, te, tc, i64_wrap, u64_wrap, iaV_sl, iaV_arr, faV_pa, nck_pa, heap_new, heap_old, heap_set, ↓reduceIte, Nat.reduceEqDiff, Nat.reduceLT, Nat.reduceAdd, Int.reduceLT, Int.reduceLE, decide_false, decide_true, dec_true, dec_false, true_and, and_true, true_imp_iff, Bool.not_true, Bool.not_false, Option.map_none, Int.reduceToNat, Int.toNat_zero, Int.toNat_one, lkV_false, lkV_true, f0, f3, f4, hst2]
      exact ⟨k - 1, by omega, i + 1, nv', tv, pv', by omega, hLY, rfl⟩
    · have hiN2 : ¬ i = N := by omega
      obtain ⟨X2, hX2⟩ : ∃ X2, X2 = X1.alloc (.cells #[.int .i64 ((i + 1 : Nat) : Int), .int .i64 ((i + 1 : Nat) : Int)] 3) := ⟨_, rfl⟩
      have hLX2 : LongW w X2 b base N (i + 1) i nv' tv pv := by rw [hX2]; exact hLX.ext' ((Ext.rfl' X1).al _)
      have hRr : Row (.int .i64) 0 3 X2 (.slice (some ⟨X1.heap.size, 0, none⟩) 2 2) (prL N i).2 := by
        have h1 := Row.lit2 (enc := Value.int .i64) (e := 3) (base := 0) X1 ((i + 1 : Nat) : Int) ((i + 1 : Nat) : Int) (Nat.zero_le _)
        rw [← hX2] at h1
        unfold prL; rw [if_neg hiN2]; exact h1
      have hbX := hLX2.box
      rw [← hX2]
      simp (disch := first | omega | assumption | (simp only [O1, World.size_alloc, World.size_setCell, World.size_drew]; first | done | omega)) only [O1, D2, ↓H0, S0, ↓S1, ↓S2, ↓S3, ↓S4, S5, S5b, S5c, ↓S6, S6b, M0, E0, ty, tl, te, tc, i64_wrap, u64_wrap, iaV_sl, iaV_arr, faV_pa, nck_pa, heap_new, heap_old, heap_set, ↓reduceIte, Nat.reduceEqDiff, Nat.reduceLT, Nat.reduceAdd, Int.reduceLT, Int.reduceLE, decide_false, decide_true, dec_true, dec_false, true_and, and_true, true_imp_iff, Bool.not_true, Bool.not_false, Option.map_none, Int.reduceToNat, Int.toNat_zero, Int.toNat_one, lkV_false, lkV_true, f0, f3, f4, hbX, bd35_0_1, bsl1_2 sl26]
      refine RunA_prod (p := prL N i) sl26 hLX2.prow hRr (by decide) (by simp; omega) (by omega) hLX2.le (Nat.le_refl _) ?_
      intro pv' Y hR2 hg2 hsz2 hv2 hg3
      obtain ⟨hst2, hLY⟩ := hLX2.prod hR2 hg2
      simp (disch := first | omega | assumption | (simp only [O1, World.size_alloc, World.size_setCell, World.size_drew]; first | done | omega)) only [O1, D2, ↓H0, S0, ↓S1, ↓S2, ↓S3, ↓S4, S5, S5b, S5c, ↓S6, S6b, M0, E0, ty, tl, te, tc, i64_wrap, u64_wrap, iaV_sl, iaV_arr, faV_pa, nck_pa, heap_new, heap_old, heap_set, ↓reduceIte, Nat.reduceEqDiff, Nat.reduceLT, Nat.reduceAdd, Int.reduceLT, Int.reduceLE, decide_false, decide_true, dec_true, dec_false, true_and, and_true, true_imp_iff, Bool.not_true, Bool.not_false, Option.map_none, Int.reduceToNat, Int.toNat_zero, Int.toNat_one, lkV_false, lkV_true, f0, f3, f4, hst2]
      exact ⟨k - 1, by omega, i + 1, nv', tv, pv', by omega, hLY, rfl⟩
  · have hbU := hL.box
    have hiN : i = N + 1 := by omega
    subst hiN
    have hN43 : N ≤ 43 := by omega
    have hrep : RepPG U (.agg #[.int .i64 0, .int .i64 0, nv, tv, pv]) (gChain N) := ⟨_, _, _, rfl, hL.nrow.sq, hL.trow.sq, hL.prow.prods⟩
    simp (disch := first | omega | assumption | (simp only [O1, World.size_alloc, World.size_setCell, World.size_drew]; first | done | omega)) only [O1, D2, ↓H0, S0, ↓S1, ↓S2, ↓S3, ↓S4, S5, S5b, S5c, ↓S6, S6b, M0, E0, ty, tl, te, tc, i64_wrap, u64_wrap, iaV_sl, iaV_arr, faV_pa, nck_pa, heap_new, heap_old, heap_set, ↓reduceIte, Nat.reduceEqDiff, Nat.reduceLT, Nat.reduceAdd, Int.reduceLT, Int.reduceLE, decide_false, decide_true, dec_true, dec_false, true_and, and_true, true_imp_iff, Bool.not_true, Bool.not_false, Option.map_none, Int.reduceToNat, Int.toNat_zero, Int.toNat_one, lkV_false, lkV_true, f0, f3, f4, hbU, ldA5]
    refine (shortest_ok _ _ U hrep (gChain_small hN43)).then ?_
    rintro _ V ⟨hl, hxV⟩
    rcases hl with ⟨h, _⟩ | ⟨_, l, hl, hS⟩
    · exact absurd (gChain_sound hN43) h
    have hnl : (gChain N).names.length = N + 1 := by simp [gChain]
    rw [hnl] at hS
    have hll := hS.1
    have c0 := chain_short hS (Nat.zero_le N)
    have cN := chain_short hS (Nat.le_refl N)
    obtain ⟨A, c, rfl, hc, hA⟩ := hl
    have r0 := hA 0 (by omega)
    have rN := hA N (by omega)
    rw [List.getElem?_eq_getElem (by omega)] at c0 cN
    simp only [Option.some.injEq] at c0 cN
    rw [c0] at r0
    rw [cN] at rN
    have hAs := rd_isSome r0
    have p0 : pw (N - N) = 1 := by rw [Nat.sub_self]; rfl
    rw [p0] at rN
    have hpow : 2 ^ N ≤ 2 ^ 43 := Nat.pow_le_pow_right (by omega) hN43
    have hsh : (1 : Int) * (2 ^ min N IntKind.i64.bits) = ((2 ^ N : Nat) : Int) := by
      have := shlI 1 N (by omega)
      rw [Nat.one_mul] at this
      exact this
    have hmin : (if (1099511627776 : Int) < ((2 ^ N : Nat) : Int) then (1099511627776 : Int) else ((2 ^ N : Nat) : Int)) = ((pw N : Nat) : Int) := by
      unfold pw
      generalize 2 ^ N = x
      rw [Nat.min_def]
      split <;> split <;> omega
    have e36 : ((N : Nat) : Int) + 1 = ((N + 1 : Nat) : Int) := by omega
    rw [hll]
    simp (disch := first | omega | assumption | (simp only [O1, World.size_alloc, World.size_setCell, World.size_drew]; first | done | omega)) only [O1, D2, ↓H0, S0, ↓S1, ↓S2, ↓S3, ↓S4, S5, S5b, S5c, ↓S6, S6b, M0, E0, ty, tl, te, tc, i64_wrap, u64_wrap, iaV_sl, iaV_arr, faV_pa, nck_pa, heap_new, heap_old, heap_set, ↓reduceIte, Nat.reduceEqDiff, Nat.reduceLT, Nat.reduceAdd, Int.reduceLT, Int.reduceLE, decide_false, decide_true, dec_true, dec_false, true_and, and_true, true_imp_iff, Bool.not_true, Bool.not_false, Option.map_none, Int.reduceToNat, Int.toNat_zero, Int.toNat_one, lkV_false, lkV_true, f0, f3, f4]
    have rN := (Ext.rfl' V).dr.rd rN
    have r0 := (Ext.rfl' V).dr.rd r0
    refine Dr_plan [] (fun _ => true) [0, 1, 2, 3, 4, 5, 6, 7, 8, 9, 10, 11, 12, 13, 14, 15, 16, 17, 18, 19, 20, 21] mixed (by kernel_rfl) ?_
    simp (disch := first | omega | assumption | (simp only [O1, World.size_alloc, World.size_setCell, World.size_drew]; first | done | omega)) only [↓D1, ↓D3, ↓D4, List.not_mem_nil, not_false_eq_true, Bool.false_eq_true, false_imp_iff, upto, O1, D2, ↓H0, S0, ↓S1, ↓S2, ↓S3, ↓S4, S5, S5b, S5c, ↓S6, S6b, M0, E0, ty, tl, te, tc, i64_wrap, u64_wrap, iaV_sl, iaV_arr, faV_pa, nck_pa, heap_new, heap_old, heap_set, ↓reduceIte, Nat.reduceEqDiff, Nat.reduceLT, Nat.reduceAdd, Int.reduceLT, Int.reduceLE, decide_false, decide_true, dec_true, dec_false, true_and, and_true, true_imp_iff, Bool.not_true, Bool.not_false, Option.map_none, Int.reduceToNat, Int.toNat_zero, Int.toNat_one, lkV_false, lkV_true, f0, f3, f4, rN, r0, hsh, hmin, Nat.sub_zero]
    exact (hL.ext.tr hxV).dr
end Go.Proofs.Ytgioklmpnbnplaa
