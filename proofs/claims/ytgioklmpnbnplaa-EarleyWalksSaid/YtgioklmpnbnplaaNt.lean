/- The walks of primerlaw17's small example. Conditions: none. -/
import Derived.Test.YtgioklmpnbnplaaNe
set_option linter.unusedSimpArgs false
set_option linter.unusedVariables false
set_option maxRecDepth 100000
namespace Go.Proofs.Ytgioklmpnbnplaa
open Go.V Go.RowKit

theorem okNest {word : List Int} (h : ∀ t ∈ word, 0 ≤ t ∧ t < 3) (hl : word.length ≤ 64) : OkW gNest word := ⟨gNest_sound, hl, fun t ht => by have := h t ht; simp [gNest]; omega⟩
theorem ok_xxy : OkW gNest [0, 0, 1] := okNest (by simp) (by simp)
theorem nest_good {n : Int} (h : GoodP gNest [0, 0, 1] n) : n = 2 := by
  rcases h with ⟨h, _⟩ | ⟨_, h1, h2, h3⟩
  · exact absurd ok_xxy h
  · have a2 := (h3 2 (by simp)).2 ⟨[2, 1, 1], nest_iff.2 (.step (.step .z))⟩
    have a3 : ¬ (3 : Int) ≤ n := fun h => by
      obtain ⟨v, hv⟩ := (h3 3 (by simp)).1 h
      obtain ⟨u, hu, e⟩ := (nest_iff.1 hv).tail
      simp at e
      cases u with
      | nil => exact hu.ne
      | cons x u =>
        simp at e
        obtain ⟨e1, e2⟩ := e
        subst e1
        obtain ⟨u', hu', e3⟩ := hu.tail
        subst e3
        cases u' with
        | nil => exact hu'.ne
        | cons y u' =>
          simp at e2
          have := hu'.head
          omega
    simp at a2
    omega
theorem nest_next {xs : List Int} (h1 : xs.Pairwise (· < ·)) (h : ∀ x, x ∈ xs ↔ OkW gNest [0, 0, 1] ∧ (0 : Int) ≤ 2 ∧ (2 : Int) ≤ ([0, 0, 1] : List Int).length ∧ 0 ≤ x ∧ ∃ y, Dv gNest.prods [gNest.start] (([0, 0, 1] : List Int).take (2 : Int).toNat ++ x :: y)) : xs = [0, 2] := by
  refine asc_uniq h1 (by simp) fun x => ?_
  rw [h]
  constructor
  · rintro ⟨_, _, _, h0, y, hy⟩
    obtain ⟨u, hu, e⟩ := (nest_iff.1 hy).tail
    cases u with
    | nil => exact absurd hu (fun h => h.ne)
    | cons a u =>
      simp at e
      obtain ⟨e1, e2⟩ := e
      subst e1
      obtain ⟨u', hu', e3⟩ := hu.tail
      subst e3
      cases u' with
      | nil => exact absurd hu' (fun h => h.ne)
      | cons b u' =>
        simp at e2
        have := hu'.head
        simp; omega
  · intro hx
    simp at hx
    rcases hx with rfl | rfl
    · exact ⟨ok_xxy, by omega, by simp, by omega, [2, 1, 1, 1], nest_iff.2 (.step (.step (.step .z)))⟩
    · exact ⟨ok_xxy, by omega, by simp, by omega, [1, 1], nest_iff.2 (.step (.step .z))⟩
set_option maxHeartbeats 1000000 in
theorem nested17_ok (w : World) : Ok Try.prog 49 #[] w fun v w' => RepPG w' v gNest ∧ Ext w w' := by
  (refine Ok.enter Try.func49 rfl (by kernel_rfl) (Nat.le_of_ble_eq_true rfl) ?_; simp only [Try.f49, S7])
  simp (disch := first | omega | assumption | (simp only [O1, World.size_alloc, World.size_setCell, World.size_drew]; first | done | omega)) only [O1, D2, ↓H0, S0, ↓S1, ↓S2, ↓S3, ↓S4, S5, S5b, S5c, ↓S6, S6b, M0, E0, ty, tl, te, tc, i64_wrap, u64_wrap, iaV_sl, iaV_arr, faV_pa, nck_pa, heap_new, heap_old, heap_set, ↓reduceIte, Nat.reduceEqDiff, Nat.reduceLT, Nat.reduceAdd, Int.reduceLT, Int.reduceLE, decide_false, decide_true, dec_true, dec_false, true_and, and_true, true_imp_iff, Bool.not_true, Bool.not_false, Option.map_none, Int.reduceToNat, Int.toNat_zero, Int.toNat_one, lkV_false, lkV_true, bsl1 sl39, bsl3 sl39, bsl3 sl23, bsl1 sl23, bd35_1, bsl2_2 sl26, bd41_1_2_3_4]
  obtain ⟨X, hX⟩ : ∃ X, X = (((((w.alloc (.cells #[.int .i64 0, .int .i64 0, .slice none 0 0, .slice none 0 0, .slice none 0 0] 41)).alloc (.cells #[.string ⟨#[83]⟩] 9)).alloc (.cells #[.string ⟨#[120]⟩, .string ⟨#[121]⟩, .string ⟨#[122]⟩] 9)).alloc (.cells #[.int .i64 (-1), .int .i64 0, .int .i64 (-2)] 3)).alloc (.cells #[.int .i64 (-3)] 3)).alloc
    (.cells #[.int .i64 0, .slice (some ⟨w.heap.size + 1 + 1 + 1, 0, none⟩) 3 3, .int .i64 0, .slice (some ⟨w.heap.size + 1 + 1 + 1 + 1, 0, none⟩) 1 1] 35) := ⟨_, rfl⟩
  have hx : Ext w X := by rw [hX]; exact ((((((Ext.rfl' w).al _).al _).al _).al _).al _).al _
  have k0 : X.heap[w.heap.size]? = some (.cells #[.int .i64 0, .int .i64 0, .slice none 0 0, .slice none 0 0, .slice none 0 0] 41 (0, 0)) := by rw [hX]; simp (disch := first | omega | assumption | (simp only [O1, World.size_alloc, World.size_setCell, World.size_drew]; first | done | omega)) only [O1, ↓heap_new, ↓heap_old, ↓heap_set, World.size_alloc, World.size_drew, World.size_setCell]
  have k1 : X.heap[w.heap.size + 1]? = some (.cells #[.string ⟨#[83]⟩] 9 (0, 0)) := by rw [hX]; simp (disch := first | omega | assumption | (simp only [O1, World.size_alloc, World.size_setCell, World.size_drew]; first | done | omega)) only [O1, ↓heap_new, ↓heap_old, ↓heap_set, World.size_alloc, World.size_drew, World.size_setCell]
  have k2 : X.heap[w.heap.size + 1 + 1]? = some (.cells #[.string ⟨#[120]⟩, .string ⟨#[121]⟩, .string ⟨#[122]⟩] 9 (0, 0)) := by rw [hX]; simp (disch := first | omega | assumption | (simp only [O1, World.size_alloc, World.size_setCell, World.size_drew]; first | done | omega)) only [O1, ↓heap_new, ↓heap_old, ↓heap_set, World.size_alloc, World.size_drew, World.size_setCell]
  have k3 : X.heap[w.heap.size + 1 + 1 + 1]? = some (.cells #[.int .i64 (-1), .int .i64 0, .int .i64 (-2)] 3 (0, 0)) := by rw [hX]; simp (disch := first | omega | assumption | (simp only [O1, World.size_alloc, World.size_setCell, World.size_drew]; first | done | omega)) only [O1, ↓heap_new, ↓heap_old, ↓heap_set, World.size_alloc, World.size_drew, World.size_setCell]
  have k4 : X.heap[w.heap.size + 1 + 1 + 1 + 1]? = some (.cells #[.int .i64 (-3)] 3 (0, 0)) := by rw [hX]; simp (disch := first | omega | assumption | (simp only [O1, World.size_alloc, World.size_setCell, World.size_drew]; first | done | omega)) only [O1, ↓heap_new, ↓heap_old, ↓heap_set, World.size_alloc, World.size_drew, World.size_setCell]
  have k5 : X.heap[w.heap.size + 1 + 1 + 1 + 1 + 1]? = some (.cells #[.int .i64 0, .slice (some ⟨w.heap.size + 1 + 1 + 1, 0, none⟩) 3 3, .int .i64 0, .slice (some ⟨w.heap.size + 1 + 1 + 1 + 1, 0, none⟩) 1 1] 35 (0, 0)) := by rw [hX]; simp (disch := first | omega | assumption | (simp only [O1, World.size_alloc, World.size_setCell, World.size_drew]; first | done | omega)) only [O1, ↓heap_new, ↓heap_old, ↓heap_set, World.size_alloc, World.size_drew, World.size_setCell]
  rw [← hX]
  obtain ⟨Y, a1, a2, a3, a4⟩ := sto_agg (P := Try.prog) (T := 41) (w := X) (g := w.heap.size) (ds := #[.int .i64 0, .int .i64 1, .slice (some ⟨w.heap.size + 1, 0, none⟩) 1 1, .slice (some ⟨w.heap.size + 1 + 1, 0, none⟩) 3 3, .slice (some ⟨w.heap.size + 1 + 1 + 1 + 1 + 1, 0, none⟩) 2 2]) (by simp only [ty]; rfl) k0 rfl (by simp [Value.oneCell'])
  have kk : ∀ (b : Nat) (o : Obj), X.heap[b]? = some o → b ≠ w.heap.size → Y.heap[b]? = some o := fun b o h hne => (a3.block b (lt_heap h) (by simpa using hne)).trans h
  have j1 := kk _ _ k1 (by omega)
  have j2 := kk _ _ k2 (by omega)
  have j3 := kk _ _ k3 (by omega)
  have j4 := kk _ _ k4 (by omega)
  have j5 := kk _ _ k5 (by omega)
  have hxY : Ext w Y := hx.grown' a3 fun k hk => by cases hk; exact Nat.le_refl _
  simp (disch := first | omega | assumption | (simp only [O1, World.size_alloc, World.size_setCell, World.size_drew]; first | done | omega)) only [O1, D2, ↓H0, S0, ↓S1, ↓S2, ↓S3, ↓S4, S5, S5b, S5c, ↓S6, S6b, M0, E0, ty, tl, te, tc, i64_wrap, u64_wrap, iaV_sl, iaV_arr, faV_pa, nck_pa, heap_new, heap_old, heap_set, ↓reduceIte, Nat.reduceEqDiff, Nat.reduceLT, Nat.reduceAdd, Int.reduceLT, Int.reduceLE, decide_false, decide_true, dec_true, dec_false, true_and, and_true, true_imp_iff, Bool.not_true, Bool.not_false, Option.map_none, Int.reduceToNat, Int.toNat_zero, Int.toNat_one, lkV_false, lkV_true, a1, a2, ldA5]
  refine ⟨⟨_, _, _, rfl, ⟨_, 1, rfl, by simp [gNest], fun i hi => ?_⟩, ⟨_, 3, rfl, by simp [gNest], fun i hi => ?_⟩, ⟨some ⟨w.heap.size + 1 + 1 + 1 + 1 + 1, 0, none⟩, 2, rfl, by simp [gNest], fun i hi => ?_⟩⟩, hxY⟩
  · have : i = 0 := by simp [gNest] at hi; exact hi
    subst this; rw [rd_own, j1]; rfl
  · match i, hi with
    | 0, _ => rw [rd_own, j2]; rfl
    | 1, _ => rw [rd_own, j2]; rfl
    | 2, _ => rw [rd_own, j2]; rfl
  · match i, hi with
    | 0, _ =>
      refine ⟨by rw [rd_own, j5]; rfl, _, by rw [rd_own, j5]; rfl, some ⟨w.heap.size + 1 + 1 + 1, 0, none⟩, 3, rfl, by simp [gNest], fun j hj => ?_⟩
      match j, hj with
      | 0, _ => rw [rd_own, j3]; rfl
      | 1, _ => rw [rd_own, j3]; rfl
      | 2, _ => rw [rd_own, j3]; rfl
    | 1, _ =>
      refine ⟨by rw [rd_own, j5]; rfl, _, by rw [rd_own, j5]; rfl, some ⟨w.heap.size + 1 + 1 + 1 + 1, 0, none⟩, 1, rfl, by simp [gNest], fun j hj => ?_⟩
      match j, hj with
      | 0, _ => rw [rd_own, j4]; rfl
theorem gNest_small0 : SmallP gNest := gNest_small 0
set_option maxHeartbeats 1000000 in
theorem speaks17_ok (w : World) : Ok Try.prog 39 #[] w fun v w' => v = .bool true ∧ Ext w w' := by
  have lit : ∀ (W : World) (a b c : Int), Ints (W.alloc (.cells #[.int .i64 a, .int .i64 b, .int .i64 c] 3)) (.slice (some ⟨W.heap.size, 0, none⟩) 3 3) [a, b, c] := fun W a b c =>
    ⟨some ⟨W.heap.size, 0, none⟩, 3, rfl, Nat.le_refl _, fun i hi => by
      rw [rd_own, heap_new _ rfl]
      match i, hi with
      | 0, _ => rfl
      | 1, _ => rfl
      | 2, _ => rfl⟩
  (refine Ok.enter Try.func39 rfl (by kernel_rfl) (Nat.le_of_ble_eq_true rfl) ?_; simp only [Try.f39, S7])
  simp (disch := first | omega | assumption | (simp only [O1, World.size_alloc, World.size_setCell, World.size_drew]; first | done | omega)) only [O1, D2, ↓H0, S0, ↓S1, ↓S2, ↓S3, ↓S4, S5, S5b, S5c, ↓S6, S6b, M0, E0, ty, tl, te, tc, i64_wrap, u64_wrap, iaV_sl, iaV_arr, faV_pa, nck_pa, heap_new, heap_old, heap_set, ↓reduceIte, Nat.reduceEqDiff, Nat.reduceLT, Nat.reduceAdd, Int.reduceLT, Int.reduceLE, decide_false, decide_true, dec_true, dec_false, true_and, and_true, true_imp_iff, Bool.not_true, Bool.not_false, Option.map_none, Int.reduceToNat, Int.toNat_zero, Int.toNat_one, lkV_false, lkV_true]
  refine (nested17_ok w).then ?_
  rintro v0 W ⟨hg, hx⟩
  simp (disch := first | omega | assumption | (simp only [O1, World.size_alloc, World.size_setCell, World.size_drew]; first | done | omega)) only [O1, D2, ↓H0, S0, ↓S1, ↓S2, ↓S3, ↓S4, S5, S5b, S5c, ↓S6, S6b, M0, E0, ty, tl, te, tc, i64_wrap, u64_wrap, iaV_sl, iaV_arr, faV_pa, nck_pa, heap_new, heap_old, heap_set, ↓reduceIte, Nat.reduceEqDiff, Nat.reduceLT, Nat.reduceAdd, Int.reduceLT, Int.reduceLE, decide_false, decide_true, dec_true, dec_false, true_and, and_true, true_imp_iff, Bool.not_true, Bool.not_false, Option.map_none, Int.reduceToNat, Int.toNat_zero, Int.toNat_one, lkV_false, lkV_true, bsl3 sl23]
  have hx1 := (Ext.rfl' W).al (.cells #[.int .i64 0, .int .i64 0, .int .i64 1] 3)
  refine (makeE_ok _ _ gNest [0, 0, 1] _ (hg.ext hx1) gNest_small0 (lit W 0 0 1) (by simp)).then ?_
  rintro c1 W1 ⟨hc, hx2⟩
  have hcv : ChartV W1 c1 gNest [0, 0, 1] := hc
  simp (disch := first | omega | assumption | (simp only [O1, World.size_alloc, World.size_setCell, World.size_drew]; first | done | omega)) only [O1, D2, ↓H0, S0, ↓S1, ↓S2, ↓S3, ↓S4, S5, S5b, S5c, ↓S6, S6b, M0, E0, ty, tl, te, tc, i64_wrap, u64_wrap, iaV_sl, iaV_arr, faV_pa, nck_pa, heap_new, heap_old, heap_set, ↓reduceIte, Nat.reduceEqDiff, Nat.reduceLT, Nat.reduceAdd, Int.reduceLT, Int.reduceLE, decide_false, decide_true, dec_true, dec_false, true_and, and_true, true_imp_iff, Bool.not_true, Bool.not_false, Option.map_none, Int.reduceToNat, Int.toNat_zero, Int.toNat_one, lkV_false, lkV_true]
  refine (nextE_ok c1 2 gNest [0, 0, 1] W1 hcv).then ?_
  rintro nv W2 ⟨⟨xs, hxs, hpw, hiff⟩, hx3⟩
  rw [nest_next hpw hiff] at hxs
  simp (disch := first | omega | assumption | (simp only [O1, World.size_alloc, World.size_setCell, World.size_drew]; first | done | omega)) only [O1, D2, ↓H0, S0, ↓S1, ↓S2, ↓S3, ↓S4, S5, S5b, S5c, ↓S6, S6b, M0, E0, ty, tl, te, tc, i64_wrap, u64_wrap, iaV_sl, iaV_arr, faV_pa, nck_pa, heap_new, heap_old, heap_set, ↓reduceIte, Nat.reduceEqDiff, Nat.reduceLT, Nat.reduceAdd, Int.reduceLT, Int.reduceLE, decide_false, decide_true, dec_true, dec_false, true_and, and_true, true_imp_iff, Bool.not_true, Bool.not_false, Option.map_none, Int.reduceToNat, Int.toNat_zero, Int.toNat_one, lkV_false, lkV_true]
  refine (goodE_ok c1 gNest [0, 0, 1] W2 (hcv.ext hx3)).then ?_
  rintro _ W3 ⟨⟨n, rfl, hn⟩, rfl⟩
  rw [nest_good hn]
  obtain ⟨NA, nc, rfl, hnc, hNA⟩ := hxs
  have r1 := hNA 1 (by simp)
  have r1s := rd_isSome r1
  have hl2 : ([0, 2] : List Int).length = 2 := rfl
  have he : ([0, 2] : List Int)[1] = 2 := rfl
  rw [he] at r1
  simp (disch := first | omega | assumption | (simp only [O1, World.size_alloc, World.size_setCell, World.size_drew]; first | done | omega)) only [O1, D2, ↓H0, S0, ↓S1, ↓S2, ↓S3, ↓S4, S5, S5b, S5c, ↓S6, S6b, M0, E0, ty, tl, te, tc, i64_wrap, u64_wrap, iaV_sl, iaV_arr, faV_pa, nck_pa, heap_new, heap_old, heap_set, ↓reduceIte, Nat.reduceEqDiff, Nat.reduceLT, Nat.reduceAdd, Int.reduceLT, Int.reduceLE, decide_false, decide_true, dec_true, dec_false, true_and, and_true, true_imp_iff, Bool.not_true, Bool.not_false, Option.map_none, Int.reduceToNat, Int.toNat_zero, Int.toNat_one, lkV_false, lkV_true, r1, List.length_cons, List.length_nil]
  refine (nested17_ok W3).then ?_
  rintro v1 W4 ⟨hg4, hx4⟩
  simp (disch := first | omega | assumption | (simp only [O1, World.size_alloc, World.size_setCell, World.size_drew]; first | done | omega)) only [O1, D2, ↓H0, S0, ↓S1, ↓S2, ↓S3, ↓S4, S5, S5b, S5c, ↓S6, S6b, M0, E0, ty, tl, te, tc, i64_wrap, u64_wrap, iaV_sl, iaV_arr, faV_pa, nck_pa, heap_new, heap_old, heap_set, ↓reduceIte, Nat.reduceEqDiff, Nat.reduceLT, Nat.reduceAdd, Int.reduceLT, Int.reduceLE, decide_false, decide_true, dec_true, dec_false, true_and, and_true, true_imp_iff, Bool.not_true, Bool.not_false, Option.map_none, Int.reduceToNat, Int.toNat_zero, Int.toNat_one, lkV_false, lkV_true, bsl3 sl23]
  have hx5 := (Ext.rfl' W4).al (.cells #[.int .i64 0, .int .i64 2, .int .i64 1] 3)
  refine (makeE_ok _ _ gNest [0, 2, 1] _ (hg4.ext hx5) gNest_small0 (lit W4 0 2 1) (by simp)).then ?_
  rintro c2 W5 ⟨hc2, hx6⟩
  simp (disch := first | omega | assumption | (simp only [O1, World.size_alloc, World.size_setCell, World.size_drew]; first | done | omega)) only [O1, D2, ↓H0, S0, ↓S1, ↓S2, ↓S3, ↓S4, S5, S5b, S5c, ↓S6, S6b, M0, E0, ty, tl, te, tc, i64_wrap, u64_wrap, iaV_sl, iaV_arr, faV_pa, nck_pa, heap_new, heap_old, heap_set, ↓reduceIte, Nat.reduceEqDiff, Nat.reduceLT, Nat.reduceAdd, Int.reduceLT, Int.reduceLE, decide_false, decide_true, dec_true, dec_false, true_and, and_true, true_imp_iff, Bool.not_true, Bool.not_false, Option.map_none, Int.reduceToNat, Int.toNat_zero, Int.toNat_one, lkV_false, lkV_true]
  refine (yesE_ok c2 gNest [0, 2, 1] W5 hc2).then ?_
  rintro _ W6 ⟨⟨b, rfl, hb⟩, hx7⟩
  have : b = true := hb.2 ⟨okNest (by simp) (by simp), nest_iff.2 (.step .z)⟩
  subst this
  simp (disch := first | omega | assumption | (simp only [O1, World.size_alloc, World.size_setCell, World.size_drew]; first | done | omega)) only [O1, D2, ↓H0, S0, ↓S1, ↓S2, ↓S3, ↓S4, S5, S5b, S5c, ↓S6, S6b, M0, E0, ty, tl, te, tc, i64_wrap, u64_wrap, iaV_sl, iaV_arr, faV_pa, nck_pa, heap_new, heap_old, heap_set, ↓reduceIte, Nat.reduceEqDiff, Nat.reduceLT, Nat.reduceAdd, Int.reduceLT, Int.reduceLE, decide_false, decide_true, dec_true, dec_false, true_and, and_true, true_imp_iff, Bool.not_true, Bool.not_false, Option.map_none, Int.reduceToNat, Int.toNat_zero, Int.toNat_one, lkV_false, lkV_true]
  exact (((((hx.tr hx1).tr hx2).tr hx3).tr hx4).tr hx5).tr (hx6.tr hx7)
end Go.Proofs.Ytgioklmpnbnplaa
