/- The walk of the function by which a law makes its grammar of raw numbers. Conditions: none. -/
import Derived.Test.YtgioklmpnbnplaaMk
set_option linter.unusedSimpArgs false
set_option linter.unusedVariables false
set_option maxRecDepth 100000
namespace Go.Proofs.Ytgioklmpnbnplaa
open Go.V

set_option maxHeartbeats 8000000 in
theorem made17_ok (xv : Value) (x : RawG) (w : World) (hx : RepRaw w xv x) : Ok Try.prog 40 #[xv] w fun v w' => (∃ p q g, v = .tuple #[p, q] ∧ RepPG w' p g ∧ RepPG w' q g ∧ NiceG g 4 12 4) ∧ Ext w w' := by
  obtain ⟨lv, rv, rfl, hL, hR⟩ := hx
  obtain ⟨LA, lc, rfl, hlc, hLA⟩ := hL
  obtain ⟨RA, rc, rfl, hrc, hRA⟩ := hR
  (refine Ok.enter Try.func40 rfl (by kernel_rfl) (Nat.le_of_ble_eq_true rfl) ?_; simp only [Try.f40, S7])
  simp (disch := first | omega | assumption | (simp only [O1, World.size_alloc, World.size_setCell, World.size_drew]; first | done | omega)) only [O1, D2, ↓H0, S0, ↓S1, ↓S2, ↓S3, ↓S4, S5, S5b, S5c, ↓S6, S6b, M0, E0, ty, tl, te, tc, i64_wrap, u64_wrap, iaV_sl, iaV_arr, faV_pa, nck_pa, heap_new, heap_old, heap_set, ↓reduceIte, Nat.reduceEqDiff, Nat.reduceLT, Nat.reduceAdd, Int.reduceLT, Int.reduceLE, decide_false, decide_true, dec_true, dec_false, true_and, and_true, true_imp_iff, Bool.not_true, Bool.not_false, Option.map_none, Int.reduceToNat, Int.toNat_zero, Int.toNat_one, lkV_false, lkV_true]
  obtain ⟨W0, hW0⟩ : ∃ W0, W0 = ((w.alloc (.cells #[.int .i64 x.n, .int .i64 x.t, .int .i64 x.start, .slice LA x.left.length lc, .slice RA x.right.length rc] 58)).alloc (.cells #[.int .i64 0, .int .i64 0, .slice none 0 0, .slice none 0 0, .slice none 0 0] 41)).alloc (.cells #[.int .i64 0, .int .i64 0, .slice none 0 0, .slice none 0 0, .slice none 0 0] 49) := ⟨_, rfl⟩
  have hx0 : Ext w W0 := by rw [hW0]; exact (((Ext.rfl' w).al _).al _).al _
  have hs0 : W0.heap.size = w.heap.size + 1 + 1 + 1 := by rw [hW0]; simp
  have hraw : W0.heap[w.heap.size]? = some (.cells #[.int .i64 x.n, .int .i64 x.t, .int .i64 x.start, .slice LA x.left.length lc, .slice RA x.right.length rc] 58 (0, 0)) := by rw [hW0]; simp (disch := first | omega | assumption | (simp only [O1, World.size_alloc, World.size_setCell, World.size_drew]; first | done | omega)) only [O1, ↓heap_new, ↓heap_old, ↓heap_set, World.size_alloc, World.size_drew, World.size_setCell]
  have hc2 : W0.heap[w.heap.size + 1]? = some (.cells #[.int .i64 0, .int .i64 0, .slice none 0 0, .slice none 0 0, .slice none 0 0] 41 (0, 0)) := by rw [hW0]; simp (disch := first | omega | assumption | (simp only [O1, World.size_alloc, World.size_setCell, World.size_drew]; first | done | omega)) only [O1, ↓heap_new, ↓heap_old, ↓heap_set, World.size_alloc, World.size_drew, World.size_setCell]
  have hc3 : W0.heap[w.heap.size + 1 + 1]? = some (.cells #[.int .i64 0, .int .i64 0, .slice none 0 0, .slice none 0 0, .slice none 0 0] 49 (0, 0)) := by rw [hW0]; simp (disch := first | omega | assumption | (simp only [O1, World.size_alloc, World.size_setCell, World.size_drew]; first | done | omega)) only [O1, ↓heap_new, ↓heap_old, ↓heap_set, World.size_alloc, World.size_drew, World.size_setCell]
  have hraw' : W0.drew.heap[w.heap.size]? = _ := hraw
  rw [← hW0]
  obtain ⟨m1, hm1, he1⟩ := andI x.n 3 (by omega)
  obtain ⟨tn, hm2, he2⟩ := andI x.t 3 (by omega)
  have he1 : IntKind.i64.wrap ((BitVec.ofInt IntKind.i64.bits x.n &&& BitVec.ofInt IntKind.i64.bits 3).toNat : Int) = (m1 : Int) := he1
  have he2 : IntKind.i64.wrap ((BitVec.ofInt IntKind.i64.bits x.t &&& BitVec.ofInt IntKind.i64.bits 3).toNat : Int) = (tn : Int) := he2
  obtain ⟨n, hn⟩ : ∃ n, n = m1 + 1 := ⟨_, rfl⟩
  have e1 : (1 : Int) + (m1 : Int) = (n : Int) := by omega
  have hn1 : 1 ≤ n := by omega
  have hn8 : n ≤ 4 := by omega
  obtain ⟨⟨hb1, hb2⟩, r0, hr0, hmod⟩ := modI x.start n hn1
  refine Dr_plan [] (fun _ => true) [0, 1, 2, 3, 4, 5, 6, 7, 8] mixed (by kernel_rfl) ?_
  simp (disch := first | omega | assumption | (simp only [O1, World.size_alloc, World.size_setCell, World.size_drew]; first | done | omega)) only [↓D1, ↓D3, ↓D4, List.not_mem_nil, not_false_eq_true, Bool.false_eq_true, false_imp_iff, upto, O1, D2, ↓H0, S0, ↓S1, ↓S2, ↓S3, ↓S4, S5, S5b, S5c, ↓S6, S6b, M0, E0, ty, tl, te, tc, i64_wrap, u64_wrap, iaV_sl, iaV_arr, faV_pa, nck_pa, heap_new, heap_old, heap_set, ↓reduceIte, Nat.reduceEqDiff, Nat.reduceLT, Nat.reduceAdd, Int.reduceLT, Int.reduceLE, decide_false, decide_true, dec_true, dec_false, true_and, and_true, true_imp_iff, Bool.not_true, Bool.not_false, Option.map_none, Int.reduceToNat, Int.toNat_zero, Int.toNat_one, lkV_false, lkV_true, hraw, hraw', he1, he2, e1]
  simp (disch := first | omega | assumption | (simp only [O1, World.size_alloc, World.size_setCell, World.size_drew]; first | done | omega)) only [O1, D2, ↓H0, S0, ↓S1, ↓S2, ↓S3, ↓S4, S5, S5b, S5c, ↓S6, S6b, M0, E0, ty, tl, te, tc, i64_wrap, u64_wrap, iaV_sl, iaV_arr, faV_pa, nck_pa, heap_new, heap_old, heap_set, ↓reduceIte, Nat.reduceEqDiff, Nat.reduceLT, Nat.reduceAdd, Int.reduceLT, Int.reduceLE, decide_false, decide_true, dec_true, dec_false, true_and, and_true, true_imp_iff, Bool.not_true, Bool.not_false, Option.map_none, Int.reduceToNat, Int.toNat_zero, Int.toNat_one, lkV_false, lkV_true, hraw, hraw', hmod, bd49_0_1]
  have hst := st49 (T' := 49) W0.drew (.int .i64 (r0 : Int)) (.int .i64 (n : Int)) (.slice none 0 0) (.slice none 0 0) (.slice none 0 0) rfl rfl rfl rfl rfl
  rw [World.size_drew] at hst
  simp (disch := first | omega | assumption | (simp only [O1, World.size_alloc, World.size_setCell, World.size_drew]; first | done | omega)) only [O1, D2, ↓H0, S0, ↓S1, ↓S2, ↓S3, ↓S4, S5, S5b, S5c, ↓S6, S6b, M0, E0, ty, tl, te, tc, i64_wrap, u64_wrap, iaV_sl, iaV_arr, faV_pa, nck_pa, heap_new, heap_old, heap_set, ↓reduceIte, Nat.reduceEqDiff, Nat.reduceLT, Nat.reduceAdd, Int.reduceLT, Int.reduceLE, decide_false, decide_true, dec_true, dec_false, true_and, and_true, true_imp_iff, Bool.not_true, Bool.not_false, Option.map_none, Int.reduceToNat, Int.toNat_zero, Int.toNat_one, lkV_false, lkV_true, hst]
  obtain ⟨U0, hU0⟩ : ∃ U0, U0 = W0.drew.alloc (.cells #[.int .i64 (r0 : Int), .int .i64 (n : Int), .slice none 0 0, .slice none 0 0, .slice none 0 0] 49) := ⟨_, rfl⟩
  rw [← hU0]
  have hG0 : GrW 49 99 W0 U0 W0.heap.size U0.heap.size U0.heap.size (r0 : Int) (n : Int) [] [] [] (.slice none 0 0) (.slice none 0 0) (.slice none 0 0) := by
    have hs : U0.heap.size = W0.heap.size + 1 := by rw [hU0]; simp
    refine ⟨by rw [hU0]; exact ((Ext.rfl' W0).dr).al _, by rw [hU0]; exact heap_new _ rfl, Row.nil _, Row.nil _, fun k hk => by simp [Value.ownBlock] at hk, PRow.nil _, by omega, Nat.le_refl _, Nat.le_refl _, Nat.le_refl _, by decide⟩
  clear hst hraw' hU0
  generalize hbb : W0.heap.size = b at hG0 hs0 ⊢
  generalize hbs : U0.heap.size = base at hG0 ⊢
  refine ⟨fun k t U => ∃ (i : Nat) (nv : Value), k + i = n ∧ GrW 49 99 W0 U b base base (r0 : Int) (n : Int) ((List.range i).map (nm1 65)) [] [] nv (.slice none 0 0) (.slice none 0 0) ∧ t 1 = pa (some ⟨w.heap.size, 0, none⟩) 0 ∧ t 2 = pa (some ⟨w.heap.size + 1, 0, none⟩) 0 ∧ t 3 = pa (some ⟨w.heap.size + 1 + 1, 0, none⟩) 0 ∧ t 4 = .int .i64 n ∧ t 5 = .int .i64 tn ∧ t 6 = pa (some ⟨b, 0, none⟩) 0 ∧ t 7 = .int .i64 i, ⟨n, 0, _, by omega, hG0, ?_⟩, ?_⟩
  · simp (disch := first | omega | assumption | (simp only [O1, World.size_alloc, World.size_setCell, World.size_drew]; first | done | omega)) only [O1, D2, ↓H0, S0, ↓S1, ↓S2, ↓S3, ↓S4, S5, S5b, S5c, ↓S6, S6b, M0, E0, ty, tl, te, tc, i64_wrap, u64_wrap, iaV_sl, iaV_arr, faV_pa, nck_pa, heap_new, heap_old, heap_set, ↓reduceIte, Nat.reduceEqDiff, Nat.reduceLT, Nat.reduceAdd, Int.reduceLT, Int.reduceLE, decide_false, decide_true, dec_true, dec_false, true_and, and_true, true_imp_iff, Bool.not_true, Bool.not_false, Option.map_none, Int.reduceToNat, Int.toNat_zero, Int.toNat_one, lkV_false, lkV_true] <;> rfl
  clear hG0
  rintro k t U ⟨i, nv, hk, hG, f1, f2, f3, f4, f5, f6, f7⟩
  have hbx := hG.box
  simp (disch := first | omega | assumption | (simp only [O1, World.size_alloc, World.size_setCell, World.size_drew]; first | done | omega)) only [O1, D2, ↓H0, S0, ↓S1, ↓S2, ↓S3, ↓S4, S5, S5b, S5c, ↓S6, S6b, M0, E0, ty, tl, te, tc, i64_wrap, u64_wrap, iaV_sl, iaV_arr, faV_pa, nck_pa, heap_new, heap_old, heap_set, ↓reduceIte, Nat.reduceEqDiff, Nat.reduceLT, Nat.reduceAdd, Int.reduceLT, Int.reduceLE, decide_false, decide_true, dec_true, dec_false, true_and, and_true, true_imp_iff, Bool.not_true, Bool.not_false, Option.map_none, Int.reduceToNat, Int.toNat_zero, Int.toNat_one, lkV_false, lkV_true, f1, f2, f3, f4, f5, f6, f7]
  refine Br_if (fun h => ?_) (fun h' => ?_) <;> (try simp (disch := first | omega | assumption | (simp only [O1, World.size_alloc, World.size_setCell, World.size_drew]; first | done | omega)) only [O1, D2, ↓H0, S0, ↓S1, ↓S2, ↓S3, ↓S4, S5, S5b, S5c, ↓S6, S6b, M0, E0, ty, tl, te, tc, i64_wrap, u64_wrap, iaV_sl, iaV_arr, faV_pa, nck_pa, heap_new, heap_old, heap_set, ↓reduceIte, Nat.reduceEqDiff, Nat.reduceLT, Nat.reduceAdd, Int.reduceLT, Int.reduceLE, decide_false, decide_true, dec_true, dec_false, true_and, and_true, true_imp_iff, Bool.not_true, Bool.not_false, Option.map_none, Int.reduceToNat, Int.toNat_zero, Int.toNat_one, lkV_false, lkV_true, f1, f2, f3, f4, f5, f6, f7])
  · have e65 : (65 : Int) + (i : Int) = ((65 + i : Nat) : Int) := by omega
    have u1 : IntKind.u8.wrap ((65 + i : Nat) : Int) = ((65 + i : Nat) : Int) := u8_wrap (by omega) (by omega)
    simp (disch := first | omega | assumption | (simp only [O1, World.size_alloc, World.size_setCell, World.size_drew]; first | done | omega)) only [O1, D2, ↓H0, S0, ↓S1, ↓S2, ↓S3, ↓S4, S5, S5b, S5c, ↓S6, S6b, M0, E0, ty, tl, te, tc, i64_wrap, u64_wrap, iaV_sl, iaV_arr, faV_pa, nck_pa, heap_new, heap_old, heap_set, ↓reduceIte, Nat.reduceEqDiff, Nat.reduceLT, Nat.reduceAdd, Int.reduceLT, Int.reduceLE, decide_false, decide_true, dec_true, dec_false, true_and, and_true, true_imp_iff, Bool.not_true, Bool.not_false, Option.map_none, Int.reduceToNat, Int.toNat_zero, Int.toNat_one, lkV_false, lkV_true, f1, f2, f3, f4, f5, f6, f7, hbx, e65, u1, bsl1 sl42, bytes1, byV_some, bsl1 sl39]
    obtain ⟨V, hV⟩ : ∃ V, V = U.alloc (.cells #[.int .u8 ((65 + i : Nat) : Int)] 5) := ⟨_, rfl⟩
    have hVs : V.heap.size = U.heap.size + 1 := by rw [hV]; simp
    have hGV := hG.ext' ((Ext.rfl' U).al (.cells #[.int .u8 ((65 + i : Nat) : Int)] 5))
    rw [← hV] at hGV
    rw [← hV, ← hVs]
    refine RunA_row (enc := Value.string) (x := nm1 65 i) sl39 hGV.nrow rfl (by simp; omega) (by omega) hGV.le ?_
    intro nv' X hR hg hsz hv
    obtain ⟨hst1, hG1⟩ := hGV.name hR hg hv
    rw [← rng_snoc] at hG1
    simp (disch := first | omega | assumption | (simp only [O1, World.size_alloc, World.size_setCell, World.size_drew]; first | done | omega)) only [O1, D2, ↓H0, S0, ↓S1, ↓S2, ↓S3, ↓S4, S5, S5b, S5c, ↓S6, S6b, M0, E0, ty, tl, te, tc, i64_wrap, u64_wrap, iaV_sl, iaV_arr, faV_pa, nck_pa, heap_new, heap_old, heap_set, ↓reduceIte, Nat.reduceEqDiff, Nat.reduceLT, Nat.reduceAdd, Int.reduceLT, Int.reduceLE, decide_false, decide_true, dec_true, dec_false, true_and, and_true, true_imp_iff, Bool.not_true, Bool.not_false, Option.map_none, Int.reduceToNat, Int.toNat_zero, Int.toNat_one, lkV_false, lkV_true, f1, f2, f3, f4, f5, f6, f7, hst1]
    exact ⟨k - 1, by omega, i + 1, nv', by omega, hG1, rfl⟩
  have hin : i = n := by omega
  subst hin
  refine ⟨fun k t U => ∃ (j : Nat) (tv : Value), k + j = tn ∧ GrW 49 99 W0 U b base base (r0 : Int) (i : Int) ((List.range i).map (nm1 65)) ((List.range j).map (nm1 97)) [] nv tv (.slice none 0 0) ∧ t 1 = pa (some ⟨w.heap.size, 0, none⟩) 0 ∧ t 2 = pa (some ⟨w.heap.size + 1, 0, none⟩) 0 ∧ t 3 = pa (some ⟨w.heap.size + 1 + 1, 0, none⟩) 0 ∧ t 4 = .int .i64 i ∧ t 5 = .int .i64 tn ∧ t 6 = pa (some ⟨b, 0, none⟩) 0 ∧ t 8 = .int .i64 j, ⟨tn, 0, _, by omega, hG, ?_⟩, ?_⟩
  · simp (disch := first | omega | assumption | (simp only [O1, World.size_alloc, World.size_setCell, World.size_drew]; first | done | omega)) only [O1, D2, ↓H0, S0, ↓S1, ↓S2, ↓S3, ↓S4, S5, S5b, S5c, ↓S6, S6b, M0, E0, ty, tl, te, tc, i64_wrap, u64_wrap, iaV_sl, iaV_arr, faV_pa, nck_pa, heap_new, heap_old, heap_set, ↓reduceIte, Nat.reduceEqDiff, Nat.reduceLT, Nat.reduceAdd, Int.reduceLT, Int.reduceLE, decide_false, decide_true, dec_true, dec_false, true_and, and_true, true_imp_iff, Bool.not_true, Bool.not_false, Option.map_none, Int.reduceToNat, Int.toNat_zero, Int.toNat_one, lkV_false, lkV_true, f1, f2, f3, f4, f5, f6] <;> rfl
  clear hG hbx f1 f2 f3 f4 f5 f6 f7
  rintro k t U ⟨j, tv, hk, hG, f1, f2, f3, f4, f5, f6, f8⟩
  have hbx := hG.box
  simp (disch := first | omega | assumption | (simp only [O1, World.size_alloc, World.size_setCell, World.size_drew]; first | done | omega)) only [O1, D2, ↓H0, S0, ↓S1, ↓S2, ↓S3, ↓S4, S5, S5b, S5c, ↓S6, S6b, M0, E0, ty, tl, te, tc, i64_wrap, u64_wrap, iaV_sl, iaV_arr, faV_pa, nck_pa, heap_new, heap_old, heap_set, ↓reduceIte, Nat.reduceEqDiff, Nat.reduceLT, Nat.reduceAdd, Int.reduceLT, Int.reduceLE, decide_false, decide_true, dec_true, dec_false, true_and, and_true, true_imp_iff, Bool.not_true, Bool.not_false, Option.map_none, Int.reduceToNat, Int.toNat_zero, Int.toNat_one, lkV_false, lkV_true, f1, f2, f3, f4, f5, f6, f8]
  refine Br_if (fun h => ?_) (fun h'' => ?_) <;> (try simp (disch := first | omega | assumption | (simp only [O1, World.size_alloc, World.size_setCell, World.size_drew]; first | done | omega)) only [O1, D2, ↓H0, S0, ↓S1, ↓S2, ↓S3, ↓S4, S5, S5b, S5c, ↓S6, S6b, M0, E0, ty, tl, te, tc, i64_wrap, u64_wrap, iaV_sl, iaV_arr, faV_pa, nck_pa, heap_new, heap_old, heap_set, ↓reduceIte, Nat.reduceEqDiff, Nat.reduceLT, Nat.reduceAdd, Int.reduceLT, Int.reduceLE, decide_false, decide_true, dec_true, dec_false, true_and, and_true, true_imp_iff, Bool.not_true, Bool.not_false, Option.map_none, Int.reduceToNat, Int.toNat_zero, Int.toNat_one, lkV_false, lkV_true, f1, f2, f3, f4, f5, f6, f8])
  · have e97 : (97 : Int) + (j : Int) = ((97 + j : Nat) : Int) := by omega
    have u1 : IntKind.u8.wrap ((97 + j : Nat) : Int) = ((97 + j : Nat) : Int) := u8_wrap (by omega) (by omega)
    simp (disch := first | omega | assumption | (simp only [O1, World.size_alloc, World.size_setCell, World.size_drew]; first | done | omega)) only [O1, D2, ↓H0, S0, ↓S1, ↓S2, ↓S3, ↓S4, S5, S5b, S5c, ↓S6, S6b, M0, E0, ty, tl, te, tc, i64_wrap, u64_wrap, iaV_sl, iaV_arr, faV_pa, nck_pa, heap_new, heap_old, heap_set, ↓reduceIte, Nat.reduceEqDiff, Nat.reduceLT, Nat.reduceAdd, Int.reduceLT, Int.reduceLE, decide_false, decide_true, dec_true, dec_false, true_and, and_true, true_imp_iff, Bool.not_true, Bool.not_false, Option.map_none, Int.reduceToNat, Int.toNat_zero, Int.toNat_one, lkV_false, lkV_true, f1, f2, f3, f4, f5, f6, f8, hbx, e97, u1, bsl1 sl42, bytes1, byV_some, bsl1 sl39]
    obtain ⟨V, hV⟩ : ∃ V, V = U.alloc (.cells #[.int .u8 ((97 + j : Nat) : Int)] 5) := ⟨_, rfl⟩
    have hVs : V.heap.size = U.heap.size + 1 := by rw [hV]; simp
    have hGV := hG.ext' ((Ext.rfl' U).al (.cells #[.int .u8 ((97 + j : Nat) : Int)] 5))
    rw [← hV] at hGV
    rw [← hV, ← hVs]
    refine RunA_row (enc := Value.string) (x := nm1 97 j) sl39 hGV.trow rfl (by simp; omega) (by omega) hGV.le ?_
    intro tv' X hR hg hsz hv
    obtain ⟨hst1, hG1⟩ := hGV.term hR hg hv
    rw [← rng_snoc] at hG1
    simp (disch := first | omega | assumption | (simp only [O1, World.size_alloc, World.size_setCell, World.size_drew]; first | done | omega)) only [O1, D2, ↓H0, S0, ↓S1, ↓S2, ↓S3, ↓S4, S5, S5b, S5c, ↓S6, S6b, M0, E0, ty, tl, te, tc, i64_wrap, u64_wrap, iaV_sl, iaV_arr, faV_pa, nck_pa, heap_new, heap_old, heap_set, ↓reduceIte, Nat.reduceEqDiff, Nat.reduceLT, Nat.reduceAdd, Int.reduceLT, Int.reduceLE, decide_false, decide_true, dec_true, dec_false, true_and, and_true, true_imp_iff, Bool.not_true, Bool.not_false, Option.map_none, Int.reduceToNat, Int.toNat_zero, Int.toNat_one, lkV_false, lkV_true, f1, f2, f3, f4, f5, f6, f8, hst1]
    exact ⟨k - 1, by omega, j + 1, tv', by omega, hG1, rfl⟩
  have hjn : j = tn := by omega
  subst hjn
  have hNd : ((List.range i).map (nm1 65)).length = i := by simp
  have hTd : ((List.range j).map (nm1 97)).length = j := by simp
  obtain ⟨NN, hNN⟩ : ∃ NN, NN = (List.range i).map (nm1 65) := ⟨_, rfl⟩
  obtain ⟨TT, hTT⟩ : ∃ TT, TT = (List.range j).map (nm1 97) := ⟨_, rfl⟩
  rw [← hNN] at hG hNd
  rw [← hTT] at hG hTd
  clear h' h'' hbs
  refine ⟨fun k t U => ∃ (lf : Nat) (pv : Value) (l : List (Int × List Int)) (B : Nat), k + lf = i ∧ GrW 49 99 W0 U b base B (r0 : Int) (i : Int) NN TT l nv tv pv ∧ PrS i j 4 lf (lf * 12) l ∧ t 1 = pa (some ⟨w.heap.size, 0, none⟩) 0 ∧ t 2 = pa (some ⟨w.heap.size + 1, 0, none⟩) 0 ∧ t 3 = pa (some ⟨w.heap.size + 1 + 1, 0, none⟩) 0 ∧ t 4 = .int .i64 i ∧ t 5 = .int .i64 j ∧ t 6 = pa (some ⟨b, 0, none⟩) 0 ∧ t 9 = .int .i64 lf, ⟨i, 0, _, [], base, by omega, hG, PrS.nil _ _ _ _ _, ?_⟩, ?_⟩
  · simp (disch := first | omega | assumption | (simp only [O1, World.size_alloc, World.size_setCell, World.size_drew]; first | done | omega)) only [O1, D2, ↓H0, S0, ↓S1, ↓S2, ↓S3, ↓S4, S5, S5b, S5c, ↓S6, S6b, M0, E0, ty, tl, te, tc, i64_wrap, u64_wrap, iaV_sl, iaV_arr, faV_pa, nck_pa, heap_new, heap_old, heap_set, ↓reduceIte, Nat.reduceEqDiff, Nat.reduceLT, Nat.reduceAdd, Int.reduceLT, Int.reduceLE, decide_false, decide_true, dec_true, dec_false, true_and, and_true, true_imp_iff, Bool.not_true, Bool.not_false, Option.map_none, Int.reduceToNat, Int.toNat_zero, Int.toNat_one, lkV_false, lkV_true, f1, f2, f3, f4, f5, f6] <;> rfl
  clear hG hbx f1 f2 f3 f4 f5 f6 f8
  rintro k t U ⟨lf, pv, l, B, hk, hG, hP, f1, f2, f3, f4, f5, f6, f9⟩
  simp (disch := first | omega | assumption | (simp only [O1, World.size_alloc, World.size_setCell, World.size_drew]; first | done | omega)) only [O1, D2, ↓H0, S0, ↓S1, ↓S2, ↓S3, ↓S4, S5, S5b, S5c, ↓S6, S6b, M0, E0, ty, tl, te, tc, i64_wrap, u64_wrap, iaV_sl, iaV_arr, faV_pa, nck_pa, heap_new, heap_old, heap_set, ↓reduceIte, Nat.reduceEqDiff, Nat.reduceLT, Nat.reduceAdd, Int.reduceLT, Int.reduceLE, decide_false, decide_true, dec_true, dec_false, true_and, and_true, true_imp_iff, Bool.not_true, Bool.not_false, Option.map_none, Int.reduceToNat, Int.toNat_zero, Int.toNat_one, lkV_false, lkV_true, f1, f2, f3, f4, f5, f6, f9]
  refine Br_if (fun h => ?_) (fun h' => ?_) <;> (try simp (disch := first | omega | assumption | (simp only [O1, World.size_alloc, World.size_setCell, World.size_drew]; first | done | omega)) only [O1, D2, ↓H0, S0, ↓S1, ↓S2, ↓S3, ↓S4, S5, S5b, S5c, ↓S6, S6b, M0, E0, ty, tl, te, tc, i64_wrap, u64_wrap, iaV_sl, iaV_arr, faV_pa, nck_pa, heap_new, heap_old, heap_set, ↓reduceIte, Nat.reduceEqDiff, Nat.reduceLT, Nat.reduceAdd, Int.reduceLT, Int.reduceLE, decide_false, decide_true, dec_true, dec_false, true_and, and_true, true_imp_iff, Bool.not_true, Bool.not_false, Option.map_none, Int.reduceToNat, Int.toNat_zero, Int.toNat_one, lkV_false, lkV_true, f1, f2, f3, f4, f5, f6, f9])
  · refine ⟨fun k2 t U => ∃ (ix : Nat) (pv : Value) (l : List (Int × List Int)) (B : Nat), k2 + ix = 12 ∧ GrW 49 99 W0 U b base B (r0 : Int) (i : Int) NN TT l nv tv pv ∧ PrS i j 4 (lf + 1) (lf * 12 + ix) l ∧ t 1 = pa (some ⟨w.heap.size, 0, none⟩) 0 ∧ t 2 = pa (some ⟨w.heap.size + 1, 0, none⟩) 0 ∧ t 3 = pa (some ⟨w.heap.size + 1 + 1, 0, none⟩) 0 ∧ t 4 = .int .i64 i ∧ t 5 = .int .i64 j ∧ t 6 = pa (some ⟨b, 0, none⟩) 0 ∧ t 9 = .int .i64 lf ∧ t 10 = .int .i64 ix, ⟨12, 0, pv, l, B, by omega, hG, hP.mono (by omega) (by omega), ?_⟩, ?_⟩
    · simp (disch := first | omega | assumption | (simp only [O1, World.size_alloc, World.size_setCell, World.size_drew]; first | done | omega)) only [O1, D2, ↓H0, S0, ↓S1, ↓S2, ↓S3, ↓S4, S5, S5b, S5c, ↓S6, S6b, M0, E0, ty, tl, te, tc, i64_wrap, u64_wrap, iaV_sl, iaV_arr, faV_pa, nck_pa, heap_new, heap_old, heap_set, ↓reduceIte, Nat.reduceEqDiff, Nat.reduceLT, Nat.reduceAdd, Int.reduceLT, Int.reduceLE, decide_false, decide_true, dec_true, dec_false, true_and, and_true, true_imp_iff, Bool.not_true, Bool.not_false, Option.map_none, Int.reduceToNat, Int.toNat_zero, Int.toNat_one, lkV_false, lkV_true, f1, f2, f3, f4, f5, f6, f9] <;> rfl
    clear hG hP f1 f2 f3 f4 f5 f6 f9
    rintro k2 t U ⟨ix, pv, l, B, hk2, hG, hP, f1, f2, f3, f4, f5, f6, f9, f10⟩
    have hrw := hG.ext.hp hraw
    have hbx := hG.box
    simp (disch := first | omega | assumption | (simp only [O1, World.size_alloc, World.size_setCell, World.size_drew]; first | done | omega)) only [O1, D2, ↓H0, S0, ↓S1, ↓S2, ↓S3, ↓S4, S5, S5b, S5c, ↓S6, S6b, M0, E0, ty, tl, te, tc, i64_wrap, u64_wrap, iaV_sl, iaV_arr, faV_pa, nck_pa, heap_new, heap_old, heap_set, ↓reduceIte, Nat.reduceEqDiff, Nat.reduceLT, Nat.reduceAdd, Int.reduceLT, Int.reduceLE, decide_false, decide_true, dec_true, dec_false, true_and, and_true, true_imp_iff, Bool.not_true, Bool.not_false, Option.map_none, Int.reduceToNat, Int.toNat_zero, Int.toNat_one, lkV_false, lkV_true, f1, f2, f3, f4, f5, f6, f9, f10, hrw]
    refine Br_if (fun h1 => ?_) (fun h1 => ?_) <;> (try simp (disch := first | omega | assumption | (simp only [O1, World.size_alloc, World.size_setCell, World.size_drew]; first | done | omega)) only [O1, D2, ↓H0, S0, ↓S1, ↓S2, ↓S3, ↓S4, S5, S5b, S5c, ↓S6, S6b, M0, E0, ty, tl, te, tc, i64_wrap, u64_wrap, iaV_sl, iaV_arr, faV_pa, nck_pa, heap_new, heap_old, heap_set, ↓reduceIte, Nat.reduceEqDiff, Nat.reduceLT, Nat.reduceAdd, Int.reduceLT, Int.reduceLE, decide_false, decide_true, dec_true, dec_false, true_and, and_true, true_imp_iff, Bool.not_true, Bool.not_false, Option.map_none, Int.reduceToNat, Int.toNat_zero, Int.toNat_one, lkV_false, lkV_true, f1, f2, f3, f4, f5, f6, f9, f10, hrw])
    · refine Br_if (fun h2 => ?_) (fun h2 => ?_) <;> (try simp (disch := first | omega | assumption | (simp only [O1, World.size_alloc, World.size_setCell, World.size_drew]; first | done | omega)) only [O1, D2, ↓H0, S0, ↓S1, ↓S2, ↓S3, ↓S4, S5, S5b, S5c, ↓S6, S6b, M0, E0, ty, tl, te, tc, i64_wrap, u64_wrap, iaV_sl, iaV_arr, faV_pa, nck_pa, heap_new, heap_old, heap_set, ↓reduceIte, Nat.reduceEqDiff, Nat.reduceLT, Nat.reduceAdd, Int.reduceLT, Int.reduceLE, decide_false, decide_true, dec_true, dec_false, true_and, and_true, true_imp_iff, Bool.not_true, Bool.not_false, Option.map_none, Int.reduceToNat, Int.toNat_zero, Int.toNat_one, lkV_false, lkV_true, f1, f2, f3, f4, f5, f6, f9, f10, hrw])
      · refine Br_if (fun h3 => ?_) (fun h3 => ?_) <;> (try simp (disch := first | omega | assumption | (simp only [O1, World.size_alloc, World.size_setCell, World.size_drew]; first | done | omega)) only [O1, D2, ↓H0, S0, ↓S1, ↓S2, ↓S3, ↓S4, S5, S5b, S5c, ↓S6, S6b, M0, E0, ty, tl, te, tc, i64_wrap, u64_wrap, iaV_sl, iaV_arr, faV_pa, nck_pa, heap_new, heap_old, heap_set, ↓reduceIte, Nat.reduceEqDiff, Nat.reduceLT, Nat.reduceAdd, Int.reduceLT, Int.reduceLE, decide_false, decide_true, dec_true, dec_false, true_and, and_true, true_imp_iff, Bool.not_true, Bool.not_false, Option.map_none, Int.reduceToNat, Int.toNat_zero, Int.toNat_one, lkV_false, lkV_true, f1, f2, f3, f4, f5, f6, f9, f10, hrw])
        · have hl1 : ix < x.left.length := by omega
          have hl2 : ix < x.right.length := by omega
          have hxU : Ext w U := hx0.tr hG.ext
          have hrd := hxU.rd (hLA ix hl1)
          have hsm := rd_isSome hrd
          obtain ⟨⟨hq1, hq2⟩, q, hq, hqm⟩ := modI x.left[ix] i hn1
          simp (disch := first | omega | assumption | (simp only [O1, World.size_alloc, World.size_setCell, World.size_drew]; first | done | omega)) only [O1, D2, ↓H0, S0, ↓S1, ↓S2, ↓S3, ↓S4, S5, S5b, S5c, ↓S6, S6b, M0, E0, ty, tl, te, tc, i64_wrap, u64_wrap, iaV_sl, iaV_arr, faV_pa, nck_pa, heap_new, heap_old, heap_set, ↓reduceIte, Nat.reduceEqDiff, Nat.reduceLT, Nat.reduceAdd, Int.reduceLT, Int.reduceLE, decide_false, decide_true, dec_true, dec_false, true_and, and_true, true_imp_iff, Bool.not_true, Bool.not_false, Option.map_none, Int.reduceToNat, Int.toNat_zero, Int.toNat_one, lkV_false, lkV_true, f1, f2, f3, f4, f5, f6, f9, f10, hrw, hrd, hqm]
          refine Br_if (fun h4 => ?_) (fun h4' => ?_) <;> (try simp (disch := first | omega | assumption | (simp only [O1, World.size_alloc, World.size_setCell, World.size_drew]; first | done | omega)) only [O1, D2, ↓H0, S0, ↓S1, ↓S2, ↓S3, ↓S4, S5, S5b, S5c, ↓S6, S6b, M0, E0, ty, tl, te, tc, i64_wrap, u64_wrap, iaV_sl, iaV_arr, faV_pa, nck_pa, heap_new, heap_old, heap_set, ↓reduceIte, Nat.reduceEqDiff, Nat.reduceLT, Nat.reduceAdd, Int.reduceLT, Int.reduceLE, decide_false, decide_true, dec_true, dec_false, true_and, and_true, true_imp_iff, Bool.not_true, Bool.not_false, Option.map_none, Int.reduceToNat, Int.toNat_zero, Int.toNat_one, lkV_false, lkV_true, f1, f2, f3, f4, f5, f6, f9, f10])
          · obtain ⟨rw0, hrr, hrs⟩ := hRA ix hl2
            have hrr := hxU.rd hrr
            have hsr := rd_isSome hrr
            generalize hrow : x.right[ix] = row at *
            obtain ⟨RR, rrc, rfl, hrrc, hRR⟩ := hrs
            obtain ⟨base3, hb3⟩ : ∃ b3, b3 = U.heap.size := ⟨_, rfl⟩
            have hn3 : ∀ k, nv.ownBlock = some k → k < base3 := fun k hk => hb3 ▸ (hG.nrow.lt k hk).2
            have ht3 : ∀ k, tv.ownBlock = some k → k < base3 := fun k hk => hb3 ▸ (hG.trow.lt k hk).2
            have hp3 : ∀ k, pv.ownBlock = some k → k < base3 := fun k hk => hb3 ▸ (hG.prow.lt k hk).2
            have hB3 : B ≤ base3 := hb3 ▸ hG.lB
            have hbs3 : base ≤ base3 := hb3 ▸ hG.le
            refine ⟨fun k3 t U => ∃ (jj : Nat) (rv : Value) (rr : List Int), k3 + jj = 4 ∧ rr.length = jj ∧ (∀ s ∈ rr, -(j : Int) ≤ s ∧ s < (i : Int)) ∧ base3 ≤ U.heap.size ∧ Row (.int .i64) base3 3 U rv rr ∧ GrW 49 99 W0 U b base B (r0 : Int) (i : Int) NN TT l nv tv pv ∧ t 1 = pa (some ⟨w.heap.size, 0, none⟩) 0 ∧ t 2 = pa (some ⟨w.heap.size + 1, 0, none⟩) 0 ∧ t 3 = pa (some ⟨w.heap.size + 1 + 1, 0, none⟩) 0 ∧ t 4 = .int .i64 i ∧ t 5 = .int .i64 j ∧ t 6 = pa (some ⟨b, 0, none⟩) 0 ∧ t 9 = .int .i64 lf ∧ t 10 = .int .i64 ix ∧ t 11 = rv ∧ t 12 = .int .i64 jj, ⟨4, 0, _, [], by omega, rfl, by simp, Nat.le_of_eq hb3, Row.nil _, hG, ?_⟩, ?_⟩
            · simp (disch := first | omega | assumption | (simp only [O1, World.size_alloc, World.size_setCell, World.size_drew]; first | done | omega)) only [O1, D2, ↓H0, S0, ↓S1, ↓S2, ↓S3, ↓S4, S5, S5b, S5c, ↓S6, S6b, M0, E0, ty, tl, te, tc, i64_wrap, u64_wrap, iaV_sl, iaV_arr, faV_pa, nck_pa, heap_new, heap_old, heap_set, ↓reduceIte, Nat.reduceEqDiff, Nat.reduceLT, Nat.reduceAdd, Int.reduceLT, Int.reduceLE, decide_false, decide_true, dec_true, dec_false, true_and, and_true, true_imp_iff, Bool.not_true, Bool.not_false, Option.map_none, Int.reduceToNat, Int.toNat_zero, Int.toNat_one, lkV_false, lkV_true, f1, f2, f3, f4, f5, f6, f9, f10] <;> rfl
            clear hG hrw hbx hrd hrr f1 f2 f3 f4 f5 f6 f9 f10 hxU hb3
            rintro k3 t U ⟨jj, rv, rr, hk3, hrl, hrb, hle3, hrR, hG, f1, f2, f3, f4, f5, f6, f9, f10, f11, f12⟩
            have hrw := hG.ext.hp hraw
            have hbx := hG.box
            have hxU : Ext w U := hx0.tr hG.ext
            have hrr : rd U RA ix = some (.slice RR row.length rrc) := hxU.rd (by assumption)
            simp (disch := first | omega | assumption | (simp only [O1, World.size_alloc, World.size_setCell, World.size_drew]; first | done | omega)) only [O1, D2, ↓H0, S0, ↓S1, ↓S2, ↓S3, ↓S4, S5, S5b, S5c, ↓S6, S6b, M0, E0, ty, tl, te, tc, i64_wrap, u64_wrap, iaV_sl, iaV_arr, faV_pa, nck_pa, heap_new, heap_old, heap_set, ↓reduceIte, Nat.reduceEqDiff, Nat.reduceLT, Nat.reduceAdd, Int.reduceLT, Int.reduceLE, decide_false, decide_true, dec_true, dec_false, true_and, and_true, true_imp_iff, Bool.not_true, Bool.not_false, Option.map_none, Int.reduceToNat, Int.toNat_zero, Int.toNat_one, lkV_false, lkV_true, f1, f2, f3, f4, f5, f6, f9, f10, f11, f12, hrw, hrr]
            refine Br_if (fun h5 => ?_) (fun h5 => ?_) <;> (try simp (disch := first | omega | assumption | (simp only [O1, World.size_alloc, World.size_setCell, World.size_drew]; first | done | omega)) only [O1, D2, ↓H0, S0, ↓S1, ↓S2, ↓S3, ↓S4, S5, S5b, S5c, ↓S6, S6b, M0, E0, ty, tl, te, tc, i64_wrap, u64_wrap, iaV_sl, iaV_arr, faV_pa, nck_pa, heap_new, heap_old, heap_set, ↓reduceIte, Nat.reduceEqDiff, Nat.reduceLT, Nat.reduceAdd, Int.reduceLT, Int.reduceLE, decide_false, decide_true, dec_true, dec_false, true_and, and_true, true_imp_iff, Bool.not_true, Bool.not_false, Option.map_none, Int.reduceToNat, Int.toNat_zero, Int.toNat_one, lkV_false, lkV_true, f1, f2, f3, f4, f5, f6, f9, f10, f11, f12, hrw, hrr])
            · refine Br_if (fun h6 => ?_) (fun h6 => ?_) <;> (try simp (disch := first | omega | assumption | (simp only [O1, World.size_alloc, World.size_setCell, World.size_drew]; first | done | omega)) only [O1, D2, ↓H0, S0, ↓S1, ↓S2, ↓S3, ↓S4, S5, S5b, S5c, ↓S6, S6b, M0, E0, ty, tl, te, tc, i64_wrap, u64_wrap, iaV_sl, iaV_arr, faV_pa, nck_pa, heap_new, heap_old, heap_set, ↓reduceIte, Nat.reduceEqDiff, Nat.reduceLT, Nat.reduceAdd, Int.reduceLT, Int.reduceLE, decide_false, decide_true, dec_true, dec_false, true_and, and_true, true_imp_iff, Bool.not_true, Bool.not_false, Option.map_none, Int.reduceToNat, Int.toNat_zero, Int.toNat_one, lkV_false, lkV_true, f1, f2, f3, f4, f5, f6, f9, f10, f11, f12, hrw, hrr])
              · have hs1 := hRR jj (by omega)
                have hs2 := hxU.rd hs1
                have hsm2 := rd_isSome hs2
                have em : (i : Int) + (j : Int) = ((i + j : Nat) : Int) := by omega
                obtain ⟨⟨hm1, hm2⟩, q2, hq2, hqm2⟩ := modI row[jj] (i + j) (by omega)
                have hqm2 : (row[jj].tmod ((i + j : Nat) : Int) + (i : Int) + (j : Int)).tmod ((i + j : Nat) : Int) = (q2 : Int) := by rw [← hqm2]; congr 1; omega
                simp (disch := first | omega | assumption | (simp only [O1, World.size_alloc, World.size_setCell, World.size_drew]; first | done | omega)) only [O1, D2, ↓H0, S0, ↓S1, ↓S2, ↓S3, ↓S4, S5, S5b, S5c, ↓S6, S6b, M0, E0, ty, tl, te, tc, i64_wrap, u64_wrap, iaV_sl, iaV_arr, faV_pa, nck_pa, heap_new, heap_old, heap_set, ↓reduceIte, Nat.reduceEqDiff, Nat.reduceLT, Nat.reduceAdd, Int.reduceLT, Int.reduceLE, decide_false, decide_true, dec_true, dec_false, true_and, and_true, true_imp_iff, Bool.not_true, Bool.not_false, Option.map_none, Int.reduceToNat, Int.toNat_zero, Int.toNat_one, lkV_false, lkV_true, f1, f2, f3, f4, f5, f6, f9, f10, f11, f12, hrw, hrr, hs2, em, hqm2, bsl1 sl23]
                refine RunA_row (enc := Value.int .i64) (x := (q2 : Int) - (j : Int)) sl23 hrR rfl (by omega) (by omega) hle3 ?_
                intro rv' X hR hg hsz hv
                have hGX := hG.keep hg fun k hk => by
                  have := (hrR.lt k hk).1
                  refine ⟨by omega, by omega, fun h => ?_, fun h => ?_, fun h => ?_⟩
                  · have := hn3 k h; omega
                  · have := ht3 k h; omega
                  · have := hp3 k h; omega
                simp (disch := first | omega | assumption | (simp only [O1, World.size_alloc, World.size_setCell, World.size_drew]; first | done | omega)) only [O1, D2, ↓H0, S0, ↓S1, ↓S2, ↓S3, ↓S4, S5, S5b, S5c, ↓S6, S6b, M0, E0, ty, tl, te, tc, i64_wrap, u64_wrap, iaV_sl, iaV_arr, faV_pa, nck_pa, heap_new, heap_old, heap_set, ↓reduceIte, Nat.reduceEqDiff, Nat.reduceLT, Nat.reduceAdd, Int.reduceLT, Int.reduceLE, decide_false, decide_true, dec_true, dec_false, true_and, and_true, true_imp_iff, Bool.not_true, Bool.not_false, Option.map_none, Int.reduceToNat, Int.toNat_zero, Int.toNat_one, lkV_false, lkV_true, f1, f2, f3, f4, f5, f6, f9, f10, f11, f12]
                exact ⟨k3 - 1, by omega, jj + 1, rv', rr ++ [(q2 : Int) - (j : Int)], by omega, by simp [hrl], fun s hs => by
                  rcases List.mem_append.1 hs with hs | hs
                  · exact hrb s hs
                  · simp at hs; subst hs; omega, by omega, hR, hGX, rfl, rfl⟩
              · have hr1 := hrR.one
                simp (disch := first | omega | assumption | (simp only [O1, World.size_alloc, World.size_setCell, World.size_drew]; first | done | omega)) only [O1, D2, ↓H0, S0, ↓S1, ↓S2, ↓S3, ↓S4, S5, S5b, S5c, ↓S6, S6b, M0, E0, ty, tl, te, tc, i64_wrap, u64_wrap, iaV_sl, iaV_arr, faV_pa, nck_pa, heap_new, heap_old, heap_set, ↓reduceIte, Nat.reduceEqDiff, Nat.reduceLT, Nat.reduceAdd, Int.reduceLT, Int.reduceLE, decide_false, decide_true, dec_true, dec_false, true_and, and_true, true_imp_iff, Bool.not_true, Bool.not_false, Option.map_none, Int.reduceToNat, Int.toNat_zero, Int.toNat_one, lkV_false, lkV_true, f1, f2, f3, f4, f5, f6, f9, f10, f11, hbx, bd99_0_1, bsl1_2 sl47]
                refine RunA_prod (p := ((lf : Int), rr)) sl47 hG.up.prow (hrR.mono (Nat.zero_le _)) (by decide) (by have := hP.cnt; have : lf * 12 ≤ 8 * 12 := Nat.mul_le_mul_right _ (by omega); omega) (by omega) hG.le (Nat.le_refl _) ?_
                intro pv' Y hR2 hg2 hsz2 hv2 hg3
                obtain ⟨hst2, hGY⟩ := hG.up.prod (t := 47) (by simp only [ty]) hR2 hg2
                simp (disch := first | omega | assumption | (simp only [O1, World.size_alloc, World.size_setCell, World.size_drew]; first | done | omega)) only [O1, D2, ↓H0, S0, ↓S1, ↓S2, ↓S3, ↓S4, S5, S5b, S5c, ↓S6, S6b, M0, E0, ty, tl, te, tc, i64_wrap, u64_wrap, iaV_sl, iaV_arr, faV_pa, nck_pa, heap_new, heap_old, heap_set, ↓reduceIte, Nat.reduceEqDiff, Nat.reduceLT, Nat.reduceAdd, Int.reduceLT, Int.reduceLE, decide_false, decide_true, dec_true, dec_false, true_and, and_true, true_imp_iff, Bool.not_true, Bool.not_false, Option.map_none, Int.reduceToNat, Int.toNat_zero, Int.toNat_one, lkV_false, lkV_true, f1, f2, f3, f4, f5, f6, f9, f10, hst2]
                exact ⟨k2 - 1, by omega, ix + 1, pv', _, _, by omega, hGY, hP.push (by omega) hrb, rfl⟩
            · have hr1 := hrR.one
              simp (disch := first | omega | assumption | (simp only [O1, World.size_alloc, World.size_setCell, World.size_drew]; first | done | omega)) only [O1, D2, ↓H0, S0, ↓S1, ↓S2, ↓S3, ↓S4, S5, S5b, S5c, ↓S6, S6b, M0, E0, ty, tl, te, tc, i64_wrap, u64_wrap, iaV_sl, iaV_arr, faV_pa, nck_pa, heap_new, heap_old, heap_set, ↓reduceIte, Nat.reduceEqDiff, Nat.reduceLT, Nat.reduceAdd, Int.reduceLT, Int.reduceLE, decide_false, decide_true, dec_true, dec_false, true_and, and_true, true_imp_iff, Bool.not_true, Bool.not_false, Option.map_none, Int.reduceToNat, Int.toNat_zero, Int.toNat_one, lkV_false, lkV_true, f1, f2, f3, f4, f5, f6, f9, f10, f11, hbx, bd99_0_1, bsl1_2 sl47]
              refine RunA_prod (p := ((lf : Int), rr)) sl47 hG.up.prow (hrR.mono (Nat.zero_le _)) (by decide) (by have := hP.cnt; have : lf * 12 ≤ 8 * 12 := Nat.mul_le_mul_right _ (by omega); omega) (by omega) hG.le (Nat.le_refl _) ?_
              intro pv' Y hR2 hg2 hsz2 hv2 hg3
              obtain ⟨hst2, hGY⟩ := hG.up.prod (t := 47) (by simp only [ty]) hR2 hg2
              simp (disch := first | omega | assumption | (simp only [O1, World.size_alloc, World.size_setCell, World.size_drew]; first | done | omega)) only [O1, D2, ↓H0, S0, ↓S1, ↓S2, ↓S3, ↓S4, S5, S5b, S5c, ↓S6, S6b, M0, E0, ty, tl, te, tc, i64_wrap, u64_wrap, iaV_sl, iaV_arr, faV_pa, nck_pa, heap_new, heap_old, heap_set, ↓reduceIte, Nat.reduceEqDiff, Nat.reduceLT, Nat.reduceAdd, Int.reduceLT, Int.reduceLE, decide_false, decide_true, dec_true, dec_false, true_and, and_true, true_imp_iff, Bool.not_true, Bool.not_false, Option.map_none, Int.reduceToNat, Int.toNat_zero, Int.toNat_one, lkV_false, lkV_true, f1, f2, f3, f4, f5, f6, f9, f10, hst2]
              exact ⟨k2 - 1, by omega, ix + 1, pv', _, _, by omega, hGY, hP.push (by omega) hrb, rfl⟩
          · exact ⟨k2 - 1, by omega, ix + 1, pv, l, B, by omega, hG, hP.mono (by omega) (by omega), rfl⟩
        · exact ⟨k - 1, by omega, lf + 1, pv, l, B, by omega, hG, hP.mono (Nat.le_refl _) (by omega), rfl⟩
      · exact ⟨k - 1, by omega, lf + 1, pv, l, B, by omega, hG, hP.mono (Nat.le_refl _) (by omega), rfl⟩
    · exact ⟨k - 1, by omega, lf + 1, pv, l, B, by omega, hG, hP.mono (Nat.le_refl _) (by omega), rfl⟩
  · have hil : lf = i := by omega
    subst hil
    have hbx := hG.box
    refine Dr_rg ([]) (upto 13) [0, 1, 2, 4, 5, 8, 9] [(3, [], [152, 155, 156, 13]), (6, [3], [148, 152, 13]), (7, [], [148, 151, 156, 13]), (10, [6, 7], [148, 151, 152, 13]), (11, [6, 10], [148, 151, 152, 155, 13]), (12, [], [148, 151, 152, 155, 156])] [13] [148, 151, 152, 155, 156, 13] mixed (by kernel_rfl) ?_
    simp (disch := first | omega | assumption | (simp only [O1, World.size_alloc, World.size_setCell, World.size_drew]; first | done | omega)) only [↓D1, ↓D3, ↓D4, List.not_mem_nil, not_false_eq_true, Bool.false_eq_true, false_imp_iff, upto, O1, D2, ↓H0, S0, ↓S1, ↓S2, ↓S3, ↓S4, S5, S5b, S5c, ↓S6, S6b, M0, E0, ty, tl, te, tc, i64_wrap, u64_wrap, iaV_sl, iaV_arr, faV_pa, nck_pa, heap_new, heap_old, heap_set, ↓reduceIte, Nat.reduceEqDiff, Nat.reduceLT, Nat.reduceAdd, Int.reduceLT, Int.reduceLE, decide_false, decide_true, dec_true, dec_false, true_and, and_true, true_imp_iff, Bool.not_true, Bool.not_false, Option.map_none, Int.reduceToNat, Int.toNat_zero, Int.toNat_one, lkV_false, lkV_true, f1, f2, f3, f4, f5, f6, hbx]
    clear hbx
    have hG := hG.ext' ((Ext.rfl' U).dr)
    change GrW _ _ _ U.drew _ _ _ _ _ _ _ _ _ _ _ at hG
    obtain ⟨Ud, hUd⟩ : ∃ Ud, Ud = U.drew := ⟨_, rfl⟩
    rw [← hUd] at hG ⊢
    obtain ⟨NA, ncc, rfl, hnc, hNA⟩ := hG.nrow.sq
    obtain ⟨TA, tcc, rfl, htc, hTA⟩ := hG.trow.sq
    refine ⟨rgA [(3, fun v X => ∃ g, v = .slice (some ⟨g, 0, none⟩) 0 0 ∧ Ud.heap.size ≤ g ∧ X.heap[g]? = some (.cells #[] 9 (0, 0))), (6, fun v X => Row Value.string Ud.heap.size 9 X v NN), (7, fun v X => ∃ g, v = .slice (some ⟨g, 0, none⟩) 0 0 ∧ Ud.heap.size ≤ g ∧ X.heap[g]? = some (.cells #[] 9 (0, 0))), (10, fun v X => Row Value.string Ud.heap.size 9 X v TT),
      (11, fun v X => ∃ nv2 tv2, v = .agg #[.int .i64 (r0 : Int), .int .i64 (lf : Int), nv2, tv2, .slice none 0 0] ∧ Row Value.string Ud.heap.size 9 X nv2 NN ∧ Row Value.string Ud.heap.size 9 X tv2 TT), (12, fun v X => ∃ g, v = pa (some ⟨g, 0, none⟩) 0 ∧ Ud.heap.size ≤ g ∧ X.heap[g]? = some (.cells #[.int .i64 0, .int .i64 0, .slice none 0 0, .slice none 0 0, .slice none 0 0] 41 (0, 0)))],
      rg_stab ⟨fun _ _ _ ⟨g, h1, h2, h3⟩ hx => ⟨g, h1, h2, hx.hp h3⟩, fun _ _ _ h hx => h.ext hx, fun _ _ _ ⟨g, h1, h2, h3⟩ hx => ⟨g, h1, h2, hx.hp h3⟩, fun _ _ _ h hx => h.ext hx, fun _ _ _ ⟨a, c, h1, h2, h3⟩ hx => ⟨a, c, h1, h2.ext hx, h3.ext hx⟩, fun _ _ _ ⟨g, h1, h2, h3⟩ hx => ⟨g, h1, h2, hx.hp h3⟩, trivial⟩, ⟨?_, ?_, ?_, ?_, ?_, ?_, trivial⟩, ?_⟩
    · intro t1 X hX hp hf
      simp (disch := first | (simp only [List.mem_cons, List.not_mem_nil, or_false, not_or, Nat.reduceEqDiff, not_false_eq_true, and_self]; done) | omega | assumption | (simp only [O1, World.size_alloc, World.size_setCell, World.size_drew]; first | done | omega)) only [↓G1, rgA_cons, rgA_nil, eq_self, ↓D1, ↓D3, ↓D4, List.not_mem_nil, not_false_eq_true, Bool.false_eq_true, false_imp_iff, upto, O1, D2, ↓H0, S0, ↓S1, ↓S2, ↓S3, ↓S4, S5, S5b, S5c, ↓S6, S6b, M0, E0, ty, tl, te, tc, i64_wrap, u64_wrap, iaV_sl, iaV_arr, faV_pa, nck_pa, heap_new, heap_old, heap_set, ↓reduceIte, Nat.reduceEqDiff, Nat.reduceLT, Nat.reduceAdd, Int.reduceLT, Int.reduceLE, decide_false, decide_true, dec_true, dec_false, true_and, and_true, true_imp_iff, Bool.not_true, Bool.not_false, Option.map_none, Int.reduceToNat, Int.toNat_zero, Int.toNat_one, lkV_false, lkV_true, hf, f1, f2, f3, f4, f5, f6, bsl0 sl39]
      exact ⟨(Ext.rfl' X).al _, _, rfl, hX.size, heap_new _ rfl⟩
    · intro t1 X hX hp hf
      simp only [rgPre, D2, G0, ↓reduceIte, Nat.reduceEqDiff, Nat.reduceLT, Nat.reduceAdd, and_true, true_and, eq_self, rgA_cons, rgA_nil, List.map_cons, List.map_nil] at hp
      obtain ⟨z, hz0, hz1, hz2⟩ := hp
      simp (disch := first | (simp only [List.mem_cons, List.not_mem_nil, or_false, not_or, Nat.reduceEqDiff, not_false_eq_true, and_self]; done) | omega | assumption | (simp only [O1, World.size_alloc, World.size_setCell, World.size_drew]; first | done | omega)) only [↓G1, rgA_cons, rgA_nil, eq_self, ↓D1, ↓D3, ↓D4, List.not_mem_nil, not_false_eq_true, Bool.false_eq_true, false_imp_iff, upto, O1, D2, ↓H0, S0, ↓S1, ↓S2, ↓S3, ↓S4, S5, S5b, S5c, ↓S6, S6b, M0, E0, ty, tl, te, tc, i64_wrap, u64_wrap, iaV_sl, iaV_arr, faV_pa, nck_pa, heap_new, heap_old, heap_set, ↓reduceIte, Nat.reduceEqDiff, Nat.reduceLT, Nat.reduceAdd, Int.reduceLT, Int.reduceLE, decide_false, decide_true, dec_true, dec_false, true_and, and_true, true_imp_iff, Bool.not_true, Bool.not_false, Option.map_none, Int.reduceToNat, Int.toNat_zero, Int.toNat_one, lkV_false, lkV_true, hf, hz0, f1, f2, f3, f4, f5, f6]
      refine RunA_zero (enc := Value.string) sl39 hz2 (fun i hi => hX.rd (hNA i hi)) (fun _ => rfl) (by omega) (by omega) ?_
      intro v' Y hR hxY hv
      simp (disch := first | (simp only [List.mem_cons, List.not_mem_nil, or_false, not_or, Nat.reduceEqDiff, not_false_eq_true, and_self]; done) | omega | assumption | (simp only [O1, World.size_alloc, World.size_setCell, World.size_drew]; first | done | omega)) only [↓G1, rgA_cons, rgA_nil, eq_self, ↓D1, ↓D3, ↓D4, List.not_mem_nil, not_false_eq_true, Bool.false_eq_true, false_imp_iff, upto, O1, D2, ↓H0, S0, ↓S1, ↓S2, ↓S3, ↓S4, S5, S5b, S5c, ↓S6, S6b, M0, E0, ty, tl, te, tc, i64_wrap, u64_wrap, iaV_sl, iaV_arr, faV_pa, nck_pa, heap_new, heap_old, heap_set, ↓reduceIte, Nat.reduceEqDiff, Nat.reduceLT, Nat.reduceAdd, Int.reduceLT, Int.reduceLE, decide_false, decide_true, dec_true, dec_false, true_and, and_true, true_imp_iff, Bool.not_true, Bool.not_false, Option.map_none, Int.reduceToNat, Int.toNat_zero, Int.toNat_one, lkV_false, lkV_true]
      exact ⟨hxY, hR.mono (by have := hX.size; omega)⟩
    · intro t1 X hX hp hf
      simp (disch := first | (simp only [List.mem_cons, List.not_mem_nil, or_false, not_or, Nat.reduceEqDiff, not_false_eq_true, and_self]; done) | omega | assumption | (simp only [O1, World.size_alloc, World.size_setCell, World.size_drew]; first | done | omega)) only [↓G1, rgA_cons, rgA_nil, eq_self, ↓D1, ↓D3, ↓D4, List.not_mem_nil, not_false_eq_true, Bool.false_eq_true, false_imp_iff, upto, O1, D2, ↓H0, S0, ↓S1, ↓S2, ↓S3, ↓S4, S5, S5b, S5c, ↓S6, S6b, M0, E0, ty, tl, te, tc, i64_wrap, u64_wrap, iaV_sl, iaV_arr, faV_pa, nck_pa, heap_new, heap_old, heap_set, ↓reduceIte, Nat.reduceEqDiff, Nat.reduceLT, Nat.reduceAdd, Int.reduceLT, Int.reduceLE, decide_false, decide_true, dec_true, dec_false, true_and, and_true, true_imp_iff, Bool.not_true, Bool.not_false, Option.map_none, Int.reduceToNat, Int.toNat_zero, Int.toNat_one, lkV_false, lkV_true, hf, f1, f2, f3, f4, f5, f6, bsl0 sl39]
      exact ⟨(Ext.rfl' X).al _, _, rfl, hX.size, heap_new _ rfl⟩
    · intro t1 X hX hp hf
      simp only [rgPre, D2, G0, ↓reduceIte, Nat.reduceEqDiff, Nat.reduceLT, Nat.reduceAdd, and_true, true_and, eq_self, rgA_cons, rgA_nil, List.map_cons, List.map_nil] at hp
      replace hp := hp.2
      obtain ⟨z, hz0, hz1, hz2⟩ := hp
      simp (disch := first | (simp only [List.mem_cons, List.not_mem_nil, or_false, not_or, Nat.reduceEqDiff, not_false_eq_true, and_self]; done) | omega | assumption | (simp only [O1, World.size_alloc, World.size_setCell, World.size_drew]; first | done | omega)) only [↓G1, rgA_cons, rgA_nil, eq_self, ↓D1, ↓D3, ↓D4, List.not_mem_nil, not_false_eq_true, Bool.false_eq_true, false_imp_iff, upto, O1, D2, ↓H0, S0, ↓S1, ↓S2, ↓S3, ↓S4, S5, S5b, S5c, ↓S6, S6b, M0, E0, ty, tl, te, tc, i64_wrap, u64_wrap, iaV_sl, iaV_arr, faV_pa, nck_pa, heap_new, heap_old, heap_set, ↓reduceIte, Nat.reduceEqDiff, Nat.reduceLT, Nat.reduceAdd, Int.reduceLT, Int.reduceLE, decide_false, decide_true, dec_true, dec_false, true_and, and_true, true_imp_iff, Bool.not_true, Bool.not_false, Option.map_none, Int.reduceToNat, Int.toNat_zero, Int.toNat_one, lkV_false, lkV_true, hf, hz0, f1, f2, f3, f4, f5, f6]
      refine RunA_zero (enc := Value.string) sl39 hz2 (fun i hi => hX.rd (hTA i hi)) (fun _ => rfl) (by omega) (by omega) ?_
      intro v' Y hR hxY hv
      simp (disch := first | (simp only [List.mem_cons, List.not_mem_nil, or_false, not_or, Nat.reduceEqDiff, not_false_eq_true, and_self]; done) | omega | assumption | (simp only [O1, World.size_alloc, World.size_setCell, World.size_drew]; first | done | omega)) only [↓G1, rgA_cons, rgA_nil, eq_self, ↓D1, ↓D3, ↓D4, List.not_mem_nil, not_false_eq_true, Bool.false_eq_true, false_imp_iff, upto, O1, D2, ↓H0, S0, ↓S1, ↓S2, ↓S3, ↓S4, S5, S5b, S5c, ↓S6, S6b, M0, E0, ty, tl, te, tc, i64_wrap, u64_wrap, iaV_sl, iaV_arr, faV_pa, nck_pa, heap_new, heap_old, heap_set, ↓reduceIte, Nat.reduceEqDiff, Nat.reduceLT, Nat.reduceAdd, Int.reduceLT, Int.reduceLE, decide_false, decide_true, dec_true, dec_false, true_and, and_true, true_imp_iff, Bool.not_true, Bool.not_false, Option.map_none, Int.reduceToNat, Int.toNat_zero, Int.toNat_one, lkV_false, lkV_true]
      exact ⟨hxY, hR.mono (by have := hX.size; omega)⟩
    · intro t1 X hX hp hf
      simp only [rgPre, D2, G0, ↓reduceIte, Nat.reduceEqDiff, Nat.reduceLT, Nat.reduceAdd, and_true, true_and, eq_self, rgA_cons, rgA_nil, List.map_cons, List.map_nil] at hp
      obtain ⟨hp1, hp2⟩ := hp
      have ho1 := hp1.one
      have ho2 := hp2.one
      simp (disch := first | (simp only [List.mem_cons, List.not_mem_nil, or_false, not_or, Nat.reduceEqDiff, not_false_eq_true, and_self]; done) | omega | assumption | (simp only [O1, World.size_alloc, World.size_setCell, World.size_drew]; first | done | omega)) only [↓G1, rgA_cons, rgA_nil, eq_self, ↓D1, ↓D3, ↓D4, List.not_mem_nil, not_false_eq_true, Bool.false_eq_true, false_imp_iff, upto, O1, D2, ↓H0, S0, ↓S1, ↓S2, ↓S3, ↓S4, S5, S5b, S5c, ↓S6, S6b, M0, E0, ty, tl, te, tc, i64_wrap, u64_wrap, iaV_sl, iaV_arr, faV_pa, nck_pa, heap_new, heap_old, heap_set, ↓reduceIte, Nat.reduceEqDiff, Nat.reduceLT, Nat.reduceAdd, Int.reduceLT, Int.reduceLE, decide_false, decide_true, dec_true, dec_false, true_and, and_true, true_imp_iff, Bool.not_true, Bool.not_false, Option.map_none, Int.reduceToNat, Int.toNat_zero, Int.toNat_one, lkV_false, lkV_true, hf, f1, f2, f3, f4, f5, f6, bd41_0_1_2_3]
      exact ⟨Ext.rfl' X, _, _, rfl, hp1, hp2⟩
    · intro t1 X hX hp hf
      simp (disch := first | (simp only [List.mem_cons, List.not_mem_nil, or_false, not_or, Nat.reduceEqDiff, not_false_eq_true, and_self]; done) | omega | assumption | (simp only [O1, World.size_alloc, World.size_setCell, World.size_drew]; first | done | omega)) only [↓G1, rgA_cons, rgA_nil, eq_self, ↓D1, ↓D3, ↓D4, List.not_mem_nil, not_false_eq_true, Bool.false_eq_true, false_imp_iff, upto, O1, D2, ↓H0, S0, ↓S1, ↓S2, ↓S3, ↓S4, S5, S5b, S5c, ↓S6, S6b, M0, E0, ty, tl, te, tc, i64_wrap, u64_wrap, iaV_sl, iaV_arr, faV_pa, nck_pa, heap_new, heap_old, heap_set, ↓reduceIte, Nat.reduceEqDiff, Nat.reduceLT, Nat.reduceAdd, Int.reduceLT, Int.reduceLE, decide_false, decide_true, dec_true, dec_false, true_and, and_true, true_imp_iff, Bool.not_true, Bool.not_false, Option.map_none, Int.reduceToNat, Int.toNat_zero, Int.toNat_one, lkV_false, lkV_true, hf, f1, f2, f3, f4, f5, f6]
      exact ⟨(Ext.rfl' X).al _, _, rfl, hX.size, heap_new _ rfl⟩
    · intro t1 X hX hp hf
      simp only [rgPre, D2, G0, ↓reduceIte, Nat.reduceEqDiff, Nat.reduceLT, Nat.reduceAdd, and_true, true_and, eq_self, rgA_cons, rgA_nil, List.map_cons, List.map_nil] at hp
      obtain ⟨_, _, _, _, ⟨nv2, tv2, ha, hR1, hR2⟩, g, hg0, hg1, hg2⟩ := hp
      have ho1 := hR1.one
      have ho2 := hR2.one
      have hGX := hG.ext' hX
      obtain ⟨Y, hst, hYb, hYg, hYs⟩ := sto_agg (P := Try.prog) (T := 41) (w := X) (g := g) (ds := #[.int .i64 (r0 : Int), .int .i64 (lf : Int), nv2, tv2, .slice none 0 0]) (by simp only [ty]; rfl) hg2 rfl (by simp [ho1, ho2]; simp [Value.oneCell'])
      simp (disch := first | (simp only [List.mem_cons, List.not_mem_nil, or_false, not_or, Nat.reduceEqDiff, not_false_eq_true, and_self]; done) | omega | assumption | (simp only [O1, World.size_alloc, World.size_setCell, World.size_drew]; first | done | omega)) only [↓G1, rgA_cons, rgA_nil, eq_self, ↓D1, ↓D3, ↓D4, List.not_mem_nil, not_false_eq_true, Bool.false_eq_true, false_imp_iff, upto, O1, D2, ↓H0, S0, ↓S1, ↓S2, ↓S3, ↓S4, S5, S5b, S5c, ↓S6, S6b, M0, E0, ty, tl, te, tc, i64_wrap, u64_wrap, iaV_sl, iaV_arr, faV_pa, nck_pa, heap_new, heap_old, heap_set, ↓reduceIte, Nat.reduceEqDiff, Nat.reduceLT, Nat.reduceAdd, Int.reduceLT, Int.reduceLE, decide_false, decide_true, dec_true, dec_false, true_and, and_true, true_imp_iff, Bool.not_true, Bool.not_false, Option.map_none, Int.reduceToNat, Int.toNat_zero, Int.toNat_one, lkV_false, lkV_true, hf, ha, hg0, hst, f1, f2, f3, f4, f5, f6]
      have hxX : Ext Ud Y := hX.grown' hYg fun k hk => by cases hk; exact hg1
      have hGY := hG.ext' hxX
      have hP0 : GrP 41 35 Ud Y g Ud.heap.size (r0 : Int) (lf : Int) NN TT [] nv2 tv2 (.slice none 0 0) := by
        refine ⟨hxX, hYb, hR1.kept hYg ?_, hR2.kept hYg ?_, PRow.nil _, hg1, hxX.size, by decide⟩
        · exact .inr (hR1.ne hg2 (by decide))
        · exact .inr (hR2.ne hg2 (by decide))
      obtain ⟨PA, pcc, rfl, hpcc, hPA⟩ := hG.prow.prods
      have hll : l.length ≤ 8 * 12 := Nat.le_trans hP.cnt (Nat.mul_le_mul_right _ (by omega))
      refine ⟨fun k t V => ∃ (m : Nat) (pvp : Value) (B' : Nat), k + m = l.length ∧ GrP 41 35 Ud V g B' (r0 : Int) (lf : Int) NN TT (l.take m) nv2 tv2 pvp ∧ t 2 = pa (some ⟨w.heap.size + 1, 0, none⟩) 0 ∧ t 3 = pa (some ⟨w.heap.size + 1 + 1, 0, none⟩) 0 ∧ t 6 = pa (some ⟨b, 0, none⟩) 0 ∧ t 13 = pa (some ⟨g, 0, none⟩) 0 ∧ t 14 = .int .i64 m, ⟨l.length, 0, _, _, by omega, hP0, ?_⟩, ?_⟩
      · simp (disch := first | (simp only [List.mem_cons, List.not_mem_nil, or_false, not_or, Nat.reduceEqDiff, not_false_eq_true, and_self]; done) | omega | assumption | (simp only [O1, World.size_alloc, World.size_setCell, World.size_drew]; first | done | omega)) only [↓G1, rgA_cons, rgA_nil, eq_self, ↓D1, ↓D3, ↓D4, List.not_mem_nil, not_false_eq_true, Bool.false_eq_true, false_imp_iff, upto, O1, D2, ↓H0, S0, ↓S1, ↓S2, ↓S3, ↓S4, S5, S5b, S5c, ↓S6, S6b, M0, E0, ty, tl, te, tc, i64_wrap, u64_wrap, iaV_sl, iaV_arr, faV_pa, nck_pa, heap_new, heap_old, heap_set, ↓reduceIte, Nat.reduceEqDiff, Nat.reduceLT, Nat.reduceAdd, Int.reduceLT, Int.reduceLE, decide_false, decide_true, dec_true, dec_false, true_and, and_true, true_imp_iff, Bool.not_true, Bool.not_false, Option.map_none, Int.reduceToNat, Int.toNat_zero, Int.toNat_one, lkV_false, lkV_true, hf, hg0, f2, f3, f6]
        trivial
      clear hP0 hYg hYs hYb hst hg0 ha hGX hGY f9 f1 f2 f3 f4 f5 f6 hf
      rintro k t V ⟨m, pvp, B', hk, hPm, f2, f3, f6, f13, f14⟩
      have hbq := (hG.ext' hPm.ext).box
      simp (disch := first | omega | assumption | (simp only [O1, World.size_alloc, World.size_setCell, World.size_drew]; first | done | omega)) only [O1, D2, ↓H0, S0, ↓S1, ↓S2, ↓S3, ↓S4, S5, S5b, S5c, ↓S6, S6b, M0, E0, ty, tl, te, tc, i64_wrap, u64_wrap, iaV_sl, iaV_arr, faV_pa, nck_pa, heap_new, heap_old, heap_set, ↓reduceIte, Nat.reduceEqDiff, Nat.reduceLT, Nat.reduceAdd, Int.reduceLT, Int.reduceLE, decide_false, decide_true, dec_true, dec_false, true_and, and_true, true_imp_iff, Bool.not_true, Bool.not_false, Option.map_none, Int.reduceToNat, Int.toNat_zero, Int.toNat_one, lkV_false, lkV_true, f2, f3, f6, f13, f14, hbq]
      refine Br_if (fun h => ?_) (fun h' => ?_) <;> (try simp (disch := first | omega | assumption | (simp only [O1, World.size_alloc, World.size_setCell, World.size_drew]; first | done | omega)) only [O1, D2, ↓H0, S0, ↓S1, ↓S2, ↓S3, ↓S4, S5, S5b, S5c, ↓S6, S6b, M0, E0, ty, tl, te, tc, i64_wrap, u64_wrap, iaV_sl, iaV_arr, faV_pa, nck_pa, heap_new, heap_old, heap_set, ↓reduceIte, Nat.reduceEqDiff, Nat.reduceLT, Nat.reduceAdd, Int.reduceLT, Int.reduceLE, decide_false, decide_true, dec_true, dec_false, true_and, and_true, true_imp_iff, Bool.not_true, Bool.not_false, Option.map_none, Int.reduceToNat, Int.toNat_zero, Int.toNat_one, lkV_false, lkV_true, f2, f3, f6, f13, f14, hbq])
      · have hm : m < l.length := by omega
        obtain ⟨hp1, r, hp2, hrs⟩ := hPA m hm
        obtain ⟨RR, rrc, rfl, hrrc, hRR⟩ := hrs
        have hp1 := hPm.ext.rd hp1
        have hp2 := hPm.ext.rd hp2
        have hsA := rd_isSome hp1
        have hbp := hPm.box
        have hM1 : g ∉ pvp.ownBlock.toList := fun h => hPm.prow.ne hbp (by decide) (Option.mem_toList.1 h)
        have hM2 : b ∉ pvp.ownBlock.toList := fun h => hPm.prow.ne hbq (by decide) (Option.mem_toList.1 h)
        have hp1d := (Ext.rfl' V).dr.rd hp1
        have hp2d := (Ext.rfl' V).dr.rd hp2
        have hM3 : NotIn pvp.ownBlock.toList (pa PA (m * 2)) := NotIn_rd (hPA m hm).1 fun q hq h => by have := hPm.prow.lt q (Option.mem_toList.1 h); omega
        have hM4 : NotIn pvp.ownBlock.toList (pa PA (m * 2 + 1)) := NotIn_rd (hPA m hm).1 fun q hq h => by have := hPm.prow.lt q (Option.mem_toList.1 h); omega
        refine Dr_plan pvp.ownBlock.toList (upto 20) [0, 1, 2, 3, 4, 5, 6, 7, 9, 10, 11, 12, 13, 14, 8, 15, 16, 17, 18, 19, 20] mixed (by kernel_rfl) ?_
        simp (disch := first | omega | assumption | (simp only [O1, World.size_alloc, World.size_setCell, World.size_drew]; first | done | omega)) only [↓D1, ↓D3, ↓D4, List.not_mem_nil, not_false_eq_true, Bool.false_eq_true, false_imp_iff, upto, O1, D2, ↓H0, S0, ↓S1, ↓S2, ↓S3, ↓S4, S5, S5b, S5c, ↓S6, S6b, M0, E0, ty, tl, te, tc, i64_wrap, u64_wrap, iaV_sl, iaV_arr, faV_pa, nck_pa, heap_new, heap_old, heap_set, ↓reduceIte, Nat.reduceEqDiff, Nat.reduceLT, Nat.reduceAdd, Int.reduceLT, Int.reduceLE, decide_false, decide_true, dec_true, dec_false, true_and, and_true, true_imp_iff, Bool.not_true, Bool.not_false, Option.map_none, Int.reduceToNat, Int.toNat_zero, Int.toNat_one, lkV_false, lkV_true, f2, f3, f6, f13, f14, hbq, hbp, hM1, hM2, hM3, hM4, hp1d, hp2d, bsl0 sl23]
        have hxX : Ext V (V.drew.alloc (.cells #[] 3)) := ((Ext.rfl' V).dr).al _
        refine RunA_zero (enc := Value.int .i64) sl23 (heap_new (w := V.drew) _ rfl) (fun i hi => hxX.rd (hPm.ext.rd (hRR i hi))) (fun _ => rfl) (by have := (hP.bnd l[m] (List.getElem_mem _)).2.1; omega) (by omega) ?_
        intro rv W2 hRv hxW hv
        have hxW2 := hxX.tr hxW
        have hPW := (hPm.ext' hxW2).up
        have hrv1 := hRv.one
        have hKe := Keep.of_ext hxW pvp.ownBlock.toList
        have hbW := hPW.box
        simp (disch := first | omega | assumption | (simp only [O1, World.size_alloc, World.size_setCell, World.size_drew]; first | done | omega)) only [↓D1, ↓D3, ↓D4, List.not_mem_nil, not_false_eq_true, Bool.false_eq_true, false_imp_iff, upto, O1, D2, ↓H0, S0, ↓S1, ↓S2, ↓S3, ↓S4, S5, S5b, S5c, ↓S6, S6b, M0, E0, ty, tl, te, tc, i64_wrap, u64_wrap, iaV_sl, iaV_arr, faV_pa, nck_pa, heap_new, heap_old, heap_set, ↓reduceIte, Nat.reduceEqDiff, Nat.reduceLT, Nat.reduceAdd, Int.reduceLT, Int.reduceLE, decide_false, decide_true, dec_true, dec_false, true_and, and_true, true_imp_iff, Bool.not_true, Bool.not_false, Option.map_none, Int.reduceToNat, Int.toNat_zero, Int.toNat_one, lkV_false, lkV_true, f2, f3, f6, f13, f14, hbW, hKe, hM1, upto, bd35_0_1, bsl1_2 sl26]
        refine RunA_prod (p := l[m]) sl26 hPW.prow (hRv.mono (Nat.zero_le _)) (by decide) (by simp; omega) (by omega) hPW.ext.size (Nat.le_refl _) ?_
        intro pv' Y2 hR3 hg3 hsz3 hv3 hg4
        have hKy := Keep.of_grown hg4 fun q hq => by rw [Option.mem_toList]; exact hq
        obtain ⟨hst3, hPY⟩ := hPW.prod (t := 26) (by simp only [ty]) hR3 hg3
        simp (disch := first | omega | assumption | (simp only [O1, World.size_alloc, World.size_setCell, World.size_drew]; first | done | omega)) only [↓D1, ↓D3, ↓D4, List.not_mem_nil, not_false_eq_true, Bool.false_eq_true, false_imp_iff, upto, O1, D2, ↓H0, S0, ↓S1, ↓S2, ↓S3, ↓S4, S5, S5b, S5c, ↓S6, S6b, M0, E0, ty, tl, te, tc, i64_wrap, u64_wrap, iaV_sl, iaV_arr, faV_pa, nck_pa, heap_new, heap_old, heap_set, ↓reduceIte, Nat.reduceEqDiff, Nat.reduceLT, Nat.reduceAdd, Int.reduceLT, Int.reduceLE, decide_false, decide_true, dec_true, dec_false, true_and, and_true, true_imp_iff, Bool.not_true, Bool.not_false, Option.map_none, Int.reduceToNat, Int.toNat_zero, Int.toNat_one, lkV_false, lkV_true, f2, f3, f6, f13, f14, hKy, hst3, upto]
        have htk : l.take (m + 1) = l.take m ++ [l[m]] := by rw [List.take_add_one]; simp [List.getElem?_eq_getElem hm]
        rw [← htk] at hPY
        exact ⟨k - 1, by omega, m + 1, pv', _, by omega, hPY, rfl⟩
      · have hml : m = l.length := by omega
        subst hml
        rw [List.take_length] at hPm
        have hbp := hPm.box
        have hGV := hG.ext' (hPm.ext.tr ((Ext.rfl' V).dr))
        have hPV := hPm.ext' ((Ext.rfl' V).dr)
        have hxV : Ext w V.drew := hx0.tr hGV.ext
        have ha1 : w.heap.size + 1 < W0.heap.size := lt_heap hc2
        have ha2 : w.heap.size + 1 + 1 < W0.heap.size := lt_heap hc3
        have hbb := hGV.bb
        have hwb := hGV.wb
        have hble := hGV.le
        obtain ⟨Y1, hs1, hY1b, hY1g, hY1s⟩ := sto_agg (P := Try.prog) (T := 41) (w := V.drew) (g := w.heap.size + 1) (ds := #[.int .i64 (r0 : Int), .int .i64 (lf : Int), nv2, tv2, pvp]) (by simp only [ty]; rfl) (hGV.ext.hp hc2) rfl (by simp [hPV.nrow.one, hPV.trow.one, hPV.prow.one]; simp [Value.oneCell'])
        obtain ⟨Y2, hs2, hY2b, hY2g, hY2s⟩ := sto_agg (P := Try.prog) (T := 49) (w := Y1) (g := w.heap.size + 1 + 1) (ds := #[.int .i64 (r0 : Int), .int .i64 (lf : Int), .slice NA NN.length ncc, .slice TA TT.length tcc, .slice PA l.length pcc]) (by simp only [ty]; rfl) ((hY1g.block _ (by have := hGV.ext.size; omega) (by simp)).trans (hGV.ext.hp hc3)) rfl (by simp [Value.oneCell'])
        have hY21 : Y2.heap[w.heap.size + 1]? = _ := (hY2g.block _ (by have := hGV.ext.size; omega) (by simp)).trans hY1b
        have hg1n : g ∉ [w.heap.size + 1, w.heap.size + 1 + 1] := by have := hPV.wb; have := hG.ext.size; simp; omega
        have hg2n : b ∉ [w.heap.size + 1, w.heap.size + 1 + 1] := by simp; omega
        have hK1 : Keep [w.heap.size + 1, w.heap.size + 1 + 1] V.drew Y1 := Keep.of_grown hY1g fun q hq => by cases hq; simp
        have hK2 : Keep [w.heap.size + 1, w.heap.size + 1 + 1] Y1 Y2 := Keep.of_grown hY2g fun q hq => by cases hq; simp
        have hbp' := hPV.box
        have hbq' := hGV.box
        refine Dr_plan [w.heap.size + 1, w.heap.size + 1 + 1] (fun _ => true) [0, 1, 2, 3] mixed (by kernel_rfl) ?_
        simp (disch := first | omega | assumption | (simp only [O1, World.size_alloc, World.size_setCell, World.size_drew]; first | done | omega)) only [↓D1, ↓D3, ↓D4, List.not_mem_nil, not_false_eq_true, Bool.false_eq_true, false_imp_iff, upto, O1, D2, ↓H0, S0, ↓S1, ↓S2, ↓S3, ↓S4, S5, S5b, S5c, ↓S6, S6b, M0, E0, ty, tl, te, tc, i64_wrap, u64_wrap, iaV_sl, iaV_arr, faV_pa, nck_pa, heap_new, heap_old, heap_set, ↓reduceIte, Nat.reduceEqDiff, Nat.reduceLT, Nat.reduceAdd, Int.reduceLT, Int.reduceLE, decide_false, decide_true, dec_true, dec_false, true_and, and_true, true_imp_iff, Bool.not_true, Bool.not_false, Option.map_none, Int.reduceToNat, Int.toNat_zero, Int.toNat_one, lkV_false, lkV_true, f2, f3, f6, f13, f14, hbp, hbq, hbp', hbq', ldA5, hg1n, hg2n, hs1, hs2, hK1, hK2, hY21, hY2b]
        have hch : Chg (fun q => q = w.heap.size + 1 ∨ q = w.heap.size + 1 + 1) V.drew Y2 := (Chg.grown hY1g (M := fun q => q = w.heap.size + 1 ∨ q = w.heap.size + 1 + 1) fun q hq => by cases hq; exact .inl rfl).tr (Chg.grown hY2g (M := fun q => q = w.heap.size + 1 + 1) fun q hq => by cases hq; rfl) fun q _ hq => .inr hq
        have hUs := hG.ext.size
        have t1 := hGV.ext.hp hc2
        have t2 := hGV.ext.hp hc3
        have hnt : ∀ q, q < V.drew.heap.size → q = w.heap.size + 1 ∨ q = w.heap.size + 1 + 1 → ∃ cs T f, T ≠ 3 ∧ V.drew.heap[q]? = some (.cells cs T f) := by
          rintro q _ (rfl | rfl)
          · exact ⟨_, _, _, by decide, t1⟩
          · exact ⟨_, _, _, by decide, t2⟩
        have rowN : ∀ {v : Value} {L : List ByteArray} {B0 : Nat}, Row Value.string B0 9 V.drew v L → Row Value.string B0 9 Y2 v L := fun {v L B0} h => h.chg hch fun q hq hm => by
          rcases hm with rfl | rfl
          · exact h.ne t1 (by decide) hq
          · exact h.ne t2 (by decide) hq
        have hp1 : PRow 35 Ud.heap.size B' Y2 pvp l := hPV.prow.chg hch (fun q hq hm => by
          rcases hm with rfl | rfl
          · exact hPV.prow.ne t1 (by decide) hq
          · exact hPV.prow.ne t2 (by decide) hq) fun q hq hm => hnt q (Nat.lt_of_lt_of_le hq hPV.lB) hm
        have hp2 := hGV.prow.chg hch (fun q hq hm => by
          rcases hm with rfl | rfl
          · exact hGV.prow.ne t1 (by decide) hq
          · exact hGV.prow.ne t2 (by decide) hq) fun q hq hm => hnt q (Nat.lt_of_lt_of_le hq hGV.lB) hm
        refine ⟨⟨_, _, ⟨(r0 : Int), (lf : Int), NN, TT, l⟩, rfl, ⟨_, _, _, rfl, (rowN hPV.nrow).sq, (rowN hPV.trow).sq, hp1.prods⟩, ⟨_, _, _, rfl, (rowN hGV.nrow).sq, (rowN hGV.trow).sq, hp2.prods⟩, ?_⟩, hxV.chg hch fun q hq => by rcases hq with rfl | rfl <;> omega⟩
        rw [hNN, hTT]
        exact nice_of hn1 hn8 (by omega) hm2 (by omega) (by omega) rfl hP (by omega) (by omega)
end Go.Proofs.Ytgioklmpnbnplaa
