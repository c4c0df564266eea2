/- The walk of the law FactsWays. Conditions: none. -/
import Derived.Test.YtgioklmpnbnplaaFa4
import Derived.Test.YtgioklmpnbnplaaFa3
import Derived.Test.YtgioklmpnbnplaaFa2
import Derived.Test.YtgioklmpnbnplaaFw
set_option linter.unusedSimpArgs false
set_option linter.unusedVariables false
set_option maxRecDepth 100000
namespace Go.Proofs.Ytgioklmpnbnplaa
open Go.V

set_option maxHeartbeats 4000000 in
theorem ways_ok (xv : Value) (x : RawG) (w : World) (hx : RepRaw w xv x) : Ok Try.prog 10 #[xv] w fun v w' => v = .bool true ∧ Ext w w' := by
  have hx0 := hx
  obtain ⟨lv, rv, rfl, hL, hR⟩ := hx
  (refine Ok.enter Try.func10 rfl (by kernel_rfl) (Nat.le_of_ble_eq_true rfl) ?_; simp only [Try.f10, S7])
  simp (disch := first | omega | assumption | (simp only [O1, World.size_alloc, World.size_setCell, World.size_drew]; first | done | omega)) only [O1, D2, ↓H0, S0, ↓S1, ↓S2, ↓S3, ↓S4, S5, S5b, S5c, ↓S6, S6b, M0, E0, ty, tl, te, tc, i64_wrap, u64_wrap, iaV_sl, iaV_arr, faV_pa, nck_pa, heap_new, heap_old, heap_set, ↓reduceIte, Nat.reduceEqDiff, Nat.reduceLT, Nat.reduceAdd, Int.reduceLT, Int.reduceLE, decide_false, decide_true, dec_true, dec_false, true_and, and_true, true_imp_iff, Bool.not_true, Bool.not_false, Option.map_none, Int.reduceToNat, Int.toNat_zero, Int.toNat_one, lkV_false, lkV_true]
  have hxa := (Ext.rfl' w).al (.cells #[.int .i64 x.n, .int .i64 x.t, .int .i64 x.start, lv, rv] 46)
  have hba := heap_new (w := w) (.cells #[.int .i64 x.n, .int .i64 x.t, .int .i64 x.start, lv, rv] 46) rfl
  refine (speaks09_ok _).then ?_; rintro _ W ⟨rfl, hx1⟩
  have hbW := hx1.hp hba
  have hxW := hxa.tr hx1
  simp (disch := first | omega | assumption | (simp only [O1, World.size_alloc, World.size_setCell, World.size_drew]; first | done | omega)) only [O1, D2, ↓H0, S0, ↓S1, ↓S2, ↓S3, ↓S4, S5, S5b, S5c, ↓S6, S6b, M0, E0, ty, tl, te, tc, i64_wrap, u64_wrap, iaV_sl, iaV_arr, faV_pa, nck_pa, heap_new, heap_old, heap_set, ↓reduceIte, Nat.reduceEqDiff, Nat.reduceLT, Nat.reduceAdd, Int.reduceLT, Int.reduceLE, decide_false, decide_true, dec_true, dec_false, true_and, and_true, true_imp_iff, Bool.not_true, Bool.not_false, Option.map_none, Int.reduceToNat, Int.toNat_zero, Int.toNat_one, lkV_false, lkV_true, ldA5, hbW]
  refine (made09_ok _ x W (hx0.ext hxW)).then ?_
  rintro _ V ⟨⟨p, q, g, rfl, hp, hq, hN⟩, hx2⟩
  have hxV := hxW.tr hx2
  obtain ⟨hS, hSm, hn8, ht3, hpl, hsd⟩ := hN
  have hp0 := hp
  have hq0 := hq
  obtain ⟨nv, tv, pv, rfl, _⟩ := hp
  obtain ⟨nv2, tv2, pv2, rfl, _⟩ := hq
  have hone : ∀ {u : Value} {α : Type} {e : α → Value} {l : List α}, Sq e V u l → u.oneCell' = true := fun {u α e l} h => by obtain ⟨A, c, rfl, _⟩ := h; rfl
  have ho : nv.oneCell' = true ∧ tv.oneCell' = true ∧ pv.oneCell' = true ∧ nv2.oneCell' = true ∧ tv2.oneCell' = true ∧ pv2.oneCell' = true := by
    obtain ⟨_, _, _, h0, a1, a2, A, c, h3, _⟩ := hp0
    obtain ⟨_, _, _, h0', b1, b2, A', c', h3', _⟩ := hq0
    simp at h0 h0'
    obtain ⟨rfl, rfl, rfl⟩ := h0
    obtain ⟨rfl, rfl, rfl⟩ := h0'
    refine ⟨hone a1, hone a2, by rw [h3]; rfl, hone b1, hone b2, by rw [h3']; rfl⟩
  obtain ⟨o1, o2, o3, o4, o5, o6⟩ := ho
  obtain ⟨Y1, U, hs1, hs2, hxU, hb1, hb2, hUs⟩ := two_boxes (P := Try.prog) (V := V) (T := 41) (T' := 49) (z := #[.int .i64 0, .int .i64 0, .slice none 0 0, .slice none 0 0, .slice none 0 0]) (z' := #[.int .i64 0, .int .i64 0, .slice none 0 0, .slice none 0 0, .slice none 0 0]) (ds := #[.int .i64 g.start, .int .i64 g.rules, nv, tv, pv]) (ds' := #[.int .i64 g.start, .int .i64 g.rules, nv2, tv2, pv2]) (by simp only [ty]; rfl) (by simp only [ty]; rfl) rfl rfl (by simp [o1, o2, o3]; simp [Value.oneCell']) (by simp [o4, o5, o6]; simp [Value.oneCell'])
  simp (disch := first | omega | assumption | (simp only [O1, World.size_alloc, World.size_setCell, World.size_drew]; first | done | omega)) only [O1, D2, ↓H0, S0, ↓S1, ↓S2, ↓S3, ↓S4, S5, S5b, S5c, ↓S6, S6b, M0, E0, ty, tl, te, tc, i64_wrap, u64_wrap, iaV_sl, iaV_arr, faV_pa, nck_pa, heap_new, heap_old, heap_set, ↓reduceIte, Nat.reduceEqDiff, Nat.reduceLT, Nat.reduceAdd, Int.reduceLT, Int.reduceLE, decide_false, decide_true, dec_true, dec_false, true_and, and_true, true_imp_iff, Bool.not_true, Bool.not_false, Option.map_none, Int.reduceToNat, Int.toNat_zero, Int.toNat_one, lkV_false, lkV_true, hs1, hs2]
  have hp1 := hp0.ext hxU
  have hq1 := hq0.ext hxU
  have hxwU := hxV.tr hxU
  clear hs1 hs2 hbW hba hx0
  generalize hbp : V.heap.size = bp at *
  have hb1d : U.drew.heap[bp]? = _ := hb1
  have hb2d : U.drew.heap[bp + 1]? = _ := hb2
  refine Dr_plan [] (fun _ => true) [0, 2, 1, 3, 4, 5] mixed (by kernel_rfl) ?_
  simp (disch := first | omega | assumption | (simp only [O1, World.size_alloc, World.size_setCell, World.size_drew]; first | done | omega)) only [↓D1, ↓D3, ↓D4, List.not_mem_nil, not_false_eq_true, Bool.false_eq_true, false_imp_iff, upto, O1, D2, ↓H0, S0, ↓S1, ↓S2, ↓S3, ↓S4, S5, S5b, S5c, ↓S6, S6b, M0, E0, ty, tl, te, tc, i64_wrap, u64_wrap, iaV_sl, iaV_arr, faV_pa, nck_pa, heap_new, heap_old, heap_set, ↓reduceIte, Nat.reduceEqDiff, Nat.reduceLT, Nat.reduceAdd, Int.reduceLT, Int.reduceLE, decide_false, decide_true, dec_true, dec_false, true_and, and_true, true_imp_iff, Bool.not_true, Bool.not_false, Option.map_none, Int.reduceToNat, Int.toNat_zero, Int.toNat_one, lkV_false, lkV_true, hb1, hb2, hb1d, hb2d, ldA5]
  refine (first_ok _ g _ (hp1.ext ((Ext.rfl' U).dr)) hSm).then ?_
  rintro _ X ⟨hl, hxX⟩
  rcases hl with ⟨h, _⟩ | ⟨_, L, hLr, hLl, hL⟩
  · exact absurd hS h
  have hKX := Keep.of_ext hxX []
  have hq2 := hq1.ext (((Ext.rfl' U).dr).tr hxX)
  simp (disch := first | omega | assumption | (simp only [O1, World.size_alloc, World.size_setCell, World.size_drew]; first | done | omega)) only [↓D1, ↓D3, ↓D4, List.not_mem_nil, not_false_eq_true, Bool.false_eq_true, false_imp_iff, upto, O1, D2, ↓H0, S0, ↓S1, ↓S2, ↓S3, ↓S4, S5, S5b, S5c, ↓S6, S6b, M0, E0, ty, tl, te, tc, i64_wrap, u64_wrap, iaV_sl, iaV_arr, faV_pa, nck_pa, heap_new, heap_old, heap_set, ↓reduceIte, Nat.reduceEqDiff, Nat.reduceLT, Nat.reduceAdd, Int.reduceLT, Int.reduceLE, decide_false, decide_true, dec_true, dec_false, true_and, and_true, true_imp_iff, Bool.not_true, Bool.not_false, Option.map_none, Int.reduceToNat, Int.toNat_zero, Int.toNat_one, lkV_false, lkV_true, hKX]
  refine (rfirst_ok _ g _ hq2 hS hSm).then ?_
  rintro _ X2 ⟨⟨F, hFr, hF⟩, hxX2⟩
  have hKX2 := Keep.of_ext hxX2 []
  have hxUX : Ext U X2 := (((Ext.rfl' U).dr).tr hxX).tr hxX2
  have hLX := hLr.ext hxX2
  have hc1 := hxUX.hp hb1
  have hc2 := hxUX.hp hb2
  simp (disch := first | omega | assumption | (simp only [O1, World.size_alloc, World.size_setCell, World.size_drew]; first | done | omega)) only [↓D1, ↓D3, ↓D4, List.not_mem_nil, not_false_eq_true, Bool.false_eq_true, false_imp_iff, upto, O1, D2, ↓H0, S0, ↓S1, ↓S2, ↓S3, ↓S4, S5, S5b, S5c, ↓S6, S6b, M0, E0, ty, tl, te, tc, i64_wrap, u64_wrap, iaV_sl, iaV_arr, faV_pa, nck_pa, heap_new, heap_old, heap_set, ↓reduceIte, Nat.reduceEqDiff, Nat.reduceLT, Nat.reduceAdd, Int.reduceLT, Int.reduceLE, decide_false, decide_true, dec_true, dec_false, true_and, and_true, true_imp_iff, Bool.not_true, Bool.not_false, Option.map_none, Int.reduceToNat, Int.toNat_zero, Int.toNat_one, lkV_false, lkV_true, hKX2]
  have hc1d : X2.drew.heap[bp]? = _ := hc1
  have hc2d : X2.drew.heap[bp + 1]? = _ := hc2
  have hx2d := (Ext.rfl' X2).dr
  obtain ⟨LA, lca, rfl, hlca, hLA⟩ := hLX
  obtain ⟨FA, fca, rfl, hfca, hFA⟩ := hFr
  refine Dr_plan [] (fun _ => true) [0, 2, 1, 3, 4, 5, 6, 7, 9, 8, 10, 11, 12, 13, 14, 15, 16, 17, 18, 19, 20] mixed (by kernel_rfl) ?_
  simp (disch := first | omega | assumption | (simp only [O1, World.size_alloc, World.size_setCell, World.size_drew]; first | done | omega)) only [↓D1, ↓D3, ↓D4, List.not_mem_nil, not_false_eq_true, Bool.false_eq_true, false_imp_iff, upto, O1, D2, ↓H0, S0, ↓S1, ↓S2, ↓S3, ↓S4, S5, S5b, S5c, ↓S6, S6b, M0, E0, ty, tl, te, tc, i64_wrap, u64_wrap, iaV_sl, iaV_arr, faV_pa, nck_pa, heap_new, heap_old, heap_set, ↓reduceIte, Nat.reduceEqDiff, Nat.reduceLT, Nat.reduceAdd, Int.reduceLT, Int.reduceLE, decide_false, decide_true, dec_true, dec_false, true_and, and_true, true_imp_iff, Bool.not_true, Bool.not_false, Option.map_none, Int.reduceToNat, Int.toNat_zero, Int.toNat_one, lkV_false, lkV_true, hc1, hc2, hc1d, hc2d, ldA5]
  refine (reachable_ok _ g _ (hp1.ext (hxUX.tr hx2d)) hSm).then ?_
  rintro _ X3 ⟨hnl, hxX3⟩
  rcases hnl with ⟨h, _⟩ | ⟨_, ln, hnl, hTn⟩
  · exact absurd hS h
  have hK3 := Keep.of_ext hxX3 []
  have hy3 := hx2d.tr hxX3
  simp (disch := first | omega | assumption | (simp only [O1, World.size_alloc, World.size_setCell, World.size_drew]; first | done | omega)) only [↓D1, ↓D3, ↓D4, List.not_mem_nil, not_false_eq_true, Bool.false_eq_true, false_imp_iff, upto, O1, D2, ↓H0, S0, ↓S1, ↓S2, ↓S3, ↓S4, S5, S5b, S5c, ↓S6, S6b, M0, E0, ty, tl, te, tc, i64_wrap, u64_wrap, iaV_sl, iaV_arr, faV_pa, nck_pa, heap_new, heap_old, heap_set, ↓reduceIte, Nat.reduceEqDiff, Nat.reduceLT, Nat.reduceAdd, Int.reduceLT, Int.reduceLE, decide_false, decide_true, dec_true, dec_false, true_and, and_true, true_imp_iff, Bool.not_true, Bool.not_false, Option.map_none, Int.reduceToNat, Int.toNat_zero, Int.toNat_one, lkV_false, lkV_true, hK3]
  refine (rreach_ok _ g _ (hq1.ext (hxUX.tr hy3)) hS hSm).then ?_
  rintro _ X4 ⟨⟨ln2, hnl2, hTn2⟩, hxX4⟩
  obtain rfl := hTn.uniq hTn2
  have hK4 := Keep.of_ext hxX4 []
  have hy4 := hy3.tr hxX4
  simp (disch := first | omega | assumption | (simp only [O1, World.size_alloc, World.size_setCell, World.size_drew]; first | done | omega)) only [↓D1, ↓D3, ↓D4, List.not_mem_nil, not_false_eq_true, Bool.false_eq_true, false_imp_iff, upto, O1, D2, ↓H0, S0, ↓S1, ↓S2, ↓S3, ↓S4, S5, S5b, S5c, ↓S6, S6b, M0, E0, ty, tl, te, tc, i64_wrap, u64_wrap, iaV_sl, iaV_arr, faV_pa, nck_pa, heap_new, heap_old, heap_set, ↓reduceIte, Nat.reduceEqDiff, Nat.reduceLT, Nat.reduceAdd, Int.reduceLT, Int.reduceLE, decide_false, decide_true, dec_true, dec_false, true_and, and_true, true_imp_iff, Bool.not_true, Bool.not_false, Option.map_none, Int.reduceToNat, Int.toNat_zero, Int.toNat_one, lkV_false, lkV_true, hK4]
  refine (bools_ok _ _ ln ln _ (hnl.ext hxX4) hnl2 (by have := hTn.1; have := hS.1.2.1; omega)).then ?_
  rintro _ X5 ⟨rfl, hxX5⟩
  have hK5 := Keep.of_ext hxX5 []
  have hy5 := hy4.tr hxX5
  have he1 := hy5.hp hc1
  have he2 := hy5.hp hc2
  rw [decide_eq_true rfl]
  simp (disch := first | omega | assumption | (simp only [O1, World.size_alloc, World.size_setCell, World.size_drew]; first | done | omega)) only [↓D1, ↓D3, ↓D4, List.not_mem_nil, not_false_eq_true, Bool.false_eq_true, false_imp_iff, upto, O1, D2, ↓H0, S0, ↓S1, ↓S2, ↓S3, ↓S4, S5, S5b, S5c, ↓S6, S6b, M0, E0, ty, tl, te, tc, i64_wrap, u64_wrap, iaV_sl, iaV_arr, faV_pa, nck_pa, heap_new, heap_old, heap_set, ↓reduceIte, Nat.reduceEqDiff, Nat.reduceLT, Nat.reduceAdd, Int.reduceLT, Int.reduceLE, decide_false, decide_true, dec_true, dec_false, true_and, and_true, true_imp_iff, Bool.not_true, Bool.not_false, Option.map_none, Int.reduceToNat, Int.toNat_zero, Int.toNat_one, lkV_false, lkV_true, hK5, he1, he2, ldA5]
  refine (loops_ok _ g _ (hp1.ext (hxUX.tr hy5)) hSm).then ?_
  rintro _ X6 ⟨hml, hxX6⟩
  rcases hml with ⟨h, _⟩ | ⟨_, lm, hml, hTm⟩
  · exact absurd hS h
  have hK6 := Keep.of_ext hxX6 []
  have hy6 := hy5.tr hxX6
  have hg2 := hy6.hp hc2
  simp (disch := first | omega | assumption | (simp only [O1, World.size_alloc, World.size_setCell, World.size_drew]; first | done | omega)) only [↓D1, ↓D3, ↓D4, List.not_mem_nil, not_false_eq_true, Bool.false_eq_true, false_imp_iff, upto, O1, D2, ↓H0, S0, ↓S1, ↓S2, ↓S3, ↓S4, S5, S5b, S5c, ↓S6, S6b, M0, E0, ty, tl, te, tc, i64_wrap, u64_wrap, iaV_sl, iaV_arr, faV_pa, nck_pa, heap_new, heap_old, heap_set, ↓reduceIte, Nat.reduceEqDiff, Nat.reduceLT, Nat.reduceAdd, Int.reduceLT, Int.reduceLE, decide_false, decide_true, dec_true, dec_false, true_and, and_true, true_imp_iff, Bool.not_true, Bool.not_false, Option.map_none, Int.reduceToNat, Int.toNat_zero, Int.toNat_one, lkV_false, lkV_true, hK6, hg2, ldA5]
  refine (rloops_ok _ g _ (hq1.ext (hxUX.tr hy6)) hS hSm).then ?_
  rintro _ X7 ⟨⟨lm2, hml2, hTm2⟩, hxX7⟩
  obtain rfl := hTm.uniq hTm2
  have hK7 := Keep.of_ext hxX7 []
  have hy7 := hy6.tr hxX7
  simp (disch := first | omega | assumption | (simp only [O1, World.size_alloc, World.size_setCell, World.size_drew]; first | done | omega)) only [↓D1, ↓D3, ↓D4, List.not_mem_nil, not_false_eq_true, Bool.false_eq_true, false_imp_iff, upto, O1, D2, ↓H0, S0, ↓S1, ↓S2, ↓S3, ↓S4, S5, S5b, S5c, ↓S6, S6b, M0, E0, ty, tl, te, tc, i64_wrap, u64_wrap, iaV_sl, iaV_arr, faV_pa, nck_pa, heap_new, heap_old, heap_set, ↓reduceIte, Nat.reduceEqDiff, Nat.reduceLT, Nat.reduceAdd, Int.reduceLT, Int.reduceLE, decide_false, decide_true, dec_true, dec_false, true_and, and_true, true_imp_iff, Bool.not_true, Bool.not_false, Option.map_none, Int.reduceToNat, Int.toNat_zero, Int.toNat_one, lkV_false, lkV_true, hK7]
  refine (bools_ok _ _ lm lm _ (hml.ext hxX7) hml2 (by have := hTm.1; have := hS.1.2.1; omega)).then ?_
  rintro _ X8 ⟨rfl, hxX8⟩
  have hK8 := Keep.of_ext hxX8 []
  have hy8 := hy7.tr hxX8
  have hLF : (L.length : Int) = (F.length : Int) := by rw [hLl, hF.1]
  have hLFd : decide ((L.length : Int) = (F.length : Int)) = true := decide_eq_true hLF
  rw [decide_eq_true rfl]
  simp (disch := first | omega | assumption | (simp only [O1, World.size_alloc, World.size_setCell, World.size_drew]; first | done | omega)) only [↓D1, ↓D3, ↓D4, List.not_mem_nil, not_false_eq_true, Bool.false_eq_true, false_imp_iff, upto, O1, D2, ↓H0, S0, ↓S1, ↓S2, ↓S3, ↓S4, S5, S5b, S5c, ↓S6, S6b, M0, E0, ty, tl, te, tc, i64_wrap, u64_wrap, iaV_sl, iaV_arr, faV_pa, nck_pa, heap_new, heap_old, heap_set, ↓reduceIte, Nat.reduceEqDiff, Nat.reduceLT, Nat.reduceAdd, Int.reduceLT, Int.reduceLE, decide_false, decide_true, dec_true, dec_false, true_and, and_true, true_imp_iff, Bool.not_true, Bool.not_false, Option.map_none, Int.reduceToNat, Int.toNat_zero, Int.toNat_one, lkV_false, lkV_true, hK8, hLFd]
  have hx8 : Ext w X8 := (hxwU.tr hxUX).tr hy8
  have hn256 := hS.1.2.1
  have ht256 := hS.2.1.1
  refine ⟨fun k t Z => ∃ i : Nat, k + i = L.length ∧ Z = X8 ∧ t 5 = .slice LA L.length lca ∧ t 6 = .slice FA F.length fca ∧ t 7 = .int .i64 i, ⟨L.length, 0, by omega, rfl, ?_⟩, ?_⟩
  · simp (disch := first | omega | assumption | (simp only [O1, World.size_alloc, World.size_setCell, World.size_drew]; first | done | omega)) only [O1, D2, ↓H0, S0, ↓S1, ↓S2, ↓S3, ↓S4, S5, S5b, S5c, ↓S6, S6b, M0, E0, ty, tl, te, tc, i64_wrap, u64_wrap, iaV_sl, iaV_arr, faV_pa, nck_pa, heap_new, heap_old, heap_set, ↓reduceIte, Nat.reduceEqDiff, Nat.reduceLT, Nat.reduceAdd, Int.reduceLT, Int.reduceLE, decide_false, decide_true, dec_true, dec_false, true_and, and_true, true_imp_iff, Bool.not_true, Bool.not_false, Option.map_none, Int.reduceToNat, Int.toNat_zero, Int.toNat_one, lkV_false, lkV_true] <;> rfl
  rintro k t X8 ⟨i, hk, rfl, f5, f6, f7⟩
  simp (disch := first | omega | assumption | (simp only [O1, World.size_alloc, World.size_setCell, World.size_drew]; first | done | omega)) only [O1, D2, ↓H0, S0, ↓S1, ↓S2, ↓S3, ↓S4, S5, S5b, S5c, ↓S6, S6b, M0, E0, ty, tl, te, tc, i64_wrap, u64_wrap, iaV_sl, iaV_arr, faV_pa, nck_pa, heap_new, heap_old, heap_set, ↓reduceIte, Nat.reduceEqDiff, Nat.reduceLT, Nat.reduceAdd, Int.reduceLT, Int.reduceLE, decide_false, decide_true, dec_true, dec_false, true_and, and_true, true_imp_iff, Bool.not_true, Bool.not_false, Option.map_none, Int.reduceToNat, Int.toNat_zero, Int.toNat_one, lkV_false, lkV_true, f5, f6, f7]
  refine Br_if (fun h => ?_) (fun h' => ?_) <;> (try simp (disch := first | omega | assumption | (simp only [O1, World.size_alloc, World.size_setCell, World.size_drew]; first | done | omega)) only [O1, D2, ↓H0, S0, ↓S1, ↓S2, ↓S3, ↓S4, S5, S5b, S5c, ↓S6, S6b, M0, E0, ty, tl, te, tc, i64_wrap, u64_wrap, iaV_sl, iaV_arr, faV_pa, nck_pa, heap_new, heap_old, heap_set, ↓reduceIte, Nat.reduceEqDiff, Nat.reduceLT, Nat.reduceAdd, Int.reduceLT, Int.reduceLE, decide_false, decide_true, dec_true, dec_false, true_and, and_true, true_imp_iff, Bool.not_true, Bool.not_false, Option.map_none, Int.reduceToNat, Int.toNat_zero, Int.toNat_one, lkV_false, lkV_true, f5, f6, f7])
  · have hi : i < L.length := by omega
    have hiF : i < F.length := by omega
    obtain ⟨lr, hlr, hlS⟩ := hLA i hi
    obtain ⟨fr, hfr, hfS⟩ := hFA i hiF
    have r1 := hy8.rd hlr
    have r2 := hy8.rd hfr
    have t1 := rd_isSome r1
    have t2 := rd_isSome r2
    have hpair := hL i _ (List.getElem?_eq_getElem hi)
    have hrow := hF.2.1 F[i] (List.getElem_mem _)
    have hbits : ∀ a : Nat, a < g.terms.length → (F[i][a]? = some true ↔ Fst g.prods i a) := fun a ha => by
      rw [← hF.2.2 i a (by omega) ha]
      unfold bit
      rw [List.getElem?_eq_getElem hiF]; simp
    have hS2 := hlS.ext hy8
    have hS3 := hfS.ext hy8
    generalize L[i] = Li at *
    generalize F[i] = Fi at *
    have hLi : Li = asc Fi g.terms.length := asc_uniq hpair.1 asc_lt fun x => by
      rw [hpair.2, asc_mem]
      constructor
      · rintro ⟨a, rfl, h⟩
        have := fst_lt (m := g.terms.length) (fun p hp s hs => (hS.low p hp s hs).1) h
        exact ⟨a, rfl, this, (hbits a this).2 h⟩
      · rintro ⟨a, rfl, h1, h2⟩; exact ⟨a, rfl, (hbits a h1).1 h2⟩
    obtain ⟨A1, c1, rfl, hc1, hA1⟩ := hS2
    obtain ⟨A2, c2, rfl, hc2, hA2⟩ := hS3
    refine ⟨fun k2 t Z => ∃ j : Nat, k2 + j = g.terms.length ∧ Z = X8 ∧ t 5 = .slice LA L.length lca ∧ t 6 = .slice FA F.length fca ∧ t 7 = .int .i64 i ∧ t 8 = .int .i64 (asc Fi j).length ∧ t 9 = .int .i64 j, ⟨g.terms.length, 0, by omega, rfl, ?_⟩, ?_⟩
    · simp (disch := first | omega | assumption | (simp only [O1, World.size_alloc, World.size_setCell, World.size_drew]; first | done | omega)) only [O1, D2, ↓H0, S0, ↓S1, ↓S2, ↓S3, ↓S4, S5, S5b, S5c, ↓S6, S6b, M0, E0, ty, tl, te, tc, i64_wrap, u64_wrap, iaV_sl, iaV_arr, faV_pa, nck_pa, heap_new, heap_old, heap_set, ↓reduceIte, Nat.reduceEqDiff, Nat.reduceLT, Nat.reduceAdd, Int.reduceLT, Int.reduceLE, decide_false, decide_true, dec_true, dec_false, true_and, and_true, true_imp_iff, Bool.not_true, Bool.not_false, Option.map_none, Int.reduceToNat, Int.toNat_zero, Int.toNat_one, lkV_false, lkV_true, f5, f6, f7]; exact ⟨rfl, rfl⟩
    clear f5 f6 f7
    rintro k2 t X8 ⟨j, hk2, rfl, f5, f6, f7, f8, f9⟩
    have hle : j ≤ g.terms.length := by omega
    obtain ⟨rest, hrest⟩ := asc_pre (r := Fi) hle
    have hlen : Li.length = (asc Fi j).length + rest.length := by rw [hLi, hrest, List.length_append]
    simp (disch := first | omega | assumption | (simp only [O1, World.size_alloc, World.size_setCell, World.size_drew]; first | done | omega)) only [O1, D2, ↓H0, S0, ↓S1, ↓S2, ↓S3, ↓S4, S5, S5b, S5c, ↓S6, S6b, M0, E0, ty, tl, te, tc, i64_wrap, u64_wrap, iaV_sl, iaV_arr, faV_pa, nck_pa, heap_new, heap_old, heap_set, ↓reduceIte, Nat.reduceEqDiff, Nat.reduceLT, Nat.reduceAdd, Int.reduceLT, Int.reduceLE, decide_false, decide_true, dec_true, dec_false, true_and, and_true, true_imp_iff, Bool.not_true, Bool.not_false, Option.map_none, Int.reduceToNat, Int.toNat_zero, Int.toNat_one, lkV_false, lkV_true, f5, f6, f7, f8, f9, r1, r2]
    refine Br_if (fun q => ?_) (fun q' => ?_) <;> (try simp (disch := first | omega | assumption | (simp only [O1, World.size_alloc, World.size_setCell, World.size_drew]; first | done | omega)) only [O1, D2, ↓H0, S0, ↓S1, ↓S2, ↓S3, ↓S4, S5, S5b, S5c, ↓S6, S6b, M0, E0, ty, tl, te, tc, i64_wrap, u64_wrap, iaV_sl, iaV_arr, faV_pa, nck_pa, heap_new, heap_old, heap_set, ↓reduceIte, Nat.reduceEqDiff, Nat.reduceLT, Nat.reduceAdd, Int.reduceLT, Int.reduceLE, decide_false, decide_true, dec_true, dec_false, true_and, and_true, true_imp_iff, Bool.not_true, Bool.not_false, Option.map_none, Int.reduceToNat, Int.toNat_zero, Int.toNat_one, lkV_false, lkV_true, f5, f6, f7, f8, f9, r1, r2])
    · have hj : j < g.terms.length := by omega
      have hjF : j < Fi.length := by omega
      have r3 := hA2 j hjF
      have t3 := rd_isSome r3
      have hgd : Fi.getD j false = Fi[j] := by simp [List.getD_eq_getElem?_getD, List.getElem?_eq_getElem hjF]
      have hat := asc_at (r := Fi) hj
      have hnext : asc Fi (j + 1) = asc Fi j ++ if Fi.getD j false = true then [(j : Int)] else [] := rfl
      rw [hgd] at hat hnext
      generalize Fi[j] = b at *
      simp (disch := first | omega | assumption | (simp only [O1, World.size_alloc, World.size_setCell, World.size_drew]; first | done | omega)) only [O1, D2, ↓H0, S0, ↓S1, ↓S2, ↓S3, ↓S4, S5, S5b, S5c, ↓S6, S6b, M0, E0, ty, tl, te, tc, i64_wrap, u64_wrap, iaV_sl, iaV_arr, faV_pa, nck_pa, heap_new, heap_old, heap_set, ↓reduceIte, Nat.reduceEqDiff, Nat.reduceLT, Nat.reduceAdd, Int.reduceLT, Int.reduceLE, decide_false, decide_true, dec_true, dec_false, true_and, and_true, true_imp_iff, Bool.not_true, Bool.not_false, Option.map_none, Int.reduceToNat, Int.toNat_zero, Int.toNat_one, lkV_false, lkV_true, f5, f6, f7, f8, f9, r1, r2, r3]
      cases b with
      | false =>
        simp (disch := first | omega | assumption | (simp only [O1, World.size_alloc, World.size_setCell, World.size_drew]; first | done | omega)) only [O1, D2, ↓H0, S0, ↓S1, ↓S2, ↓S3, ↓S4, S5, S5b, S5c, ↓S6, S6b, M0, E0, ty, tl, te, tc, i64_wrap, u64_wrap, iaV_sl, iaV_arr, faV_pa, nck_pa, heap_new, heap_old, heap_set, ↓reduceIte, Nat.reduceEqDiff, Nat.reduceLT, Nat.reduceAdd, Int.reduceLT, Int.reduceLE, decide_false, decide_true, dec_true, dec_false, true_and, and_true, true_imp_iff, Bool.not_true, Bool.not_false, Option.map_none, Int.reduceToNat, Int.toNat_zero, Int.toNat_one, lkV_false, lkV_true, f5, f6, f7, f8, f9, r1, r2, r3]
        refine ⟨k2 - 1, by omega, j + 1, by omega, ?_, rfl⟩
        rw [hnext]; simp
      | true =>
        have h1 := hat rfl
        rw [← hLi] at h1
        obtain ⟨h2, h3⟩ := List.getElem?_eq_some_iff.1 h1
        have r4 := hA1 _ h2
        rw [h3] at r4
        have t4 := rd_isSome r4
        simp (disch := first | omega | assumption | (simp only [O1, World.size_alloc, World.size_setCell, World.size_drew]; first | done | omega)) only [O1, D2, ↓H0, S0, ↓S1, ↓S2, ↓S3, ↓S4, S5, S5b, S5c, ↓S6, S6b, M0, E0, ty, tl, te, tc, i64_wrap, u64_wrap, iaV_sl, iaV_arr, faV_pa, nck_pa, heap_new, heap_old, heap_set, ↓reduceIte, Nat.reduceEqDiff, Nat.reduceLT, Nat.reduceAdd, Int.reduceLT, Int.reduceLE, decide_false, decide_true, dec_true, dec_false, true_and, and_true, true_imp_iff, Bool.not_true, Bool.not_false, Option.map_none, Int.reduceToNat, Int.toNat_zero, Int.toNat_one, lkV_false, lkV_true, f5, f6, f7, f8, f9, r1, r2, r3, r4]
        have hl1 : (asc Fi j).length < 1000 := by have := (List.getElem?_eq_some_iff.1 h1).1; have hq : (asc Fi g.terms.length).length ≤ g.terms.length := asc_len; rw [← hLi] at hq; omega
        have hw : IntKind.i64.wrap ((asc Fi j).length + 1) = (asc Fi j).length + 1 := i64_wrap (by omega) (by omega)
        refine ⟨k2 - 1, by omega, j + 1, by omega, ?_, rfl⟩
        rw [hnext]; simp [hw]
    · have hj : j = g.terms.length := by omega
      subst hj
      rw [← hLi]
      simp (disch := first | omega | assumption | (simp only [O1, World.size_alloc, World.size_setCell, World.size_drew]; first | done | omega)) only [O1, D2, ↓H0, S0, ↓S1, ↓S2, ↓S3, ↓S4, S5, S5b, S5c, ↓S6, S6b, M0, E0, ty, tl, te, tc, i64_wrap, u64_wrap, iaV_sl, iaV_arr, faV_pa, nck_pa, heap_new, heap_old, heap_set, ↓reduceIte, Nat.reduceEqDiff, Nat.reduceLT, Nat.reduceAdd, Int.reduceLT, Int.reduceLE, decide_false, decide_true, dec_true, dec_false, true_and, and_true, true_imp_iff, Bool.not_true, Bool.not_false, Option.map_none, Int.reduceToNat, Int.toNat_zero, Int.toNat_one, lkV_false, lkV_true, f5, f6, f7, f8, f9, r1, r2]
      exact ⟨k - 1, by omega, i + 1, by omega, rfl⟩
  · exact hx8
end Go.Proofs.Ytgioklmpnbnplaa
