/- The walk of the law FactsFit. Conditions: none. -/
import Derived.Test.YtgioklmpnbnplaaFa4
import Derived.Test.YtgioklmpnbnplaaFitP
set_option linter.unusedSimpArgs false
set_option linter.unusedVariables false
set_option maxRecDepth 100000
namespace Go.Proofs.Ytgioklmpnbnplaa
open Go.V

set_option maxHeartbeats 4000000 in
theorem fit_ok (xv : Value) (x : RawG) (w : World) (hx : RepRaw w xv x) : Ok Try.prog 11 #[xv] w fun v w' => v = .bool true ∧ Ext w w' := by
  have hx0 := hx
  obtain ⟨lv, rv, rfl, hL, hR⟩ := hx
  (refine Ok.enter Try.func11 rfl (by kernel_rfl) (Nat.le_of_ble_eq_true rfl) ?_; simp only [Try.f11, S7])
  simp (disch := first | omega | assumption | (simp only [O1, World.size_alloc, World.size_setCell, World.size_drew]; first | done | omega)) only [O1, D2, ↓H0, S0, ↓S1, ↓S2, ↓S3, ↓S4, S5, S5b, S5c, ↓S6, S6b, M0, E0, ty, tl, te, tc, i64_wrap, u64_wrap, iaV_sl, iaV_arr, faV_pa, nck_pa, heap_new, heap_old, heap_set, ↓reduceIte, Nat.reduceEqDiff, Nat.reduceLT, Nat.reduceAdd, Int.reduceLT, Int.reduceLE, decide_false, decide_true, dec_true, dec_false, true_and, and_true, true_imp_iff, Bool.not_true, Bool.not_false, Option.map_none, Int.reduceToNat, Int.toNat_zero, Int.toNat_one, lkV_false, lkV_true]
  have hxa := (Ext.rfl' w).al (.cells #[.int .i64 x.n, .int .i64 x.t, .int .i64 x.start, lv, rv] 46)
  have hba := heap_new (w := w) (.cells #[.int .i64 x.n, .int .i64 x.t, .int .i64 x.start, lv, rv] 46) rfl
  refine (speaks09_ok _).then ?_; rintro _ W ⟨rfl, hx1⟩
  have hbW := hx1.hp hba
  have hxW := hxa.tr hx1
  simp (disch := first | omega | assumption | (simp only [O1, World.size_alloc, World.size_setCell, World.size_drew]; first | done | omega)) only [O1, D2, ↓H0, S0, ↓S1, ↓S2, ↓S3, ↓S4, S5, S5b, S5c, ↓S6, S6b, M0, E0, ty, tl, te, tc, i64_wrap, u64_wrap, iaV_sl, iaV_arr, faV_pa, nck_pa, heap_new, heap_old, heap_set, ↓reduceIte, Nat.reduceEqDiff, Nat.reduceLT, Nat.reduceAdd, Int.reduceLT, Int.reduceLE, decide_false, decide_true, dec_true, dec_false, true_and, and_true, true_imp_iff, Bool.not_true, Bool.not_false, Option.map_none, Int.reduceToNat, Int.toNat_zero, Int.toNat_one, lkV_false, lkV_true, ldA5, hbW]
  refine (made09_ok _ x W (hx0.ext hxW)).then ?_
  rintro _ V ⟨⟨p, q, g, rfl, hp, hq, hN⟩, hx2⟩
  have hxV := hxW.tr hx2
  obtain ⟨hS, hSm, hn8, ht3, hpl, hsd⟩ := hN
  have hp0 := hp
  have hq0 := hq
  obtain ⟨nv, tv, pv, rfl, _⟩ := hp
  obtain ⟨nv2, tv2, pv2, rfl, _⟩ := hq
  have hone : ∀ {u : Value} {α : Type} {e : α → Value} {l : List α}, Sq e V u l → u.oneCell' = true := fun {u α e l} h => by obtain ⟨A, c, rfl, _⟩ := h; rfl
  have ho : nv.oneCell' = true ∧ tv.oneCell' = true ∧ pv.oneCell' = true ∧ nv2.oneCell' = true ∧ tv2.oneCell' = true ∧ pv2.oneCell' = true := by
    obtain ⟨_, _, _, h0, a1, a2, A, c, h3, _⟩ := hp0
    obtain ⟨_, _, _, h0', b1, b2, A', c', h3', _⟩ := hq0
    simp at h0 h0'
    obtain ⟨rfl, rfl, rfl⟩ := h0
    obtain ⟨rfl, rfl, rfl⟩ := h0'
    refine ⟨hone a1, hone a2, by rw [h3]; rfl, hone b1, hone b2, by rw [h3']; rfl⟩
  obtain ⟨o1, o2, o3, o4, o5, o6⟩ := ho
  obtain ⟨Y1, U, hs1, hs2, hxU, hb1, hb2, hUs⟩ := two_boxes (P := Try.prog) (V := V) (T := 41) (T' := 49) (z := #[.int .i64 0, .int .i64 0, .slice none 0 0, .slice none 0 0, .slice none 0 0]) (z' := #[.int .i64 0, .int .i64 0, .slice none 0 0, .slice none 0 0, .slice none 0 0]) (ds := #[.int .i64 g.start, .int .i64 g.rules, nv, tv, pv]) (ds' := #[.int .i64 g.start, .int .i64 g.rules, nv2, tv2, pv2]) (by simp only [ty]; rfl) (by simp only [ty]; rfl) rfl rfl (by simp [o1, o2, o3]; simp [Value.oneCell']) (by simp [o4, o5, o6]; simp [Value.oneCell'])
  simp (disch := first | omega | assumption | (simp only [O1, World.size_alloc, World.size_setCell, World.size_drew]; first | done | omega)) only [O1, D2, ↓H0, S0, ↓S1, ↓S2, ↓S3, ↓S4, S5, S5b, S5c, ↓S6, S6b, M0, E0, ty, tl, te, tc, i64_wrap, u64_wrap, iaV_sl, iaV_arr, faV_pa, nck_pa, heap_new, heap_old, heap_set, ↓reduceIte, Nat.reduceEqDiff, Nat.reduceLT, Nat.reduceAdd, Int.reduceLT, Int.reduceLE, decide_false, decide_true, dec_true, dec_false, true_and, and_true, true_imp_iff, Bool.not_true, Bool.not_false, Option.map_none, Int.reduceToNat, Int.toNat_zero, Int.toNat_one, lkV_false, lkV_true, hs1, hs2]
  have hp1 := hp0.ext hxU
  have hq1 := hq0.ext hxU
  have hxwU := hxV.tr hxU
  clear hs1 hs2 hbW hba hx0
  generalize hbp : V.heap.size = bp at *
  have hb1d : U.drew.heap[bp]? = _ := hb1
  have hb2d : U.drew.heap[bp + 1]? = _ := hb2
  refine Dr_plan [] (fun _ => true) [0, 2, 4, 6, 8, 1, 3, 5, 7, 9, 10, 11, 12, 13, 14] mixed (by kernel_rfl) ?_
  simp (disch := first | omega | assumption | (simp only [O1, World.size_alloc, World.size_setCell, World.size_drew]; first | done | omega)) only [↓D1, ↓D3, ↓D4, List.not_mem_nil, not_false_eq_true, Bool.false_eq_true, false_imp_iff, upto, O1, D2, ↓H0, S0, ↓S1, ↓S2, ↓S3, ↓S4, S5, S5b, S5c, ↓S6, S6b, M0, E0, ty, tl, te, tc, i64_wrap, u64_wrap, iaV_sl, iaV_arr, faV_pa, nck_pa, heap_new, heap_old, heap_set, ↓reduceIte, Nat.reduceEqDiff, Nat.reduceLT, Nat.reduceAdd, Int.reduceLT, Int.reduceLE, decide_false, decide_true, dec_true, dec_false, true_and, and_true, true_imp_iff, Bool.not_true, Bool.not_false, Option.map_none, Int.reduceToNat, Int.toNat_zero, Int.toNat_one, lkV_false, lkV_true, hb1, hb2, hb1d, hb2d, ldA5]
  refine (nullable_ok _ g _ (hp1.ext ((Ext.rfl' U).dr)) hSm).then ?_
  rintro _ X1 ⟨hh, hx1⟩
  rcases hh with ⟨h, _⟩ | ⟨_, ln, hv1, hTn⟩
  · exact absurd hS h
  have hK1 := Keep.of_ext hx1 []
  have hy1 := ((Ext.rfl' U).dr).tr hx1
  have hc1 := hy1.hp hb1
  simp (disch := first | omega | assumption | (simp only [O1, World.size_alloc, World.size_setCell, World.size_drew]; first | done | omega)) only [↓D1, ↓D3, ↓D4, List.not_mem_nil, not_false_eq_true, Bool.false_eq_true, false_imp_iff, upto, O1, D2, ↓H0, S0, ↓S1, ↓S2, ↓S3, ↓S4, S5, S5b, S5c, ↓S6, S6b, M0, E0, ty, tl, te, tc, i64_wrap, u64_wrap, iaV_sl, iaV_arr, faV_pa, nck_pa, heap_new, heap_old, heap_set, ↓reduceIte, Nat.reduceEqDiff, Nat.reduceLT, Nat.reduceAdd, Int.reduceLT, Int.reduceLE, decide_false, decide_true, dec_true, dec_false, true_and, and_true, true_imp_iff, Bool.not_true, Bool.not_false, Option.map_none, Int.reduceToNat, Int.toNat_zero, Int.toNat_one, lkV_false, lkV_true, hK1, hc1, ldA5]
  refine (generating_ok _ g _ (hp1.ext (hy1)) hSm).then ?_
  rintro _ X2 ⟨hh, hx2⟩
  rcases hh with ⟨h, _⟩ | ⟨_, lg, hv2, hTg⟩
  · exact absurd hS h
  have hK2 := Keep.of_ext hx2 []
  have hy2 := (hy1).tr hx2
  have hc2 := hy2.hp hb1
  simp (disch := first | omega | assumption | (simp only [O1, World.size_alloc, World.size_setCell, World.size_drew]; first | done | omega)) only [↓D1, ↓D3, ↓D4, List.not_mem_nil, not_false_eq_true, Bool.false_eq_true, false_imp_iff, upto, O1, D2, ↓H0, S0, ↓S1, ↓S2, ↓S3, ↓S4, S5, S5b, S5c, ↓S6, S6b, M0, E0, ty, tl, te, tc, i64_wrap, u64_wrap, iaV_sl, iaV_arr, faV_pa, nck_pa, heap_new, heap_old, heap_set, ↓reduceIte, Nat.reduceEqDiff, Nat.reduceLT, Nat.reduceAdd, Int.reduceLT, Int.reduceLE, decide_false, decide_true, dec_true, dec_false, true_and, and_true, true_imp_iff, Bool.not_true, Bool.not_false, Option.map_none, Int.reduceToNat, Int.toNat_zero, Int.toNat_one, lkV_false, lkV_true, hK2, hc2, ldA5]
  refine (shortest_ok _ g _ (hp1.ext (hy2)) hSm).then ?_
  rintro _ X3 ⟨hh, hx3⟩
  rcases hh with ⟨h, _⟩ | ⟨_, l, hv3, hSh⟩
  · exact absurd hS h
  have hK3 := Keep.of_ext hx3 []
  have hy3 := (hy2).tr hx3
  have hc3 := hy3.hp hb1
  simp (disch := first | omega | assumption | (simp only [O1, World.size_alloc, World.size_setCell, World.size_drew]; first | done | omega)) only [↓D1, ↓D3, ↓D4, List.not_mem_nil, not_false_eq_true, Bool.false_eq_true, false_imp_iff, upto, O1, D2, ↓H0, S0, ↓S1, ↓S2, ↓S3, ↓S4, S5, S5b, S5c, ↓S6, S6b, M0, E0, ty, tl, te, tc, i64_wrap, u64_wrap, iaV_sl, iaV_arr, faV_pa, nck_pa, heap_new, heap_old, heap_set, ↓reduceIte, Nat.reduceEqDiff, Nat.reduceLT, Nat.reduceAdd, Int.reduceLT, Int.reduceLE, decide_false, decide_true, dec_true, dec_false, true_and, and_true, true_imp_iff, Bool.not_true, Bool.not_false, Option.map_none, Int.reduceToNat, Int.toNat_zero, Int.toNat_one, lkV_false, lkV_true, hK3, hc3, ldA5]
  refine (first_ok _ g _ (hp1.ext (hy3)) hSm).then ?_
  rintro _ X4 ⟨hh, hx4⟩
  rcases hh with ⟨h, _⟩ | ⟨_, L, hv4, hLl, hL⟩
  · exact absurd hS h
  have hK4 := Keep.of_ext hx4 []
  have hy4 := (hy3).tr hx4
  have hc4 := hy4.hp hb1
  simp (disch := first | omega | assumption | (simp only [O1, World.size_alloc, World.size_setCell, World.size_drew]; first | done | omega)) only [↓D1, ↓D3, ↓D4, List.not_mem_nil, not_false_eq_true, Bool.false_eq_true, false_imp_iff, upto, O1, D2, ↓H0, S0, ↓S1, ↓S2, ↓S3, ↓S4, S5, S5b, S5c, ↓S6, S6b, M0, E0, ty, tl, te, tc, i64_wrap, u64_wrap, iaV_sl, iaV_arr, faV_pa, nck_pa, heap_new, heap_old, heap_set, ↓reduceIte, Nat.reduceEqDiff, Nat.reduceLT, Nat.reduceAdd, Int.reduceLT, Int.reduceLE, decide_false, decide_true, dec_true, dec_false, true_and, and_true, true_imp_iff, Bool.not_true, Bool.not_false, Option.map_none, Int.reduceToNat, Int.toNat_zero, Int.toNat_one, lkV_false, lkV_true, hK4, hc4, ldA5]
  refine (reachable_ok _ g _ (hp1.ext (hy4)) hSm).then ?_
  rintro _ X5 ⟨hh, hx5⟩
  rcases hh with ⟨h, _⟩ | ⟨_, lr, hv5, hTr⟩
  · exact absurd hS h
  have hK5 := Keep.of_ext hx5 []
  have hy5 := (hy4).tr hx5
  have hc5 := hy5.hp hb1
  simp (disch := first | omega | assumption | (simp only [O1, World.size_alloc, World.size_setCell, World.size_drew]; first | done | omega)) only [↓D1, ↓D3, ↓D4, List.not_mem_nil, not_false_eq_true, Bool.false_eq_true, false_imp_iff, upto, O1, D2, ↓H0, S0, ↓S1, ↓S2, ↓S3, ↓S4, S5, S5b, S5c, ↓S6, S6b, M0, E0, ty, tl, te, tc, i64_wrap, u64_wrap, iaV_sl, iaV_arr, faV_pa, nck_pa, heap_new, heap_old, heap_set, ↓reduceIte, Nat.reduceEqDiff, Nat.reduceLT, Nat.reduceAdd, Int.reduceLT, Int.reduceLE, decide_false, decide_true, dec_true, dec_false, true_and, and_true, true_imp_iff, Bool.not_true, Bool.not_false, Option.map_none, Int.reduceToNat, Int.toNat_zero, Int.toNat_one, lkV_false, lkV_true, hK5, hc5, ldA5]
  have hv1' := hv1.ext (((hx2.tr hx3).tr hx4).tr hx5)
  have hv2' := hv2.ext ((hx3.tr hx4).tr hx5)
  have hv3' := hv3.ext (hx4.tr hx5)
  have hv4' := hv4.ext hx5
  clear hv1 hv2 hv3 hv4
  obtain ⟨NA, na, rfl, hna, hNA⟩ := hv1'
  obtain ⟨GA, ga, rfl, hga, hGA⟩ := hv2'
  obtain ⟨SA, sa, rfl, hsa, hSA⟩ := hv3'
  obtain ⟨LA, la, rfl, hla, hLA⟩ := hv4'
  obtain ⟨RA, ra, rfl, hra, hRA⟩ := hv5
  have hpV := hp0
  obtain ⟨_, _, _, h0, ⟨A, a, hA0, ha, _⟩, _, ⟨C, c, hC0, hcc, hC⟩⟩ := hpV
  simp at h0
  obtain ⟨rfl, rfl, rfl⟩ := h0
  subst hA0 hC0
  have hn256 := hS.1.2.1
  have ht256 := hS.2.1.1
  have hp256 := hS.2.1.2.2.1
  have hbx := hy5.hp hb1
  have hwX5 : Ext w X5 := hxwU.tr hy5
  have hUX5 : Ext V X5 := hxU.tr hy5
  have hnl := hTn.1
  have hgl := hTg.1
  have hsl := hSh.1
  have hrl := hTr.1
  refine ⟨fun k t Z => ∃ i : Nat, k + i = g.names.length ∧ Ext X5 Z ∧ t 3 = pa (some ⟨bp, 0, none⟩) 0 ∧ t 5 = .slice NA ln.length na ∧ t 6 = .slice GA lg.length ga ∧ t 7 = .slice SA l.length sa ∧ t 8 = .slice LA L.length la ∧ t 9 = .slice RA lr.length ra ∧ t 10 = .int .i64 i, ⟨g.names.length, 0, by omega, Ext.rfl' _, ?_⟩, ?_⟩
  · simp (disch := first | omega | assumption | (simp only [O1, World.size_alloc, World.size_setCell, World.size_drew]; first | done | omega)) only [O1, D2, ↓H0, S0, ↓S1, ↓S2, ↓S3, ↓S4, S5, S5b, S5c, ↓S6, S6b, M0, E0, ty, tl, te, tc, i64_wrap, u64_wrap, iaV_sl, iaV_arr, faV_pa, nck_pa, heap_new, heap_old, heap_set, ↓reduceIte, Nat.reduceEqDiff, Nat.reduceLT, Nat.reduceAdd, Int.reduceLT, Int.reduceLE, decide_false, decide_true, dec_true, dec_false, true_and, and_true, true_imp_iff, Bool.not_true, Bool.not_false, Option.map_none, Int.reduceToNat, Int.toNat_zero, Int.toNat_one, lkV_false, lkV_true] <;> rfl
  rintro k t Z ⟨i, hk, hxZ, f3, f5, f6, f7, f8, f9, f10⟩
  have hbZ := hxZ.hp hbx
  simp (disch := first | omega | assumption | (simp only [O1, World.size_alloc, World.size_setCell, World.size_drew]; first | done | omega)) only [O1, D2, ↓H0, S0, ↓S1, ↓S2, ↓S3, ↓S4, S5, S5b, S5c, ↓S6, S6b, M0, E0, ty, tl, te, tc, i64_wrap, u64_wrap, iaV_sl, iaV_arr, faV_pa, nck_pa, heap_new, heap_old, heap_set, ↓reduceIte, Nat.reduceEqDiff, Nat.reduceLT, Nat.reduceAdd, Int.reduceLT, Int.reduceLE, decide_false, decide_true, dec_true, dec_false, true_and, and_true, true_imp_iff, Bool.not_true, Bool.not_false, Option.map_none, Int.reduceToNat, Int.toNat_zero, Int.toNat_one, lkV_false, lkV_true, f3, f5, f6, f7, f8, f9, f10, hbZ]
  refine Br_if (fun h => ?_) (fun h' => ?_) <;> (try simp (disch := first | omega | assumption | (simp only [O1, World.size_alloc, World.size_setCell, World.size_drew]; first | done | omega)) only [O1, D2, ↓H0, S0, ↓S1, ↓S2, ↓S3, ↓S4, S5, S5b, S5c, ↓S6, S6b, M0, E0, ty, tl, te, tc, i64_wrap, u64_wrap, iaV_sl, iaV_arr, faV_pa, nck_pa, heap_new, heap_old, heap_set, ↓reduceIte, Nat.reduceEqDiff, Nat.reduceLT, Nat.reduceAdd, Int.reduceLT, Int.reduceLE, decide_false, decide_true, dec_true, dec_false, true_and, and_true, true_imp_iff, Bool.not_true, Bool.not_false, Option.map_none, Int.reduceToNat, Int.toNat_zero, Int.toNat_one, lkV_false, lkV_true, f3, f5, f6, f7, f8, f9, f10, hbZ])
  · have hi : i < g.names.length := by omega
    have i1 : i < ln.length := by omega
    have i2 : i < lg.length := by omega
    have i3 : i < l.length := by omega
    have i4 : i < L.length := by omega
    have hxZd := hxZ.dr
    have r1 := hxZd.rd (hNA i i1)
    have r2 := hxZd.rd (hGA i i2)
    have r3 := hxZd.rd (hSA i i3)
    obtain ⟨QA, qa, r4⟩ : ∃ QA qa, rd Z.drew LA i = some (.slice QA L[i].length qa) := by
      obtain ⟨lv, r4, QA, qa, hQ, _, _⟩ := hLA i i4
      exact ⟨QA, qa, by rw [← hQ]; exact hxZd.rd r4⟩
    have t1 := rd_isSome r1
    have t2 := rd_isSome r2
    have t3 := rd_isSome r3
    have t4 := rd_isSome r4
    have hz := hSh.zero i3
    have hg := hSh.gen i3
    have hb := hSh.bnd i3
    have hn2 := hTn.2 i hi
    have hg2 := hTg.2 i hi
    rw [List.getElem?_eq_getElem i1] at hn2
    rw [List.getElem?_eq_getElem i2] at hg2
    simp only [Option.some.injEq] at hn2 hg2
    have hLi := hL i _ (List.getElem?_eq_getElem i4)
    have hlen1 : 0 < l[i] → 0 < L[i].length := fun h0 => by
      obtain ⟨t, ht⟩ := gen_fst (hg.1 (by omega)) (fun h1 => by have := hz.2 h1; omega)
      have := (hLi.2 t).2 ⟨t, rfl, ht⟩
      exact List.length_pos_of_mem this
    have hlen0 : l[i] < 0 → L[i].length = 0 := fun h0 => by
      cases hq : L[i] with
      | nil => rfl
      | cons y ys =>
        obtain ⟨t, _, ht⟩ := (hLi.2 y).1 (by rw [hq]; simp)
        have := hg.2 (fst_gen ht); omega
    have e1 : ln[i] = decide (l[i] = 0) := by rw [Bool.eq_iff_iff, hn2, decide_eq_true_iff, hz]
    have e2 : lg[i] = decide (0 ≤ l[i]) := by rw [Bool.eq_iff_iff, hg2, decide_eq_true_iff, hg]
    rw [e1] at r1
    rw [e2] at r2
    clear e1 e2 hLi hn2 hg2 hz hg
    generalize l[i] = x at *
    generalize L[i].length = m at *
    refine Dr_plan [] (fun _ => true) [0, 1, 2, 3, 4, 5, 6, 7, 8, 9, 10, 11, 12, 13, 14, 15, 16, 17, 18, 19, 20, 21, 22, 23, 24, 25, 26, 27, 28, 29, 30, 31, 32, 33, 34, 35, 36, 37, 38, 39, 40, 41, 42, 43, 44, 45, 46, 47, 48, 49, 50, 51] mixed (by kernel_rfl) ?_
    rcases Int.lt_or_le 0 x with hx0 | hx0
    · have hm := hlen1 hx0
      have d1 : decide (x = 0) = false := decide_eq_false (by omega)
      have d2 : decide (0 ≤ x) = true := decide_eq_true (by omega)
      have d3 : decide (0 < x) = true := decide_eq_true (by omega)
      have d4 : decide ((m : Int) = 0) = false := decide_eq_false (by omega)
      rw [d1] at r1; rw [d2] at r2
      simp (disch := first | omega | assumption | (simp only [O1, World.size_alloc, World.size_setCell, World.size_drew]; first | done | omega)) only [↓D1, ↓D3, ↓D4, List.not_mem_nil, not_false_eq_true, Bool.false_eq_true, false_imp_iff, upto, O1, D2, ↓H0, S0, ↓S1, ↓S2, ↓S3, ↓S4, S5, S5b, S5c, ↓S6, S6b, M0, E0, ty, tl, te, tc, i64_wrap, u64_wrap, iaV_sl, iaV_arr, faV_pa, nck_pa, heap_new, heap_old, heap_set, ↓reduceIte, Nat.reduceEqDiff, Nat.reduceLT, Nat.reduceAdd, Int.reduceLT, Int.reduceLE, decide_false, decide_true, dec_true, dec_false, true_and, and_true, true_imp_iff, Bool.not_true, Bool.not_false, Option.map_none, Int.reduceToNat, Int.toNat_zero, Int.toNat_one, lkV_false, lkV_true, f3, f5, f6, f7, f8, f9, f10, r1, r2, r3, r4, d1, d2, d3, d4]
      exact ⟨k - 1, by omega, i + 1, by omega, hxZ.dr, rfl⟩
    · have d3 : decide (0 < x) = false := decide_eq_false (by omega)
      by_cases hx1 : x = 0
      · subst hx1
        have d1 : decide ((0 : Int) = 0) = true := decide_eq_true rfl
        have d2 : decide ((0 : Int) ≤ 0) = true := decide_eq_true (by omega)
        rw [d1] at r1; rw [d2] at r2
        simp (disch := first | omega | assumption | (simp only [O1, World.size_alloc, World.size_setCell, World.size_drew]; first | done | omega)) only [↓D1, ↓D3, ↓D4, List.not_mem_nil, not_false_eq_true, Bool.false_eq_true, false_imp_iff, upto, O1, D2, ↓H0, S0, ↓S1, ↓S2, ↓S3, ↓S4, S5, S5b, S5c, ↓S6, S6b, M0, E0, ty, tl, te, tc, i64_wrap, u64_wrap, iaV_sl, iaV_arr, faV_pa, nck_pa, heap_new, heap_old, heap_set, ↓reduceIte, Nat.reduceEqDiff, Nat.reduceLT, Nat.reduceAdd, Int.reduceLT, Int.reduceLE, decide_false, decide_true, dec_true, dec_false, true_and, and_true, true_imp_iff, Bool.not_true, Bool.not_false, Option.map_none, Int.reduceToNat, Int.toNat_zero, Int.toNat_one, lkV_false, lkV_true, f3, f5, f6, f7, f8, f9, f10, r1, r2, r3, r4, d1, d2, d3]
        exact ⟨k - 1, by omega, i + 1, by omega, hxZ.dr, rfl⟩
      · have hm := hlen0 (by omega)
        subst hm
        have d1 : decide (x = 0) = false := decide_eq_false hx1
        have d2 : decide (0 ≤ x) = false := decide_eq_false (by omega)
        rw [d1] at r1; rw [d2] at r2
        simp (disch := first | omega | assumption | (simp only [O1, World.size_alloc, World.size_setCell, World.size_drew]; first | done | omega)) only [↓D1, ↓D3, ↓D4, List.not_mem_nil, not_false_eq_true, Bool.false_eq_true, false_imp_iff, upto, O1, D2, ↓H0, S0, ↓S1, ↓S2, ↓S3, ↓S4, S5, S5b, S5c, ↓S6, S6b, M0, E0, ty, tl, te, tc, i64_wrap, u64_wrap, iaV_sl, iaV_arr, faV_pa, nck_pa, heap_new, heap_old, heap_set, ↓reduceIte, Nat.reduceEqDiff, Nat.reduceLT, Nat.reduceAdd, Int.reduceLT, Int.reduceLE, decide_false, decide_true, dec_true, dec_false, true_and, and_true, true_imp_iff, Bool.not_true, Bool.not_false, Option.map_none, Int.reduceToNat, Int.toNat_zero, Int.toNat_one, lkV_false, lkV_true, f3, f5, f6, f7, f8, f9, f10, r1, r2, r3, r4, d1, d2, d3]
        exact ⟨k - 1, by omega, i + 1, by omega, hxZ.dr, rfl⟩
  clear hNA hLA hL
  refine ⟨fun k t Y => ∃ i : Nat, k + i = g.prods.length ∧ Y = Z ∧ t 3 = pa (some ⟨bp, 0, none⟩) 0 ∧ t 6 = .slice GA lg.length ga ∧ t 7 = .slice SA l.length sa ∧ t 9 = .slice RA lr.length ra ∧ t 11 = .int .i64 i, ⟨g.prods.length, 0, by omega, rfl, ?_⟩, ?_⟩
  · simp (disch := first | omega | assumption | (simp only [O1, World.size_alloc, World.size_setCell, World.size_drew]; first | done | omega)) only [O1, D2, ↓H0, S0, ↓S1, ↓S2, ↓S3, ↓S4, S5, S5b, S5c, ↓S6, S6b, M0, E0, ty, tl, te, tc, i64_wrap, u64_wrap, iaV_sl, iaV_arr, faV_pa, nck_pa, heap_new, heap_old, heap_set, ↓reduceIte, Nat.reduceEqDiff, Nat.reduceLT, Nat.reduceAdd, Int.reduceLT, Int.reduceLE, decide_false, decide_true, dec_true, dec_false, true_and, and_true, true_imp_iff, Bool.not_true, Bool.not_false, Option.map_none, Int.reduceToNat, Int.toNat_zero, Int.toNat_one, lkV_false, lkV_true, f3, f5, f6, f7, f8, f9, f10] <;> rfl
  clear hk f3 f5 f6 f7 f8 f9 f10
  rintro k t Z ⟨i, hk, rfl, f3, f6, f7, f9, f11⟩
  simp (disch := first | omega | assumption | (simp only [O1, World.size_alloc, World.size_setCell, World.size_drew]; first | done | omega)) only [O1, D2, ↓H0, S0, ↓S1, ↓S2, ↓S3, ↓S4, S5, S5b, S5c, ↓S6, S6b, M0, E0, ty, tl, te, tc, i64_wrap, u64_wrap, iaV_sl, iaV_arr, faV_pa, nck_pa, heap_new, heap_old, heap_set, ↓reduceIte, Nat.reduceEqDiff, Nat.reduceLT, Nat.reduceAdd, Int.reduceLT, Int.reduceLE, decide_false, decide_true, dec_true, dec_false, true_and, and_true, true_imp_iff, Bool.not_true, Bool.not_false, Option.map_none, Int.reduceToNat, Int.toNat_zero, Int.toNat_one, lkV_false, lkV_true, f3, f6, f7, f9, f11, hbZ]
  have hVZ := hUX5.tr hxZ
  refine Br_if (fun h => ?_) (fun h' => ?_) <;> (try simp (disch := first | omega | assumption | (simp only [O1, World.size_alloc, World.size_setCell, World.size_drew]; first | done | omega)) only [O1, D2, ↓H0, S0, ↓S1, ↓S2, ↓S3, ↓S4, S5, S5b, S5c, ↓S6, S6b, M0, E0, ty, tl, te, tc, i64_wrap, u64_wrap, iaV_sl, iaV_arr, faV_pa, nck_pa, heap_new, heap_old, heap_set, ↓reduceIte, Nat.reduceEqDiff, Nat.reduceLT, Nat.reduceAdd, Int.reduceLT, Int.reduceLE, decide_false, decide_true, dec_true, dec_false, true_and, and_true, true_imp_iff, Bool.not_true, Bool.not_false, Option.map_none, Int.reduceToNat, Int.toNat_zero, Int.toNat_one, lkV_false, lkV_true, f3, f6, f7, f9, f11, hbZ])
  · have hi : i < g.prods.length := by omega
    obtain ⟨q1, rv, q2, hrs⟩ := hC i hi
    obtain ⟨D, d, rfl, hd, hD⟩ := hrs
    have hl' := hVZ.rd q1
    have hr' := hVZ.rd q2
    have hAs := rd_isSome hl'
    have hmem : g.prods[i] ∈ g.prods := List.getElem_mem _
    have hin := hS.inR
    have hPr := hSh.prod hin hmem
    obtain ⟨⟨hp0', hp1'⟩, hps⟩ := hin _ hmem
    have hsd := hsd _ hmem
    have hed : ∀ s ∈ g.prods[i].2, 0 ≤ s → EdP g.prods g.prods[i].1 s := fun s hs h0 => ⟨_, hmem, rfl, hs, h0⟩
    generalize hp : g.prods[i] = p at *
    have j1 : p.1.toNat < lr.length := by omega
    have j2 : p.1.toNat < lg.length := by omega
    have j3 : p.1.toNat < l.length := by omega
    refine ⟨fun k2 t Y => ∃ (j : Nat) (ok : Bool), k2 + j = p.2.length ∧ Y = Z ∧ (ok = true ↔ ∀ s ∈ p.2.take j, 0 ≤ s → Gen true g.prods s) ∧ (0 ≤ sumF l (p.2.take j) ∧ sumF l (p.2.take j) ≤ 1099511627776 * j) ∧ t 3 = pa (some ⟨bp, 0, none⟩) 0 ∧ t 6 = .slice GA lg.length ga ∧ t 7 = .slice SA l.length sa ∧ t 9 = .slice RA lr.length ra ∧ t 11 = .int .i64 i ∧ t 12 = .int .i64 (sumF l (p.2.take j)) ∧ t 13 = .bool ok ∧ t 14 = .int .i64 j, ⟨p.2.length, 0, true, by omega, rfl, by simp, by simp [sumF], ?_⟩, ?_⟩
    · simp (disch := first | omega | assumption | (simp only [O1, World.size_alloc, World.size_setCell, World.size_drew]; first | done | omega)) only [O1, D2, ↓H0, S0, ↓S1, ↓S2, ↓S3, ↓S4, S5, S5b, S5c, ↓S6, S6b, M0, E0, ty, tl, te, tc, i64_wrap, u64_wrap, iaV_sl, iaV_arr, faV_pa, nck_pa, heap_new, heap_old, heap_set, ↓reduceIte, Nat.reduceEqDiff, Nat.reduceLT, Nat.reduceAdd, Int.reduceLT, Int.reduceLE, decide_false, decide_true, dec_true, dec_false, true_and, and_true, true_imp_iff, Bool.not_true, Bool.not_false, Option.map_none, Int.reduceToNat, Int.toNat_zero, Int.toNat_one, lkV_false, lkV_true, f3, f6, f7, f9, f11, hbZ]; exact ⟨rfl, rfl⟩
    clear f3 f6 f7 f9 f11
    rintro k2 t Z ⟨j, ok, hk2, rfl, hok, hsum, f3, f6, f7, f9, f11, f12, f13, f14⟩
    simp (disch := first | omega | assumption | (simp only [O1, World.size_alloc, World.size_setCell, World.size_drew]; first | done | omega)) only [O1, D2, ↓H0, S0, ↓S1, ↓S2, ↓S3, ↓S4, S5, S5b, S5c, ↓S6, S6b, M0, E0, ty, tl, te, tc, i64_wrap, u64_wrap, iaV_sl, iaV_arr, faV_pa, nck_pa, heap_new, heap_old, heap_set, ↓reduceIte, Nat.reduceEqDiff, Nat.reduceLT, Nat.reduceAdd, Int.reduceLT, Int.reduceLE, decide_false, decide_true, dec_true, dec_false, true_and, and_true, true_imp_iff, Bool.not_true, Bool.not_false, Option.map_none, Int.reduceToNat, Int.toNat_zero, Int.toNat_one, lkV_false, lkV_true, f3, f6, f7, f9, f11, f12, f13, f14, hbZ, hl', hr']
    refine Br_if (fun q => ?_) (fun q' => ?_) <;> (try simp (disch := first | omega | assumption | (simp only [O1, World.size_alloc, World.size_setCell, World.size_drew]; first | done | omega)) only [O1, D2, ↓H0, S0, ↓S1, ↓S2, ↓S3, ↓S4, S5, S5b, S5c, ↓S6, S6b, M0, E0, ty, tl, te, tc, i64_wrap, u64_wrap, iaV_sl, iaV_arr, faV_pa, nck_pa, heap_new, heap_old, heap_set, ↓reduceIte, Nat.reduceEqDiff, Nat.reduceLT, Nat.reduceAdd, Int.reduceLT, Int.reduceLE, decide_false, decide_true, dec_true, dec_false, true_and, and_true, true_imp_iff, Bool.not_true, Bool.not_false, Option.map_none, Int.reduceToNat, Int.toNat_zero, Int.toNat_one, lkV_false, lkV_true, f3, f6, f7, f9, f11, f12, f13, f14, hbZ, hl', hr'])
    · have hj : j < p.2.length := by omega
      have hs := hVZ.rd (hD j hj)
      have hDs := rd_isSome hs
      have htk : p.2.take (j + 1) = p.2.take j ++ [p.2[j]] := List.take_succ_eq_append_getElem hj
      have hxm : p.2[j] ∈ p.2 := List.getElem_mem _
      generalize hse : p.2[j] = x at *
      have hxn := hps x hxm
      have hsn : sumF l (p.2.take j ++ [x]) = if x < 0 then sumF l (p.2.take j) + 1 else sumF l (p.2.take j) + max (l.getD x.toNat (-1)) 0 := sumF_snoc _ _ _
      have hokn : (∀ s ∈ p.2.take j ++ [x], 0 ≤ s → Gen true g.prods s) ↔ ok = true ∧ (0 ≤ x → Gen true g.prods x) := by
        rw [hok]
        constructor
        · intro hh; exact ⟨fun s hs => hh s (by simp [hs]), hh x (by simp)⟩
        · rintro ⟨a1, a2⟩ s hs
          rcases List.mem_append.1 hs with hs | hs
          · exact a1 s hs
          · simp at hs; subst hs; exact a2
      generalize hn : sumF l (p.2.take j) = n at *
      simp (disch := first | omega | assumption | (simp only [O1, World.size_alloc, World.size_setCell, World.size_drew]; first | done | omega)) only [O1, D2, ↓H0, S0, ↓S1, ↓S2, ↓S3, ↓S4, S5, S5b, S5c, ↓S6, S6b, M0, E0, ty, tl, te, tc, i64_wrap, u64_wrap, iaV_sl, iaV_arr, faV_pa, nck_pa, heap_new, heap_old, heap_set, ↓reduceIte, Nat.reduceEqDiff, Nat.reduceLT, Nat.reduceAdd, Int.reduceLT, Int.reduceLE, decide_false, decide_true, dec_true, dec_false, true_and, and_true, true_imp_iff, Bool.not_true, Bool.not_false, Option.map_none, Int.reduceToNat, Int.toNat_zero, Int.toNat_one, lkV_false, lkV_true, f3, f6, f7, f9, f11, f12, f13, f14, hbZ, hl', hr', hs]
      refine Br_if (fun q3 => ?_) (fun q3' => ?_) <;> (try simp (disch := first | omega | assumption | (simp only [O1, World.size_alloc, World.size_setCell, World.size_drew]; first | done | omega)) only [O1, D2, ↓H0, S0, ↓S1, ↓S2, ↓S3, ↓S4, S5, S5b, S5c, ↓S6, S6b, M0, E0, ty, tl, te, tc, i64_wrap, u64_wrap, iaV_sl, iaV_arr, faV_pa, nck_pa, heap_new, heap_old, heap_set, ↓reduceIte, Nat.reduceEqDiff, Nat.reduceLT, Nat.reduceAdd, Int.reduceLT, Int.reduceLE, decide_false, decide_true, dec_true, dec_false, true_and, and_true, true_imp_iff, Bool.not_true, Bool.not_false, Option.map_none, Int.reduceToNat, Int.toNat_zero, Int.toNat_one, lkV_false, lkV_true, f3, f6, f7, f9, f11, f12, f13, f14, hbZ, hl', hr', hs])
      · rw [if_pos q3] at hsn
        refine ⟨k2 - 1, by omega, j + 1, ok, by omega, ?_, ?_, ?_, rfl, rfl⟩
        · rw [htk, hokn]; exact ⟨fun a => ⟨a, fun b => by omega⟩, fun a => a.1⟩
        · rw [htk, hsn]; omega
        · rw [htk, hsn]
      · rw [if_neg q3'] at hsn
        have hx0 : 0 ≤ x := by omega
        have x1 : x.toNat < lr.length := by omega
        have x2 : x.toNat < lg.length := by omega
        have x3 : x.toNat < l.length := by omega
        have r1 := (hxZ.rd (hRA p.1.toNat j1))
        have r2 := (hxZ.rd (hRA x.toNat x1))
        have r3 := (hxZ.rd (hGA x.toNat x2))
        have r4 := (hxZ.rd (hSA x.toNat x3))
        have t1 := rd_isSome r1
        have t3 := rd_isSome r3
        have t4 := rd_isSome r4
        have e1 := hTr.2 p.1.toNat (by omega)
        have e2 := hTr.2 x.toNat (by omega)
        have e3 := hTg.2 x.toNat (by omega)
        rw [Int.toNat_of_nonneg hp0', List.getElem?_eq_getElem j1] at e1
        rw [Int.toNat_of_nonneg hx0, List.getElem?_eq_getElem x1] at e2
        rw [Int.toNat_of_nonneg hx0, List.getElem?_eq_getElem x2] at e3
        simp only [Option.some.injEq] at e1 e2 e3
        have e4 : lr[p.1.toNat] = true → lr[x.toNat] = true := fun a => e2.2 (.step (e1.1 a) (hed x hxm hx0))
        have hb := hSh.bnd x3
        have hgd : l.getD x.toNat (-1) = l[x.toNat] := by simp [List.getD_eq_getElem?_getD, List.getElem?_eq_getElem x3]
        rw [hgd] at hsn
        generalize lr[p.1.toNat] = b1 at *
        generalize lr[x.toNat] = b2 at *
        generalize lg[x.toNat] = b3 at *
        generalize l[x.toNat] = m at *
        have hmx : max m 0 ≤ 1099511627776 ∧ 0 ≤ max m 0 := by omega
        have hw : IntKind.i64.wrap (n + max m 0) = n + max m 0 := i64_wrap (by omega) (by omega)
        have fin : ∀ t' : Bool, (t' = true ↔ ok = true ∧ b3 = true) → (t' = true ↔ ∀ s ∈ p.2.take (j + 1), 0 ≤ s → Gen true g.prods s) := fun t' ht => by
          rw [htk, hokn, ht, e3]; exact ⟨fun a => ⟨a.1, fun _ => a.2⟩, fun a => ⟨a.1, a.2 hx0⟩⟩
        have hmx2 : n + (if m < 0 then 0 else m) = n + max m 0 := by split <;> omega
        have hsm : (0 ≤ sumF l (p.2.take (j + 1)) ∧ sumF l (p.2.take (j + 1)) ≤ 1099511627776 * ((j + 1 : Nat) : Int)) := by rw [htk, hsn]; omega
        have hse2 : Value.int IntKind.i64 (n + if m < 0 then 0 else m) = .int .i64 (sumF l (p.2.take (j + 1))) := by rw [hmx2, htk, hsn]
        have go : ∀ t' : Bool, (t' = true ↔ ok = true ∧ b3 = true) → ∃ k', k' < k2 ∧ ∃ j_1 ok, k' + j_1 = p.snd.length ∧ (ok = true ↔ ∀ (s : Int), s ∈ List.take j_1 p.snd → 0 ≤ s → Gen true g.prods s) ∧
            (0 ≤ sumF l (List.take j_1 p.snd) ∧ sumF l (List.take j_1 p.snd) ≤ 1099511627776 * (j_1 : Int)) ∧ Value.int IntKind.i64 (n + if m < 0 then 0 else m) = Value.int IntKind.i64 (sumF l (List.take j_1 p.snd)) ∧
                Value.bool t' = Value.bool ok ∧ Value.int IntKind.i64 ((j + 1 : Nat) : Int) = Value.int IntKind.i64 (j_1 : Int) := fun t' ht => ⟨k2 - 1, by omega, j + 1, t', by omega, fin t' ht, hsm, hse2, rfl, rfl⟩
        simp (disch := first | omega | assumption | (simp only [O1, World.size_alloc, World.size_setCell, World.size_drew]; first | done | omega)) only [O1, D2, ↓H0, S0, ↓S1, ↓S2, ↓S3, ↓S4, S5, S5b, S5c, ↓S6, S6b, M0, E0, ty, tl, te, tc, i64_wrap, u64_wrap, iaV_sl, iaV_arr, faV_pa, nck_pa, heap_new, heap_old, heap_set, ↓reduceIte, Nat.reduceEqDiff, Nat.reduceLT, Nat.reduceAdd, Int.reduceLT, Int.reduceLE, decide_false, decide_true, dec_true, dec_false, true_and, and_true, true_imp_iff, Bool.not_true, Bool.not_false, Option.map_none, Int.reduceToNat, Int.toNat_zero, Int.toNat_one, lkV_false, lkV_true, f3, f6, f7, f9, f11, f12, f13, f14, hbZ, hl', hr', hs, r1, r2, r3, r4]
        have hcase : b1 = true → b2 = true := e4
        cases b1 with
        | true =>
          obtain rfl := e4 rfl
          simp (disch := first | omega | assumption | (simp only [O1, World.size_alloc, World.size_setCell, World.size_drew]; first | done | omega)) only [O1, D2, ↓H0, S0, ↓S1, ↓S2, ↓S3, ↓S4, S5, S5b, S5c, ↓S6, S6b, M0, E0, ty, tl, te, tc, i64_wrap, u64_wrap, iaV_sl, iaV_arr, faV_pa, nck_pa, heap_new, heap_old, heap_set, ↓reduceIte, Nat.reduceEqDiff, Nat.reduceLT, Nat.reduceAdd, Int.reduceLT, Int.reduceLE, decide_false, decide_true, dec_true, dec_false, true_and, and_true, true_imp_iff, Bool.not_true, Bool.not_false, Option.map_none, Int.reduceToNat, Int.toNat_zero, Int.toNat_one, lkV_false, lkV_true, f3, f6, f7, f9, f11, f12, f13, f14, hbZ, hl', hr', hs, r1, r2, r3, r4]
          cases ok with
          | true =>
            simp (disch := first | omega | assumption | (simp only [O1, World.size_alloc, World.size_setCell, World.size_drew]; first | done | omega)) only [O1, D2, ↓H0, S0, ↓S1, ↓S2, ↓S3, ↓S4, S5, S5b, S5c, ↓S6, S6b, M0, E0, ty, tl, te, tc, i64_wrap, u64_wrap, iaV_sl, iaV_arr, faV_pa, nck_pa, heap_new, heap_old, heap_set, ↓reduceIte, Nat.reduceEqDiff, Nat.reduceLT, Nat.reduceAdd, Int.reduceLT, Int.reduceLE, decide_false, decide_true, dec_true, dec_false, true_and, and_true, true_imp_iff, Bool.not_true, Bool.not_false, Option.map_none, Int.reduceToNat, Int.toNat_zero, Int.toNat_one, lkV_false, lkV_true, f3, f6, f7, f9, f11, f12, f13, f14, hbZ, hl', hr', hs, r1, r2, r3, r4]
            exact go b3 (by simp)
          | false =>
            simp (disch := first | omega | assumption | (simp only [O1, World.size_alloc, World.size_setCell, World.size_drew]; first | done | omega)) only [O1, D2, ↓H0, S0, ↓S1, ↓S2, ↓S3, ↓S4, S5, S5b, S5c, ↓S6, S6b, M0, E0, ty, tl, te, tc, i64_wrap, u64_wrap, iaV_sl, iaV_arr, faV_pa, nck_pa, heap_new, heap_old, heap_set, ↓reduceIte, Nat.reduceEqDiff, Nat.reduceLT, Nat.reduceAdd, Int.reduceLT, Int.reduceLE, decide_false, decide_true, dec_true, dec_false, true_and, and_true, true_imp_iff, Bool.not_true, Bool.not_false, Option.map_none, Int.reduceToNat, Int.toNat_zero, Int.toNat_one, lkV_false, lkV_true, f3, f6, f7, f9, f11, f12, f13, f14, hbZ, hl', hr', hs, r1, r2, r3, r4]
            exact go false (by simp)
        | false =>
          simp (disch := first | omega | assumption | (simp only [O1, World.size_alloc, World.size_setCell, World.size_drew]; first | done | omega)) only [O1, D2, ↓H0, S0, ↓S1, ↓S2, ↓S3, ↓S4, S5, S5b, S5c, ↓S6, S6b, M0, E0, ty, tl, te, tc, i64_wrap, u64_wrap, iaV_sl, iaV_arr, faV_pa, nck_pa, heap_new, heap_old, heap_set, ↓reduceIte, Nat.reduceEqDiff, Nat.reduceLT, Nat.reduceAdd, Int.reduceLT, Int.reduceLE, decide_false, decide_true, dec_true, dec_false, true_and, and_true, true_imp_iff, Bool.not_true, Bool.not_false, Option.map_none, Int.reduceToNat, Int.toNat_zero, Int.toNat_one, lkV_false, lkV_true, f3, f6, f7, f9, f11, f12, f13, f14, hbZ, hl', hr', hs, r1, r2, r3, r4]
          cases ok with
          | true =>
            simp (disch := first | omega | assumption | (simp only [O1, World.size_alloc, World.size_setCell, World.size_drew]; first | done | omega)) only [O1, D2, ↓H0, S0, ↓S1, ↓S2, ↓S3, ↓S4, S5, S5b, S5c, ↓S6, S6b, M0, E0, ty, tl, te, tc, i64_wrap, u64_wrap, iaV_sl, iaV_arr, faV_pa, nck_pa, heap_new, heap_old, heap_set, ↓reduceIte, Nat.reduceEqDiff, Nat.reduceLT, Nat.reduceAdd, Int.reduceLT, Int.reduceLE, decide_false, decide_true, dec_true, dec_false, true_and, and_true, true_imp_iff, Bool.not_true, Bool.not_false, Option.map_none, Int.reduceToNat, Int.toNat_zero, Int.toNat_one, lkV_false, lkV_true, f3, f6, f7, f9, f11, f12, f13, f14, hbZ, hl', hr', hs, r1, r2, r3, r4]
            exact go b3 (by simp)
          | false =>
            simp (disch := first | omega | assumption | (simp only [O1, World.size_alloc, World.size_setCell, World.size_drew]; first | done | omega)) only [O1, D2, ↓H0, S0, ↓S1, ↓S2, ↓S3, ↓S4, S5, S5b, S5c, ↓S6, S6b, M0, E0, ty, tl, te, tc, i64_wrap, u64_wrap, iaV_sl, iaV_arr, faV_pa, nck_pa, heap_new, heap_old, heap_set, ↓reduceIte, Nat.reduceEqDiff, Nat.reduceLT, Nat.reduceAdd, Int.reduceLT, Int.reduceLE, decide_false, decide_true, dec_true, dec_false, true_and, and_true, true_imp_iff, Bool.not_true, Bool.not_false, Option.map_none, Int.reduceToNat, Int.toNat_zero, Int.toNat_one, lkV_false, lkV_true, f3, f6, f7, f9, f11, f12, f13, f14, hbZ, hl', hr', hs, r1, r2, r3, r4]
            exact go false (by simp)
    · have hj : p.2.take j = p.2 := List.take_of_length_le (by omega)
      rw [hj] at hok hsum f12
      have r3 := (hxZ.rd (hGA p.1.toNat j2))
      have r4 := (hxZ.rd (hSA p.1.toNat j3))
      have t3 := rd_isSome r3
      have t4 := rd_isSome r4
      have e3 := hTg.2 p.1.toNat (by omega)
      rw [Int.toNat_of_nonneg hp0', List.getElem?_eq_getElem j2] at e3
      simp only [Option.some.injEq] at e3
      have hgen : ok = true → lg[p.1.toNat] = true := fun a => e3.2 (.mk p hmem (fun _ _ _ => rfl) (hok.1 a))
      have hle : ok = true → l[p.1.toNat] ≤ sumF l p.2 := fun a => (hPr (hok.1 a) j3).2
      generalize lg[p.1.toNat] = b3 at *
      generalize l[p.1.toNat] = m at *
      cases ok with
      | false =>
        simp (disch := first | omega | assumption | (simp only [O1, World.size_alloc, World.size_setCell, World.size_drew]; first | done | omega)) only [O1, D2, ↓H0, S0, ↓S1, ↓S2, ↓S3, ↓S4, S5, S5b, S5c, ↓S6, S6b, M0, E0, ty, tl, te, tc, i64_wrap, u64_wrap, iaV_sl, iaV_arr, faV_pa, nck_pa, heap_new, heap_old, heap_set, ↓reduceIte, Nat.reduceEqDiff, Nat.reduceLT, Nat.reduceAdd, Int.reduceLT, Int.reduceLE, decide_false, decide_true, dec_true, dec_false, true_and, and_true, true_imp_iff, Bool.not_true, Bool.not_false, Option.map_none, Int.reduceToNat, Int.toNat_zero, Int.toNat_one, lkV_false, lkV_true, f3, f6, f7, f9, f11, f12, f13, f14, hbZ, hl', hr', r3, r4]
        exact ⟨k - 1, by omega, i + 1, by omega, rfl⟩
      | true =>
        obtain rfl := hgen rfl
        have d1 : decide (sumF l p.2 < m) = false := decide_eq_false (by have := hle rfl; omega)
        simp (disch := first | omega | assumption | (simp only [O1, World.size_alloc, World.size_setCell, World.size_drew]; first | done | omega)) only [O1, D2, ↓H0, S0, ↓S1, ↓S2, ↓S3, ↓S4, S5, S5b, S5c, ↓S6, S6b, M0, E0, ty, tl, te, tc, i64_wrap, u64_wrap, iaV_sl, iaV_arr, faV_pa, nck_pa, heap_new, heap_old, heap_set, ↓reduceIte, Nat.reduceEqDiff, Nat.reduceLT, Nat.reduceAdd, Int.reduceLT, Int.reduceLE, decide_false, decide_true, dec_true, dec_false, true_and, and_true, true_imp_iff, Bool.not_true, Bool.not_false, Option.map_none, Int.reduceToNat, Int.toNat_zero, Int.toNat_one, lkV_false, lkV_true, f3, f6, f7, f9, f11, f12, f13, f14, hbZ, hl', hr', r3, r4, d1]
        exact ⟨k - 1, by omega, i + 1, by omega, rfl⟩
  · have hst := hS.2.1.2.2.2
    have j1 : g.start.toNat < lr.length := by omega
    have r1 := (hxZ.rd (hRA g.start.toNat j1))
    have t1 := rd_isSome r1
    have e1 := hTr.2 g.start.toNat (by omega)
    rw [Int.toNat_of_nonneg hst.1, List.getElem?_eq_getElem j1] at e1
    simp only [Option.some.injEq] at e1
    have e2 := e1.2 (.base (by simp))
    rw [e2] at r1
    simp (disch := first | omega | assumption | (simp only [O1, World.size_alloc, World.size_setCell, World.size_drew]; first | done | omega)) only [O1, D2, ↓H0, S0, ↓S1, ↓S2, ↓S3, ↓S4, S5, S5b, S5c, ↓S6, S6b, M0, E0, ty, tl, te, tc, i64_wrap, u64_wrap, iaV_sl, iaV_arr, faV_pa, nck_pa, heap_new, heap_old, heap_set, ↓reduceIte, Nat.reduceEqDiff, Nat.reduceLT, Nat.reduceAdd, Int.reduceLT, Int.reduceLE, decide_false, decide_true, dec_true, dec_false, true_and, and_true, true_imp_iff, Bool.not_true, Bool.not_false, Option.map_none, Int.reduceToNat, Int.toNat_zero, Int.toNat_one, lkV_false, lkV_true, f3, f6, f7, f9, f11, hbZ, r1]
    exact hwX5.tr hxZ
end Go.Proofs.Ytgioklmpnbnplaa
