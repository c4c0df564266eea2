/- The walk of the law FactsWords. Conditions: none. -/
import Derived.Test.YtgioklmpnbnplaaFa2
import Derived.Test.YtgioklmpnbnplaaFa1
import Derived.Test.YtgioklmpnbnplaaLong
import Derived.Test.YtgioklmpnbnplaaMade09
import Derived.Test.YtgioklmpnbnplaaKr2
set_option linter.unusedSimpArgs false
set_option linter.unusedVariables false
set_option maxRecDepth 100000
namespace Go.Proofs.Ytgioklmpnbnplaa
open Go.V

theorem Short.gen {n : Nat} {ps : List (Int × List Int)} {l : List Int} (h : Short n ps l) {i : Nat} (hi : i < l.length) : 0 ≤ l[i] ↔ Gen true ps i := by
  constructor
  · intro h0
    rcases h.2.1 i _ (List.getElem?_eq_getElem hi) with h1 | ⟨m, h1, _, h2⟩
    · omega
    · exact h2.gen
  · intro h0
    obtain ⟨m, hm⟩ := h0.cost
    obtain ⟨k, h1, _⟩ := h.2.2 i m hm
    rw [List.getElem?_eq_getElem hi] at h1
    simp only [Option.some.injEq] at h1
    omega
set_option maxHeartbeats 4000000 in
theorem words_ok (xv : Value) (x : RawG) (w : World) (hx : RepRaw w xv x) : Ok Try.prog 6 #[xv] w fun v w' => v = .bool true ∧ Ext w w' := by
  have hx0 := hx
  obtain ⟨lv, rv, rfl, hL, hR⟩ := hx
  (refine Ok.enter Try.func6 rfl (by kernel_rfl) (Nat.le_of_ble_eq_true rfl) ?_; simp only [Try.f6, S7])
  simp (disch := first | omega | assumption | (simp only [O1, World.size_alloc, World.size_setCell, World.size_drew]; first | done | omega)) only [O1, D2, ↓H0, S0, ↓S1, ↓S2, ↓S3, ↓S4, S5, S5b, S5c, ↓S6, S6b, M0, E0, ty, tl, te, tc, i64_wrap, u64_wrap, iaV_sl, iaV_arr, faV_pa, nck_pa, heap_new, heap_old, heap_set, ↓reduceIte, Nat.reduceEqDiff, Nat.reduceLT, Nat.reduceAdd, Int.reduceLT, Int.reduceLE, decide_false, decide_true, dec_true, dec_false, true_and, and_true, true_imp_iff, Bool.not_true, Bool.not_false, Option.map_none, Int.reduceToNat, Int.toNat_zero, Int.toNat_one, lkV_false, lkV_true]
  have hxa := (Ext.rfl' w).al (.cells #[.int .i64 x.n, .int .i64 x.t, .int .i64 x.start, lv, rv] 46)
  have hba := heap_new (w := w) (.cells #[.int .i64 x.n, .int .i64 x.t, .int .i64 x.start, lv, rv] 46) rfl
  refine (speaks09_ok _).then ?_; rintro _ W ⟨rfl, hx1⟩
  have hbW := hx1.hp hba
  have hxW := hxa.tr hx1
  simp (disch := first | omega | assumption | (simp only [O1, World.size_alloc, World.size_setCell, World.size_drew]; first | done | omega)) only [O1, D2, ↓H0, S0, ↓S1, ↓S2, ↓S3, ↓S4, S5, S5b, S5c, ↓S6, S6b, M0, E0, ty, tl, te, tc, i64_wrap, u64_wrap, iaV_sl, iaV_arr, faV_pa, nck_pa, heap_new, heap_old, heap_set, ↓reduceIte, Nat.reduceEqDiff, Nat.reduceLT, Nat.reduceAdd, Int.reduceLT, Int.reduceLE, decide_false, decide_true, dec_true, dec_false, true_and, and_true, true_imp_iff, Bool.not_true, Bool.not_false, Option.map_none, Int.reduceToNat, Int.toNat_zero, Int.toNat_one, lkV_false, lkV_true, ldA5, hbW]
  refine (made09_ok _ x W (hx0.ext hxW)).then ?_
  rintro _ V ⟨⟨p, q, g, rfl, hp, hq, hN⟩, hx2⟩
  have hxV := hxW.tr hx2
  obtain ⟨hS, hSm, hn8, ht3, hpl, hsd⟩ := hN
  have hp0 := hp
  have hq0 := hq
  obtain ⟨nv, tv, pv, rfl, _⟩ := hp
  obtain ⟨nv2, tv2, pv2, rfl, _⟩ := hq
  have hone : ∀ {u : Value} {α : Type} {e : α → Value} {l : List α}, Sq e V u l → u.oneCell' = true := fun {u α e l} h => by obtain ⟨A, c, rfl, _⟩ := h; rfl
  have ho : nv.oneCell' = true ∧ tv.oneCell' = true ∧ pv.oneCell' = true ∧ nv2.oneCell' = true ∧ tv2.oneCell' = true ∧ pv2.oneCell' = true := by
    obtain ⟨_, _, _, h0, a1, a2, A, c, h3, _⟩ := hp0
    obtain ⟨_, _, _, h0', b1, b2, A', c', h3', _⟩ := hq0
    simp at h0 h0'
    obtain ⟨rfl, rfl, rfl⟩ := h0
    obtain ⟨rfl, rfl, rfl⟩ := h0'
    refine ⟨hone a1, hone a2, by rw [h3]; rfl, hone b1, hone b2, by rw [h3']; rfl⟩
  obtain ⟨o1, o2, o3, o4, o5, o6⟩ := ho
  obtain ⟨Y1, U, hs1, hs2, hxU, hb1, hb2, hUs⟩ := two_boxes (P := Try.prog) (V := V) (T := 41) (T' := 49) (z := #[.int .i64 0, .int .i64 0, .slice none 0 0, .slice none 0 0, .slice none 0 0]) (z' := #[.int .i64 0, .int .i64 0, .slice none 0 0, .slice none 0 0, .slice none 0 0]) (ds := #[.int .i64 g.start, .int .i64 g.rules, nv, tv, pv]) (ds' := #[.int .i64 g.start, .int .i64 g.rules, nv2, tv2, pv2]) (by simp only [ty]; rfl) (by simp only [ty]; rfl) rfl rfl (by simp [o1, o2, o3]; simp [Value.oneCell']) (by simp [o4, o5, o6]; simp [Value.oneCell'])
  simp (disch := first | omega | assumption | (simp only [O1, World.size_alloc, World.size_setCell, World.size_drew]; first | done | omega)) only [O1, D2, ↓H0, S0, ↓S1, ↓S2, ↓S3, ↓S4, S5, S5b, S5c, ↓S6, S6b, M0, E0, ty, tl, te, tc, i64_wrap, u64_wrap, iaV_sl, iaV_arr, faV_pa, nck_pa, heap_new, heap_old, heap_set, ↓reduceIte, Nat.reduceEqDiff, Nat.reduceLT, Nat.reduceAdd, Int.reduceLT, Int.reduceLE, decide_false, decide_true, dec_true, dec_false, true_and, and_true, true_imp_iff, Bool.not_true, Bool.not_false, Option.map_none, Int.reduceToNat, Int.toNat_zero, Int.toNat_one, lkV_false, lkV_true, hs1, hs2]
  have hp1 := hp0.ext hxU
  have hq1 := hq0.ext hxU
  have hxwU := hxV.tr hxU
  clear hs1 hs2 hbW hba hx0
  generalize hbp : V.heap.size = bp at *
  have hb1d : U.drew.heap[bp]? = _ := hb1
  have hb2d : U.drew.heap[bp + 1]? = _ := hb2
  refine Dr_plan [] (fun _ => true) [0, 2, 1, 3, 4, 5] mixed (by kernel_rfl) ?_
  simp (disch := first | omega | assumption | (simp only [O1, World.size_alloc, World.size_setCell, World.size_drew]; first | done | omega)) only [↓D1, ↓D3, ↓D4, List.not_mem_nil, not_false_eq_true, Bool.false_eq_true, false_imp_iff, upto, O1, D2, ↓H0, S0, ↓S1, ↓S2, ↓S3, ↓S4, S5, S5b, S5c, ↓S6, S6b, M0, E0, ty, tl, te, tc, i64_wrap, u64_wrap, iaV_sl, iaV_arr, faV_pa, nck_pa, heap_new, heap_old, heap_set, ↓reduceIte, Nat.reduceEqDiff, Nat.reduceLT, Nat.reduceAdd, Int.reduceLT, Int.reduceLE, decide_false, decide_true, dec_true, dec_false, true_and, and_true, true_imp_iff, Bool.not_true, Bool.not_false, Option.map_none, Int.reduceToNat, Int.toNat_zero, Int.toNat_one, lkV_false, lkV_true, hb1, hb2, hb1d, hb2d, ldA5]
  refine (shortest_ok _ g _ (hp1.ext ((Ext.rfl' U).dr)) hSm).then ?_
  rintro _ X ⟨hl, hxX⟩
  rcases hl with ⟨h, _⟩ | ⟨_, l, hl, hSh⟩
  · exact absurd hS h
  have hKX := Keep.of_ext hxX []
  have hq2 := hq1.ext (((Ext.rfl' U).dr).tr hxX)
  simp (disch := first | omega | assumption | (simp only [O1, World.size_alloc, World.size_setCell, World.size_drew]; first | done | omega)) only [↓D1, ↓D3, ↓D4, List.not_mem_nil, not_false_eq_true, Bool.false_eq_true, false_imp_iff, upto, O1, D2, ↓H0, S0, ↓S1, ↓S2, ↓S3, ↓S4, S5, S5b, S5c, ↓S6, S6b, M0, E0, ty, tl, te, tc, i64_wrap, u64_wrap, iaV_sl, iaV_arr, faV_pa, nck_pa, heap_new, heap_old, heap_set, ↓reduceIte, Nat.reduceEqDiff, Nat.reduceLT, Nat.reduceAdd, Int.reduceLT, Int.reduceLE, decide_false, decide_true, dec_true, dec_false, true_and, and_true, true_imp_iff, Bool.not_true, Bool.not_false, Option.map_none, Int.reduceToNat, Int.toNat_zero, Int.toNat_one, lkV_false, lkV_true, hKX]
  refine (rshort_ok _ g _ hq2 hS hSm).then ?_
  rintro _ X2 ⟨⟨l2, hl2, hSh2⟩, hxX2⟩
  obtain rfl := hSh.uniq hSh2
  have hKX2 := Keep.of_ext hxX2 []
  have hxUX : Ext U X2 := (((Ext.rfl' U).dr).tr hxX).tr hxX2
  have hlX := hl.ext hxX2
  have hc1 := hxUX.hp hb1
  have hc2 := hxUX.hp hb2
  simp (disch := first | omega | assumption | (simp only [O1, World.size_alloc, World.size_setCell, World.size_drew]; first | done | omega)) only [↓D1, ↓D3, ↓D4, List.not_mem_nil, not_false_eq_true, Bool.false_eq_true, false_imp_iff, upto, O1, D2, ↓H0, S0, ↓S1, ↓S2, ↓S3, ↓S4, S5, S5b, S5c, ↓S6, S6b, M0, E0, ty, tl, te, tc, i64_wrap, u64_wrap, iaV_sl, iaV_arr, faV_pa, nck_pa, heap_new, heap_old, heap_set, ↓reduceIte, Nat.reduceEqDiff, Nat.reduceLT, Nat.reduceAdd, Int.reduceLT, Int.reduceLE, decide_false, decide_true, dec_true, dec_false, true_and, and_true, true_imp_iff, Bool.not_true, Bool.not_false, Option.map_none, Int.reduceToNat, Int.toNat_zero, Int.toNat_one, lkV_false, lkV_true, hKX2]
  simp (disch := first | omega | assumption | (simp only [O1, World.size_alloc, World.size_setCell, World.size_drew]; first | done | omega)) only [O1, D2, ↓H0, S0, ↓S1, ↓S2, ↓S3, ↓S4, S5, S5b, S5c, ↓S6, S6b, M0, E0, ty, tl, te, tc, i64_wrap, u64_wrap, iaV_sl, iaV_arr, faV_pa, nck_pa, heap_new, heap_old, heap_set, ↓reduceIte, Nat.reduceEqDiff, Nat.reduceLT, Nat.reduceAdd, Int.reduceLT, Int.reduceLE, decide_false, decide_true, dec_true, dec_false, true_and, and_true, true_imp_iff, Bool.not_true, Bool.not_false, Option.map_none, Int.reduceToNat, Int.toNat_zero, Int.toNat_one, lkV_false, lkV_true, ldA5, hc1]
  refine (generating_ok _ g _ (hp1.ext hxUX) hSm).then ?_
  rintro _ X3 ⟨hgl, hxX3⟩
  rcases hgl with ⟨h, _⟩ | ⟨_, lg, hgl, hTg⟩
  · exact absurd hS h
  have hd1 := hxX3.hp hc1
  have hd2 := hxX3.hp hc2
  have hd1d : X3.drew.heap[bp]? = _ := hd1
  have hd2d : X3.drew.heap[bp + 1]? = _ := hd2
  have hxU3 := hxUX.tr hxX3
  simp (disch := first | omega | assumption | (simp only [O1, World.size_alloc, World.size_setCell, World.size_drew]; first | done | omega)) only [O1, D2, ↓H0, S0, ↓S1, ↓S2, ↓S3, ↓S4, S5, S5b, S5c, ↓S6, S6b, M0, E0, ty, tl, te, tc, i64_wrap, u64_wrap, iaV_sl, iaV_arr, faV_pa, nck_pa, heap_new, heap_old, heap_set, ↓reduceIte, Nat.reduceEqDiff, Nat.reduceLT, Nat.reduceAdd, Int.reduceLT, Int.reduceLE, decide_false, decide_true, dec_true, dec_false, true_and, and_true, true_imp_iff, Bool.not_true, Bool.not_false, Option.map_none, Int.reduceToNat, Int.toNat_zero, Int.toNat_one, lkV_false, lkV_true]
  obtain ⟨LA, lca, rfl, hlca, hLA⟩ := hlX.ext hxX3
  obtain ⟨LB, lcb, rfl, hlcb, hLB⟩ := hl2.ext hxX3
  have hx3d := (Ext.rfl' X3).dr
  refine Dr_plan [] (fun _ => true) [0, 2, 1, 3, 4, 5, 6, 7, 8, 9, 10, 11, 12, 13, 14, 15, 16, 17, 18, 19] mixed (by kernel_rfl) ?_
  simp (disch := first | omega | assumption | (simp only [O1, World.size_alloc, World.size_setCell, World.size_drew]; first | done | omega)) only [↓D1, ↓D3, ↓D4, List.not_mem_nil, not_false_eq_true, Bool.false_eq_true, false_imp_iff, upto, O1, D2, ↓H0, S0, ↓S1, ↓S2, ↓S3, ↓S4, S5, S5b, S5c, ↓S6, S6b, M0, E0, ty, tl, te, tc, i64_wrap, u64_wrap, iaV_sl, iaV_arr, faV_pa, nck_pa, heap_new, heap_old, heap_set, ↓reduceIte, Nat.reduceEqDiff, Nat.reduceLT, Nat.reduceAdd, Int.reduceLT, Int.reduceLE, decide_false, decide_true, dec_true, dec_false, true_and, and_true, true_imp_iff, Bool.not_true, Bool.not_false, Option.map_none, Int.reduceToNat, Int.toNat_zero, Int.toNat_one, lkV_false, lkV_true, hd1, hd2, hd1d, hd2d, ldA5]
  refine (nullable_ok _ g _ (hp1.ext (hxU3.tr hx3d)) hSm).then ?_
  rintro _ X4 ⟨hnl, hxX4⟩
  rcases hnl with ⟨h, _⟩ | ⟨_, ln, hnl, hTn⟩
  · exact absurd hS h
  have hKX4 := Keep.of_ext hxX4 []
  simp (disch := first | omega | assumption | (simp only [O1, World.size_alloc, World.size_setCell, World.size_drew]; first | done | omega)) only [↓D1, ↓D3, ↓D4, List.not_mem_nil, not_false_eq_true, Bool.false_eq_true, false_imp_iff, upto, O1, D2, ↓H0, S0, ↓S1, ↓S2, ↓S3, ↓S4, S5, S5b, S5c, ↓S6, S6b, M0, E0, ty, tl, te, tc, i64_wrap, u64_wrap, iaV_sl, iaV_arr, faV_pa, nck_pa, heap_new, heap_old, heap_set, ↓reduceIte, Nat.reduceEqDiff, Nat.reduceLT, Nat.reduceAdd, Int.reduceLT, Int.reduceLE, decide_false, decide_true, dec_true, dec_false, true_and, and_true, true_imp_iff, Bool.not_true, Bool.not_false, Option.map_none, Int.reduceToNat, Int.toNat_zero, Int.toNat_one, lkV_false, lkV_true, hKX4]
  refine (rnull_ok _ g _ (hq1.ext ((hxU3.tr hx3d).tr hxX4)) hS hSm).then ?_
  rintro _ X5 ⟨⟨ln2, hnl2, hTn2⟩, hxX5⟩
  obtain rfl := hTn.uniq hTn2
  have hKX5 := Keep.of_ext hxX5 []
  simp (disch := first | omega | assumption | (simp only [O1, World.size_alloc, World.size_setCell, World.size_drew]; first | done | omega)) only [↓D1, ↓D3, ↓D4, List.not_mem_nil, not_false_eq_true, Bool.false_eq_true, false_imp_iff, upto, O1, D2, ↓H0, S0, ↓S1, ↓S2, ↓S3, ↓S4, S5, S5b, S5c, ↓S6, S6b, M0, E0, ty, tl, te, tc, i64_wrap, u64_wrap, iaV_sl, iaV_arr, faV_pa, nck_pa, heap_new, heap_old, heap_set, ↓reduceIte, Nat.reduceEqDiff, Nat.reduceLT, Nat.reduceAdd, Int.reduceLT, Int.reduceLE, decide_false, decide_true, dec_true, dec_false, true_and, and_true, true_imp_iff, Bool.not_true, Bool.not_false, Option.map_none, Int.reduceToNat, Int.toNat_zero, Int.toNat_one, lkV_false, lkV_true, hKX5]
  refine (bools_ok _ _ ln ln _ (hnl.ext hxX5) hnl2 (by have := hTn.1; omega)).then ?_
  rintro _ X6 ⟨rfl, hxX6⟩
  have hKX6 := Keep.of_ext hxX6 []
  have hX36 := ((hx3d.tr hxX4).tr hxX5).tr hxX6
  obtain ⟨GA, gca, rfl, hgca, hGA⟩ := hgl
  have hlg : (lg.length : Int) = (l.length : Int) := by rw [hTg.1, hSh.1]
  rw [decide_eq_true rfl]
  have hne : decide ((lg.length : Int) = (l.length : Int)) = true := decide_eq_true hlg
  simp (disch := first | omega | assumption | (simp only [O1, World.size_alloc, World.size_setCell, World.size_drew]; first | done | omega)) only [↓D1, ↓D3, ↓D4, List.not_mem_nil, not_false_eq_true, Bool.false_eq_true, false_imp_iff, upto, O1, D2, ↓H0, S0, ↓S1, ↓S2, ↓S3, ↓S4, S5, S5b, S5c, ↓S6, S6b, M0, E0, ty, tl, te, tc, i64_wrap, u64_wrap, iaV_sl, iaV_arr, faV_pa, nck_pa, heap_new, heap_old, heap_set, ↓reduceIte, Nat.reduceEqDiff, Nat.reduceLT, Nat.reduceAdd, Int.reduceLT, Int.reduceLE, decide_false, decide_true, dec_true, dec_false, true_and, and_true, true_imp_iff, Bool.not_true, Bool.not_false, Option.map_none, Int.reduceToNat, Int.toNat_zero, Int.toNat_one, lkV_false, lkV_true, hKX6, hne]
  have hx36' : Ext w X6 := ((hxwU.tr hxU3).tr hX36)
  have hl256 := hS.1.2.1
  have hll := hSh.1
  refine ⟨fun k t Z => ∃ i : Nat, k + i = l.length ∧ Ext X6 Z ∧ t 5 = .slice LA l.length lca ∧ t 6 = .slice LB l.length lcb ∧ t 7 = .slice GA lg.length gca ∧ t 8 = .int .i64 i, ⟨l.length, 0, by omega, Ext.rfl' _, ?_⟩, ?_⟩
  · simp (disch := first | omega | assumption | (simp only [O1, World.size_alloc, World.size_setCell, World.size_drew]; first | done | omega)) only [O1, D2, ↓H0, S0, ↓S1, ↓S2, ↓S3, ↓S4, S5, S5b, S5c, ↓S6, S6b, M0, E0, ty, tl, te, tc, i64_wrap, u64_wrap, iaV_sl, iaV_arr, faV_pa, nck_pa, heap_new, heap_old, heap_set, ↓reduceIte, Nat.reduceEqDiff, Nat.reduceLT, Nat.reduceAdd, Int.reduceLT, Int.reduceLE, decide_false, decide_true, dec_true, dec_false, true_and, and_true, true_imp_iff, Bool.not_true, Bool.not_false, Option.map_none, Int.reduceToNat, Int.toNat_zero, Int.toNat_one, lkV_false, lkV_true] <;> rfl
  rintro k t Z ⟨i, hk, hxZ, f5, f6, f7, f8⟩
  simp (disch := first | omega | assumption | (simp only [O1, World.size_alloc, World.size_setCell, World.size_drew]; first | done | omega)) only [O1, D2, ↓H0, S0, ↓S1, ↓S2, ↓S3, ↓S4, S5, S5b, S5c, ↓S6, S6b, M0, E0, ty, tl, te, tc, i64_wrap, u64_wrap, iaV_sl, iaV_arr, faV_pa, nck_pa, heap_new, heap_old, heap_set, ↓reduceIte, Nat.reduceEqDiff, Nat.reduceLT, Nat.reduceAdd, Int.reduceLT, Int.reduceLE, decide_false, decide_true, dec_true, dec_false, true_and, and_true, true_imp_iff, Bool.not_true, Bool.not_false, Option.map_none, Int.reduceToNat, Int.toNat_zero, Int.toNat_one, lkV_false, lkV_true, f5, f6, f7, f8]
  refine Br_if (fun h => ?_) (fun h' => ?_) <;> (try simp (disch := first | omega | assumption | (simp only [O1, World.size_alloc, World.size_setCell, World.size_drew]; first | done | omega)) only [O1, D2, ↓H0, S0, ↓S1, ↓S2, ↓S3, ↓S4, S5, S5b, S5c, ↓S6, S6b, M0, E0, ty, tl, te, tc, i64_wrap, u64_wrap, iaV_sl, iaV_arr, faV_pa, nck_pa, heap_new, heap_old, heap_set, ↓reduceIte, Nat.reduceEqDiff, Nat.reduceLT, Nat.reduceAdd, Int.reduceLT, Int.reduceLE, decide_false, decide_true, dec_true, dec_false, true_and, and_true, true_imp_iff, Bool.not_true, Bool.not_false, Option.map_none, Int.reduceToNat, Int.toNat_zero, Int.toNat_one, lkV_false, lkV_true, f5, f6, f7, f8])
  · have hi : i < l.length := by omega
    have hig : i < lg.length := by omega
    have hxZd := (hX36.tr hxZ).dr
    have r1 := hxZd.rd (hLA i hi)
    have r2 := hxZd.rd (hLB i hi)
    have r3 := hxZd.rd (hGA i hig)
    have t1 := rd_isSome r1
    have t2 := rd_isSome r2
    have t3 := rd_isSome r3
    have hgen := hSh.gen hi
    have htg := hTg.2 i (by omega)
    rw [List.getElem?_eq_getElem hig] at htg
    simp only [Option.some.injEq] at htg
    generalize l[i] = a at *
    generalize lg[i] = b at *
    have hab : b = decide ((0 : Int) ≤ a) := by
      rw [Bool.eq_iff_iff, htg, decide_eq_true_iff, hgen]
    subst hab
    refine Dr_plan [] (fun _ => true) [0, 1, 2, 3, 4, 5, 6, 7, 8, 9, 10, 11, 12, 13, 14, 15, 16, 17, 18, 19, 20] mixed (by kernel_rfl) ?_
    simp (disch := first | omega | assumption | (simp only [O1, World.size_alloc, World.size_setCell, World.size_drew]; first | done | omega)) only [↓D1, ↓D3, ↓D4, List.not_mem_nil, not_false_eq_true, Bool.false_eq_true, false_imp_iff, upto, O1, D2, ↓H0, S0, ↓S1, ↓S2, ↓S3, ↓S4, S5, S5b, S5c, ↓S6, S6b, M0, E0, ty, tl, te, tc, i64_wrap, u64_wrap, iaV_sl, iaV_arr, faV_pa, nck_pa, heap_new, heap_old, heap_set, ↓reduceIte, Nat.reduceEqDiff, Nat.reduceLT, Nat.reduceAdd, Int.reduceLT, Int.reduceLE, decide_false, decide_true, dec_true, dec_false, true_and, and_true, true_imp_iff, Bool.not_true, Bool.not_false, Option.map_none, Int.reduceToNat, Int.toNat_zero, Int.toNat_one, lkV_false, lkV_true, f5, f6, f7, f8, r1, r2, r3]
    exact ⟨k - 1, by omega, i + 1, by omega, hxZ.dr, rfl⟩
  · exact (hx36'.tr hxZ)
end Go.Proofs.Ytgioklmpnbnplaa
