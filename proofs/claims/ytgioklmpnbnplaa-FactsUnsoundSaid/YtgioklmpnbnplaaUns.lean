/- The walk of the law FactsUnsound. Conditions: none. -/
import Derived.Test.YtgioklmpnbnplaaFa4
import Derived.Test.YtgioklmpnbnplaaFw
set_option linter.unusedSimpArgs false
set_option linter.unusedVariables false
set_option maxRecDepth 100000
namespace Go.Proofs.Ytgioklmpnbnplaa
open Go.V

theorem PG.start_sound {g : PG} (hS : SoundP g) (a : Int) : SoundP { g with start := a } ↔ 0 ≤ a ∧ a < g.names.length := by
  constructor
  · intro h; exact ⟨h.2.1.2.2.2.1, h.2.1.2.2.2.2⟩
  · intro h
    refine ⟨hS.1, ⟨hS.2.1.1, hS.2.1.2.1, hS.2.1.2.2.1, h.1, h.2⟩, fun i hi => ?_⟩
    exact hS.2.2 i hi
set_option maxHeartbeats 4000000 in
theorem unsound_ok (xv : Value) (x : RawG) (a : Int) (w : World) (hx : RepRaw w xv x) : Ok Try.prog 12 #[xv, .int .i64 a] w fun v w' => v = .bool true ∧ Ext w w' := by
  have hx0 := hx
  obtain ⟨lv, rv, rfl, hL, hR⟩ := hx
  (refine Ok.enter Try.func12 rfl (by kernel_rfl) (Nat.le_of_ble_eq_true rfl) ?_; simp only [Try.f12, S7])
  simp (disch := first | omega | assumption | (simp only [O1, World.size_alloc, World.size_setCell, World.size_drew]; first | done | omega)) only [O1, D2, ↓H0, S0, ↓S1, ↓S2, ↓S3, ↓S4, S5, S5b, S5c, ↓S6, S6b, M0, E0, ty, tl, te, tc, i64_wrap, u64_wrap, iaV_sl, iaV_arr, faV_pa, nck_pa, heap_new, heap_old, heap_set, ↓reduceIte, Nat.reduceEqDiff, Nat.reduceLT, Nat.reduceAdd, Int.reduceLT, Int.reduceLE, decide_false, decide_true, dec_true, dec_false, true_and, and_true, true_imp_iff, Bool.not_true, Bool.not_false, Option.map_none, Int.reduceToNat, Int.toNat_zero, Int.toNat_one, lkV_false, lkV_true]
  have hxa := (Ext.rfl' w).al (.cells #[.int .i64 x.n, .int .i64 x.t, .int .i64 x.start, lv, rv] 46)
  have hba := heap_new (w := w) (.cells #[.int .i64 x.n, .int .i64 x.t, .int .i64 x.start, lv, rv] 46) rfl
  refine (speaks09_ok _).then ?_; rintro _ W ⟨rfl, hx1⟩
  have hbW := hx1.hp hba
  have hxW := hxa.tr hx1
  simp (disch := first | omega | assumption | (simp only [O1, World.size_alloc, World.size_setCell, World.size_drew]; first | done | omega)) only [O1, D2, ↓H0, S0, ↓S1, ↓S2, ↓S3, ↓S4, S5, S5b, S5c, ↓S6, S6b, M0, E0, ty, tl, te, tc, i64_wrap, u64_wrap, iaV_sl, iaV_arr, faV_pa, nck_pa, heap_new, heap_old, heap_set, ↓reduceIte, Nat.reduceEqDiff, Nat.reduceLT, Nat.reduceAdd, Int.reduceLT, Int.reduceLE, decide_false, decide_true, dec_true, dec_false, true_and, and_true, true_imp_iff, Bool.not_true, Bool.not_false, Option.map_none, Int.reduceToNat, Int.toNat_zero, Int.toNat_one, lkV_false, lkV_true, ldA5, hbW]
  refine (made09_ok _ x W (hx0.ext hxW)).then ?_
  rintro _ V ⟨⟨p, q, g, rfl, hp, hq, hN⟩, hx2⟩
  have hxV := hxW.tr hx2
  obtain ⟨hS, hSm, hn8, ht3, hpl, hsd⟩ := hN
  have hp0 := hp
  have hq0 := hq
  obtain ⟨nv, tv, pv, rfl, _⟩ := hp
  obtain ⟨nv2, tv2, pv2, rfl, _⟩ := hq
  have hone : ∀ {u : Value} {α : Type} {e : α → Value} {l : List α}, Sq e V u l → u.oneCell' = true := fun {u α e l} h => by obtain ⟨A, c, rfl, _⟩ := h; rfl
  have ho : nv.oneCell' = true ∧ tv.oneCell' = true ∧ pv.oneCell' = true ∧ nv2.oneCell' = true ∧ tv2.oneCell' = true ∧ pv2.oneCell' = true := by
    obtain ⟨_, _, _, h0, a1, a2, A, c, h3, _⟩ := hp0
    obtain ⟨_, _, _, h0', b1, b2, A', c', h3', _⟩ := hq0
    simp at h0 h0'
    obtain ⟨rfl, rfl, rfl⟩ := h0
    obtain ⟨rfl, rfl, rfl⟩ := h0'
    refine ⟨hone a1, hone a2, by rw [h3]; rfl, hone b1, hone b2, by rw [h3']; rfl⟩
  obtain ⟨o1, o2, o3, o4, o5, o6⟩ := ho
  obtain ⟨Y1, U, hs1, hs2, hxU, hb1, hb2, hUs⟩ := two_boxes (P := Try.prog) (V := V) (T := 41) (T' := 49) (z := #[.int .i64 0, .int .i64 0, .slice none 0 0, .slice none 0 0, .slice none 0 0]) (z' := #[.int .i64 0, .int .i64 0, .slice none 0 0, .slice none 0 0, .slice none 0 0]) (ds := #[.int .i64 g.start, .int .i64 g.rules, nv, tv, pv]) (ds' := #[.int .i64 g.start, .int .i64 g.rules, nv2, tv2, pv2]) (by simp only [ty]; rfl) (by simp only [ty]; rfl) rfl rfl (by simp [o1, o2, o3]; simp [Value.oneCell']) (by simp [o4, o5, o6]; simp [Value.oneCell'])
  simp (disch := first | omega | assumption | (simp only [O1, World.size_alloc, World.size_setCell, World.size_drew]; first | done | omega)) only [O1, D2, ↓H0, S0, ↓S1, ↓S2, ↓S3, ↓S4, S5, S5b, S5c, ↓S6, S6b, M0, E0, ty, tl, te, tc, i64_wrap, u64_wrap, iaV_sl, iaV_arr, faV_pa, nck_pa, heap_new, heap_old, heap_set, ↓reduceIte, Nat.reduceEqDiff, Nat.reduceLT, Nat.reduceAdd, Int.reduceLT, Int.reduceLE, decide_false, decide_true, dec_true, dec_false, true_and, and_true, true_imp_iff, Bool.not_true, Bool.not_false, Option.map_none, Int.reduceToNat, Int.toNat_zero, Int.toNat_one, lkV_false, lkV_true, hs1, hs2]
  have hxwU := hxV.tr hxU
  generalize hbp : V.heap.size = bp at *
  have hst := sto_own (P := Try.prog) (T := 3) (w := U) (g := bp) (o := 0) (k := 0) (x := .int .i64 a) (by simp only [ty]) hb1 (by simp) rfl
  have hbU : (U.setCell ⟨bp, 0, none⟩ (.int .i64 a)).heap[bp]? = some (.cells #[.int .i64 a, .int .i64 g.rules, nv, tv, pv] 41 (0, 0)) := by rw [heap_set_same, hb1]; rfl
  have hxX : Ext V (U.setCell ⟨bp, 0, none⟩ (.int .i64 a)) := hxU.st (by omega) _
  simp (disch := first | omega | assumption | (simp only [O1, World.size_alloc, World.size_setCell, World.size_drew]; first | done | omega)) only [O1, D2, ↓H0, S0, ↓S1, ↓S2, ↓S3, ↓S4, S5, S5b, S5c, ↓S6, S6b, M0, E0, ty, tl, te, tc, i64_wrap, u64_wrap, iaV_sl, iaV_arr, faV_pa, nck_pa, heap_new, heap_old, heap_set, ↓reduceIte, Nat.reduceEqDiff, Nat.reduceLT, Nat.reduceAdd, Int.reduceLT, Int.reduceLE, decide_false, decide_true, dec_true, dec_false, true_and, and_true, true_imp_iff, Bool.not_true, Bool.not_false, Option.map_none, Int.reduceToNat, Int.toNat_zero, Int.toNat_one, lkV_false, lkV_true, hb1, hst]
  generalize U.setCell ⟨bp, 0, none⟩ (.int .i64 a) = X at hbU hxX ⊢
  have hp2 : RepPG X (.agg #[.int .i64 a, .int .i64 g.rules, nv, tv, pv]) { g with start := a } := by
    obtain ⟨_, _, _, h0, a1, a2, a3⟩ := hp0.ext hxX
    simp at h0
    obtain ⟨rfl, rfl, rfl⟩ := h0
    exact ⟨_, _, _, rfl, a1, a2, a3⟩
  have hSm2 : SmallP { g with start := a } := hSm
  have hiff := PG.start_sound hS a
  have hn1 := hS.1.1
  have hn256 := hS.1.2.1
  have hxw : Ext w X := hxV.tr hxX
  obtain ⟨ok, hok⟩ : ∃ ok : Bool, ok = true ↔ (0 ≤ a ∧ a < g.names.length) := ⟨decide (0 ≤ a ∧ a < g.names.length), by simp⟩
  have hN := hp2
  obtain ⟨nv', tv', pv', h0, ⟨NA, nc, hNA, _, _⟩, _⟩ := hN
  simp at h0
  obtain ⟨rfl, rfl, rfl⟩ := h0
  obtain rfl := hNA
  by_cases h1 : 0 ≤ a
  · have hd1 : decide (0 ≤ a) = true := decide_eq_true h1
    by_cases h2 : a < g.names.length
    · have hd2 : decide (a < (g.names.length : Int)) = true := decide_eq_true h2
      have hso : SoundP { g with start := a } := hiff.2 ⟨h1, h2⟩
      simp (disch := first | omega | assumption | (simp only [O1, World.size_alloc, World.size_setCell, World.size_drew]; first | done | omega)) only [O1, D2, ↓H0, S0, ↓S1, ↓S2, ↓S3, ↓S4, S5, S5b, S5c, ↓S6, S6b, M0, E0, ty, tl, te, tc, i64_wrap, u64_wrap, iaV_sl, iaV_arr, faV_pa, nck_pa, heap_new, heap_old, heap_set, ↓reduceIte, Nat.reduceEqDiff, Nat.reduceLT, Nat.reduceAdd, Int.reduceLT, Int.reduceLE, decide_false, decide_true, dec_true, dec_false, true_and, and_true, true_imp_iff, Bool.not_true, Bool.not_false, Option.map_none, Int.reduceToNat, Int.toNat_zero, Int.toNat_one, lkV_false, lkV_true, hd1, hd2, hbU]
      simp (disch := first | omega | assumption | (simp only [O1, World.size_alloc, World.size_setCell, World.size_drew]; first | done | omega)) only [O1, D2, ↓H0, S0, ↓S1, ↓S2, ↓S3, ↓S4, S5, S5b, S5c, ↓S6, S6b, M0, E0, ty, tl, te, tc, i64_wrap, u64_wrap, iaV_sl, iaV_arr, faV_pa, nck_pa, heap_new, heap_old, heap_set, ↓reduceIte, Nat.reduceEqDiff, Nat.reduceLT, Nat.reduceAdd, Int.reduceLT, Int.reduceLE, decide_false, decide_true, dec_true, dec_false, true_and, and_true, true_imp_iff, Bool.not_true, Bool.not_false, Option.map_none, Int.reduceToNat, Int.toNat_zero, Int.toNat_one, lkV_false, lkV_true, ldA5, hbU, hd1, hd2]
      refine (nullable_ok _ { g with start := a } _ (hp2) hSm2).then ?_
      rintro _ X0 ⟨hh, hx0⟩
      rcases hh with ⟨h1, _⟩ | ⟨_, l0, hl0, hT0⟩
      · exact absurd hso h1
      obtain ⟨A0, c0, rfl, _, _⟩ := hl0
      have hne0 : decide ((l0.length : Int) = 0) = false := decide_eq_false (by have := hT0.1; simp only at this; omega)
      have hz0 := hx0
      have hb10 := hz0.hp hbU
      simp (disch := first | omega | assumption | (simp only [O1, World.size_alloc, World.size_setCell, World.size_drew]; first | done | omega)) only [O1, D2, ↓H0, S0, ↓S1, ↓S2, ↓S3, ↓S4, S5, S5b, S5c, ↓S6, S6b, M0, E0, ty, tl, te, tc, i64_wrap, u64_wrap, iaV_sl, iaV_arr, faV_pa, nck_pa, heap_new, heap_old, heap_set, ↓reduceIte, Nat.reduceEqDiff, Nat.reduceLT, Nat.reduceAdd, Int.reduceLT, Int.reduceLE, decide_false, decide_true, dec_true, dec_false, true_and, and_true, true_imp_iff, Bool.not_true, Bool.not_false, Option.map_none, Int.reduceToNat, Int.toNat_zero, Int.toNat_one, lkV_false, lkV_true, ldA5, hb10, hd1, hd2, hne0]
      refine (generating_ok _ { g with start := a } _ (hp2.ext hz0) hSm2).then ?_
      rintro _ X1 ⟨hh, hx1⟩
      rcases hh with ⟨h1, _⟩ | ⟨_, l1, hl1, hT1⟩
      · exact absurd hso h1
      obtain ⟨A1, c1, rfl, _, _⟩ := hl1
      have hne1 : decide ((l1.length : Int) = 0) = false := decide_eq_false (by have := hT1.1; simp only at this; omega)
      have hz1 := hz0.tr hx1
      have hb11 := hz1.hp hbU
      simp (disch := first | omega | assumption | (simp only [O1, World.size_alloc, World.size_setCell, World.size_drew]; first | done | omega)) only [O1, D2, ↓H0, S0, ↓S1, ↓S2, ↓S3, ↓S4, S5, S5b, S5c, ↓S6, S6b, M0, E0, ty, tl, te, tc, i64_wrap, u64_wrap, iaV_sl, iaV_arr, faV_pa, nck_pa, heap_new, heap_old, heap_set, ↓reduceIte, Nat.reduceEqDiff, Nat.reduceLT, Nat.reduceAdd, Int.reduceLT, Int.reduceLE, decide_false, decide_true, dec_true, dec_false, true_and, and_true, true_imp_iff, Bool.not_true, Bool.not_false, Option.map_none, Int.reduceToNat, Int.toNat_zero, Int.toNat_one, lkV_false, lkV_true, ldA5, hb11, hd1, hd2, hne0, hne1]
      refine (reachable_ok _ { g with start := a } _ (hp2.ext hz1) hSm2).then ?_
      rintro _ X2 ⟨hh, hx2⟩
      rcases hh with ⟨h1, _⟩ | ⟨_, l2, hl2, hT2⟩
      · exact absurd hso h1
      obtain ⟨A2, c2, rfl, _, _⟩ := hl2
      have hne2 : decide ((l2.length : Int) = 0) = false := decide_eq_false (by have := hT2.1; simp only at this; omega)
      have hz2 := hz1.tr hx2
      have hb12 := hz2.hp hbU
      simp (disch := first | omega | assumption | (simp only [O1, World.size_alloc, World.size_setCell, World.size_drew]; first | done | omega)) only [O1, D2, ↓H0, S0, ↓S1, ↓S2, ↓S3, ↓S4, S5, S5b, S5c, ↓S6, S6b, M0, E0, ty, tl, te, tc, i64_wrap, u64_wrap, iaV_sl, iaV_arr, faV_pa, nck_pa, heap_new, heap_old, heap_set, ↓reduceIte, Nat.reduceEqDiff, Nat.reduceLT, Nat.reduceAdd, Int.reduceLT, Int.reduceLE, decide_false, decide_true, dec_true, dec_false, true_and, and_true, true_imp_iff, Bool.not_true, Bool.not_false, Option.map_none, Int.reduceToNat, Int.toNat_zero, Int.toNat_one, lkV_false, lkV_true, ldA5, hb12, hd1, hd2, hne0, hne1, hne2]
      refine (loops_ok _ { g with start := a } _ (hp2.ext hz2) hSm2).then ?_
      rintro _ X3 ⟨hh, hx3⟩
      rcases hh with ⟨h1, _⟩ | ⟨_, l3, hl3, hT3⟩
      · exact absurd hso h1
      obtain ⟨A3, c3, rfl, _, _⟩ := hl3
      have hne3 : decide ((l3.length : Int) = 0) = false := decide_eq_false (by have := hT3.1; simp only at this; omega)
      have hz3 := hz2.tr hx3
      have hb13 := hz3.hp hbU
      simp (disch := first | omega | assumption | (simp only [O1, World.size_alloc, World.size_setCell, World.size_drew]; first | done | omega)) only [O1, D2, ↓H0, S0, ↓S1, ↓S2, ↓S3, ↓S4, S5, S5b, S5c, ↓S6, S6b, M0, E0, ty, tl, te, tc, i64_wrap, u64_wrap, iaV_sl, iaV_arr, faV_pa, nck_pa, heap_new, heap_old, heap_set, ↓reduceIte, Nat.reduceEqDiff, Nat.reduceLT, Nat.reduceAdd, Int.reduceLT, Int.reduceLE, decide_false, decide_true, dec_true, dec_false, true_and, and_true, true_imp_iff, Bool.not_true, Bool.not_false, Option.map_none, Int.reduceToNat, Int.toNat_zero, Int.toNat_one, lkV_false, lkV_true, ldA5, hb13, hd1, hd2, hne0, hne1, hne2, hne3]
      refine (shortest_ok _ { g with start := a } _ (hp2.ext hz3) hSm2).then ?_
      rintro _ X4 ⟨hh, hx4⟩
      rcases hh with ⟨h1, _⟩ | ⟨_, l4, hl4, hT4⟩
      · exact absurd hso h1
      obtain ⟨A4, c4, rfl, _, _⟩ := hl4
      have hne4 : decide ((l4.length : Int) = 0) = false := decide_eq_false (by have := hT4.1; simp only at this; omega)
      have hz4 := hz3.tr hx4
      have hb14 := hz4.hp hbU
      simp (disch := first | omega | assumption | (simp only [O1, World.size_alloc, World.size_setCell, World.size_drew]; first | done | omega)) only [O1, D2, ↓H0, S0, ↓S1, ↓S2, ↓S3, ↓S4, S5, S5b, S5c, ↓S6, S6b, M0, E0, ty, tl, te, tc, i64_wrap, u64_wrap, iaV_sl, iaV_arr, faV_pa, nck_pa, heap_new, heap_old, heap_set, ↓reduceIte, Nat.reduceEqDiff, Nat.reduceLT, Nat.reduceAdd, Int.reduceLT, Int.reduceLE, decide_false, decide_true, dec_true, dec_false, true_and, and_true, true_imp_iff, Bool.not_true, Bool.not_false, Option.map_none, Int.reduceToNat, Int.toNat_zero, Int.toNat_one, lkV_false, lkV_true, ldA5, hb14, hd1, hd2, hne0, hne1, hne2, hne3, hne4]
      refine (first_ok _ { g with start := a } _ (hp2.ext hz4) hSm2).then ?_
      rintro _ X5 ⟨hh, hx5⟩
      rcases hh with ⟨h1, _⟩ | ⟨_, l5, hl5, hT5, _⟩
      · exact absurd hso h1
      obtain ⟨A5, c5, rfl, _, _⟩ := hl5
      have hne5 : decide ((l5.length : Int) = 0) = false := decide_eq_false (by have := hT5; simp only at this; omega)
      have hz5 := hz4.tr hx5
      have hb15 := hz5.hp hbU
      simp (disch := first | omega | assumption | (simp only [O1, World.size_alloc, World.size_setCell, World.size_drew]; first | done | omega)) only [O1, D2, ↓H0, S0, ↓S1, ↓S2, ↓S3, ↓S4, S5, S5b, S5c, ↓S6, S6b, M0, E0, ty, tl, te, tc, i64_wrap, u64_wrap, iaV_sl, iaV_arr, faV_pa, nck_pa, heap_new, heap_old, heap_set, ↓reduceIte, Nat.reduceEqDiff, Nat.reduceLT, Nat.reduceAdd, Int.reduceLT, Int.reduceLE, decide_false, decide_true, dec_true, dec_false, true_and, and_true, true_imp_iff, Bool.not_true, Bool.not_false, Option.map_none, Int.reduceToNat, Int.toNat_zero, Int.toNat_one, lkV_false, lkV_true, ldA5, hd1, hd2, hne0, hne1, hne2, hne3, hne4, hne5]
      exact hxw.tr hz5
    · have hd2 : decide (a < (g.names.length : Int)) = false := decide_eq_false h2
      have hso : ¬ SoundP { g with start := a } := fun h => h2 (hiff.1 h).2
      simp (disch := first | omega | assumption | (simp only [O1, World.size_alloc, World.size_setCell, World.size_drew]; first | done | omega)) only [O1, D2, ↓H0, S0, ↓S1, ↓S2, ↓S3, ↓S4, S5, S5b, S5c, ↓S6, S6b, M0, E0, ty, tl, te, tc, i64_wrap, u64_wrap, iaV_sl, iaV_arr, faV_pa, nck_pa, heap_new, heap_old, heap_set, ↓reduceIte, Nat.reduceEqDiff, Nat.reduceLT, Nat.reduceAdd, Int.reduceLT, Int.reduceLE, decide_false, decide_true, dec_true, dec_false, true_and, and_true, true_imp_iff, Bool.not_true, Bool.not_false, Option.map_none, Int.reduceToNat, Int.toNat_zero, Int.toNat_one, lkV_false, lkV_true, hd1, hd2, hbU]
      simp (disch := first | omega | assumption | (simp only [O1, World.size_alloc, World.size_setCell, World.size_drew]; first | done | omega)) only [O1, D2, ↓H0, S0, ↓S1, ↓S2, ↓S3, ↓S4, S5, S5b, S5c, ↓S6, S6b, M0, E0, ty, tl, te, tc, i64_wrap, u64_wrap, iaV_sl, iaV_arr, faV_pa, nck_pa, heap_new, heap_old, heap_set, ↓reduceIte, Nat.reduceEqDiff, Nat.reduceLT, Nat.reduceAdd, Int.reduceLT, Int.reduceLE, decide_false, decide_true, dec_true, dec_false, true_and, and_true, true_imp_iff, Bool.not_true, Bool.not_false, Option.map_none, Int.reduceToNat, Int.toNat_zero, Int.toNat_one, lkV_false, lkV_true, ldA5, hbU, hd1, hd2]
      refine (nullable_ok _ { g with start := a } _ (hp2) hSm2).then ?_
      rintro _ X0 ⟨hh, hx0⟩
      rcases hh with ⟨_, rfl⟩ | ⟨h1, _⟩
      rotate_left
      · exact absurd h1 hso
      have hz0 := hx0
      have hb10 := hz0.hp hbU
      simp (disch := first | omega | assumption | (simp only [O1, World.size_alloc, World.size_setCell, World.size_drew]; first | done | omega)) only [O1, D2, ↓H0, S0, ↓S1, ↓S2, ↓S3, ↓S4, S5, S5b, S5c, ↓S6, S6b, M0, E0, ty, tl, te, tc, i64_wrap, u64_wrap, iaV_sl, iaV_arr, faV_pa, nck_pa, heap_new, heap_old, heap_set, ↓reduceIte, Nat.reduceEqDiff, Nat.reduceLT, Nat.reduceAdd, Int.reduceLT, Int.reduceLE, decide_false, decide_true, dec_true, dec_false, true_and, and_true, true_imp_iff, Bool.not_true, Bool.not_false, Option.map_none, Int.reduceToNat, Int.toNat_zero, Int.toNat_one, lkV_false, lkV_true, ldA5, hb10, hd1, hd2]
      refine (generating_ok _ { g with start := a } _ (hp2.ext hz0) hSm2).then ?_
      rintro _ X1 ⟨hh, hx1⟩
      rcases hh with ⟨_, rfl⟩ | ⟨h1, _⟩
      rotate_left
      · exact absurd h1 hso
      have hz1 := hz0.tr hx1
      have hb11 := hz1.hp hbU
      simp (disch := first | omega | assumption | (simp only [O1, World.size_alloc, World.size_setCell, World.size_drew]; first | done | omega)) only [O1, D2, ↓H0, S0, ↓S1, ↓S2, ↓S3, ↓S4, S5, S5b, S5c, ↓S6, S6b, M0, E0, ty, tl, te, tc, i64_wrap, u64_wrap, iaV_sl, iaV_arr, faV_pa, nck_pa, heap_new, heap_old, heap_set, ↓reduceIte, Nat.reduceEqDiff, Nat.reduceLT, Nat.reduceAdd, Int.reduceLT, Int.reduceLE, decide_false, decide_true, dec_true, dec_false, true_and, and_true, true_imp_iff, Bool.not_true, Bool.not_false, Option.map_none, Int.reduceToNat, Int.toNat_zero, Int.toNat_one, lkV_false, lkV_true, ldA5, hb11, hd1, hd2]
      refine (reachable_ok _ { g with start := a } _ (hp2.ext hz1) hSm2).then ?_
      rintro _ X2 ⟨hh, hx2⟩
      rcases hh with ⟨_, rfl⟩ | ⟨h1, _⟩
      rotate_left
      · exact absurd h1 hso
      have hz2 := hz1.tr hx2
      have hb12 := hz2.hp hbU
      simp (disch := first | omega | assumption | (simp only [O1, World.size_alloc, World.size_setCell, World.size_drew]; first | done | omega)) only [O1, D2, ↓H0, S0, ↓S1, ↓S2, ↓S3, ↓S4, S5, S5b, S5c, ↓S6, S6b, M0, E0, ty, tl, te, tc, i64_wrap, u64_wrap, iaV_sl, iaV_arr, faV_pa, nck_pa, heap_new, heap_old, heap_set, ↓reduceIte, Nat.reduceEqDiff, Nat.reduceLT, Nat.reduceAdd, Int.reduceLT, Int.reduceLE, decide_false, decide_true, dec_true, dec_false, true_and, and_true, true_imp_iff, Bool.not_true, Bool.not_false, Option.map_none, Int.reduceToNat, Int.toNat_zero, Int.toNat_one, lkV_false, lkV_true, ldA5, hb12, hd1, hd2]
      refine (loops_ok _ { g with start := a } _ (hp2.ext hz2) hSm2).then ?_
      rintro _ X3 ⟨hh, hx3⟩
      rcases hh with ⟨_, rfl⟩ | ⟨h1, _⟩
      rotate_left
      · exact absurd h1 hso
      have hz3 := hz2.tr hx3
      have hb13 := hz3.hp hbU
      simp (disch := first | omega | assumption | (simp only [O1, World.size_alloc, World.size_setCell, World.size_drew]; first | done | omega)) only [O1, D2, ↓H0, S0, ↓S1, ↓S2, ↓S3, ↓S4, S5, S5b, S5c, ↓S6, S6b, M0, E0, ty, tl, te, tc, i64_wrap, u64_wrap, iaV_sl, iaV_arr, faV_pa, nck_pa, heap_new, heap_old, heap_set, ↓reduceIte, Nat.reduceEqDiff, Nat.reduceLT, Nat.reduceAdd, Int.reduceLT, Int.reduceLE, decide_false, decide_true, dec_true, dec_false, true_and, and_true, true_imp_iff, Bool.not_true, Bool.not_false, Option.map_none, Int.reduceToNat, Int.toNat_zero, Int.toNat_one, lkV_false, lkV_true, ldA5, hb13, hd1, hd2]
      refine (shortest_ok _ { g with start := a } _ (hp2.ext hz3) hSm2).then ?_
      rintro _ X4 ⟨hh, hx4⟩
      rcases hh with ⟨_, rfl⟩ | ⟨h1, _⟩
      rotate_left
      · exact absurd h1 hso
      have hz4 := hz3.tr hx4
      have hb14 := hz4.hp hbU
      simp (disch := first | omega | assumption | (simp only [O1, World.size_alloc, World.size_setCell, World.size_drew]; first | done | omega)) only [O1, D2, ↓H0, S0, ↓S1, ↓S2, ↓S3, ↓S4, S5, S5b, S5c, ↓S6, S6b, M0, E0, ty, tl, te, tc, i64_wrap, u64_wrap, iaV_sl, iaV_arr, faV_pa, nck_pa, heap_new, heap_old, heap_set, ↓reduceIte, Nat.reduceEqDiff, Nat.reduceLT, Nat.reduceAdd, Int.reduceLT, Int.reduceLE, decide_false, decide_true, dec_true, dec_false, true_and, and_true, true_imp_iff, Bool.not_true, Bool.not_false, Option.map_none, Int.reduceToNat, Int.toNat_zero, Int.toNat_one, lkV_false, lkV_true, ldA5, hb14, hd1, hd2]
      refine (first_ok _ { g with start := a } _ (hp2.ext hz4) hSm2).then ?_
      rintro _ X5 ⟨hh, hx5⟩
      rcases hh with ⟨_, rfl⟩ | ⟨h1, _⟩
      rotate_left
      · exact absurd h1 hso
      have hz5 := hz4.tr hx5
      have hb15 := hz5.hp hbU
      simp (disch := first | omega | assumption | (simp only [O1, World.size_alloc, World.size_setCell, World.size_drew]; first | done | omega)) only [O1, D2, ↓H0, S0, ↓S1, ↓S2, ↓S3, ↓S4, S5, S5b, S5c, ↓S6, S6b, M0, E0, ty, tl, te, tc, i64_wrap, u64_wrap, iaV_sl, iaV_arr, faV_pa, nck_pa, heap_new, heap_old, heap_set, ↓reduceIte, Nat.reduceEqDiff, Nat.reduceLT, Nat.reduceAdd, Int.reduceLT, Int.reduceLE, decide_false, decide_true, dec_true, dec_false, true_and, and_true, true_imp_iff, Bool.not_true, Bool.not_false, Option.map_none, Int.reduceToNat, Int.toNat_zero, Int.toNat_one, lkV_false, lkV_true, ldA5, hd1, hd2]
      exact hxw.tr hz5
  · have hd1 : decide (0 ≤ a) = false := decide_eq_false h1
    have hso : ¬ SoundP { g with start := a } := fun h => h1 (hiff.1 h).1
    simp (disch := first | omega | assumption | (simp only [O1, World.size_alloc, World.size_setCell, World.size_drew]; first | done | omega)) only [O1, D2, ↓H0, S0, ↓S1, ↓S2, ↓S3, ↓S4, S5, S5b, S5c, ↓S6, S6b, M0, E0, ty, tl, te, tc, i64_wrap, u64_wrap, iaV_sl, iaV_arr, faV_pa, nck_pa, heap_new, heap_old, heap_set, ↓reduceIte, Nat.reduceEqDiff, Nat.reduceLT, Nat.reduceAdd, Int.reduceLT, Int.reduceLE, decide_false, decide_true, dec_true, dec_false, true_and, and_true, true_imp_iff, Bool.not_true, Bool.not_false, Option.map_none, Int.reduceToNat, Int.toNat_zero, Int.toNat_one, lkV_false, lkV_true, hd1, hbU]
    simp (disch := first | omega | assumption | (simp only [O1, World.size_alloc, World.size_setCell, World.size_drew]; first | done | omega)) only [O1, D2, ↓H0, S0, ↓S1, ↓S2, ↓S3, ↓S4, S5, S5b, S5c, ↓S6, S6b, M0, E0, ty, tl, te, tc, i64_wrap, u64_wrap, iaV_sl, iaV_arr, faV_pa, nck_pa, heap_new, heap_old, heap_set, ↓reduceIte, Nat.reduceEqDiff, Nat.reduceLT, Nat.reduceAdd, Int.reduceLT, Int.reduceLE, decide_false, decide_true, dec_true, dec_false, true_and, and_true, true_imp_iff, Bool.not_true, Bool.not_false, Option.map_none, Int.reduceToNat, Int.toNat_zero, Int.toNat_one, lkV_false, lkV_true, ldA5, hbU, hd1]
    refine (nullable_ok _ { g with start := a } _ (hp2) hSm2).then ?_
    rintro _ X0 ⟨hh, hx0⟩
    rcases hh with ⟨_, rfl⟩ | ⟨h1, _⟩
    rotate_left
    · exact absurd h1 hso
    have hz0 := hx0
    have hb10 := hz0.hp hbU
    simp (disch := first | omega | assumption | (simp only [O1, World.size_alloc, World.size_setCell, World.size_drew]; first | done | omega)) only [O1, D2, ↓H0, S0, ↓S1, ↓S2, ↓S3, ↓S4, S5, S5b, S5c, ↓S6, S6b, M0, E0, ty, tl, te, tc, i64_wrap, u64_wrap, iaV_sl, iaV_arr, faV_pa, nck_pa, heap_new, heap_old, heap_set, ↓reduceIte, Nat.reduceEqDiff, Nat.reduceLT, Nat.reduceAdd, Int.reduceLT, Int.reduceLE, decide_false, decide_true, dec_true, dec_false, true_and, and_true, true_imp_iff, Bool.not_true, Bool.not_false, Option.map_none, Int.reduceToNat, Int.toNat_zero, Int.toNat_one, lkV_false, lkV_true, ldA5, hb10, hd1]
    refine (generating_ok _ { g with start := a } _ (hp2.ext hz0) hSm2).then ?_
    rintro _ X1 ⟨hh, hx1⟩
    rcases hh with ⟨_, rfl⟩ | ⟨h1, _⟩
    rotate_left
    · exact absurd h1 hso
    have hz1 := hz0.tr hx1
    have hb11 := hz1.hp hbU
    simp (disch := first | omega | assumption | (simp only [O1, World.size_alloc, World.size_setCell, World.size_drew]; first | done | omega)) only [O1, D2, ↓H0, S0, ↓S1, ↓S2, ↓S3, ↓S4, S5, S5b, S5c, ↓S6, S6b, M0, E0, ty, tl, te, tc, i64_wrap, u64_wrap, iaV_sl, iaV_arr, faV_pa, nck_pa, heap_new, heap_old, heap_set, ↓reduceIte, Nat.reduceEqDiff, Nat.reduceLT, Nat.reduceAdd, Int.reduceLT, Int.reduceLE, decide_false, decide_true, dec_true, dec_false, true_and, and_true, true_imp_iff, Bool.not_true, Bool.not_false, Option.map_none, Int.reduceToNat, Int.toNat_zero, Int.toNat_one, lkV_false, lkV_true, ldA5, hb11, hd1]
    refine (reachable_ok _ { g with start := a } _ (hp2.ext hz1) hSm2).then ?_
    rintro _ X2 ⟨hh, hx2⟩
    rcases hh with ⟨_, rfl⟩ | ⟨h1, _⟩
    rotate_left
    · exact absurd h1 hso
    have hz2 := hz1.tr hx2
    have hb12 := hz2.hp hbU
    simp (disch := first | omega | assumption | (simp only [O1, World.size_alloc, World.size_setCell, World.size_drew]; first | done | omega)) only [O1, D2, ↓H0, S0, ↓S1, ↓S2, ↓S3, ↓S4, S5, S5b, S5c, ↓S6, S6b, M0, E0, ty, tl, te, tc, i64_wrap, u64_wrap, iaV_sl, iaV_arr, faV_pa, nck_pa, heap_new, heap_old, heap_set, ↓reduceIte, Nat.reduceEqDiff, Nat.reduceLT, Nat.reduceAdd, Int.reduceLT, Int.reduceLE, decide_false, decide_true, dec_true, dec_false, true_and, and_true, true_imp_iff, Bool.not_true, Bool.not_false, Option.map_none, Int.reduceToNat, Int.toNat_zero, Int.toNat_one, lkV_false, lkV_true, ldA5, hb12, hd1]
    refine (loops_ok _ { g with start := a } _ (hp2.ext hz2) hSm2).then ?_
    rintro _ X3 ⟨hh, hx3⟩
    rcases hh with ⟨_, rfl⟩ | ⟨h1, _⟩
    rotate_left
    · exact absurd h1 hso
    have hz3 := hz2.tr hx3
    have hb13 := hz3.hp hbU
    simp (disch := first | omega | assumption | (simp only [O1, World.size_alloc, World.size_setCell, World.size_drew]; first | done | omega)) only [O1, D2, ↓H0, S0, ↓S1, ↓S2, ↓S3, ↓S4, S5, S5b, S5c, ↓S6, S6b, M0, E0, ty, tl, te, tc, i64_wrap, u64_wrap, iaV_sl, iaV_arr, faV_pa, nck_pa, heap_new, heap_old, heap_set, ↓reduceIte, Nat.reduceEqDiff, Nat.reduceLT, Nat.reduceAdd, Int.reduceLT, Int.reduceLE, decide_false, decide_true, dec_true, dec_false, true_and, and_true, true_imp_iff, Bool.not_true, Bool.not_false, Option.map_none, Int.reduceToNat, Int.toNat_zero, Int.toNat_one, lkV_false, lkV_true, ldA5, hb13, hd1]
    refine (shortest_ok _ { g with start := a } _ (hp2.ext hz3) hSm2).then ?_
    rintro _ X4 ⟨hh, hx4⟩
    rcases hh with ⟨_, rfl⟩ | ⟨h1, _⟩
    rotate_left
    · exact absurd h1 hso
    have hz4 := hz3.tr hx4
    have hb14 := hz4.hp hbU
    simp (disch := first | omega | assumption | (simp only [O1, World.size_alloc, World.size_setCell, World.size_drew]; first | done | omega)) only [O1, D2, ↓H0, S0, ↓S1, ↓S2, ↓S3, ↓S4, S5, S5b, S5c, ↓S6, S6b, M0, E0, ty, tl, te, tc, i64_wrap, u64_wrap, iaV_sl, iaV_arr, faV_pa, nck_pa, heap_new, heap_old, heap_set, ↓reduceIte, Nat.reduceEqDiff, Nat.reduceLT, Nat.reduceAdd, Int.reduceLT, Int.reduceLE, decide_false, decide_true, dec_true, dec_false, true_and, and_true, true_imp_iff, Bool.not_true, Bool.not_false, Option.map_none, Int.reduceToNat, Int.toNat_zero, Int.toNat_one, lkV_false, lkV_true, ldA5, hb14, hd1]
    refine (first_ok _ { g with start := a } _ (hp2.ext hz4) hSm2).then ?_
    rintro _ X5 ⟨hh, hx5⟩
    rcases hh with ⟨_, rfl⟩ | ⟨h1, _⟩
    rotate_left
    · exact absurd h1 hso
    have hz5 := hz4.tr hx5
    have hb15 := hz5.hp hbU
    simp (disch := first | omega | assumption | (simp only [O1, World.size_alloc, World.size_setCell, World.size_drew]; first | done | omega)) only [O1, D2, ↓H0, S0, ↓S1, ↓S2, ↓S3, ↓S4, S5, S5b, S5c, ↓S6, S6b, M0, E0, ty, tl, te, tc, i64_wrap, u64_wrap, iaV_sl, iaV_arr, faV_pa, nck_pa, heap_new, heap_old, heap_set, ↓reduceIte, Nat.reduceEqDiff, Nat.reduceLT, Nat.reduceAdd, Int.reduceLT, Int.reduceLE, decide_false, decide_true, dec_true, dec_false, true_and, and_true, true_imp_iff, Bool.not_true, Bool.not_false, Option.map_none, Int.reduceToNat, Int.toNat_zero, Int.toNat_one, lkV_false, lkV_true, ldA5, hd1]
    exact hxw.tr hz5
end Go.Proofs.Ytgioklmpnbnplaa
