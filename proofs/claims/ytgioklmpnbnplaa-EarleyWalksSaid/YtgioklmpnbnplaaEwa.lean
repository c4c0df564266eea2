/- The walk of the law EarleyWalks. Conditions: none. -/
import Derived.Test.YtgioklmpnbnplaaNt
import Derived.Test.YtgioklmpnbnplaaMade17
set_option linter.unusedSimpArgs false
set_option linter.unusedVariables false
set_option maxRecDepth 100000
namespace Go.Proofs.Ytgioklmpnbnplaa
open Go.V Go.RowKit

theorem Dv.letters {ps : List (Int × List Int)} {m : Int} (hlo : ∀ p ∈ ps, ∀ s ∈ p.2, -m ≤ s) {r w : List Int} (h : Dv ps r w) : (∀ s ∈ r, -m ≤ s) → ∀ t ∈ w, 0 ≤ t ∧ t < m := by
  induction h with
  | nil => simp
  | @term s r u hs h ih =>
    intro hr t ht
    have h1 := hr s (by simp)
    rcases List.mem_cons.1 ht with rfl | ht
    · omega
    · exact ih (fun x hx => hr x (by simp [hx])) t ht
  | @nt p r u v hp h0 h h2 ih ih2 =>
    intro hr t ht
    rcases List.mem_append.1 ht with ht | ht
    · exact ih (hlo p hp) t ht
    · exact ih2 (fun x hx => hr x (by simp [hx])) t ht
theorem SoundP.letters {g : PG} (h : SoundP g) {w : List Int} (hw : Dv g.prods [g.start] w) : ∀ t ∈ w, 0 ≤ t ∧ t < g.terms.length :=
  hw.letters (m := g.terms.length) (fun p hp s hs => (h.low p hp s hs).1) fun s hs => by simp at hs; subst hs; have := h.2.1.2.2.2.1; omega
/-- A beginning of a word has a chart. -/
theorem okw_of_begs {g : PG} {l : List Int} (hS : SoundP g) (hl : l.length ≤ 64) (h : ∃ v, Dv g.prods [g.start] (l ++ v)) : OkW g l := by
  obtain ⟨v, hv⟩ := h
  exact ⟨hS, hl, fun t ht => hS.letters hv t (List.mem_append_left _ ht)⟩
theorem good_len {g : PG} {l : List Int} (hok : OkW g l) {n : Int} (h : GoodP g l n) (hv : ∃ v, Dv g.prods [g.start] (l ++ v)) : n = l.length := by
  rcases h with ⟨h, _⟩ | ⟨_, h1, h2, h3⟩
  · exact absurd hok h
  · have := (h3 l.length (Nat.le_refl _)).2 (by unfold Begs; rw [List.take_length]; exact hv)
    omega
set_option maxHeartbeats 4000000 in
theorem walks_ok (xv : Value) (x : RawG) (zv : Value) (zs : List Int) (w : World) (hx : RepRaw w xv x) (hz : Ints w zv zs) : Ok Try.prog 8 #[xv, zv] w fun v w' => v = .bool true ∧ Ext w w' := by
  have hx0 := hx
  obtain ⟨ZA, zc, rfl, hzc, hZA⟩ := hz
  obtain ⟨lv, rv, rfl, hL, hR⟩ := hx
  (refine Ok.enter Try.func8 rfl (by kernel_rfl) (Nat.le_of_ble_eq_true rfl) ?_; simp only [Try.f8, S7])
  simp (disch := first | omega | assumption | (simp only [O1, World.size_alloc, World.size_setCell, World.size_drew]; first | done | omega)) only [O1, D2, ↓H0, S0, ↓S1, ↓S2, ↓S3, ↓S4, S5, S5b, S5c, ↓S6, S6b, M0, E0, ty, tl, te, tc, i64_wrap, u64_wrap, iaV_sl, iaV_arr, faV_pa, nck_pa, heap_new, heap_old, heap_set, ↓reduceIte, Nat.reduceEqDiff, Nat.reduceLT, Nat.reduceAdd, Int.reduceLT, Int.reduceLE, decide_false, decide_true, dec_true, dec_false, true_and, and_true, true_imp_iff, Bool.not_true, Bool.not_false, Option.map_none, Int.reduceToNat, Int.toNat_zero, Int.toNat_one, lkV_false, lkV_true]
  have hxa := (Ext.rfl' w).al (.cells #[.int .i64 x.n, .int .i64 x.t, .int .i64 x.start, lv, rv] 58)
  have hba := heap_new (w := w) (.cells #[.int .i64 x.n, .int .i64 x.t, .int .i64 x.start, lv, rv] 58) rfl
  refine (speaks17_ok _).then ?_; rintro _ W ⟨rfl, hx1⟩
  have hbW := hx1.hp hba
  have hxW := hxa.tr hx1
  simp (disch := first | omega | assumption | (simp only [O1, World.size_alloc, World.size_setCell, World.size_drew]; first | done | omega)) only [O1, D2, ↓H0, S0, ↓S1, ↓S2, ↓S3, ↓S4, S5, S5b, S5c, ↓S6, S6b, M0, E0, ty, tl, te, tc, i64_wrap, u64_wrap, iaV_sl, iaV_arr, faV_pa, nck_pa, heap_new, heap_old, heap_set, ↓reduceIte, Nat.reduceEqDiff, Nat.reduceLT, Nat.reduceAdd, Int.reduceLT, Int.reduceLE, decide_false, decide_true, dec_true, dec_false, true_and, and_true, true_imp_iff, Bool.not_true, Bool.not_false, Option.map_none, Int.reduceToNat, Int.toNat_zero, Int.toNat_one, lkV_false, lkV_true, ldA5, hbW]
  refine (made17_ok _ x W (hx0.ext hxW)).then ?_
  rintro _ V ⟨⟨p, q, g, rfl, hp, hq, hN⟩, hx2⟩
  have hxV := hxW.tr hx2
  obtain ⟨hS, hSm, hn8, ht3, hpl, hsd⟩ := hN
  have hp0 := hp
  have hq0 := hq
  obtain ⟨nv, tv, pv, rfl, _⟩ := hp
  obtain ⟨nv2, tv2, pv2, rfl, _⟩ := hq
  have hone : ∀ {u : Value} {α : Type} {e : α → Value} {l : List α}, Sq e V u l → u.oneCell' = true := fun {u α e l} h => by obtain ⟨A, c, rfl, _⟩ := h; rfl
  have ho : nv.oneCell' = true ∧ tv.oneCell' = true ∧ pv.oneCell' = true ∧ nv2.oneCell' = true ∧ tv2.oneCell' = true ∧ pv2.oneCell' = true := by
    obtain ⟨_, _, _, h0, a1, a2, A, c, h3, _⟩ := hp0
    obtain ⟨_, _, _, h0', b1, b2, A', c', h3', _⟩ := hq0
    simp at h0 h0'
    obtain ⟨rfl, rfl, rfl⟩ := h0
    obtain ⟨rfl, rfl, rfl⟩ := h0'
    refine ⟨hone a1, hone a2, by rw [h3]; rfl, hone b1, hone b2, by rw [h3']; rfl⟩
  obtain ⟨o1, o2, o3, o4, o5, o6⟩ := ho
  obtain ⟨Y1, U, hs1, hs2, hxU, hb1, hb2, hUs⟩ := two_boxes (P := Try.prog) (V := V) (T := 41) (T' := 49) (z := #[.int .i64 0, .int .i64 0, .slice none 0 0, .slice none 0 0, .slice none 0 0]) (z' := #[.int .i64 0, .int .i64 0, .slice none 0 0, .slice none 0 0, .slice none 0 0]) (ds := #[.int .i64 g.start, .int .i64 g.rules, nv, tv, pv]) (ds' := #[.int .i64 g.start, .int .i64 g.rules, nv2, tv2, pv2]) (by simp only [ty]; rfl) (by simp only [ty]; rfl) rfl rfl (by simp [o1, o2, o3]; simp [Value.oneCell']) (by simp [o4, o5, o6]; simp [Value.oneCell'])
  simp (disch := first | omega | assumption | (simp only [O1, World.size_alloc, World.size_setCell, World.size_drew]; first | done | omega)) only [O1, D2, ↓H0, S0, ↓S1, ↓S2, ↓S3, ↓S4, S5, S5b, S5c, ↓S6, S6b, M0, E0, ty, tl, te, tc, i64_wrap, u64_wrap, iaV_sl, iaV_arr, faV_pa, nck_pa, heap_new, heap_old, heap_set, ↓reduceIte, Nat.reduceEqDiff, Nat.reduceLT, Nat.reduceAdd, Int.reduceLT, Int.reduceLE, decide_false, decide_true, dec_true, dec_false, true_and, and_true, true_imp_iff, Bool.not_true, Bool.not_false, Option.map_none, Int.reduceToNat, Int.toNat_zero, Int.toNat_one, lkV_false, lkV_true, hs1, hs2]
  have hp1 := hp0.ext hxU
  have hq1 := hq0.ext hxU
  have hxwU := hxV.tr hxU
  clear hs1 hs2 hbW hba hx0
  generalize hbp : V.heap.size = bp at *
  have hb1d : U.drew.heap[bp]? = _ := hb1
  have hb2d : U.drew.heap[bp + 1]? = _ := hb2
  have hn256 := hS.1.2.1
  have ht256 := hS.2.1.1
  have hst0 := hS.2.1.2.2.2
  refine ⟨fun k t Z => ∃ (i : Nat) (lv : Value) (l : List Int), k + i = 9 ∧ i ≤ 8 ∧ Ext U Z ∧ Row (Value.int .i64) U.heap.size 3 Z lv l ∧ l.length = i ∧ (0 < i → ∃ v, Dv g.prods [g.start] (l ++ v)) ∧ t 1 = .slice ZA zs.length zc ∧ t 5 = pa (some ⟨bp, 0, none⟩) 0 ∧ t 7 = lv ∧ t 8 = .int .i64 i, ⟨9, 0, _, [], rfl, by omega, Ext.rfl' U, Row.nil U, rfl, fun h => by omega, ?_⟩, ?_⟩
  · simp (disch := first | omega | assumption | (simp only [O1, World.size_alloc, World.size_setCell, World.size_drew]; first | done | omega)) only [O1, D2, ↓H0, S0, ↓S1, ↓S2, ↓S3, ↓S4, S5, S5b, S5c, ↓S6, S6b, M0, E0, ty, tl, te, tc, i64_wrap, u64_wrap, iaV_sl, iaV_arr, faV_pa, nck_pa, heap_new, heap_old, heap_set, ↓reduceIte, Nat.reduceEqDiff, Nat.reduceLT, Nat.reduceAdd, Int.reduceLT, Int.reduceLE, decide_false, decide_true, dec_true, dec_false, true_and, and_true, true_imp_iff, Bool.not_true, Bool.not_false, Option.map_none, Int.reduceToNat, Int.toNat_zero, Int.toNat_one, lkV_false, lkV_true] <;> first | rfl | exact ⟨rfl, rfl⟩
  rintro k t Z ⟨i, lv, l, hk, hi8, hxZ, hR, hll, hv, f1, f5, f7, f8⟩
  obtain ⟨QA, qc, rfl, hqc, hQ⟩ := hR.sq
  have hbZ := hxZ.hp hb1
  have hpZ := hp1.ext hxZ
  have hl9 : l.length ≤ 8 := by omega
  by_cases h1 : i < zs.length
  · have d1 : decide ((i : Int) < (zs.length : Int)) = true := decide_eq_true (by omega)
    by_cases h2 : i < 8
    · have d2 : decide ((i : Int) < 8) = true := decide_eq_true (by omega)
      simp (disch := first | omega | assumption | (simp only [O1, World.size_alloc, World.size_setCell, World.size_drew]; first | done | omega)) only [O1, D2, ↓H0, S0, ↓S1, ↓S2, ↓S3, ↓S4, S5, S5b, S5c, ↓S6, S6b, M0, E0, ty, tl, te, tc, i64_wrap, u64_wrap, iaV_sl, iaV_arr, faV_pa, nck_pa, heap_new, heap_old, heap_set, ↓reduceIte, Nat.reduceEqDiff, Nat.reduceLT, Nat.reduceAdd, Int.reduceLT, Int.reduceLE, decide_false, decide_true, dec_true, dec_false, true_and, and_true, true_imp_iff, Bool.not_true, Bool.not_false, Option.map_none, Int.reduceToNat, Int.toNat_zero, Int.toNat_one, lkV_false, lkV_true, f1, f5, f7, f8, hbZ, d1, d2, ldA5]
      refine (makeE_ok _ _ g l Z hpZ hSm ⟨QA, qc, rfl, hqc, hQ⟩ (by omega)).then ?_
      rintro cv Z2 ⟨hc, hx1⟩
      have hcv : ChartV Z2 cv g l := hc
      by_cases hi0 : i = 0
      · have d0 : decide ((i : Int) = 0) = true := decide_eq_true (by omega)
        have hl0 : l = [] := List.length_eq_zero_iff.1 (by omega)
        simp (disch := first | omega | assumption | (simp only [O1, World.size_alloc, World.size_setCell, World.size_drew]; first | done | omega)) only [O1, D2, ↓H0, S0, ↓S1, ↓S2, ↓S3, ↓S4, S5, S5b, S5c, ↓S6, S6b, M0, E0, ty, tl, te, tc, i64_wrap, u64_wrap, iaV_sl, iaV_arr, faV_pa, nck_pa, heap_new, heap_old, heap_set, ↓reduceIte, Nat.reduceEqDiff, Nat.reduceLT, Nat.reduceAdd, Int.reduceLT, Int.reduceLE, decide_false, decide_true, dec_true, dec_false, true_and, and_true, true_imp_iff, Bool.not_true, Bool.not_false, Option.map_none, Int.reduceToNat, Int.toNat_zero, Int.toNat_one, lkV_false, lkV_true, f1, f5, f7, f8, d0]
        refine (goodE_ok cv g l Z2 hcv).then ?_
        rintro _ Z3 ⟨⟨n0, rfl, hn0⟩, rfl⟩
        have hok0 : OkW g l := ⟨hS, by omega, by rw [hl0]; simp⟩
        have hn0' : (0 ≤ n0 ↔ ∃ v, Dv g.prods [g.start] v) := by
          rcases hn0 with ⟨h, _⟩ | ⟨_, _, _, h3⟩
          · exact absurd hok0 h
          · have := h3 0 (by omega)
            simpa [Begs] using this
        by_cases hneg : n0 < 0
        · have d3 : decide (n0 < 0) = true := decide_eq_true hneg
          have hnov : ¬ ∃ v, Dv g.prods [g.start] v := fun h => by have := hn0'.2 h; omega
          simp (disch := first | omega | assumption | (simp only [O1, World.size_alloc, World.size_setCell, World.size_drew]; first | done | omega)) only [O1, D2, ↓H0, S0, ↓S1, ↓S2, ↓S3, ↓S4, S5, S5b, S5c, ↓S6, S6b, M0, E0, ty, tl, te, tc, i64_wrap, u64_wrap, iaV_sl, iaV_arr, faV_pa, nck_pa, heap_new, heap_old, heap_set, ↓reduceIte, Nat.reduceEqDiff, Nat.reduceLT, Nat.reduceAdd, Int.reduceLT, Int.reduceLE, decide_false, decide_true, dec_true, dec_false, true_and, and_true, true_imp_iff, Bool.not_true, Bool.not_false, Option.map_none, Int.reduceToNat, Int.toNat_zero, Int.toNat_one, lkV_false, lkV_true, f1, f5, f7, f8, d3]
          refine (nextE_ok cv 0 g l Z3 hcv).then ?_
          rintro nvv Z4 ⟨⟨xs, hxs, hpw, hxi⟩, hx4⟩
          have hxs0 : xs = [] := by
            cases xs with
            | nil => rfl
            | cons y ys =>
              obtain ⟨_, _, _, _, v, hv'⟩ := (hxi y).1 (by simp)
              exact absurd ⟨_, hv'⟩ hnov
          subst hxs0
          obtain ⟨NA, ncc, rfl, _, _⟩ := hxs
          simp (disch := first | omega | assumption | (simp only [O1, World.size_alloc, World.size_setCell, World.size_drew]; first | done | omega)) only [O1, D2, ↓H0, S0, ↓S1, ↓S2, ↓S3, ↓S4, S5, S5b, S5c, ↓S6, S6b, M0, E0, ty, tl, te, tc, i64_wrap, u64_wrap, iaV_sl, iaV_arr, faV_pa, nck_pa, heap_new, heap_old, heap_set, ↓reduceIte, Nat.reduceEqDiff, Nat.reduceLT, Nat.reduceAdd, Int.reduceLT, Int.reduceLE, decide_false, decide_true, dec_true, dec_false, true_and, and_true, true_imp_iff, Bool.not_true, Bool.not_false, Option.map_none, Int.reduceToNat, Int.toNat_zero, Int.toNat_one, lkV_false, lkV_true, f1, f5, f7, f8, List.length_nil]
          refine (yesE_ok cv g l Z4 (hcv.ext hx4)).then ?_
          rintro _ Z5 ⟨⟨b, rfl, hb⟩, hx5⟩
          have hb1 : b = false := by cases b with
            | false => rfl
            | true => exact absurd ⟨_, (hb.1 rfl).2⟩ hnov
          subst hb1
          simp (disch := first | omega | assumption | (simp only [O1, World.size_alloc, World.size_setCell, World.size_drew]; first | done | omega)) only [O1, D2, ↓H0, S0, ↓S1, ↓S2, ↓S3, ↓S4, S5, S5b, S5c, ↓S6, S6b, M0, E0, ty, tl, te, tc, i64_wrap, u64_wrap, iaV_sl, iaV_arr, faV_pa, nck_pa, heap_new, heap_old, heap_set, ↓reduceIte, Nat.reduceEqDiff, Nat.reduceLT, Nat.reduceAdd, Int.reduceLT, Int.reduceLE, decide_false, decide_true, dec_true, dec_false, true_and, and_true, true_imp_iff, Bool.not_true, Bool.not_false, Option.map_none, Int.reduceToNat, Int.toNat_zero, Int.toNat_one, lkV_false, lkV_true, f1, f5, f7, f8]
          exact hxwU.tr (((hxZ.tr hx1).tr hx4).tr hx5)
        · have d3 : decide (n0 < 0) = false := decide_eq_false hneg
          have hvi : ∃ v, Dv g.prods [g.start] (l ++ v) := by rw [hl0]; simpa using hn0'.1 (by omega)
          simp (disch := first | omega | assumption | (simp only [O1, World.size_alloc, World.size_setCell, World.size_drew]; first | done | omega)) only [O1, D2, ↓H0, S0, ↓S1, ↓S2, ↓S3, ↓S4, S5, S5b, S5c, ↓S6, S6b, M0, E0, ty, tl, te, tc, i64_wrap, u64_wrap, iaV_sl, iaV_arr, faV_pa, nck_pa, heap_new, heap_old, heap_set, ↓reduceIte, Nat.reduceEqDiff, Nat.reduceLT, Nat.reduceAdd, Int.reduceLT, Int.reduceLE, decide_false, decide_true, dec_true, dec_false, true_and, and_true, true_imp_iff, Bool.not_true, Bool.not_false, Option.map_none, Int.reduceToNat, Int.toNat_zero, Int.toNat_one, lkV_false, lkV_true, f1, f5, f7, f8, d3]
          refine (goodE_ok cv g l Z3 hcv).then ?_
          rintro _ Z3 ⟨⟨n1, rfl, hn1⟩, rfl⟩
          have hok := okw_of_begs hS (by omega) hvi
          obtain rfl := good_len hok hn1 hvi
          simp (disch := first | omega | assumption | (simp only [O1, World.size_alloc, World.size_setCell, World.size_drew]; first | done | omega)) only [O1, D2, ↓H0, S0, ↓S1, ↓S2, ↓S3, ↓S4, S5, S5b, S5c, ↓S6, S6b, M0, E0, ty, tl, te, tc, i64_wrap, u64_wrap, iaV_sl, iaV_arr, faV_pa, nck_pa, heap_new, heap_old, heap_set, ↓reduceIte, Nat.reduceEqDiff, Nat.reduceLT, Nat.reduceAdd, Int.reduceLT, Int.reduceLE, decide_false, decide_true, dec_true, dec_false, true_and, and_true, true_imp_iff, Bool.not_true, Bool.not_false, Option.map_none, Int.reduceToNat, Int.toNat_zero, Int.toNat_one, lkV_false, lkV_true, f1, f5, f7, f8]
          refine (nextE_ok cv l.length g l Z3 hcv).then ?_
          rintro nvv Z4 ⟨⟨xs, hxs, hpw, hxi⟩, hx4⟩
          obtain ⟨NA, ncc, rfl, hncc, hNA⟩ := hxs
          simp only [Int.toNat_natCast, List.take_length] at hxi
          cases xs with
          | nil =>
            simp (disch := first | omega | assumption | (simp only [O1, World.size_alloc, World.size_setCell, World.size_drew]; first | done | omega)) only [O1, D2, ↓H0, S0, ↓S1, ↓S2, ↓S3, ↓S4, S5, S5b, S5c, ↓S6, S6b, M0, E0, ty, tl, te, tc, i64_wrap, u64_wrap, iaV_sl, iaV_arr, faV_pa, nck_pa, heap_new, heap_old, heap_set, ↓reduceIte, Nat.reduceEqDiff, Nat.reduceLT, Nat.reduceAdd, Int.reduceLT, Int.reduceLE, decide_false, decide_true, dec_true, dec_false, true_and, and_true, true_imp_iff, Bool.not_true, Bool.not_false, Option.map_none, Int.reduceToNat, Int.toNat_zero, Int.toNat_one, lkV_false, lkV_true, f1, f5, f7, f8, List.length_nil]
            refine (yesE_ok cv g l Z4 (hcv.ext hx4)).then ?_
            rintro _ Z5 ⟨⟨b, rfl, hb⟩, hx5⟩
            have hb1 : b = true := hb.2 ⟨hok, by
              obtain ⟨v, hv'⟩ := hvi
              cases v with
              | nil => simpa using hv'
              | cons y v =>
                have hy := (hS.letters hv' y (by simp)).1
                have := (hxi y).2 ⟨hok, by omega, by omega, hy, v, hv'⟩
                simp at this⟩
            subst hb1
            simp (disch := first | omega | assumption | (simp only [O1, World.size_alloc, World.size_setCell, World.size_drew]; first | done | omega)) only [O1, D2, ↓H0, S0, ↓S1, ↓S2, ↓S3, ↓S4, S5, S5b, S5c, ↓S6, S6b, M0, E0, ty, tl, te, tc, i64_wrap, u64_wrap, iaV_sl, iaV_arr, faV_pa, nck_pa, heap_new, heap_old, heap_set, ↓reduceIte, Nat.reduceEqDiff, Nat.reduceLT, Nat.reduceAdd, Int.reduceLT, Int.reduceLE, decide_false, decide_true, dec_true, dec_false, true_and, and_true, true_imp_iff, Bool.not_true, Bool.not_false, Option.map_none, Int.reduceToNat, Int.toNat_zero, Int.toNat_one, lkV_false, lkV_true, f1, f5, f7, f8]
            exact hxwU.tr (((hxZ.tr hx1).tr hx4).tr hx5)
          | cons y0 ys =>
            obtain ⟨X, hX⟩ : ∃ X, X = y0 :: ys := ⟨_, rfl⟩
            rw [← hX] at hxi hncc hNA
            have hXl : 1 ≤ X.length := by rw [hX]; simp
            rw [← hX]
            have hx256 : X.length ≤ 256 := nodup_len 256 X (by rw [hX]; exact hpw.imp (fun h => by omega)) fun x hx => by
              obtain ⟨_, _, _, h0, y, hy⟩ := (hxi x).1 hx
              have := hS.letters hy x (by simp)
              omega
            have d7 : decide ((X.length : Int) = 0) = false := decide_eq_false (by omega)
            have hz := (hxwU.tr ((hxZ.tr hx1).tr hx4)).rd (hZA i (by omega))
            have hzs := rd_isSome hz
            obtain ⟨⟨hm1, hm2⟩, r0, hr0, hmod⟩ := modI (zs[i]) X.length hXl
            have hy := hNA r0 hr0
            have hys := rd_isSome hy
            have hym := (hxi X[r0]).1 (List.getElem_mem _)
            generalize zs[i] = z at *
            generalize X[r0] = y at *
            have hR4 := hR.ext (hx1.tr hx4)
            simp (disch := first | omega | assumption | (simp only [O1, World.size_alloc, World.size_setCell, World.size_drew]; first | done | omega)) only [O1, D2, ↓H0, S0, ↓S1, ↓S2, ↓S3, ↓S4, S5, S5b, S5c, ↓S6, S6b, M0, E0, ty, tl, te, tc, i64_wrap, u64_wrap, iaV_sl, iaV_arr, faV_pa, nck_pa, heap_new, heap_old, heap_set, ↓reduceIte, Nat.reduceEqDiff, Nat.reduceLT, Nat.reduceAdd, Int.reduceLT, Int.reduceLE, decide_false, decide_true, dec_true, dec_false, true_and, and_true, true_imp_iff, Bool.not_true, Bool.not_false, Option.map_none, Int.reduceToNat, Int.toNat_zero, Int.toNat_one, lkV_false, lkV_true, f1, f5, f7, f8, d7, hz, hmod, hy, bsl1 sl23]
            refine RunA_row (enc := Value.int .i64) (x := y) sl23 hR4 rfl (by omega) (by omega) (by have := ((hxZ.tr hx1).tr hx4).size; omega) ?_
            intro lv' Z6 hR6 hg6 hsz6 hown6
            simp (disch := first | omega | assumption | (simp only [O1, World.size_alloc, World.size_setCell, World.size_drew]; first | done | omega)) only [O1, D2, ↓H0, S0, ↓S1, ↓S2, ↓S3, ↓S4, S5, S5b, S5c, ↓S6, S6b, M0, E0, ty, tl, te, tc, i64_wrap, u64_wrap, iaV_sl, iaV_arr, faV_pa, nck_pa, heap_new, heap_old, heap_set, ↓reduceIte, Nat.reduceEqDiff, Nat.reduceLT, Nat.reduceAdd, Int.reduceLT, Int.reduceLE, decide_false, decide_true, dec_true, dec_false, true_and, and_true, true_imp_iff, Bool.not_true, Bool.not_false, Option.map_none, Int.reduceToNat, Int.toNat_zero, Int.toNat_one, lkV_false, lkV_true, f1, f5, f7, f8]
            refine ⟨k - 1, by omega, i + 1, lv', l ++ [y], by omega, by omega, ((hxZ.tr hx1).tr hx4).grown' hg6 fun k hk => (hR4.lt k hk).1, hR6, by simp [hll], fun _ => ?_, rfl, rfl⟩
            obtain ⟨_, _, _, _, v, hv'⟩ := hym
            exact ⟨v, by simpa using hv'⟩
      · have d0 : decide ((i : Int) = 0) = false := decide_eq_false (by omega)
        have hvi := hv (by omega)
        simp (disch := first | omega | assumption | (simp only [O1, World.size_alloc, World.size_setCell, World.size_drew]; first | done | omega)) only [O1, D2, ↓H0, S0, ↓S1, ↓S2, ↓S3, ↓S4, S5, S5b, S5c, ↓S6, S6b, M0, E0, ty, tl, te, tc, i64_wrap, u64_wrap, iaV_sl, iaV_arr, faV_pa, nck_pa, heap_new, heap_old, heap_set, ↓reduceIte, Nat.reduceEqDiff, Nat.reduceLT, Nat.reduceAdd, Int.reduceLT, Int.reduceLE, decide_false, decide_true, dec_true, dec_false, true_and, and_true, true_imp_iff, Bool.not_true, Bool.not_false, Option.map_none, Int.reduceToNat, Int.toNat_zero, Int.toNat_one, lkV_false, lkV_true, f1, f5, f7, f8, d0]
        refine (goodE_ok cv g l Z2 hcv).then ?_
        rintro _ Z3 ⟨⟨n1, rfl, hn1⟩, rfl⟩
        have hok := okw_of_begs hS (by omega) hvi
        obtain rfl := good_len hok hn1 hvi
        simp (disch := first | omega | assumption | (simp only [O1, World.size_alloc, World.size_setCell, World.size_drew]; first | done | omega)) only [O1, D2, ↓H0, S0, ↓S1, ↓S2, ↓S3, ↓S4, S5, S5b, S5c, ↓S6, S6b, M0, E0, ty, tl, te, tc, i64_wrap, u64_wrap, iaV_sl, iaV_arr, faV_pa, nck_pa, heap_new, heap_old, heap_set, ↓reduceIte, Nat.reduceEqDiff, Nat.reduceLT, Nat.reduceAdd, Int.reduceLT, Int.reduceLE, decide_false, decide_true, dec_true, dec_false, true_and, and_true, true_imp_iff, Bool.not_true, Bool.not_false, Option.map_none, Int.reduceToNat, Int.toNat_zero, Int.toNat_one, lkV_false, lkV_true, f1, f5, f7, f8]
        refine (nextE_ok cv l.length g l Z3 hcv).then ?_
        rintro nvv Z4 ⟨⟨xs, hxs, hpw, hxi⟩, hx4⟩
        obtain ⟨NA, ncc, rfl, hncc, hNA⟩ := hxs
        simp only [Int.toNat_natCast, List.take_length] at hxi
        cases xs with
        | nil =>
          simp (disch := first | omega | assumption | (simp only [O1, World.size_alloc, World.size_setCell, World.size_drew]; first | done | omega)) only [O1, D2, ↓H0, S0, ↓S1, ↓S2, ↓S3, ↓S4, S5, S5b, S5c, ↓S6, S6b, M0, E0, ty, tl, te, tc, i64_wrap, u64_wrap, iaV_sl, iaV_arr, faV_pa, nck_pa, heap_new, heap_old, heap_set, ↓reduceIte, Nat.reduceEqDiff, Nat.reduceLT, Nat.reduceAdd, Int.reduceLT, Int.reduceLE, decide_false, decide_true, dec_true, dec_false, true_and, and_true, true_imp_iff, Bool.not_true, Bool.not_false, Option.map_none, Int.reduceToNat, Int.toNat_zero, Int.toNat_one, lkV_false, lkV_true, f1, f5, f7, f8, List.length_nil]
          refine (yesE_ok cv g l Z4 (hcv.ext hx4)).then ?_
          rintro _ Z5 ⟨⟨b, rfl, hb⟩, hx5⟩
          have hb1 : b = true := hb.2 ⟨hok, by
            obtain ⟨v, hv'⟩ := hvi
            cases v with
            | nil => simpa using hv'
            | cons y v =>
              have hy := (hS.letters hv' y (by simp)).1
              have := (hxi y).2 ⟨hok, by omega, by omega, hy, v, hv'⟩
              simp at this⟩
          subst hb1
          simp (disch := first | omega | assumption | (simp only [O1, World.size_alloc, World.size_setCell, World.size_drew]; first | done | omega)) only [O1, D2, ↓H0, S0, ↓S1, ↓S2, ↓S3, ↓S4, S5, S5b, S5c, ↓S6, S6b, M0, E0, ty, tl, te, tc, i64_wrap, u64_wrap, iaV_sl, iaV_arr, faV_pa, nck_pa, heap_new, heap_old, heap_set, ↓reduceIte, Nat.reduceEqDiff, Nat.reduceLT, Nat.reduceAdd, Int.reduceLT, Int.reduceLE, decide_false, decide_true, dec_true, dec_false, true_and, and_true, true_imp_iff, Bool.not_true, Bool.not_false, Option.map_none, Int.reduceToNat, Int.toNat_zero, Int.toNat_one, lkV_false, lkV_true, f1, f5, f7, f8]
          exact hxwU.tr (((hxZ.tr hx1).tr hx4).tr hx5)
        | cons y0 ys =>
          obtain ⟨X, hX⟩ : ∃ X, X = y0 :: ys := ⟨_, rfl⟩
          rw [← hX] at hxi hncc hNA
          have hXl : 1 ≤ X.length := by rw [hX]; simp
          rw [← hX]
          have hx256 : X.length ≤ 256 := nodup_len 256 X (by rw [hX]; exact hpw.imp (fun h => by omega)) fun x hx => by
            obtain ⟨_, _, _, h0, y, hy⟩ := (hxi x).1 hx
            have := hS.letters hy x (by simp)
            omega
          have d7 : decide ((X.length : Int) = 0) = false := decide_eq_false (by omega)
          have hz := (hxwU.tr ((hxZ.tr hx1).tr hx4)).rd (hZA i (by omega))
          have hzs := rd_isSome hz
          obtain ⟨⟨hm1, hm2⟩, r0, hr0, hmod⟩ := modI (zs[i]) X.length hXl
          have hy := hNA r0 hr0
          have hys := rd_isSome hy
          have hym := (hxi X[r0]).1 (List.getElem_mem _)
          generalize zs[i] = z at *
          generalize X[r0] = y at *
          have hR4 := hR.ext (hx1.tr hx4)
          simp (disch := first | omega | assumption | (simp only [O1, World.size_alloc, World.size_setCell, World.size_drew]; first | done | omega)) only [O1, D2, ↓H0, S0, ↓S1, ↓S2, ↓S3, ↓S4, S5, S5b, S5c, ↓S6, S6b, M0, E0, ty, tl, te, tc, i64_wrap, u64_wrap, iaV_sl, iaV_arr, faV_pa, nck_pa, heap_new, heap_old, heap_set, ↓reduceIte, Nat.reduceEqDiff, Nat.reduceLT, Nat.reduceAdd, Int.reduceLT, Int.reduceLE, decide_false, decide_true, dec_true, dec_false, true_and, and_true, true_imp_iff, Bool.not_true, Bool.not_false, Option.map_none, Int.reduceToNat, Int.toNat_zero, Int.toNat_one, lkV_false, lkV_true, f1, f5, f7, f8, d7, hz, hmod, hy, bsl1 sl23]
          refine RunA_row (enc := Value.int .i64) (x := y) sl23 hR4 rfl (by omega) (by omega) (by have := ((hxZ.tr hx1).tr hx4).size; omega) ?_
          intro lv' Z6 hR6 hg6 hsz6 hown6
          simp (disch := first | omega | assumption | (simp only [O1, World.size_alloc, World.size_setCell, World.size_drew]; first | done | omega)) only [O1, D2, ↓H0, S0, ↓S1, ↓S2, ↓S3, ↓S4, S5, S5b, S5c, ↓S6, S6b, M0, E0, ty, tl, te, tc, i64_wrap, u64_wrap, iaV_sl, iaV_arr, faV_pa, nck_pa, heap_new, heap_old, heap_set, ↓reduceIte, Nat.reduceEqDiff, Nat.reduceLT, Nat.reduceAdd, Int.reduceLT, Int.reduceLE, decide_false, decide_true, dec_true, dec_false, true_and, and_true, true_imp_iff, Bool.not_true, Bool.not_false, Option.map_none, Int.reduceToNat, Int.toNat_zero, Int.toNat_one, lkV_false, lkV_true, f1, f5, f7, f8]
          refine ⟨k - 1, by omega, i + 1, lv', l ++ [y], by omega, by omega, ((hxZ.tr hx1).tr hx4).grown' hg6 fun k hk => (hR4.lt k hk).1, hR6, by simp [hll], fun _ => ?_, rfl, rfl⟩
          obtain ⟨_, _, _, _, v, hv'⟩ := hym
          exact ⟨v, by simpa using hv'⟩
    · have d2 : decide ((i : Int) < 8) = false := decide_eq_false (by omega)
      simp (disch := first | omega | assumption | (simp only [O1, World.size_alloc, World.size_setCell, World.size_drew]; first | done | omega)) only [O1, D2, ↓H0, S0, ↓S1, ↓S2, ↓S3, ↓S4, S5, S5b, S5c, ↓S6, S6b, M0, E0, ty, tl, te, tc, i64_wrap, u64_wrap, iaV_sl, iaV_arr, faV_pa, nck_pa, heap_new, heap_old, heap_set, ↓reduceIte, Nat.reduceEqDiff, Nat.reduceLT, Nat.reduceAdd, Int.reduceLT, Int.reduceLE, decide_false, decide_true, dec_true, dec_false, true_and, and_true, true_imp_iff, Bool.not_true, Bool.not_false, Option.map_none, Int.reduceToNat, Int.toNat_zero, Int.toNat_one, lkV_false, lkV_true, f1, f5, f7, f8, hbZ, d1, d2, ldA5]
      refine (makeE_ok _ _ g l Z hpZ hSm ⟨QA, qc, rfl, hqc, hQ⟩ (by omega)).then ?_
      rintro cv Z1 ⟨hc, hx1⟩
      simp (disch := first | omega | assumption | (simp only [O1, World.size_alloc, World.size_setCell, World.size_drew]; first | done | omega)) only [O1, D2, ↓H0, S0, ↓S1, ↓S2, ↓S3, ↓S4, S5, S5b, S5c, ↓S6, S6b, M0, E0, ty, tl, te, tc, i64_wrap, u64_wrap, iaV_sl, iaV_arr, faV_pa, nck_pa, heap_new, heap_old, heap_set, ↓reduceIte, Nat.reduceEqDiff, Nat.reduceLT, Nat.reduceAdd, Int.reduceLT, Int.reduceLE, decide_false, decide_true, dec_true, dec_false, true_and, and_true, true_imp_iff, Bool.not_true, Bool.not_false, Option.map_none, Int.reduceToNat, Int.toNat_zero, Int.toNat_one, lkV_false, lkV_true, f1, f5, f7, f8]
      refine (goodE_ok cv g l Z1 hc).then ?_
      rintro _ Z2 ⟨⟨n, rfl, hn⟩, rfl⟩
      have hend : Ext w Z2 := hxwU.tr (hxZ.tr hx1)
      by_cases hi0 : i = 0
      · have hl0 : l.length = 0 := by omega
        have hl1 : ((l.length : Nat) : Int) = 0 := by omega
        by_cases hn0 : n = 0
        · have d5 : decide (n = (l.length : Int)) = true := decide_eq_true (by omega)
          simp (disch := first | omega | assumption | (simp only [O1, World.size_alloc, World.size_setCell, World.size_drew]; first | done | omega)) only [O1, D2, ↓H0, S0, ↓S1, ↓S2, ↓S3, ↓S4, S5, S5b, S5c, ↓S6, S6b, M0, E0, ty, tl, te, tc, i64_wrap, u64_wrap, iaV_sl, iaV_arr, faV_pa, nck_pa, heap_new, heap_old, heap_set, ↓reduceIte, Nat.reduceEqDiff, Nat.reduceLT, Nat.reduceAdd, Int.reduceLT, Int.reduceLE, decide_false, decide_true, dec_true, dec_false, true_and, and_true, true_imp_iff, Bool.not_true, Bool.not_false, Option.map_none, Int.reduceToNat, Int.toNat_zero, Int.toNat_one, lkV_false, lkV_true, f1, f5, f7, f8, d5]
          exact hend
        · have d5 : decide (n = (l.length : Int)) = false := decide_eq_false (by omega)
          have d6 : decide ((l.length : Int) = 0) = true := decide_eq_true hl1
          simp (disch := first | omega | assumption | (simp only [O1, World.size_alloc, World.size_setCell, World.size_drew]; first | done | omega)) only [O1, D2, ↓H0, S0, ↓S1, ↓S2, ↓S3, ↓S4, S5, S5b, S5c, ↓S6, S6b, M0, E0, ty, tl, te, tc, i64_wrap, u64_wrap, iaV_sl, iaV_arr, faV_pa, nck_pa, heap_new, heap_old, heap_set, ↓reduceIte, Nat.reduceEqDiff, Nat.reduceLT, Nat.reduceAdd, Int.reduceLT, Int.reduceLE, decide_false, decide_true, dec_true, dec_false, true_and, and_true, true_imp_iff, Bool.not_true, Bool.not_false, Option.map_none, Int.reduceToNat, Int.toNat_zero, Int.toNat_one, lkV_false, lkV_true, f1, f5, f7, f8, d5, d6]
          exact hend
      · have hvi := hv (by omega)
        have hne := good_len (okw_of_begs hS (by omega) hvi) hn hvi
        have d5 : decide (n = (l.length : Int)) = true := decide_eq_true hne
        simp (disch := first | omega | assumption | (simp only [O1, World.size_alloc, World.size_setCell, World.size_drew]; first | done | omega)) only [O1, D2, ↓H0, S0, ↓S1, ↓S2, ↓S3, ↓S4, S5, S5b, S5c, ↓S6, S6b, M0, E0, ty, tl, te, tc, i64_wrap, u64_wrap, iaV_sl, iaV_arr, faV_pa, nck_pa, heap_new, heap_old, heap_set, ↓reduceIte, Nat.reduceEqDiff, Nat.reduceLT, Nat.reduceAdd, Int.reduceLT, Int.reduceLE, decide_false, decide_true, dec_true, dec_false, true_and, and_true, true_imp_iff, Bool.not_true, Bool.not_false, Option.map_none, Int.reduceToNat, Int.toNat_zero, Int.toNat_one, lkV_false, lkV_true, f1, f5, f7, f8, d5]
        exact hend
  · have d1 : decide ((i : Int) < (zs.length : Int)) = false := decide_eq_false (by omega)
    simp (disch := first | omega | assumption | (simp only [O1, World.size_alloc, World.size_setCell, World.size_drew]; first | done | omega)) only [O1, D2, ↓H0, S0, ↓S1, ↓S2, ↓S3, ↓S4, S5, S5b, S5c, ↓S6, S6b, M0, E0, ty, tl, te, tc, i64_wrap, u64_wrap, iaV_sl, iaV_arr, faV_pa, nck_pa, heap_new, heap_old, heap_set, ↓reduceIte, Nat.reduceEqDiff, Nat.reduceLT, Nat.reduceAdd, Int.reduceLT, Int.reduceLE, decide_false, decide_true, dec_true, dec_false, true_and, and_true, true_imp_iff, Bool.not_true, Bool.not_false, Option.map_none, Int.reduceToNat, Int.toNat_zero, Int.toNat_one, lkV_false, lkV_true, f1, f5, f7, f8, hbZ, d1, ldA5]
    refine (makeE_ok _ _ g l Z hpZ hSm ⟨QA, qc, rfl, hqc, hQ⟩ (by omega)).then ?_
    rintro cv Z1 ⟨hc, hx1⟩
    simp (disch := first | omega | assumption | (simp only [O1, World.size_alloc, World.size_setCell, World.size_drew]; first | done | omega)) only [O1, D2, ↓H0, S0, ↓S1, ↓S2, ↓S3, ↓S4, S5, S5b, S5c, ↓S6, S6b, M0, E0, ty, tl, te, tc, i64_wrap, u64_wrap, iaV_sl, iaV_arr, faV_pa, nck_pa, heap_new, heap_old, heap_set, ↓reduceIte, Nat.reduceEqDiff, Nat.reduceLT, Nat.reduceAdd, Int.reduceLT, Int.reduceLE, decide_false, decide_true, dec_true, dec_false, true_and, and_true, true_imp_iff, Bool.not_true, Bool.not_false, Option.map_none, Int.reduceToNat, Int.toNat_zero, Int.toNat_one, lkV_false, lkV_true, f1, f5, f7, f8]
    refine (goodE_ok cv g l Z1 hc).then ?_
    rintro _ Z2 ⟨⟨n, rfl, hn⟩, rfl⟩
    have hend : Ext w Z2 := hxwU.tr (hxZ.tr hx1)
    by_cases hi0 : i = 0
    · have hl0 : l.length = 0 := by omega
      have hl1 : ((l.length : Nat) : Int) = 0 := by omega
      by_cases hn0 : n = 0
      · have d5 : decide (n = (l.length : Int)) = true := decide_eq_true (by omega)
        simp (disch := first | omega | assumption | (simp only [O1, World.size_alloc, World.size_setCell, World.size_drew]; first | done | omega)) only [O1, D2, ↓H0, S0, ↓S1, ↓S2, ↓S3, ↓S4, S5, S5b, S5c, ↓S6, S6b, M0, E0, ty, tl, te, tc, i64_wrap, u64_wrap, iaV_sl, iaV_arr, faV_pa, nck_pa, heap_new, heap_old, heap_set, ↓reduceIte, Nat.reduceEqDiff, Nat.reduceLT, Nat.reduceAdd, Int.reduceLT, Int.reduceLE, decide_false, decide_true, dec_true, dec_false, true_and, and_true, true_imp_iff, Bool.not_true, Bool.not_false, Option.map_none, Int.reduceToNat, Int.toNat_zero, Int.toNat_one, lkV_false, lkV_true, f1, f5, f7, f8, d5]
        exact hend
      · have d5 : decide (n = (l.length : Int)) = false := decide_eq_false (by omega)
        have d6 : decide ((l.length : Int) = 0) = true := decide_eq_true hl1
        simp (disch := first | omega | assumption | (simp only [O1, World.size_alloc, World.size_setCell, World.size_drew]; first | done | omega)) only [O1, D2, ↓H0, S0, ↓S1, ↓S2, ↓S3, ↓S4, S5, S5b, S5c, ↓S6, S6b, M0, E0, ty, tl, te, tc, i64_wrap, u64_wrap, iaV_sl, iaV_arr, faV_pa, nck_pa, heap_new, heap_old, heap_set, ↓reduceIte, Nat.reduceEqDiff, Nat.reduceLT, Nat.reduceAdd, Int.reduceLT, Int.reduceLE, decide_false, decide_true, dec_true, dec_false, true_and, and_true, true_imp_iff, Bool.not_true, Bool.not_false, Option.map_none, Int.reduceToNat, Int.toNat_zero, Int.toNat_one, lkV_false, lkV_true, f1, f5, f7, f8, d5, d6]
        exact hend
    · have hvi := hv (by omega)
      have hne := good_len (okw_of_begs hS (by omega) hvi) hn hvi
      have d5 : decide (n = (l.length : Int)) = true := decide_eq_true hne
      simp (disch := first | omega | assumption | (simp only [O1, World.size_alloc, World.size_setCell, World.size_drew]; first | done | omega)) only [O1, D2, ↓H0, S0, ↓S1, ↓S2, ↓S3, ↓S4, S5, S5b, S5c, ↓S6, S6b, M0, E0, ty, tl, te, tc, i64_wrap, u64_wrap, iaV_sl, iaV_arr, faV_pa, nck_pa, heap_new, heap_old, heap_set, ↓reduceIte, Nat.reduceEqDiff, Nat.reduceLT, Nat.reduceAdd, Int.reduceLT, Int.reduceLE, decide_false, decide_true, dec_true, dec_false, true_and, and_true, true_imp_iff, Bool.not_true, Bool.not_false, Option.map_none, Int.reduceToNat, Int.toNat_zero, Int.toNat_one, lkV_false, lkV_true, f1, f5, f7, f8, d5]
      exact hend
end Go.Proofs.Ytgioklmpnbnplaa
