/- The walk of the law EarleyNone. Conditions: none. -/
import Derived.Test.YtgioklmpnbnplaaNt
set_option linter.unusedSimpArgs false
set_option linter.unusedVariables false
set_option maxRecDepth 100000
namespace Go.Proofs.Ytgioklmpnbnplaa
open Go.V Go.RowKit

def inB (x : List Int) : Bool := x.all fun s => decide (0 ≤ s) && decide (s < 3)
theorem inB_iff {x : List Int} : inB x = true ↔ ∀ s ∈ x, 0 ≤ s ∧ s < 3 := by simp [inB]
theorem inB_snoc (x : List Int) (s : Int) : inB (x ++ [s]) = (inB x && (decide (0 ≤ s) && decide (s < 3))) := by simp [inB]
/-- The brackets with any start. -/
def gNestA (a : Int) : PG := { gNest with start := a }
theorem gNestA_ok (a : Int) (word : List Int) : OkW (gNestA a) word ↔ a = 0 ∧ word.length ≤ 64 ∧ ∀ t ∈ word, 0 ≤ t ∧ t < 3 := by
  constructor
  · rintro ⟨h1, h2, h3⟩
    have := h1.2.1.2.2.2
    simp [gNestA, gNest] at this
    exact ⟨by omega, h2, fun t ht => by have := h3 t ht; simp [gNestA, gNest] at this; omega⟩
  · rintro ⟨rfl, h2, h3⟩
    exact ⟨gNest_sound, h2, fun t ht => by have := h3 t ht; simp [gNestA, gNest]; omega⟩
set_option maxHeartbeats 4000000 in
theorem eNone_ok (a n : Int) (zs : List Int) (xv : Value) (w : World) (hz : Ints w xv zs) : Ok Try.prog 9 #[.int .i64 a, .int .i64 n, xv] w fun v w' => v = .bool true ∧ Ext w w' := by
  obtain ⟨A, c, rfl, hc, hA⟩ := hz
  (refine Ok.enter Try.func9 rfl (by kernel_rfl) (Nat.le_of_ble_eq_true rfl) ?_; simp only [Try.f9, S7])
  simp (disch := first | omega | assumption | (simp only [O1, World.size_alloc, World.size_setCell, World.size_drew]; first | done | omega)) only [O1, D2, ↓H0, S0, ↓S1, ↓S2, ↓S3, ↓S4, S5, S5b, S5c, ↓S6, S6b, M0, E0, ty, tl, te, tc, i64_wrap, u64_wrap, iaV_sl, iaV_arr, faV_pa, nck_pa, heap_new, heap_old, heap_set, ↓reduceIte, Nat.reduceEqDiff, Nat.reduceLT, Nat.reduceAdd, Int.reduceLT, Int.reduceLE, decide_false, decide_true, dec_true, dec_false, true_and, and_true, true_imp_iff, Bool.not_true, Bool.not_false, Option.map_none, Int.reduceToNat, Int.toNat_zero, Int.toNat_one, lkV_false, lkV_true]
  refine (speaks17_ok _).then ?_; rintro _ W ⟨rfl, hx0⟩
  simp (disch := first | omega | assumption | (simp only [O1, World.size_alloc, World.size_setCell, World.size_drew]; first | done | omega)) only [O1, D2, ↓H0, S0, ↓S1, ↓S2, ↓S3, ↓S4, S5, S5b, S5c, ↓S6, S6b, M0, E0, ty, tl, te, tc, i64_wrap, u64_wrap, iaV_sl, iaV_arr, faV_pa, nck_pa, heap_new, heap_old, heap_set, ↓reduceIte, Nat.reduceEqDiff, Nat.reduceLT, Nat.reduceAdd, Int.reduceLT, Int.reduceLE, decide_false, decide_true, dec_true, dec_false, true_and, and_true, true_imp_iff, Bool.not_true, Bool.not_false, Option.map_none, Int.reduceToNat, Int.toNat_zero, Int.toNat_one, lkV_false, lkV_true]
  refine (nested17_ok W).then ?_; rintro gv W1 ⟨hg, hx1⟩
  obtain ⟨nv, tv, cv, rfl, hN, hT, hP⟩ := id hg
  have hx01 := hx0.tr hx1
  have o1 : nv.oneCell' = true := by obtain ⟨_, _, rfl, _⟩ := hN; rfl
  have o2 : tv.oneCell' = true := by obtain ⟨_, _, rfl, _⟩ := hT; rfl
  have o3 : cv.oneCell' = true := by obtain ⟨_, _, rfl, _⟩ := hP; rfl
  have hst := st41 (T' := 41) W1 (.int .i64 gNest.start) (.int .i64 gNest.rules) nv tv cv rfl rfl o1 o2 o3
  simp (disch := first | omega | assumption | (simp only [O1, World.size_alloc, World.size_setCell, World.size_drew]; first | done | omega)) only [O1, D2, ↓H0, S0, ↓S1, ↓S2, ↓S3, ↓S4, S5, S5b, S5c, ↓S6, S6b, M0, E0, ty, tl, te, tc, i64_wrap, u64_wrap, iaV_sl, iaV_arr, faV_pa, nck_pa, heap_new, heap_old, heap_set, ↓reduceIte, Nat.reduceEqDiff, Nat.reduceLT, Nat.reduceAdd, Int.reduceLT, Int.reduceLE, decide_false, decide_true, dec_true, dec_false, true_and, and_true, true_imp_iff, Bool.not_true, Bool.not_false, Option.map_none, Int.reduceToNat, Int.toNat_zero, Int.toNat_one, lkV_false, lkV_true, hst]
  have hx2 := (Ext.rfl' W1).al (.cells #[.int .i64 gNest.start, .int .i64 gNest.rules, nv, tv, cv] 41)
  have hb := heap_new (w := W1) (.cells #[.int .i64 gNest.start, .int .i64 gNest.rules, nv, tv, cv] 41) rfl
  generalize W1.alloc (.cells #[.int .i64 gNest.start, .int .i64 gNest.rules, nv, tv, cv] 41) = W2 at *
  have hst2 := sto_own (P := Try.prog) (T := 3) (w := W2) (g := W1.heap.size) (o := 0) (k := 0) (x := .int .i64 a) (by simp only [ty]) hb (by simp) rfl
  have hbU : (W2.setCell ⟨W1.heap.size, 0, none⟩ (.int .i64 a)).heap[W1.heap.size]? = some (.cells #[.int .i64 a, .int .i64 gNest.rules, nv, tv, cv] 41 (0, 0)) := by rw [heap_set_same, hb]; rfl
  have hx3 : Ext W1 (W2.setCell ⟨W1.heap.size, 0, none⟩ (.int .i64 a)) := hx2.st (Nat.le_refl _) _
  simp (disch := first | omega | assumption | (simp only [O1, World.size_alloc, World.size_setCell, World.size_drew]; first | done | omega)) only [O1, D2, ↓H0, S0, ↓S1, ↓S2, ↓S3, ↓S4, S5, S5b, S5c, ↓S6, S6b, M0, E0, ty, tl, te, tc, i64_wrap, u64_wrap, iaV_sl, iaV_arr, faV_pa, nck_pa, heap_new, heap_old, heap_set, ↓reduceIte, Nat.reduceEqDiff, Nat.reduceLT, Nat.reduceAdd, Int.reduceLT, Int.reduceLE, decide_false, decide_true, dec_true, dec_false, true_and, and_true, true_imp_iff, Bool.not_true, Bool.not_false, Option.map_none, Int.reduceToNat, Int.toNat_zero, Int.toNat_one, lkV_false, lkV_true, hb, hst2]
  generalize W2.setCell ⟨W1.heap.size, 0, none⟩ (.int .i64 a) = X at hbU hx3 ⊢
  generalize W1.heap.size = bg at *
  have hg2 : RepPG X (.agg #[.int .i64 a, .int .i64 gNest.rules, nv, tv, cv]) (gNestA a) := ⟨_, _, _, rfl, hN.ext hx3, hT.ext hx3, hP.ext hx3⟩
  have hxX : Ext w X := hx01.tr hx3
  clear hst hst2 hb hx2
  obtain ⟨h, hh⟩ : ∃ h, h = min zs.length 10 := ⟨_, rfl⟩
  have hmin : (if (10 : Int) < (zs.length : Int) then (10 : Int) else (zs.length : Int)) = ((h : Nat) : Int) := by rw [hh]; split <;> omega
  have hsl := slV_hi sl23 (A := A) (len := zs.length) (cap := c) (h := h) (k := .i64) (by omega) hc
  obtain ⟨x, hxz⟩ : ∃ x, x = zs.take h := ⟨_, rfl⟩
  have hxl : x.length = h := by rw [hxz, List.length_take]; omega
  have hAx : ∀ i (hi : i < x.length), rd w A i = some (.int .i64 x[i]) := fun i hi => by
    subst hxz
    rw [List.getElem_take]; exact hA i (by omega)
  simp (disch := first | omega | assumption | (simp only [O1, World.size_alloc, World.size_setCell, World.size_drew]; first | done | omega)) only [O1, D2, ↓H0, S0, ↓S1, ↓S2, ↓S3, ↓S4, S5, S5b, S5c, ↓S6, S6b, M0, E0, ty, tl, te, tc, i64_wrap, u64_wrap, iaV_sl, iaV_arr, faV_pa, nck_pa, heap_new, heap_old, heap_set, ↓reduceIte, Nat.reduceEqDiff, Nat.reduceLT, Nat.reduceAdd, Int.reduceLT, Int.reduceLE, decide_false, decide_true, dec_true, dec_false, true_and, and_true, true_imp_iff, Bool.not_true, Bool.not_false, Option.map_none, Int.reduceToNat, Int.toNat_zero, Int.toNat_one, lkV_false, lkV_true, hmin, hsl, bsl0 sl23]
  have hl10 : x.length ≤ 10 := by omega
  have hxa := hxX.al (.cells #[] 3)
  have hz0 := heap_new (w := X) (.cells #[] 3) rfl
  rw [← hxl]
  refine RunA_zero (enc := Value.int .i64) sl23 hz0 (fun i hi => hxa.rd (hAx i hi)) (fun _ => rfl) (by omega) (by omega) ?_
  intro v' W3 hR hxR hown
  have hI3 := hR.sq
  obtain ⟨RA, rc, rfl, hrc, hRA⟩ := hI3
  have hxX3 : Ext X W3 := ((Ext.rfl' X).al _).tr hxR
  simp (disch := first | omega | assumption | (simp only [O1, World.size_alloc, World.size_setCell, World.size_drew]; first | done | omega)) only [O1, D2, ↓H0, S0, ↓S1, ↓S2, ↓S3, ↓S4, S5, S5b, S5c, ↓S6, S6b, M0, E0, ty, tl, te, tc, i64_wrap, u64_wrap, iaV_sl, iaV_arr, faV_pa, nck_pa, heap_new, heap_old, heap_set, ↓reduceIte, Nat.reduceEqDiff, Nat.reduceLT, Nat.reduceAdd, Int.reduceLT, Int.reduceLE, decide_false, decide_true, dec_true, dec_false, true_and, and_true, true_imp_iff, Bool.not_true, Bool.not_false, Option.map_none, Int.reduceToNat, Int.toNat_zero, Int.toNat_one, lkV_false, lkV_true]
  refine ⟨fun k t U => ∃ i : Nat, k + i = x.length ∧ U = W3 ∧ t 1 = .int .i64 n ∧ t 2 = .slice RA x.length rc ∧ t 7 = pa (some ⟨bg, 0, none⟩) 0 ∧ t 8 = .bool (decide (a = 0) && inB (x.take i)) ∧ t 9 = .int .i64 i, ⟨x.length, 0, by omega, rfl, ?_⟩, ?_⟩
  · simp (disch := first | omega | assumption | (simp only [O1, World.size_alloc, World.size_setCell, World.size_drew]; first | done | omega)) only [O1, D2, ↓H0, S0, ↓S1, ↓S2, ↓S3, ↓S4, S5, S5b, S5c, ↓S6, S6b, M0, E0, ty, tl, te, tc, i64_wrap, u64_wrap, iaV_sl, iaV_arr, faV_pa, nck_pa, heap_new, heap_old, heap_set, ↓reduceIte, Nat.reduceEqDiff, Nat.reduceLT, Nat.reduceAdd, Int.reduceLT, Int.reduceLE, decide_false, decide_true, dec_true, dec_false, true_and, and_true, true_imp_iff, Bool.not_true, Bool.not_false, Option.map_none, Int.reduceToNat, Int.toNat_zero, Int.toNat_one, lkV_false, lkV_true]
    simp [inB]
  rintro k t U ⟨i, hk, rfl, f1, f2, f7, f8, f9⟩
  simp (disch := first | omega | assumption | (simp only [O1, World.size_alloc, World.size_setCell, World.size_drew]; first | done | omega)) only [O1, D2, ↓H0, S0, ↓S1, ↓S2, ↓S3, ↓S4, S5, S5b, S5c, ↓S6, S6b, M0, E0, ty, tl, te, tc, i64_wrap, u64_wrap, iaV_sl, iaV_arr, faV_pa, nck_pa, heap_new, heap_old, heap_set, ↓reduceIte, Nat.reduceEqDiff, Nat.reduceLT, Nat.reduceAdd, Int.reduceLT, Int.reduceLE, decide_false, decide_true, dec_true, dec_false, true_and, and_true, true_imp_iff, Bool.not_true, Bool.not_false, Option.map_none, Int.reduceToNat, Int.toNat_zero, Int.toNat_one, lkV_false, lkV_true, f1, f2, f7, f8, f9]
  obtain ⟨m, hm, hand⟩ := andI n 7 (by omega)
  have hand' : IntKind.i64.wrap ((BitVec.ofInt IntKind.i64.bits n &&& BitVec.ofInt IntKind.i64.bits 7).toNat : Int) = (m : Int) := hand
  have e60 : (60 : Int) + (m : Int) = ((60 + m : Nat) : Int) := by omega
  refine Br_if (fun h1 => ?_) (fun h1' => ?_) <;> (try simp (disch := first | omega | assumption | (simp only [O1, World.size_alloc, World.size_setCell, World.size_drew]; first | done | omega)) only [O1, D2, ↓H0, S0, ↓S1, ↓S2, ↓S3, ↓S4, S5, S5b, S5c, ↓S6, S6b, M0, E0, ty, tl, te, tc, i64_wrap, u64_wrap, iaV_sl, iaV_arr, faV_pa, nck_pa, heap_new, heap_old, heap_set, ↓reduceIte, Nat.reduceEqDiff, Nat.reduceLT, Nat.reduceAdd, Int.reduceLT, Int.reduceLE, decide_false, decide_true, dec_true, dec_false, true_and, and_true, true_imp_iff, Bool.not_true, Bool.not_false, Option.map_none, Int.reduceToNat, Int.toNat_zero, Int.toNat_one, lkV_false, lkV_true, f1, f2, f7, f9, hand', e60])
  · have hi : i < x.length := by omega
    have hs := hRA i hi
    have hAs := rd_isSome hs
    have htk : x.take (i + 1) = x.take i ++ [x[i]] := List.take_succ_eq_append_getElem hi
    have hnx : inB (x.take (i + 1)) = (inB (x.take i) && (decide (0 ≤ x[i]) && decide (x[i] < 3))) := by rw [htk, inB_snoc]
    cases hz : decide (a = 0) && inB (x.take i) with
    | true =>
      rw [hz] at f8
      rw [Bool.and_eq_true] at hz
      by_cases h0 : 0 ≤ x[i]
      · have d1 : decide (0 ≤ x[i]) = true := decide_eq_true h0
        simp (disch := first | omega | assumption | (simp only [O1, World.size_alloc, World.size_setCell, World.size_drew]; first | done | omega)) only [O1, D2, ↓H0, S0, ↓S1, ↓S2, ↓S3, ↓S4, S5, S5b, S5c, ↓S6, S6b, M0, E0, ty, tl, te, tc, i64_wrap, u64_wrap, iaV_sl, iaV_arr, faV_pa, nck_pa, heap_new, heap_old, heap_set, ↓reduceIte, Nat.reduceEqDiff, Nat.reduceLT, Nat.reduceAdd, Int.reduceLT, Int.reduceLE, decide_false, decide_true, dec_true, dec_false, true_and, and_true, true_imp_iff, Bool.not_true, Bool.not_false, Option.map_none, Int.reduceToNat, Int.toNat_zero, Int.toNat_one, lkV_false, lkV_true, f1, f2, f7, f8, f9, hs, d1]
        exact ⟨k - 1, by omega, i + 1, by omega, by rw [hnx, hz.1, hz.2, d1]; simp, rfl⟩
      · have d1 : decide (0 ≤ x[i]) = false := decide_eq_false h0
        simp (disch := first | omega | assumption | (simp only [O1, World.size_alloc, World.size_setCell, World.size_drew]; first | done | omega)) only [O1, D2, ↓H0, S0, ↓S1, ↓S2, ↓S3, ↓S4, S5, S5b, S5c, ↓S6, S6b, M0, E0, ty, tl, te, tc, i64_wrap, u64_wrap, iaV_sl, iaV_arr, faV_pa, nck_pa, heap_new, heap_old, heap_set, ↓reduceIte, Nat.reduceEqDiff, Nat.reduceLT, Nat.reduceAdd, Int.reduceLT, Int.reduceLE, decide_false, decide_true, dec_true, dec_false, true_and, and_true, true_imp_iff, Bool.not_true, Bool.not_false, Option.map_none, Int.reduceToNat, Int.toNat_zero, Int.toNat_one, lkV_false, lkV_true, f1, f2, f7, f8, f9, hs, d1]
        exact ⟨k - 1, by omega, i + 1, by omega, by rw [hnx, d1]; simp, rfl⟩
    | false =>
      rw [hz] at f8
      simp (disch := first | omega | assumption | (simp only [O1, World.size_alloc, World.size_setCell, World.size_drew]; first | done | omega)) only [O1, D2, ↓H0, S0, ↓S1, ↓S2, ↓S3, ↓S4, S5, S5b, S5c, ↓S6, S6b, M0, E0, ty, tl, te, tc, i64_wrap, u64_wrap, iaV_sl, iaV_arr, faV_pa, nck_pa, heap_new, heap_old, heap_set, ↓reduceIte, Nat.reduceEqDiff, Nat.reduceLT, Nat.reduceAdd, Int.reduceLT, Int.reduceLE, decide_false, decide_true, dec_true, dec_false, true_and, and_true, true_imp_iff, Bool.not_true, Bool.not_false, Option.map_none, Int.reduceToNat, Int.toNat_zero, Int.toNat_one, lkV_false, lkV_true, f1, f2, f7, f8, f9, hs]
      refine ⟨k - 1, by omega, i + 1, by omega, ?_, rfl⟩
      rw [hnx, ← Bool.and_assoc, hz]; simp
  · have hi : i = x.length := by omega
    subst hi
    rw [List.take_length] at f8
    have hbU3 := hxX3.hp hbU
    simp (disch := first | omega | assumption | (simp only [O1, World.size_alloc, World.size_setCell, World.size_drew]; first | done | omega)) only [O1, D2, ↓H0, S0, ↓S1, ↓S2, ↓S3, ↓S4, S5, S5b, S5c, ↓S6, S6b, M0, E0, ty, tl, te, tc, i64_wrap, u64_wrap, iaV_sl, iaV_arr, faV_pa, nck_pa, heap_new, heap_old, heap_set, ↓reduceIte, Nat.reduceEqDiff, Nat.reduceLT, Nat.reduceAdd, Int.reduceLT, Int.reduceLE, decide_false, decide_true, dec_true, dec_false, true_and, and_true, true_imp_iff, Bool.not_true, Bool.not_false, Option.map_none, Int.reduceToNat, Int.toNat_zero, Int.toNat_one, lkV_false, lkV_true, f1, f2, f7, f8, hand', e60, hbU3, ldA5]
    refine (makeE_ok _ _ (gNestA a) x U (hg2.ext hxX3) (gNest_small a) ⟨RA, rc, rfl, hrc, hRA⟩ (by omega)).then ?_
    rintro cv W4 ⟨hcv, hx4⟩
    have hcv0 : ChartV W4 cv (gNestA a) x := hcv
    have hok : OkW (gNestA a) x ↔ a = 0 ∧ ∀ s ∈ x, 0 ≤ s ∧ s < 3 := by rw [gNestA_ok]; exact ⟨fun h => ⟨h.1, h.2.2⟩, fun h => ⟨h.1, by omega, h.2⟩⟩
    obtain ⟨zb, hzb⟩ : ∃ zb, zb = (decide (a = 0) && inB x) := ⟨_, rfl⟩
    rw [← hzb] at f8
    have hzk : zb = true ↔ OkW (gNestA a) x := by rw [hzb, hok, Bool.and_eq_true, decide_eq_true_iff, inB_iff]
    have hn0 : binT Try.prog .neq 61 cv (.pointer none) = some (.bool zb) := by
      rcases hcv with ⟨h, rfl⟩ | ⟨h, Q, rfl, _⟩
      · have : zb = false := by cases zb with
          | false => rfl
          | true => exact absurd (hzk.1 rfl) h
        rw [this]; simp only [te]; rfl
      · rw [hzk.2 h]; simp only [te]; rfl
    have hx4d := (Ext.rfl' W4).dr
    simp (disch := first | omega | assumption | (simp only [O1, World.size_alloc, World.size_setCell, World.size_drew]; first | done | omega)) only [O1, D2, ↓H0, S0, ↓S1, ↓S2, ↓S3, ↓S4, S5, S5b, S5c, ↓S6, S6b, M0, E0, ty, tl, te, tc, i64_wrap, u64_wrap, iaV_sl, iaV_arr, faV_pa, nck_pa, heap_new, heap_old, heap_set, ↓reduceIte, Nat.reduceEqDiff, Nat.reduceLT, Nat.reduceAdd, Int.reduceLT, Int.reduceLE, decide_false, decide_true, dec_true, dec_false, true_and, and_true, true_imp_iff, Bool.not_true, Bool.not_false, Option.map_none, Int.reduceToNat, Int.toNat_zero, Int.toNat_one, lkV_false, lkV_true, f1, f2, f7, f8]
    refine Dr_rg ([]) (fun _ => true) [0, 1, 2, 3, 4, 5, 8, 6, 7, 9, 10, 11, 13, 17, 18] [(12, [], [66]), (14, [], [64])] [15, 16, 19, 20, 21, 22, 23, 24, 25, 26, 27, 28, 29, 30, 31, 32, 33, 34, 35, 36, 37, 38, 39, 40] [64, 66] mixed (by kernel_rfl) ?_
    simp (disch := first | omega | assumption | (simp only [O1, World.size_alloc, World.size_setCell, World.size_drew]; first | done | omega)) only [↓D1, ↓D3, ↓D4, List.not_mem_nil, not_false_eq_true, Bool.false_eq_true, false_imp_iff, upto, O1, D2, ↓H0, S0, ↓S1, ↓S2, ↓S3, ↓S4, S5, S5b, S5c, ↓S6, S6b, M0, E0, ty, tl, te, tc, i64_wrap, u64_wrap, iaV_sl, iaV_arr, faV_pa, nck_pa, heap_new, heap_old, heap_set, ↓reduceIte, Nat.reduceEqDiff, Nat.reduceLT, Nat.reduceAdd, Int.reduceLT, Int.reduceLE, decide_false, decide_true, dec_true, dec_false, true_and, and_true, true_imp_iff, Bool.not_true, Bool.not_false, Option.map_none, Int.reduceToNat, Int.toNat_zero, Int.toNat_one, lkV_false, lkV_true, f1, f2, f7, f8, hn0]
    refine (goodE_ok cv (gNestA a) x _ (hcv0.ext hx4d)).then ?_
    rintro _ W5 ⟨⟨gn, rfl, hgn⟩, rfl⟩
    have hgd : decide (0 ≤ gn) = zb := by
      rw [Bool.eq_iff_iff, decide_eq_true_iff, hzk]
      rcases hgn with ⟨h, e⟩ | ⟨h, h1, h2, h3⟩
      · exact ⟨fun h2 => by omega, fun h2 => absurd h2 h⟩
      · refine ⟨fun _ => h, fun _ => ?_⟩
        have h0 : a = 0 := (hok.1 h).1
        exact (h3 0 (Nat.zero_le _)).2 ⟨[2], by subst h0; exact nest_iff.2 .z⟩
    simp (disch := first | omega | assumption | (simp only [O1, World.size_alloc, World.size_setCell, World.size_drew]; first | done | omega)) only [↓D1, ↓D3, ↓D4, List.not_mem_nil, not_false_eq_true, Bool.false_eq_true, false_imp_iff, upto, O1, D2, ↓H0, S0, ↓S1, ↓S2, ↓S3, ↓S4, S5, S5b, S5c, ↓S6, S6b, M0, E0, ty, tl, te, tc, i64_wrap, u64_wrap, iaV_sl, iaV_arr, faV_pa, nck_pa, heap_new, heap_old, heap_set, ↓reduceIte, Nat.reduceEqDiff, Nat.reduceLT, Nat.reduceAdd, Int.reduceLT, Int.reduceLE, decide_false, decide_true, dec_true, dec_false, true_and, and_true, true_imp_iff, Bool.not_true, Bool.not_false, Option.map_none, Int.reduceToNat, Int.toNat_zero, Int.toNat_one, lkV_false, lkV_true, f1, f2, f7, f8, hn0, hgd]
    refine ⟨rgA [(12, fun v w => RepPG w v gNest), (14, fun v w => Ints w v (List.replicate (60 + m) 0))], rg_stab ⟨fun _ _ _ h hx => h.ext hx, fun _ _ _ h hx => h.ext hx, trivial⟩, ⟨?_, ?_, trivial⟩, ?_⟩
    · intro t1 X1 hX hp hf
      simp (disch := first | (simp only [List.mem_cons, List.not_mem_nil, or_false, not_or, Nat.reduceEqDiff, not_false_eq_true, and_self]; done) | omega | assumption | (simp only [O1, World.size_alloc, World.size_setCell, World.size_drew]; first | done | omega)) only [↓G1, rgA_cons, rgA_nil, eq_self, ↓D1, ↓D3, ↓D4, List.not_mem_nil, not_false_eq_true, Bool.false_eq_true, false_imp_iff, upto, O1, D2, ↓H0, S0, ↓S1, ↓S2, ↓S3, ↓S4, S5, S5b, S5c, ↓S6, S6b, M0, E0, ty, tl, te, tc, i64_wrap, u64_wrap, iaV_sl, iaV_arr, faV_pa, nck_pa, heap_new, heap_old, heap_set, ↓reduceIte, Nat.reduceEqDiff, Nat.reduceLT, Nat.reduceAdd, Int.reduceLT, Int.reduceLE, decide_false, decide_true, dec_true, dec_false, true_and, and_true, true_imp_iff, Bool.not_true, Bool.not_false, Option.map_none, Int.reduceToNat, Int.toNat_zero, Int.toNat_one, lkV_false, lkV_true, hf, f1, f2, f7, f8]
      refine (nested17_ok X1).then ?_; rintro d X' ⟨hd, hx⟩
      simp (disch := first | (simp only [List.mem_cons, List.not_mem_nil, or_false, not_or, Nat.reduceEqDiff, not_false_eq_true, and_self]; done) | omega | assumption | (simp only [O1, World.size_alloc, World.size_setCell, World.size_drew]; first | done | omega)) only [↓G1, rgA_cons, rgA_nil, eq_self, ↓D1, ↓D3, ↓D4, List.not_mem_nil, not_false_eq_true, Bool.false_eq_true, false_imp_iff, upto, O1, D2, ↓H0, S0, ↓S1, ↓S2, ↓S3, ↓S4, S5, S5b, S5c, ↓S6, S6b, M0, E0, ty, tl, te, tc, i64_wrap, u64_wrap, iaV_sl, iaV_arr, faV_pa, nck_pa, heap_new, heap_old, heap_set, ↓reduceIte, Nat.reduceEqDiff, Nat.reduceLT, Nat.reduceAdd, Int.reduceLT, Int.reduceLE, decide_false, decide_true, dec_true, dec_false, true_and, and_true, true_imp_iff, Bool.not_true, Bool.not_false, Option.map_none, Int.reduceToNat, Int.toNat_zero, Int.toNat_one, lkV_false, lkV_true]
      exact ⟨hx, hd⟩
    · intro t1 X1 hX hp hf
      simp (disch := first | (simp only [List.mem_cons, List.not_mem_nil, or_false, not_or, Nat.reduceEqDiff, not_false_eq_true, and_self]; done) | omega | assumption | (simp only [O1, World.size_alloc, World.size_setCell, World.size_drew]; first | done | omega)) only [↓G1, rgA_cons, rgA_nil, eq_self, ↓D1, ↓D3, ↓D4, List.not_mem_nil, not_false_eq_true, Bool.false_eq_true, false_imp_iff, upto, O1, D2, ↓H0, S0, ↓S1, ↓S2, ↓S3, ↓S4, S5, S5b, S5c, ↓S6, S6b, M0, E0, ty, tl, te, tc, i64_wrap, u64_wrap, iaV_sl, iaV_arr, faV_pa, nck_pa, heap_new, heap_old, heap_set, ↓reduceIte, Nat.reduceEqDiff, Nat.reduceLT, Nat.reduceAdd, Int.reduceLT, Int.reduceLE, decide_false, decide_true, dec_true, dec_false, true_and, and_true, true_imp_iff, Bool.not_true, Bool.not_false, Option.map_none, Int.reduceToNat, Int.toNat_zero, Int.toNat_one, lkV_false, lkV_true, hf, f1, f2, f7, f8]
      refine RunM_one sl23 rfl (by omega) (by omega) ?_
      simp (disch := first | (simp only [List.mem_cons, List.not_mem_nil, or_false, not_or, Nat.reduceEqDiff, not_false_eq_true, and_self]; done) | omega | assumption | (simp only [O1, World.size_alloc, World.size_setCell, World.size_drew]; first | done | omega)) only [↓G1, rgA_cons, rgA_nil, eq_self, ↓D1, ↓D3, ↓D4, List.not_mem_nil, not_false_eq_true, Bool.false_eq_true, false_imp_iff, upto, O1, D2, ↓H0, S0, ↓S1, ↓S2, ↓S3, ↓S4, S5, S5b, S5c, ↓S6, S6b, M0, E0, ty, tl, te, tc, i64_wrap, u64_wrap, iaV_sl, iaV_arr, faV_pa, nck_pa, heap_new, heap_old, heap_set, ↓reduceIte, Nat.reduceEqDiff, Nat.reduceLT, Nat.reduceAdd, Int.reduceLT, Int.reduceLE, decide_false, decide_true, dec_true, dec_false, true_and, and_true, true_imp_iff, Bool.not_true, Bool.not_false, Option.map_none, Int.reduceToNat, Int.toNat_zero, Int.toNat_one, lkV_false, lkV_true]
      refine ⟨(Ext.rfl' X1).al _, some ⟨X1.heap.size, 0, none⟩, 60 + m, by simp, by simp, fun i hi => ?_⟩
      rw [rd_own, heap_new _ rfl]
      simp at hi
      simp [cellO, hi]
    · intro t1 X1 hX hp hf
      simp only [rgPre, D2, G0, ↓reduceIte, Nat.reduceEqDiff, Nat.reduceLT, Nat.reduceAdd, and_true, true_and, eq_self, rgA_cons, rgA_nil, List.map_cons, List.map_nil] at hp
      obtain ⟨hg64, hg66⟩ := hp
      have g1 : t1 1 = .int .i64 ((60 + m : Nat) : Int) := by rw [hf 1 (by simp)]; simp (disch := first | omega | assumption | (simp only [O1, World.size_alloc, World.size_setCell, World.size_drew]; first | done | omega)) only [O1, D2, ↓H0, S0, ↓S1, ↓S2, ↓S3, ↓S4, S5, S5b, S5c, ↓S6, S6b, M0, E0, ty, tl, te, tc, i64_wrap, u64_wrap, iaV_sl, iaV_arr, faV_pa, nck_pa, heap_new, heap_old, heap_set, ↓reduceIte, Nat.reduceEqDiff, Nat.reduceLT, Nat.reduceAdd, Int.reduceLT, Int.reduceLE, decide_false, decide_true, dec_true, dec_false, true_and, and_true, true_imp_iff, Bool.not_true, Bool.not_false, Option.map_none, Int.reduceToNat, Int.toNat_zero, Int.toNat_one, lkV_false, lkV_true, f1]
      have g8 : t1 8 = .bool zb := by rw [hf 8 (by simp)]; simp (disch := first | omega | assumption | (simp only [O1, World.size_alloc, World.size_setCell, World.size_drew]; first | done | omega)) only [O1, D2, ↓H0, S0, ↓S1, ↓S2, ↓S3, ↓S4, S5, S5b, S5c, ↓S6, S6b, M0, E0, ty, tl, te, tc, i64_wrap, u64_wrap, iaV_sl, iaV_arr, faV_pa, nck_pa, heap_new, heap_old, heap_set, ↓reduceIte, Nat.reduceEqDiff, Nat.reduceLT, Nat.reduceAdd, Int.reduceLT, Int.reduceLE, decide_false, decide_true, dec_true, dec_false, true_and, and_true, true_imp_iff, Bool.not_true, Bool.not_false, Option.map_none, Int.reduceToNat, Int.toNat_zero, Int.toNat_one, lkV_false, lkV_true, f8]
      have g10 : t1 10 = cv := by rw [hf 10 (by simp)]; simp (disch := first | omega | assumption | (simp only [O1, World.size_alloc, World.size_setCell, World.size_drew]; first | done | omega)) only [O1, D2, ↓H0, S0, ↓S1, ↓S2, ↓S3, ↓S4, S5, S5b, S5c, ↓S6, S6b, M0, E0, ty, tl, te, tc, i64_wrap, u64_wrap, iaV_sl, iaV_arr, faV_pa, nck_pa, heap_new, heap_old, heap_set, ↓reduceIte, Nat.reduceEqDiff, Nat.reduceLT, Nat.reduceAdd, Int.reduceLT, Int.reduceLE, decide_false, decide_true, dec_true, dec_false, true_and, and_true, true_imp_iff, Bool.not_true, Bool.not_false, Option.map_none, Int.reduceToNat, Int.toNat_zero, Int.toNat_one, lkV_false, lkV_true, f8]
      have g63 : t1 63 = .bool true := by rw [hf 63 (by simp)]; simp (disch := first | omega | assumption | (simp only [O1, World.size_alloc, World.size_setCell, World.size_drew]; first | done | omega)) only [O1, D2, ↓H0, S0, ↓S1, ↓S2, ↓S3, ↓S4, S5, S5b, S5c, ↓S6, S6b, M0, E0, ty, tl, te, tc, i64_wrap, u64_wrap, iaV_sl, iaV_arr, faV_pa, nck_pa, heap_new, heap_old, heap_set, ↓reduceIte, Nat.reduceEqDiff, Nat.reduceLT, Nat.reduceAdd, Int.reduceLT, Int.reduceLE, decide_false, decide_true, dec_true, dec_false, true_and, and_true, true_imp_iff, Bool.not_true, Bool.not_false, Option.map_none, Int.reduceToNat, Int.toNat_zero, Int.toNat_one, lkV_false, lkV_true, f8]
      have g65 : t1 65 = .int .i64 ((60 + m : Nat) : Int) := by rw [hf 65 (by simp)]; simp (disch := first | omega | assumption | (simp only [O1, World.size_alloc, World.size_setCell, World.size_drew]; first | done | omega)) only [O1, D2, ↓H0, S0, ↓S1, ↓S2, ↓S3, ↓S4, S5, S5b, S5c, ↓S6, S6b, M0, E0, ty, tl, te, tc, i64_wrap, u64_wrap, iaV_sl, iaV_arr, faV_pa, nck_pa, heap_new, heap_old, heap_set, ↓reduceIte, Nat.reduceEqDiff, Nat.reduceLT, Nat.reduceAdd, Int.reduceLT, Int.reduceLE, decide_false, decide_true, dec_true, dec_false, true_and, and_true, true_imp_iff, Bool.not_true, Bool.not_false, Option.map_none, Int.reduceToNat, Int.toNat_zero, Int.toNat_one, lkV_false, lkV_true, f8]
      have g69 : t1 69 = .int .i64 ((60 + m : Nat) : Int) := by rw [hf 69 (by simp)]; simp (disch := first | omega | assumption | (simp only [O1, World.size_alloc, World.size_setCell, World.size_drew]; first | done | omega)) only [O1, D2, ↓H0, S0, ↓S1, ↓S2, ↓S3, ↓S4, S5, S5b, S5c, ↓S6, S6b, M0, E0, ty, tl, te, tc, i64_wrap, u64_wrap, iaV_sl, iaV_arr, faV_pa, nck_pa, heap_new, heap_old, heap_set, ↓reduceIte, Nat.reduceEqDiff, Nat.reduceLT, Nat.reduceAdd, Int.reduceLT, Int.reduceLE, decide_false, decide_true, dec_true, dec_false, true_and, and_true, true_imp_iff, Bool.not_true, Bool.not_false, Option.map_none, Int.reduceToNat, Int.toNat_zero, Int.toNat_one, lkV_false, lkV_true, f8]
      have g70 : t1 70 = .bool (decide (((60 + m : Nat) : Int) ≤ 64)) := by rw [hf 70 (by simp)]; simp (disch := first | omega | assumption | (simp only [O1, World.size_alloc, World.size_setCell, World.size_drew]; first | done | omega)) only [O1, D2, ↓H0, S0, ↓S1, ↓S2, ↓S3, ↓S4, S5, S5b, S5c, ↓S6, S6b, M0, E0, ty, tl, te, tc, i64_wrap, u64_wrap, iaV_sl, iaV_arr, faV_pa, nck_pa, heap_new, heap_old, heap_set, ↓reduceIte, Nat.reduceEqDiff, Nat.reduceLT, Nat.reduceAdd, Int.reduceLT, Int.reduceLE, decide_false, decide_true, dec_true, dec_false, true_and, and_true, true_imp_iff, Bool.not_true, Bool.not_false, Option.map_none, Int.reduceToNat, Int.toNat_zero, Int.toNat_one, lkV_false, lkV_true, f8]
      clear hf f1 f2 f7 f8
      simp (disch := first | (simp only [List.mem_cons, List.not_mem_nil, or_false, not_or, Nat.reduceEqDiff, not_false_eq_true, and_self]; done) | omega | assumption | (simp only [O1, World.size_alloc, World.size_setCell, World.size_drew]; first | done | omega)) only [↓G1, rgA_cons, rgA_nil, eq_self, ↓D1, ↓D3, ↓D4, List.not_mem_nil, not_false_eq_true, Bool.false_eq_true, false_imp_iff, upto, O1, D2, ↓H0, S0, ↓S1, ↓S2, ↓S3, ↓S4, S5, S5b, S5c, ↓S6, S6b, M0, E0, ty, tl, te, tc, i64_wrap, u64_wrap, iaV_sl, iaV_arr, faV_pa, nck_pa, heap_new, heap_old, heap_set, ↓reduceIte, Nat.reduceEqDiff, Nat.reduceLT, Nat.reduceAdd, Int.reduceLT, Int.reduceLE, decide_false, decide_true, dec_true, dec_false, true_and, and_true, true_imp_iff, Bool.not_true, Bool.not_false, Option.map_none, Int.reduceToNat, Int.toNat_zero, Int.toNat_one, lkV_false, lkV_true, g1, g8, g10, g63, g65, g69, g70]
      refine (makeE_ok _ _ gNest _ X1 hg64 gNest_small0 hg66 (by simp; omega)).then ?_
      rintro c4 Y ⟨h4, hxy⟩
      have hKy := Keep.of_ext hxy []
      have hw4 : OkW gNest (List.replicate (60 + m) 0) ↔ ((60 + m : Nat) : Int) ≤ 64 := by
        constructor
        · intro h; have := h.2.1; simp at this; omega
        · intro h; exact okNest (fun t ht => by have := List.eq_of_mem_replicate ht; omega) (by simp; omega)
      have hn4 : binT Try.prog .neq 61 c4 (.pointer none) = some (.bool (decide (((60 + m : Nat) : Int) ≤ 64))) := by
        rcases h4 with ⟨h, rfl⟩ | ⟨h, Q, rfl, _⟩
        · rw [decide_eq_false (fun e => h (hw4.2 e))]; simp only [te]; rfl
        · rw [decide_eq_true (hw4.1 h)]; simp only [te]; rfl
      clear h4
      have hW4Y : Ext W4 Y := (hx4d.tr hX).tr hxy
      have hcvY := hcv0.ext hW4Y
      have hwY : Ext w Y := ((hxX.tr hxX3).tr hx4).tr hW4Y
      cases zb with
      | true =>
        simp (disch := first | (simp only [List.mem_cons, List.not_mem_nil, or_false, not_or, Nat.reduceEqDiff, not_false_eq_true, and_self]; done) | omega | assumption | (simp only [O1, World.size_alloc, World.size_setCell, World.size_drew]; first | done | omega)) only [↓G1, rgA_cons, rgA_nil, eq_self, ↓D1, ↓D3, ↓D4, List.not_mem_nil, not_false_eq_true, Bool.false_eq_true, false_imp_iff, upto, O1, D2, ↓H0, S0, ↓S1, ↓S2, ↓S3, ↓S4, S5, S5b, S5c, ↓S6, S6b, M0, E0, ty, tl, te, tc, i64_wrap, u64_wrap, iaV_sl, iaV_arr, faV_pa, nck_pa, heap_new, heap_old, heap_set, ↓reduceIte, Nat.reduceEqDiff, Nat.reduceLT, Nat.reduceAdd, Int.reduceLT, Int.reduceLE, decide_false, decide_true, dec_true, dec_false, true_and, and_true, true_imp_iff, Bool.not_true, Bool.not_false, Option.map_none, Int.reduceToNat, Int.toNat_zero, Int.toNat_one, lkV_false, lkV_true, g1, g8, g10, g63, g65, g69, g70, hn4, hKy]
        exact hwY
      | false =>
        have hno : ¬ OkW (gNestA a) x := fun h => by have := hzk.2 h; cases this
        simp (disch := first | (simp only [List.mem_cons, List.not_mem_nil, or_false, not_or, Nat.reduceEqDiff, not_false_eq_true, and_self]; done) | omega | assumption | (simp only [O1, World.size_alloc, World.size_setCell, World.size_drew]; first | done | omega)) only [↓G1, rgA_cons, rgA_nil, eq_self, ↓D1, ↓D3, ↓D4, List.not_mem_nil, not_false_eq_true, Bool.false_eq_true, false_imp_iff, upto, O1, D2, ↓H0, S0, ↓S1, ↓S2, ↓S3, ↓S4, S5, S5b, S5c, ↓S6, S6b, M0, E0, ty, tl, te, tc, i64_wrap, u64_wrap, iaV_sl, iaV_arr, faV_pa, nck_pa, heap_new, heap_old, heap_set, ↓reduceIte, Nat.reduceEqDiff, Nat.reduceLT, Nat.reduceAdd, Int.reduceLT, Int.reduceLE, decide_false, decide_true, dec_true, dec_false, true_and, and_true, true_imp_iff, Bool.not_true, Bool.not_false, Option.map_none, Int.reduceToNat, Int.toNat_zero, Int.toNat_one, lkV_false, lkV_true, g1, g8, g10, g63, g65, g69, g70, hn4, hKy]
        refine (yesE_ok cv (gNestA a) x Y hcvY).then ?_
        rintro _ Y2 ⟨⟨b, rfl, hb⟩, hy2⟩
        have hb0 : b = false := by cases b with
          | false => rfl
          | true => exact absurd (hb.1 rfl).1 hno
        subst hb0
        have hK2 := Keep.of_ext hy2 []
        simp (disch := first | (simp only [List.mem_cons, List.not_mem_nil, or_false, not_or, Nat.reduceEqDiff, not_false_eq_true, and_self]; done) | omega | assumption | (simp only [O1, World.size_alloc, World.size_setCell, World.size_drew]; first | done | omega)) only [↓G1, rgA_cons, rgA_nil, eq_self, ↓D1, ↓D3, ↓D4, List.not_mem_nil, not_false_eq_true, Bool.false_eq_true, false_imp_iff, upto, O1, D2, ↓H0, S0, ↓S1, ↓S2, ↓S3, ↓S4, S5, S5b, S5c, ↓S6, S6b, M0, E0, ty, tl, te, tc, i64_wrap, u64_wrap, iaV_sl, iaV_arr, faV_pa, nck_pa, heap_new, heap_old, heap_set, ↓reduceIte, Nat.reduceEqDiff, Nat.reduceLT, Nat.reduceAdd, Int.reduceLT, Int.reduceLE, decide_false, decide_true, dec_true, dec_false, true_and, and_true, true_imp_iff, Bool.not_true, Bool.not_false, Option.map_none, Int.reduceToNat, Int.toNat_zero, Int.toNat_one, lkV_false, lkV_true, g1, g8, g10, g63, g65, g69, g70, hK2]
        refine (nextE_ok cv 0 (gNestA a) x Y2 (hcvY.ext hy2)).then ?_
        rintro nvv Y3 ⟨⟨xs, hxs, _, hxi⟩, hy3⟩
        have hxs0 : xs = [] := by
          cases xs with
          | nil => rfl
          | cons y ys => exact absurd ((hxi y).1 (by simp)).1 hno
        subst hxs0
        obtain ⟨NA, ncc, rfl, _, _⟩ := hxs
        have hK3 := Keep.of_ext hy3 []
        simp (disch := first | (simp only [List.mem_cons, List.not_mem_nil, or_false, not_or, Nat.reduceEqDiff, not_false_eq_true, and_self]; done) | omega | assumption | (simp only [O1, World.size_alloc, World.size_setCell, World.size_drew]; first | done | omega)) only [↓G1, rgA_cons, rgA_nil, eq_self, ↓D1, ↓D3, ↓D4, List.not_mem_nil, not_false_eq_true, Bool.false_eq_true, false_imp_iff, upto, O1, D2, ↓H0, S0, ↓S1, ↓S2, ↓S3, ↓S4, S5, S5b, S5c, ↓S6, S6b, M0, E0, ty, tl, te, tc, i64_wrap, u64_wrap, iaV_sl, iaV_arr, faV_pa, nck_pa, heap_new, heap_old, heap_set, ↓reduceIte, Nat.reduceEqDiff, Nat.reduceLT, Nat.reduceAdd, Int.reduceLT, Int.reduceLE, decide_false, decide_true, dec_true, dec_false, true_and, and_true, true_imp_iff, Bool.not_true, Bool.not_false, Option.map_none, Int.reduceToNat, Int.toNat_zero, Int.toNat_one, lkV_false, lkV_true, g1, g8, g10, g63, g65, g69, g70, hK3, List.length_nil]
        refine (endsE_ok cv 0 (gNestA a) x Y3 ((hcvY.ext hy2).ext hy3)).then ?_
        rintro _ Y4 ⟨⟨b, rfl, hb⟩, hy4⟩
        have hb0 : b = false := by cases b with
          | false => rfl
          | true => exact absurd (hb.1 rfl).1 hno
        subst hb0
        have hK4 := Keep.of_ext hy4 []
        simp (disch := first | (simp only [List.mem_cons, List.not_mem_nil, or_false, not_or, Nat.reduceEqDiff, not_false_eq_true, and_self]; done) | omega | assumption | (simp only [O1, World.size_alloc, World.size_setCell, World.size_drew]; first | done | omega)) only [↓G1, rgA_cons, rgA_nil, eq_self, ↓D1, ↓D3, ↓D4, List.not_mem_nil, not_false_eq_true, Bool.false_eq_true, false_imp_iff, upto, O1, D2, ↓H0, S0, ↓S1, ↓S2, ↓S3, ↓S4, S5, S5b, S5c, ↓S6, S6b, M0, E0, ty, tl, te, tc, i64_wrap, u64_wrap, iaV_sl, iaV_arr, faV_pa, nck_pa, heap_new, heap_old, heap_set, ↓reduceIte, Nat.reduceEqDiff, Nat.reduceLT, Nat.reduceAdd, Int.reduceLT, Int.reduceLE, decide_false, decide_true, dec_true, dec_false, true_and, and_true, true_imp_iff, Bool.not_true, Bool.not_false, Option.map_none, Int.reduceToNat, Int.toNat_zero, Int.toNat_one, lkV_false, lkV_true, g1, g8, g10, g63, g65, g69, g70, hK4]
        exact ((hwY.tr hy2).tr hy3).tr hy4
end Go.Proofs.Ytgioklmpnbnplaa
