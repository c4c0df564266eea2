/- The walk of the law CykNone. Conditions: none. -/
import Derived.Test.YtgioklmpnbnplaaCl
import Derived.Test.YtgioklmpnbnplaaVh
set_option linter.unusedSimpArgs false
set_option linter.unusedVariables false
set_option maxRecDepth 100000
namespace Go.Proofs.Ytgioklmpnbnplaa
open Go.V

def dbl3 : CG := ⟨0, 1, 1, false, [(0, [-1]), (0, [0, 0]), (0, [0, 0, 0])]⟩
theorem dbl3_small : Small dbl3 := ⟨by simp [dbl3], by simp [dbl3], by simp [dbl3]⟩
theorem dbl3_not : ¬ Norm dbl3 := fun h => by
  have := (h.2.2.2 2 (by simp [dbl3])).2.2.2.2.2
  simp [dbl3] at this
theorem rd_cells {w : World} {base e s n g len cap : Nat} {xs : List Value} (h : w.ownsRow base e s (.slice (some ⟨g, 0, none⟩) len cap) n xs) (j : Nat) (u : Value) (hu : xs[j]? = some u) : rd w (some ⟨g, 0, none⟩) j = some u := by
  simp only [rd, Option.bind_some]; exact h.cells rfl j u hu
theorem cnt_other {x : List Int} {A : Int} (h : A ≠ 0) (i j : Nat) : cnt dbl x i j A = 0 := by
  by_cases h1 : i + 1 < j
  · rw [cnt, tab_step _ _ _ _ h1]
    have : ∀ m, sumK (fun k => totP dbl.prods (tab (un dbl x) (totP dbl.prods) i k) (tab (un dbl x) (totP dbl.prods) k j) A) (i + 1) m = 0 := by
      intro m
      induction m with
      | zero => rfl
      | succ m ih => simp only [sumK, ih]; simp [totP, one, dbl, Ne.symm h]
    rw [this]; rfl
  · unfold cnt tab
    cases hd : j - i with
    | zero => rfl
    | succ d =>
      obtain rfl : j = i + 1 := by omega
      simp only [tabF, if_true, un]
      rw [if_neg]
      unfold F6
      intro hm
      obtain ⟨p, hp, rfl⟩ := List.mem_map.1 hm
      have := (List.mem_filter.1 hp).1
      simp [dbl] at this
      rcases this with rfl | rfl <;> exact h rfl
set_option maxHeartbeats 4000000 in
theorem none_ok (zs : List Int) (xv : Value) (n p q r : Int) (w : World) (hx : Ints w xv zs) : Ok Try.prog 4 #[xv, .int .i64 n, .agg #[.int .i64 p, .int .i64 q, .int .i64 r]] w fun v w' => v = .bool true ∧ Ext w w' := by
  obtain ⟨A, c, rfl, hc, hA⟩ := hx
  (refine Ok.enter Try.func4 rfl (by kernel_rfl) (Nat.le_of_ble_eq_true rfl) ?_; simp only [Try.f4, S7])
  simp (disch := first | omega | assumption | (simp only [O1, World.size_alloc, World.size_setCell, World.size_drew]; first | done | omega)) only [O1, D2, ↓H0, S0, ↓S1, ↓S2, ↓S3, ↓S4, S5, S5b, S5c, ↓S6, S6b, M0, E0, ty, tl, te, tc, i64_wrap, u64_wrap, iaV_sl, iaV_arr, faV_pa, nck_pa, heap_new, heap_old, heap_set, ↓reduceIte, Nat.reduceEqDiff, Nat.reduceLT, Nat.reduceAdd, Int.reduceLT, Int.reduceLE, decide_false, decide_true, dec_true, dec_false, true_and, and_true, true_imp_iff, Bool.not_true, Bool.not_false, Option.map_none, Int.reduceToNat, Int.toNat_zero, Int.toNat_one, lkV_false, lkV_true]
  refine (speaks13_ok _).then ?_; rintro _ W ⟨rfl, hx0⟩
  have hxW := ((Ext.rfl' w).al (.cells #[.int .i64 p, .int .i64 q, .int .i64 r] 33)).tr hx0
  have h5 := hx0.hp (heap_new (w := w) (.cells #[.int .i64 p, .int .i64 q, .int .i64 r] 33) rfl)
  obtain ⟨h, hh⟩ : ∃ h, h = min zs.length 20 := ⟨_, rfl⟩
  have hmin : (if (20 : Int) < (zs.length : Int) then (20 : Int) else (zs.length : Int)) = ((h : Nat) : Int) := by rw [hh]; split <;> omega
  have hsl := slV_hi sl23 (A := A) (len := zs.length) (cap := c) (h := h) (k := .i64) (by omega) hc
  obtain ⟨x, hxz⟩ : ∃ x, x = zs.take h := ⟨_, rfl⟩
  have hxl : x.length = h := by rw [hxz, List.length_take]; omega
  have hAx : ∀ i (hi : i < x.length), rd w A i = some (.int .i64 x[i]) := fun i hi => by
    subst hxz
    rw [List.getElem_take]; exact hA i (by omega)
  simp (disch := first | omega | assumption | (simp only [O1, World.size_alloc, World.size_setCell, World.size_drew]; first | done | omega)) only [O1, D2, ↓H0, S0, ↓S1, ↓S2, ↓S3, ↓S4, S5, S5b, S5c, ↓S6, S6b, M0, E0, ty, tl, te, tc, i64_wrap, u64_wrap, iaV_sl, iaV_arr, faV_pa, nck_pa, heap_new, heap_old, heap_set, ↓reduceIte, Nat.reduceEqDiff, Nat.reduceLT, Nat.reduceAdd, Int.reduceLT, Int.reduceLE, decide_false, decide_true, dec_true, dec_false, true_and, and_true, true_imp_iff, Bool.not_true, Bool.not_false, Option.map_none, Int.reduceToNat, Int.toNat_zero, Int.toNat_one, lkV_false, lkV_true, hmin, hsl]
  refine ⟨fun k t U => ∃ i : Nat, k + i = h ∧ U = W ∧ t 0 = .slice A h c ∧ t 1 = .int .i64 n ∧ t 5 = pa (some ⟨w.heap.size, 0, none⟩) 0 ∧ t 7 = .bool (decide (∀ s ∈ x.take i, s = 0)) ∧ t 8 = .int .i64 i, ⟨h, 0, by omega, rfl, ?_⟩, ?_⟩
  · simp (disch := first | omega | assumption | (simp only [O1, World.size_alloc, World.size_setCell, World.size_drew]; first | done | omega)) only [O1, D2, ↓H0, S0, ↓S1, ↓S2, ↓S3, ↓S4, S5, S5b, S5c, ↓S6, S6b, M0, E0, ty, tl, te, tc, i64_wrap, u64_wrap, iaV_sl, iaV_arr, faV_pa, nck_pa, heap_new, heap_old, heap_set, ↓reduceIte, Nat.reduceEqDiff, Nat.reduceLT, Nat.reduceAdd, Int.reduceLT, Int.reduceLE, decide_false, decide_true, dec_true, dec_false, true_and, and_true, true_imp_iff, Bool.not_true, Bool.not_false, Option.map_none, Int.reduceToNat, Int.toNat_zero, Int.toNat_one, lkV_false, lkV_true]
    simp
  rintro k t U ⟨i, hk, rfl, f0, f1, f5, f7, f8⟩
  simp (disch := first | omega | assumption | (simp only [O1, World.size_alloc, World.size_setCell, World.size_drew]; first | done | omega)) only [O1, D2, ↓H0, S0, ↓S1, ↓S2, ↓S3, ↓S4, S5, S5b, S5c, ↓S6, S6b, M0, E0, ty, tl, te, tc, i64_wrap, u64_wrap, iaV_sl, iaV_arr, faV_pa, nck_pa, heap_new, heap_old, heap_set, ↓reduceIte, Nat.reduceEqDiff, Nat.reduceLT, Nat.reduceAdd, Int.reduceLT, Int.reduceLE, decide_false, decide_true, dec_true, dec_false, true_and, and_true, true_imp_iff, Bool.not_true, Bool.not_false, Option.map_none, Int.reduceToNat, Int.toNat_zero, Int.toNat_one, lkV_false, lkV_true, f0, f1, f5, f7, f8]
  refine Br_if (fun h1 => ?_) (fun h1' => ?_) <;> (try simp (disch := first | omega | assumption | (simp only [O1, World.size_alloc, World.size_setCell, World.size_drew]; first | done | omega)) only [O1, D2, ↓H0, S0, ↓S1, ↓S2, ↓S3, ↓S4, S5, S5b, S5c, ↓S6, S6b, M0, E0, ty, tl, te, tc, i64_wrap, u64_wrap, iaV_sl, iaV_arr, faV_pa, nck_pa, heap_new, heap_old, heap_set, ↓reduceIte, Nat.reduceEqDiff, Nat.reduceLT, Nat.reduceAdd, Int.reduceLT, Int.reduceLE, decide_false, decide_true, dec_true, dec_false, true_and, and_true, true_imp_iff, Bool.not_true, Bool.not_false, Option.map_none, Int.reduceToNat, Int.toNat_zero, Int.toNat_one, lkV_false, lkV_true, f0, f1, f5, f8])
  · have hi : i < x.length := by omega
    have hs := hxW.rd (hAx i hi)
    have hAs := rd_isSome hs
    have htk : x.take (i + 1) = x.take i ++ [x[i]] := List.take_succ_eq_append_getElem hi
    by_cases hz : ∀ s ∈ x.take i, s = 0
    · rw [decide_eq_true hz] at f7
      simp (disch := first | omega | assumption | (simp only [O1, World.size_alloc, World.size_setCell, World.size_drew]; first | done | omega)) only [O1, D2, ↓H0, S0, ↓S1, ↓S2, ↓S3, ↓S4, S5, S5b, S5c, ↓S6, S6b, M0, E0, ty, tl, te, tc, i64_wrap, u64_wrap, iaV_sl, iaV_arr, faV_pa, nck_pa, heap_new, heap_old, heap_set, ↓reduceIte, Nat.reduceEqDiff, Nat.reduceLT, Nat.reduceAdd, Int.reduceLT, Int.reduceLE, decide_false, decide_true, dec_true, dec_false, true_and, and_true, true_imp_iff, Bool.not_true, Bool.not_false, Option.map_none, Int.reduceToNat, Int.toNat_zero, Int.toNat_one, lkV_false, lkV_true, f0, f1, f5, f7, f8, hs]
      refine ⟨k - 1, by omega, i + 1, by omega, ?_, rfl⟩
      congr 1
      rw [decide_eq_decide, htk]
      simp only [List.mem_append, List.mem_singleton]
      exact ⟨fun h s hs => hs.elim (hz s) (fun e => e ▸ h), fun h => h _ (.inr rfl)⟩
    · rw [decide_eq_false hz] at f7
      simp (disch := first | omega | assumption | (simp only [O1, World.size_alloc, World.size_setCell, World.size_drew]; first | done | omega)) only [O1, D2, ↓H0, S0, ↓S1, ↓S2, ↓S3, ↓S4, S5, S5b, S5c, ↓S6, S6b, M0, E0, ty, tl, te, tc, i64_wrap, u64_wrap, iaV_sl, iaV_arr, faV_pa, nck_pa, heap_new, heap_old, heap_set, ↓reduceIte, Nat.reduceEqDiff, Nat.reduceLT, Nat.reduceAdd, Int.reduceLT, Int.reduceLE, decide_false, decide_true, dec_true, dec_false, true_and, and_true, true_imp_iff, Bool.not_true, Bool.not_false, Option.map_none, Int.reduceToNat, Int.toNat_zero, Int.toNat_one, lkV_false, lkV_true, f0, f1, f5, f7, f8, hs]
      refine ⟨k - 1, by omega, i + 1, by omega, ?_, rfl⟩
      congr 1
      rw [eq_comm, decide_eq_false_iff_not, htk]
      exact fun h => hz fun s hs => h s (List.mem_append_left _ hs)
  · have hi : i = x.length := by omega
    subst hi
    rw [List.take_length] at f7
    refine (doubles_ok U).then ?_; rintro d W2 ⟨hd, hx2⟩
    simp (disch := first | omega | assumption | (simp only [O1, World.size_alloc, World.size_setCell, World.size_drew]; first | done | omega)) only [O1, D2, ↓H0, S0, ↓S1, ↓S2, ↓S3, ↓S4, S5, S5b, S5c, ↓S6, S6b, M0, E0, ty, tl, te, tc, i64_wrap, u64_wrap, iaV_sl, iaV_arr, faV_pa, nck_pa, heap_new, heap_old, heap_set, ↓reduceIte, Nat.reduceEqDiff, Nat.reduceLT, Nat.reduceAdd, Int.reduceLT, Int.reduceLE, decide_false, decide_true, dec_true, dec_false, true_and, and_true, true_imp_iff, Bool.not_true, Bool.not_false, Option.map_none, Int.reduceToNat, Int.toNat_zero, Int.toNat_one, lkV_false, lkV_true, f0, f1, f5, f7, bsl0 sl23]
    have hx3 := hx2.al (.cells #[] 3)
    have hxa := hxW.tr hx3
    have hU2 := hx2.size
    have hl20 : x.length ≤ 20 := by omega
    refine RunA_own sl23 (World.ownsRow_lit (e := 3) (size := 1) W2 #[] 0 (base := W2.heap.size) (Nat.le_refl _) (by decide) rfl) (news := x.map (Value.int .i64)) (by simp [hxl]) (fun j u hj => ?_) (fun u hu => by simp at hu; obtain ⟨_, _, rfl⟩ := hu; rfl) (by omega) (by omega) (by simp) ?_
    · have hjl : j < x.length := by have := (List.getElem?_eq_some_iff.1 hj).1; simpa using this
      rw [List.getElem?_eq_getElem (by simpa using hjl)] at hj
      simp at hj
      rw [← hj]
      exact hxa.rd (hAx j hjl)
    intro v' W3 ho3 hg3 hv3
    have hx4 : Ext W2 W3 := ((Ext.rfl' W2).al _).grown' hg3 (fun k hk => by cases hk; exact Nat.le_refl _)
    have hI3 : Ints W3 v' x := own_sq (e := 3) (base := W2.heap.size) (by simpa [hxl] using ho3)
    simp (disch := first | omega | assumption | (simp only [O1, World.size_alloc, World.size_setCell, World.size_drew]; first | done | omega)) only [O1, D2, ↓H0, S0, ↓S1, ↓S2, ↓S3, ↓S4, S5, S5b, S5c, ↓S6, S6b, M0, E0, ty, tl, te, tc, i64_wrap, u64_wrap, iaV_sl, iaV_arr, faV_pa, nck_pa, heap_new, heap_old, heap_set, ↓reduceIte, Nat.reduceEqDiff, Nat.reduceLT, Nat.reduceAdd, Int.reduceLT, Int.reduceLE, decide_false, decide_true, dec_true, dec_false, true_and, and_true, true_imp_iff, Bool.not_true, Bool.not_false, Option.map_none, Int.reduceToNat, Int.toNat_zero, Int.toNat_one, lkV_false, lkV_true, f0, f1, f5, f7]
    refine (make_ok d v' dbl x W3 (hd.ext hx4) hI3 dbl_small).then ?_
    rintro cv W4 ⟨hx5, hcv⟩
    have hwy : Wordy dbl x ↔ ∀ s ∈ x, s = 0 := by
      constructor
      · intro h s hs; have := h.2 s hs; simp [dbl] at this; omega
      · intro h; exact ⟨by omega, fun s hs => by rw [h s hs]; simp [dbl]⟩
    obtain ⟨zb, hzb⟩ : ∃ zb, zb = decide (∀ s ∈ x, s = 0) := ⟨_, rfl⟩
    rw [← hzb] at f7
    have hcases : (zb = true ∧ (∀ s ∈ x, s = 0) ∧ ∃ b, cv = pa (some ⟨b, 0, none⟩) 0 ∧ ChartR W4 b dbl x) ∨ (zb = false ∧ cv = .pointer none) := by
      by_cases hz : ∀ s ∈ x, s = 0
      · refine .inl ⟨by rw [hzb, decide_eq_true hz], hz, ?_⟩
        rcases hcv with h | h
        · exact absurd ⟨dbl_norm, hwy.2 hz⟩ h.1
        · exact h.2.2
      · refine .inr ⟨by rw [hzb, decide_eq_false hz], ?_⟩
        rcases hcv with h | h
        · exact h.2
        · exact absurd (hwy.1 h.2.1) hz
    have hne : binT Try.prog .neq 24 cv (.pointer none) = some (.bool zb) := by
      rcases hcases with ⟨h, _, b, rfl, _⟩ | ⟨h, rfl⟩
      · rw [h]; simp only [te]; rfl
      · rw [h]; simp only [te]; rfl
    clear hcv
    simp (disch := first | omega | assumption | (simp only [O1, World.size_alloc, World.size_setCell, World.size_drew]; first | done | omega)) only [O1, D2, ↓H0, S0, ↓S1, ↓S2, ↓S3, ↓S4, S5, S5b, S5c, ↓S6, S6b, M0, E0, ty, tl, te, tc, i64_wrap, u64_wrap, iaV_sl, iaV_arr, faV_pa, nck_pa, heap_new, heap_old, heap_set, ↓reduceIte, Nat.reduceEqDiff, Nat.reduceLT, Nat.reduceAdd, Int.reduceLT, Int.reduceLE, decide_false, decide_true, dec_true, dec_false, true_and, and_true, true_imp_iff, Bool.not_true, Bool.not_false, Option.map_none, Int.reduceToNat, Int.toNat_zero, Int.toNat_one, lkV_false, lkV_true, f0, f1, f5, f7, hne, eq_self]
    refine (doubles_ok W4).then ?_; rintro d2 W5 ⟨hd2, hx6⟩
    obtain ⟨pv, rfl, B, e, rfl, he, hB⟩ := hd2
    simp (disch := first | omega | assumption | (simp only [O1, World.size_alloc, World.size_setCell, World.size_drew]; first | done | omega)) only [O1, D2, ↓H0, S0, ↓S1, ↓S2, ↓S3, ↓S4, S5, S5b, S5c, ↓S6, S6b, M0, E0, ty, tl, te, tc, i64_wrap, u64_wrap, iaV_sl, iaV_arr, faV_pa, nck_pa, heap_new, heap_old, heap_set, ↓reduceIte, Nat.reduceEqDiff, Nat.reduceLT, Nat.reduceAdd, Int.reduceLT, Int.reduceLE, decide_false, decide_true, dec_true, dec_false, true_and, and_true, true_imp_iff, Bool.not_true, Bool.not_false, Option.map_none, Int.reduceToNat, Int.toNat_zero, Int.toNat_one, lkV_false, lkV_true, f0, f1, f5, f7, st28, bsl0 sl26]
    obtain ⟨b0, r0, b1, hr0⟩ := hB 0 (by simp [dbl])
    obtain ⟨b2, r1, b3, hr1⟩ := hB 1 (by simp [dbl])
    have hr0' := hr0
    have hr1' := hr1
    obtain ⟨C0, e0, rfl, _, _⟩ := hr0
    obtain ⟨C1, e1, rfl, _, _⟩ := hr1
    obtain ⟨V, hV⟩ : ∃ V, V = W5.alloc (.cells #[.int .i64 dbl.start, .int .i64 dbl.count, .int .i64 dbl.terms, .bool dbl.empty, .slice B dbl.prods.length e] 28) := ⟨_, rfl⟩
    have hVs : V.heap.size = W5.heap.size + 1 := by rw [hV]; simp
    have hxV : Ext W5 V := by rw [hV]; exact (Ext.rfl' W5).al _
    have hgV : V.heap[W5.heap.size]? = some (.cells #[.int .i64 dbl.start, .int .i64 dbl.count, .int .i64 dbl.terms, .bool dbl.empty, .slice B dbl.prods.length e] 28 (0, 0)) := by rw [hV]; exact heap_new _ rfl
    rw [← hV, ← hVs]
    refine RunA_own sl26 (World.ownsRow_lit (e := 35) (size := 2) V #[] 0 (base := V.heap.size) (Nat.le_refl _) (by decide) rfl) (news := [.int .i64 0, .slice C0 [(-1 : Int)].length e0, .int .i64 0, .slice C1 [(0 : Int), 0].length e1]) rfl (fun j u hj => ?_)
      (by simp [Value.oneCell']) (by simp [dbl]) (by simp [dbl]) (by simp) ?_
    · have hx7 := hxV.al (.cells #[] 35)
      match j, hj with
      | 0, hj => simp at hj; rw [← hj]; exact hx7.rd b0
      | 1, hj => simp at hj; rw [← hj]; exact hx7.rd b1
      | 2, hj => simp at hj; rw [← hj]; exact hx7.rd b2
      | 3, hj => simp at hj; rw [← hj]; exact hx7.rd b3
      | j + 4, hj => simp at hj
    intro v6 W6 ho6 hg6 hv6
    have hx8 : Ext V W6 := ((Ext.rfl' V).al _).grown' hg6 (fun k hk => by cases hk; exact Nat.le_refl _)
    have hg8 := hx8.hp hgV
    have h6l : (0 + dbl.prods.length) = 2 := rfl
    rw [h6l] at ho6
    have hf6 : ∃ g6 cap6, v6 = .slice (some ⟨g6, 0, none⟩) 2 cap6 ∧ V.heap.size ≤ g6 := by
      rcases ho6.2 with ⟨_, h⟩ | ⟨g, cap, cur, h, hb, _⟩
      · omega
      · exact ⟨g, cap, h, hb⟩
    obtain ⟨g6, cap6, rfl, hg6b⟩ := hf6
    have hst := sto_own (P := Try.prog) (T := 26) (w := W6) (g := W5.heap.size) (o := 0) (k := 4) (x := .slice (some ⟨g6, 0, none⟩) 2 cap6) (by simp only [ty]) hg8 (by simp) rfl
    obtain ⟨W7, hW7⟩ : ∃ W7, W7 = W6.setCell ⟨W5.heap.size, 0 + 4, none⟩ (.slice (some ⟨g6, 0, none⟩) 2 cap6) := ⟨_, rfl⟩
    rw [← hW7] at hst
    have hg9 : W7.heap[W5.heap.size]? = some (.cells #[.int .i64 dbl.start, .int .i64 dbl.count, .int .i64 dbl.terms, .bool dbl.empty, .slice (some ⟨g6, 0, none⟩) 2 cap6] 28 (0, 0)) := by
      rw [hW7, heap_set_same, hg8]; rfl
    have hg7 : W6.grownBy W7 (some W5.heap.size) := by rw [hW7]; exact grown_set _ _ _ _
    have ho7 := ho6.kept hg7 (.inr fun e => by simp [Value.ownBlock] at e; omega)
    have hs7 : W7.heap.size = W6.heap.size := by rw [hW7]; simp
    simp (disch := first | omega | assumption | (simp only [O1, World.size_alloc, World.size_setCell, World.size_drew]; first | done | omega)) only [O1, D2, ↓H0, S0, ↓S1, ↓S2, ↓S3, ↓S4, S5, S5b, S5c, ↓S6, S6b, M0, E0, ty, tl, te, tc, i64_wrap, u64_wrap, iaV_sl, iaV_arr, faV_pa, nck_pa, heap_new, heap_old, heap_set, ↓reduceIte, Nat.reduceEqDiff, Nat.reduceLT, Nat.reduceAdd, Int.reduceLT, Int.reduceLE, decide_false, decide_true, dec_true, dec_false, true_and, and_true, true_imp_iff, Bool.not_true, Bool.not_false, Option.map_none, Int.reduceToNat, Int.toNat_zero, Int.toNat_one, lkV_false, lkV_true, f0, f1, f5, f7, hst, hg9, bsl3 sl23, bd35_1, bsl1_2 sl26]
    obtain ⟨V8, hV8⟩ : ∃ V8, V8 = W7.alloc (.cells #[.int .i64 0, .int .i64 0, .int .i64 0] 3) := ⟨_, rfl⟩
    have hV8s : V8.heap.size = W7.heap.size + 1 := by rw [hV8]; simp
    have hx9 : Ext W7 V8 := by rw [hV8]; exact (Ext.rfl' W7).al _
    have hz8 : V8.heap[W7.heap.size]? = some (.cells #[.int .i64 0, .int .i64 0, .int .i64 0] 3 (0, 0)) := by rw [hV8]; exact heap_new _ rfl
    have hW5l := lt_heap hg9
    have hx8s := hx8.size
    rw [← hV8, ← hV8s]
    refine RunA_lit sl26 (ho7.kept (grown_none hx9 none) (.inr (by simp [Value.ownBlock]))) rfl (by simp [Value.oneCell']) (by omega) (by omega) (by omega) ?_
    intro v9 W9 ho9 hg9' hv9
    have hown6 : (Value.slice (some ⟨g6, 0, none⟩) 2 cap6).ownBlock = some g6 := rfl
    rw [hown6] at hg9'
    have hf9 : ∃ g9 cap9, v9 = .slice (some ⟨g9, 0, none⟩) 3 cap9 ∧ V.heap.size ≤ g9 := by
      rcases ho9.2 with ⟨_, h⟩ | ⟨g, cap, cur, h, hb, _⟩
      · omega
      · exact ⟨g, cap, h, hb⟩
    obtain ⟨g9, cap9, rfl, hg9b⟩ := hf9
    have hg6l := (ho7.lt g6 rfl).2
    have hgA : W7.grownBy W9 (some g6) := ((grown_none hx9 _).trans (World.grownBy_alloc V8 _ _)).trans hg9'
    have hgB := (hgA.block W5.heap.size hW5l (by simp; omega)).trans hg9
    have hz9 := (hg9'.block W7.heap.size (by simp; omega) (by simp; omega)).trans ((heap_old _ (by omega)).trans hz8)
    have hst9 := sto_own (P := Try.prog) (T := 26) (w := W9) (g := W5.heap.size) (o := 0) (k := 4) (x := .slice (some ⟨g9, 0, none⟩) 3 cap9) (by simp only [ty]) hgB (by simp) rfl
    obtain ⟨Wa, hWa⟩ : ∃ Wa, Wa = W9.setCell ⟨W5.heap.size, 0 + 4, none⟩ (.slice (some ⟨g9, 0, none⟩) 3 cap9) := ⟨_, rfl⟩
    rw [← hWa] at hst9
    have hga : Wa.heap[W5.heap.size]? = some (.cells #[.int .i64 dbl.start, .int .i64 dbl.count, .int .i64 dbl.terms, .bool dbl.empty, .slice (some ⟨g9, 0, none⟩) 3 cap9] 28 (0, 0)) := by
      rw [hWa, heap_set_same, hgB]; rfl
    obtain ⟨m, hm, hme⟩ := andN n 7 (by omega)
    have hme : IntKind.i64.wrap ((BitVec.ofInt IntKind.i64.bits n &&& BitVec.ofInt IntKind.i64.bits 7).toNat : Int) = (m : Int) := hme
    have e60 : (60 : Int) + (m : Int) = ((60 + m : Nat) : Int) := by omega
    simp (disch := first | omega | assumption | (simp only [O1, World.size_alloc, World.size_setCell, World.size_drew]; first | done | omega)) only [O1, D2, ↓H0, S0, ↓S1, ↓S2, ↓S3, ↓S4, S5, S5b, S5c, ↓S6, S6b, M0, E0, ty, tl, te, tc, i64_wrap, u64_wrap, iaV_sl, iaV_arr, faV_pa, nck_pa, heap_new, heap_old, heap_set, ↓reduceIte, Nat.reduceEqDiff, Nat.reduceLT, Nat.reduceAdd, Int.reduceLT, Int.reduceLE, decide_false, decide_true, dec_true, dec_false, true_and, and_true, true_imp_iff, Bool.not_true, Bool.not_false, Option.map_none, Int.reduceToNat, Int.toNat_zero, Int.toNat_one, lkV_false, lkV_true, f0, f1, f5, f7, hst9, hga, hme, e60]
    have hgC : W9.grownBy Wa (some W5.heap.size) := by rw [hWa]; exact grown_set _ _ _ _
    have hx5a : Ext W5 Wa := (((hxV.tr hx8).grown' hg7 (fun k hk => by cases hk; omega)).grown' hgA (fun k hk => by cases hk; omega)).grown' hgC (fun k hk => by cases hk; omega)
    have hgAs := hgA.size
    have hg9s := hg9'.size
    simp only [World.size_alloc] at hg9s
    have hza := (hgC.block W7.heap.size (by omega) (by simp; omega)).trans hz9
    have hoa := ho9.kept hgC (.inr (by simp [Value.ownBlock]; omega))
    have hxd : Ext Wa Wa.drew := (Ext.rfl' Wa).dr
    have hrep : RepCG Wa.drew (.agg #[.int .i64 dbl.start, .int .i64 dbl.count, .int .i64 dbl.terms, .bool dbl.empty, .slice (some ⟨g9, 0, none⟩) 3 cap9]) dbl3 := by
      refine ⟨_, rfl, some ⟨g9, 0, none⟩, cap9, rfl, by rcases hoa.2 with ⟨h, _⟩ | ⟨_, _, _, h, _, _, h', _⟩ <;> cases h; exact h', fun i hi => ?_⟩
      match i, hi with
      | 0, _ => exact ⟨rd_cells hoa 0 _ rfl, _, rd_cells hoa 1 _ rfl, (hr0'.ext hx5a).ext hxd⟩
      | 1, _ => exact ⟨rd_cells hoa 2 _ rfl, _, rd_cells hoa 3 _ rfl, (hr1'.ext hx5a).ext hxd⟩
      | 2, _ =>
        refine ⟨rd_cells hoa 4 _ rfl, _, rd_cells hoa 5 _ rfl, some ⟨W7.heap.size, 0, none⟩, 3, rfl, by simp [dbl3], fun j hj => ?_⟩
        rw [rd_own, show Wa.drew.heap = Wa.heap from rfl, hza]
        match j, hj with
        | 0, _ => rfl
        | 1, _ => rfl
        | 2, _ => rfl
    refine Dr_rg [0, 1, 2, 3, 5, 9, 10] [(4, [], [65]), (6, [], [63])] [7, 8, 11, 12] [63, 65] mixed (by kernel_rfl) ?_
    simp (disch := first | omega | assumption | (simp only [O1, World.size_alloc, World.size_setCell, World.size_drew]; first | done | omega)) only [↓D1, ↓D3, ↓D4, List.not_mem_nil, not_false_eq_true, Bool.false_eq_true, false_imp_iff, upto, O1, D2, ↓H0, S0, ↓S1, ↓S2, ↓S3, ↓S4, S5, S5b, S5c, ↓S6, S6b, M0, E0, ty, tl, te, tc, i64_wrap, u64_wrap, iaV_sl, iaV_arr, faV_pa, nck_pa, heap_new, heap_old, heap_set, ↓reduceIte, Nat.reduceEqDiff, Nat.reduceLT, Nat.reduceAdd, Int.reduceLT, Int.reduceLE, decide_false, decide_true, dec_true, dec_false, true_and, and_true, true_imp_iff, Bool.not_true, Bool.not_false, Option.map_none, Int.reduceToNat, Int.toNat_zero, Int.toNat_one, lkV_false, lkV_true, f0, f1, f5, f7, hga, ldA5]
    refine (make_ok _ _ dbl3 [] Wa.drew hrep (Sq.nil _ _) dbl3_small).then ?_
    rintro c3 Wb ⟨hxb, h3⟩
    have hc3 : c3 = .pointer none := by
      rcases h3 with h | h
      · exact h.2
      · exact absurd h.1 dbl3_not
    subst hc3
    have hKb := Keep.of_ext hxb []
    simp (disch := first | omega | assumption | (simp only [O1, World.size_alloc, World.size_setCell, World.size_drew]; first | done | omega)) only [↓D1, ↓D3, ↓D4, List.not_mem_nil, not_false_eq_true, Bool.false_eq_true, false_imp_iff, upto, O1, D2, ↓H0, S0, ↓S1, ↓S2, ↓S3, ↓S4, S5, S5b, S5c, ↓S6, S6b, M0, E0, ty, tl, te, tc, i64_wrap, u64_wrap, iaV_sl, iaV_arr, faV_pa, nck_pa, heap_new, heap_old, heap_set, ↓reduceIte, Nat.reduceEqDiff, Nat.reduceLT, Nat.reduceAdd, Int.reduceLT, Int.reduceLE, decide_false, decide_true, dec_true, dec_false, true_and, and_true, true_imp_iff, Bool.not_true, Bool.not_false, Option.map_none, Int.reduceToNat, Int.toNat_zero, Int.toNat_one, lkV_false, lkV_true, f0, f1, f5, f7, hKb, Option.isNone]
    refine ⟨rgA [(4, fun v w => RepCG w v dbl), (6, fun v w => Ints w v (List.replicate (60 + m) 0))], rg_stab ⟨fun _ _ _ h hx => h.ext hx, fun _ _ _ h hx => h.ext hx, trivial⟩, ⟨?_, ?_, trivial⟩, ?_⟩
    · intro t1 X hX hp hf
      simp (disch := first | (simp only [List.mem_cons, List.not_mem_nil, or_false, not_or, Nat.reduceEqDiff, not_false_eq_true, and_self]; done) | omega | assumption | (simp only [O1, World.size_alloc, World.size_setCell, World.size_drew]; first | done | omega)) only [↓G1, rgA_cons, rgA_nil, eq_self, ↓D1, ↓D3, ↓D4, List.not_mem_nil, not_false_eq_true, Bool.false_eq_true, false_imp_iff, upto, O1, D2, ↓H0, S0, ↓S1, ↓S2, ↓S3, ↓S4, S5, S5b, S5c, ↓S6, S6b, M0, E0, ty, tl, te, tc, i64_wrap, u64_wrap, iaV_sl, iaV_arr, faV_pa, nck_pa, heap_new, heap_old, heap_set, ↓reduceIte, Nat.reduceEqDiff, Nat.reduceLT, Nat.reduceAdd, Int.reduceLT, Int.reduceLE, decide_false, decide_true, dec_true, dec_false, true_and, and_true, true_imp_iff, Bool.not_true, Bool.not_false, Option.map_none, Int.reduceToNat, Int.toNat_zero, Int.toNat_one, lkV_false, lkV_true, hf, f0, f1, f5, f7]
      refine (doubles_ok X).then ?_; rintro d X' ⟨hd, hx⟩
      simp (disch := first | (simp only [List.mem_cons, List.not_mem_nil, or_false, not_or, Nat.reduceEqDiff, not_false_eq_true, and_self]; done) | omega | assumption | (simp only [O1, World.size_alloc, World.size_setCell, World.size_drew]; first | done | omega)) only [↓G1, rgA_cons, rgA_nil, eq_self, ↓D1, ↓D3, ↓D4, List.not_mem_nil, not_false_eq_true, Bool.false_eq_true, false_imp_iff, upto, O1, D2, ↓H0, S0, ↓S1, ↓S2, ↓S3, ↓S4, S5, S5b, S5c, ↓S6, S6b, M0, E0, ty, tl, te, tc, i64_wrap, u64_wrap, iaV_sl, iaV_arr, faV_pa, nck_pa, heap_new, heap_old, heap_set, ↓reduceIte, Nat.reduceEqDiff, Nat.reduceLT, Nat.reduceAdd, Int.reduceLT, Int.reduceLE, decide_false, decide_true, dec_true, dec_false, true_and, and_true, true_imp_iff, Bool.not_true, Bool.not_false, Option.map_none, Int.reduceToNat, Int.toNat_zero, Int.toNat_one, lkV_false, lkV_true]
      exact ⟨hx, hd⟩
    · intro t1 X hX hp hf
      simp (disch := first | (simp only [List.mem_cons, List.not_mem_nil, or_false, not_or, Nat.reduceEqDiff, not_false_eq_true, and_self]; done) | omega | assumption | (simp only [O1, World.size_alloc, World.size_setCell, World.size_drew]; first | done | omega)) only [↓G1, rgA_cons, rgA_nil, eq_self, ↓D1, ↓D3, ↓D4, List.not_mem_nil, not_false_eq_true, Bool.false_eq_true, false_imp_iff, upto, O1, D2, ↓H0, S0, ↓S1, ↓S2, ↓S3, ↓S4, S5, S5b, S5c, ↓S6, S6b, M0, E0, ty, tl, te, tc, i64_wrap, u64_wrap, iaV_sl, iaV_arr, faV_pa, nck_pa, heap_new, heap_old, heap_set, ↓reduceIte, Nat.reduceEqDiff, Nat.reduceLT, Nat.reduceAdd, Int.reduceLT, Int.reduceLE, decide_false, decide_true, dec_true, dec_false, true_and, and_true, true_imp_iff, Bool.not_true, Bool.not_false, Option.map_none, Int.reduceToNat, Int.toNat_zero, Int.toNat_one, lkV_false, lkV_true, hf, f0, f1, f5, f7]
      refine RunM_one sl23 rfl (by omega) (by omega) ?_
      simp (disch := first | (simp only [List.mem_cons, List.not_mem_nil, or_false, not_or, Nat.reduceEqDiff, not_false_eq_true, and_self]; done) | omega | assumption | (simp only [O1, World.size_alloc, World.size_setCell, World.size_drew]; first | done | omega)) only [↓G1, rgA_cons, rgA_nil, eq_self, ↓D1, ↓D3, ↓D4, List.not_mem_nil, not_false_eq_true, Bool.false_eq_true, false_imp_iff, upto, O1, D2, ↓H0, S0, ↓S1, ↓S2, ↓S3, ↓S4, S5, S5b, S5c, ↓S6, S6b, M0, E0, ty, tl, te, tc, i64_wrap, u64_wrap, iaV_sl, iaV_arr, faV_pa, nck_pa, heap_new, heap_old, heap_set, ↓reduceIte, Nat.reduceEqDiff, Nat.reduceLT, Nat.reduceAdd, Int.reduceLT, Int.reduceLE, decide_false, decide_true, dec_true, dec_false, true_and, and_true, true_imp_iff, Bool.not_true, Bool.not_false, Option.map_none, Int.reduceToNat, Int.toNat_zero, Int.toNat_one, lkV_false, lkV_true]
      refine ⟨(Ext.rfl' X).al _, some ⟨X.heap.size, 0, none⟩, 60 + m, by simp, by simp, fun i hi => ?_⟩
      rw [rd_own, heap_new _ rfl]
      simp at hi
      simp [cellO, hi]
    · intro t1 X hX hp hf
      simp only [rgPre, D2, G0, ↓reduceIte, Nat.reduceEqDiff, Nat.reduceLT, Nat.reduceAdd, and_true, true_and, eq_self, rgA_cons, rgA_nil, List.map_cons, List.map_nil] at hp
      obtain ⟨hg63, hg65⟩ := hp
      simp (disch := first | (simp only [List.mem_cons, List.not_mem_nil, or_false, not_or, Nat.reduceEqDiff, not_false_eq_true, and_self]; done) | omega | assumption | (simp only [O1, World.size_alloc, World.size_setCell, World.size_drew]; first | done | omega)) only [↓G1, rgA_cons, rgA_nil, eq_self, ↓D1, ↓D3, ↓D4, List.not_mem_nil, not_false_eq_true, Bool.false_eq_true, false_imp_iff, upto, O1, D2, ↓H0, S0, ↓S1, ↓S2, ↓S3, ↓S4, S5, S5b, S5c, ↓S6, S6b, M0, E0, ty, tl, te, tc, i64_wrap, u64_wrap, iaV_sl, iaV_arr, faV_pa, nck_pa, heap_new, heap_old, heap_set, ↓reduceIte, Nat.reduceEqDiff, Nat.reduceLT, Nat.reduceAdd, Int.reduceLT, Int.reduceLE, decide_false, decide_true, dec_true, dec_false, true_and, and_true, true_imp_iff, Bool.not_true, Bool.not_false, Option.map_none, Int.reduceToNat, Int.toNat_zero, Int.toNat_one, lkV_false, lkV_true, hf, f0, f1, f5, f7]
      refine (make_ok _ _ dbl _ X hg63 hg65 dbl_small).then ?_
      rintro c4 Y ⟨hxy, h4⟩
      have hKy := Keep.of_ext hxy []
      have hw4 : Wordy dbl (List.replicate (60 + m) 0) ↔ ((60 + m : Nat) : Int) ≤ 64 := by
        constructor
        · intro h; have := h.1; simp at this; omega
        · intro h; exact ⟨by simp; omega, fun s hs => by have := List.eq_of_mem_replicate hs; subst this; simp [dbl]⟩
      have hn4 : binT Try.prog .neq 24 c4 (.pointer none) = some (.bool (decide (((60 + m : Nat) : Int) ≤ 64))) := by
        rcases h4 with ⟨h, rfl⟩ | ⟨h, h', b, rfl, _⟩
        · rw [decide_eq_false (fun e => h ⟨dbl_norm, hw4.2 e⟩)]; simp only [te]; rfl
        · rw [decide_eq_true (hw4.1 h')]; simp only [te]; rfl
      clear h4
      simp (disch := first | (simp only [List.mem_cons, List.not_mem_nil, or_false, not_or, Nat.reduceEqDiff, not_false_eq_true, and_self]; done) | omega | assumption | (simp only [O1, World.size_alloc, World.size_setCell, World.size_drew]; first | done | omega)) only [↓G1, rgA_cons, rgA_nil, eq_self, ↓D1, ↓D3, ↓D4, List.not_mem_nil, not_false_eq_true, Bool.false_eq_true, false_imp_iff, upto, O1, D2, ↓H0, S0, ↓S1, ↓S2, ↓S3, ↓S4, S5, S5b, S5c, ↓S6, S6b, M0, E0, ty, tl, te, tc, i64_wrap, u64_wrap, iaV_sl, iaV_arr, faV_pa, nck_pa, heap_new, heap_old, heap_set, ↓reduceIte, Nat.reduceEqDiff, Nat.reduceLT, Nat.reduceAdd, Int.reduceLT, Int.reduceLE, decide_false, decide_true, dec_true, dec_false, true_and, and_true, true_imp_iff, Bool.not_true, Bool.not_false, Option.map_none, Int.reduceToNat, Int.toNat_zero, Int.toNat_one, lkV_false, lkV_true, hf, f0, f1, f5, f7, hn4, hKy, Option.isNone]
      have g0 : t1 0 = .slice A h c := by rw [hf 0 (by simp)]; simp (disch := first | omega | assumption | (simp only [O1, World.size_alloc, World.size_setCell, World.size_drew]; first | done | omega)) only [O1, D2, ↓H0, S0, ↓S1, ↓S2, ↓S3, ↓S4, S5, S5b, S5c, ↓S6, S6b, M0, E0, ty, tl, te, tc, i64_wrap, u64_wrap, iaV_sl, iaV_arr, faV_pa, nck_pa, heap_new, heap_old, heap_set, ↓reduceIte, Nat.reduceEqDiff, Nat.reduceLT, Nat.reduceAdd, Int.reduceLT, Int.reduceLE, decide_false, decide_true, dec_true, dec_false, true_and, and_true, true_imp_iff, Bool.not_true, Bool.not_false, Option.map_none, Int.reduceToNat, Int.toNat_zero, Int.toNat_one, lkV_false, lkV_true, f0]
      have g5 : t1 5 = pa (some ⟨w.heap.size, 0, none⟩) 0 := by rw [hf 5 (by simp)]; simp (disch := first | omega | assumption | (simp only [O1, World.size_alloc, World.size_setCell, World.size_drew]; first | done | omega)) only [O1, D2, ↓H0, S0, ↓S1, ↓S2, ↓S3, ↓S4, S5, S5b, S5c, ↓S6, S6b, M0, E0, ty, tl, te, tc, i64_wrap, u64_wrap, iaV_sl, iaV_arr, faV_pa, nck_pa, heap_new, heap_old, heap_set, ↓reduceIte, Nat.reduceEqDiff, Nat.reduceLT, Nat.reduceAdd, Int.reduceLT, Int.reduceLE, decide_false, decide_true, dec_true, dec_false, true_and, and_true, true_imp_iff, Bool.not_true, Bool.not_false, Option.map_none, Int.reduceToNat, Int.toNat_zero, Int.toNat_one, lkV_false, lkV_true, f5]
      have g7 : t1 7 = .bool zb := by rw [hf 7 (by simp)]; simp (disch := first | omega | assumption | (simp only [O1, World.size_alloc, World.size_setCell, World.size_drew]; first | done | omega)) only [O1, D2, ↓H0, S0, ↓S1, ↓S2, ↓S3, ↓S4, S5, S5b, S5c, ↓S6, S6b, M0, E0, ty, tl, te, tc, i64_wrap, u64_wrap, iaV_sl, iaV_arr, faV_pa, nck_pa, heap_new, heap_old, heap_set, ↓reduceIte, Nat.reduceEqDiff, Nat.reduceLT, Nat.reduceAdd, Int.reduceLT, Int.reduceLE, decide_false, decide_true, dec_true, dec_false, true_and, and_true, true_imp_iff, Bool.not_true, Bool.not_false, Option.map_none, Int.reduceToNat, Int.toNat_zero, Int.toNat_one, lkV_false, lkV_true, f7]
      have g9 : t1 9 = cv := by rw [hf 9 (by simp)]; simp (disch := first | omega | assumption | (simp only [O1, World.size_alloc, World.size_setCell, World.size_drew]; first | done | omega)) only [O1, D2, ↓H0, S0, ↓S1, ↓S2, ↓S3, ↓S4, S5, S5b, S5c, ↓S6, S6b, M0, E0, ty, tl, te, tc, i64_wrap, u64_wrap, iaV_sl, iaV_arr, faV_pa, nck_pa, heap_new, heap_old, heap_set, ↓reduceIte, Nat.reduceEqDiff, Nat.reduceLT, Nat.reduceAdd, Int.reduceLT, Int.reduceLE, decide_false, decide_true, dec_true, dec_false, true_and, and_true, true_imp_iff, Bool.not_true, Bool.not_false, Option.map_none, Int.reduceToNat, Int.toNat_zero, Int.toNat_one, lkV_false, lkV_true, f7]
      have e3 : ((3 : Nat) : Int) = 3 := rfl
      have hY4 : Ext W4 Y := (((hx6.tr hx5a).tr hxd).tr hxb).tr (hX.tr hxy)
      have hUY : Ext U Y := hx2.tr (hx4.tr (hx5.tr hY4))
      have hwY : Ext w Y := hxW.tr hUY
      have h5Y := hUY.hp h5
      obtain ⟨th, hth⟩ : ∃ th, th = (zb && decide (0 ≤ q ∧ q < r ∧ r ≤ (x.length : Int))) := ⟨_, rfl⟩
      have hcv : (th = true ∧ (0 ≤ q ∧ q < r ∧ r ≤ (x.length : Int)) ∧ ∃ b, cv = pa (some ⟨b, 0, none⟩) 0 ∧ ChartR Y b dbl x ∧ Zeros x) ∨ (th = false ∧ ¬ (0 ≤ q ∧ q < r ∧ r ≤ (x.length : Int)) ∧ ∃ b, cv = pa (some ⟨b, 0, none⟩) 0 ∧ ChartR Y b dbl x) ∨ (th = false ∧ cv = .pointer none) := by
        rcases hcases with ⟨h1, h2, b, h3, h4⟩ | ⟨h1, h2⟩
        · have hz : Zeros x := fun i => by
            rw [List.getD_eq_getElem?_getD]
            cases hq : x[i]? with
            | none => rfl
            | some s => exact h2 s (List.mem_of_getElem? hq)
          by_cases hr : 0 ≤ q ∧ q < r ∧ r ≤ (x.length : Int)
          · exact .inl ⟨by rw [hth, h1, decide_eq_true hr]; rfl, hr, b, h3, h4.ext hY4, hz⟩
          · exact .inr (.inl ⟨by rw [hth, decide_eq_false hr]; simp, hr, b, h3, h4.ext hY4⟩)
        · exact .inr (.inr ⟨by rw [hth, h1]; rfl, h2⟩)
      (refine' joinDr (fun t' W' => W' = Y ∧ t' 5 = pa (some ⟨w.heap.size, 0, none⟩) 0 ∧ t' 9 = cv ∧ t' 11 = .bool th ∧ t' 12 = .pointer none) (fun key => ?_) ?_; rotate_left 4)
      · cases h1 : zb with
        | true =>
          rw [h1] at g7
          simp (disch := first | omega | assumption | (simp only [O1, World.size_alloc, World.size_setCell, World.size_drew]; first | done | omega)) only [O1, D2, ↓H0, S0, ↓S1, ↓S2, ↓S3, ↓S4, S5, S5b, S5c, ↓S6, S6b, M0, E0, ty, tl, te, tc, i64_wrap, u64_wrap, iaV_sl, iaV_arr, faV_pa, nck_pa, heap_new, heap_old, heap_set, ↓reduceIte, Nat.reduceEqDiff, Nat.reduceLT, Nat.reduceAdd, Int.reduceLT, Int.reduceLE, decide_false, decide_true, dec_true, dec_false, true_and, and_true, true_imp_iff, Bool.not_true, Bool.not_false, Option.map_none, Int.reduceToNat, Int.toNat_zero, Int.toNat_one, lkV_false, lkV_true, g0, g5, g7, g9, h5Y, e3, Int.reduceToNat]
          refine Br_if (fun h2 => ?_) (fun h2 => ?_) <;> (try simp (disch := first | omega | assumption | (simp only [O1, World.size_alloc, World.size_setCell, World.size_drew]; first | done | omega)) only [O1, D2, ↓H0, S0, ↓S1, ↓S2, ↓S3, ↓S4, S5, S5b, S5c, ↓S6, S6b, M0, E0, ty, tl, te, tc, i64_wrap, u64_wrap, iaV_sl, iaV_arr, faV_pa, nck_pa, heap_new, heap_old, heap_set, ↓reduceIte, Nat.reduceEqDiff, Nat.reduceLT, Nat.reduceAdd, Int.reduceLT, Int.reduceLE, decide_false, decide_true, dec_true, dec_false, true_and, and_true, true_imp_iff, Bool.not_true, Bool.not_false, Option.map_none, Int.reduceToNat, Int.toNat_zero, Int.toNat_one, lkV_false, lkV_true, g0, g5, g7, g9, h5Y, e3, Int.reduceToNat])
          · refine Br_if (fun h3 => ?_) (fun h3 => ?_) <;> (try simp (disch := first | omega | assumption | (simp only [O1, World.size_alloc, World.size_setCell, World.size_drew]; first | done | omega)) only [O1, D2, ↓H0, S0, ↓S1, ↓S2, ↓S3, ↓S4, S5, S5b, S5c, ↓S6, S6b, M0, E0, ty, tl, te, tc, i64_wrap, u64_wrap, iaV_sl, iaV_arr, faV_pa, nck_pa, heap_new, heap_old, heap_set, ↓reduceIte, Nat.reduceEqDiff, Nat.reduceLT, Nat.reduceAdd, Int.reduceLT, Int.reduceLE, decide_false, decide_true, dec_true, dec_false, true_and, and_true, true_imp_iff, Bool.not_true, Bool.not_false, Option.map_none, Int.reduceToNat, Int.toNat_zero, Int.toNat_one, lkV_false, lkV_true, g0, g5, g7, g9, h5Y, e3, Int.reduceToNat])
            · refine key _ _ ⟨rfl, ?_⟩
              simp (disch := first | omega | assumption | (simp only [O1, World.size_alloc, World.size_setCell, World.size_drew]; first | done | omega)) only [O1, D2, ↓H0, S0, ↓S1, ↓S2, ↓S3, ↓S4, S5, S5b, S5c, ↓S6, S6b, M0, E0, ty, tl, te, tc, i64_wrap, u64_wrap, iaV_sl, iaV_arr, faV_pa, nck_pa, heap_new, heap_old, heap_set, ↓reduceIte, Nat.reduceEqDiff, Nat.reduceLT, Nat.reduceAdd, Int.reduceLT, Int.reduceLE, decide_false, decide_true, dec_true, dec_false, true_and, and_true, true_imp_iff, Bool.not_true, Bool.not_false, Option.map_none, Int.reduceToNat, Int.toNat_zero, Int.toNat_one, lkV_false, lkV_true, g0, g5, g7, g9]
              rw [hth, h1]
              rw [show decide (0 ≤ q ∧ q < r ∧ r ≤ (x.length : Int)) = decide (r ≤ (h : Int)) from decide_eq_decide.2 (by omega)]; rfl
            · refine key _ _ ⟨rfl, ?_⟩
              simp (disch := first | omega | assumption | (simp only [O1, World.size_alloc, World.size_setCell, World.size_drew]; first | done | omega)) only [O1, D2, ↓H0, S0, ↓S1, ↓S2, ↓S3, ↓S4, S5, S5b, S5c, ↓S6, S6b, M0, E0, ty, tl, te, tc, i64_wrap, u64_wrap, iaV_sl, iaV_arr, faV_pa, nck_pa, heap_new, heap_old, heap_set, ↓reduceIte, Nat.reduceEqDiff, Nat.reduceLT, Nat.reduceAdd, Int.reduceLT, Int.reduceLE, decide_false, decide_true, dec_true, dec_false, true_and, and_true, true_imp_iff, Bool.not_true, Bool.not_false, Option.map_none, Int.reduceToNat, Int.toNat_zero, Int.toNat_one, lkV_false, lkV_true, g0, g5, g7, g9]
              rw [hth, decide_eq_false (by omega)]; simp
          · refine key _ _ ⟨rfl, ?_⟩
            simp (disch := first | omega | assumption | (simp only [O1, World.size_alloc, World.size_setCell, World.size_drew]; first | done | omega)) only [O1, D2, ↓H0, S0, ↓S1, ↓S2, ↓S3, ↓S4, S5, S5b, S5c, ↓S6, S6b, M0, E0, ty, tl, te, tc, i64_wrap, u64_wrap, iaV_sl, iaV_arr, faV_pa, nck_pa, heap_new, heap_old, heap_set, ↓reduceIte, Nat.reduceEqDiff, Nat.reduceLT, Nat.reduceAdd, Int.reduceLT, Int.reduceLE, decide_false, decide_true, dec_true, dec_false, true_and, and_true, true_imp_iff, Bool.not_true, Bool.not_false, Option.map_none, Int.reduceToNat, Int.toNat_zero, Int.toNat_one, lkV_false, lkV_true, g0, g5, g7, g9]
            rw [hth, decide_eq_false (by omega)]; simp
        | false =>
          rw [h1] at g7
          simp (disch := first | omega | assumption | (simp only [O1, World.size_alloc, World.size_setCell, World.size_drew]; first | done | omega)) only [O1, D2, ↓H0, S0, ↓S1, ↓S2, ↓S3, ↓S4, S5, S5b, S5c, ↓S6, S6b, M0, E0, ty, tl, te, tc, i64_wrap, u64_wrap, iaV_sl, iaV_arr, faV_pa, nck_pa, heap_new, heap_old, heap_set, ↓reduceIte, Nat.reduceEqDiff, Nat.reduceLT, Nat.reduceAdd, Int.reduceLT, Int.reduceLE, decide_false, decide_true, dec_true, dec_false, true_and, and_true, true_imp_iff, Bool.not_true, Bool.not_false, Option.map_none, Int.reduceToNat, Int.toNat_zero, Int.toNat_one, lkV_false, lkV_true, g0, g5, g7, g9, h5Y, e3, Int.reduceToNat]
          refine key _ _ ⟨rfl, ?_⟩
          simp (disch := first | omega | assumption | (simp only [O1, World.size_alloc, World.size_setCell, World.size_drew]; first | done | omega)) only [O1, D2, ↓H0, S0, ↓S1, ↓S2, ↓S3, ↓S4, S5, S5b, S5c, ↓S6, S6b, M0, E0, ty, tl, te, tc, i64_wrap, u64_wrap, iaV_sl, iaV_arr, faV_pa, nck_pa, heap_new, heap_old, heap_set, ↓reduceIte, Nat.reduceEqDiff, Nat.reduceLT, Nat.reduceAdd, Int.reduceLT, Int.reduceLE, decide_false, decide_true, dec_true, dec_false, true_and, and_true, true_imp_iff, Bool.not_true, Bool.not_false, Option.map_none, Int.reduceToNat, Int.toNat_zero, Int.toNat_one, lkV_false, lkV_true, g0, g5, g7, g9]
          rw [hth, h1]; rfl
      rintro t2 Y' ⟨rfl, k5, k9, k11, k12⟩
      clear g0 g5 g7 g9 hf
      have e3 : ((3 : Nat) : Int) = 3 := rfl
      have hend : ∀ {Z : World}, Ext Y' Z → Ext w Z := fun h => hwY.tr h
      have hx64 : x.length ≤ 64 := by omega
      refine Dr_plan [] (fun _ => true) [0, 1, 2, 3, 4, 6, 5, 7, 8, 9, 10, 11, 12, 13, 14, 15, 16, 17, 18, 20, 21, 22, 19, 23, 24, 25, 26, 27, 28, 29, 30, 31, 35, 32, 33, 34, 36, 37, 38, 39, 40, 41, 42, 43, 44, 45, 46, 47, 48, 49, 50, 51, 52, 53, 54, 55, 56, 57, 58, 59] mixed (by kernel_rfl) ?_
      rcases hcv with ⟨rfl, hr, b, rfl, hch, hz⟩ | ⟨rfl, hr, b, rfl, hch⟩ | ⟨rfl, rfl⟩
      · have hc0 : 0 < cnt dbl x q.toNat r.toNat 0 := by
          have h1 := cnt_same (r.toNat - q.toNat) hz q.toNat (by omega)
          rw [show q.toNat + (r.toNat - q.toNat) = r.toNat by omega] at h1
          rw [h1]; exact cat_pos _ (by omega)
        simp (disch := first | omega | assumption | (simp only [O1, World.size_alloc, World.size_setCell, World.size_drew]; first | done | omega)) only [↓D1, ↓D3, ↓D4, List.not_mem_nil, not_false_eq_true, Bool.false_eq_true, false_imp_iff, upto, O1, D2, ↓H0, S0, ↓S1, ↓S2, ↓S3, ↓S4, S5, S5b, S5c, ↓S6, S6b, M0, E0, ty, tl, te, tc, i64_wrap, u64_wrap, iaV_sl, iaV_arr, faV_pa, nck_pa, heap_new, heap_old, heap_set, ↓reduceIte, Nat.reduceEqDiff, Nat.reduceLT, Nat.reduceAdd, Int.reduceLT, Int.reduceLE, decide_false, decide_true, dec_true, dec_false, true_and, and_true, true_imp_iff, Bool.not_true, Bool.not_false, Option.map_none, Int.reduceToNat, Int.toNat_zero, Int.toNat_one, lkV_false, lkV_true, k5, k9, k11, k12, h5Y, e3, Int.reduceToNat]
        have hcd := hch.ext (Ext.rfl' Y').dr
        refine (has_ok b dbl x 0 q r _ hcd hx64).then ?_; rintro _ _ ⟨rfl, rfl⟩
        rw [show hasM dbl x 0 q r = true from decide_eq_true ⟨hr.1, hr.2.1, hr.2.2, hc0⟩]
        simp (disch := first | omega | assumption | (simp only [O1, World.size_alloc, World.size_setCell, World.size_drew]; first | done | omega)) only [↓D1, ↓D3, ↓D4, List.not_mem_nil, not_false_eq_true, Bool.false_eq_true, false_imp_iff, upto, O1, D2, ↓H0, S0, ↓S1, ↓S2, ↓S3, ↓S4, S5, S5b, S5c, ↓S6, S6b, M0, E0, ty, tl, te, tc, i64_wrap, u64_wrap, iaV_sl, iaV_arr, faV_pa, nck_pa, heap_new, heap_old, heap_set, ↓reduceIte, Nat.reduceEqDiff, Nat.reduceLT, Nat.reduceAdd, Int.reduceLT, Int.reduceLE, decide_false, decide_true, dec_true, dec_false, true_and, and_true, true_imp_iff, Bool.not_true, Bool.not_false, Option.map_none, Int.reduceToNat, Int.toNat_zero, Int.toNat_one, lkV_false, lkV_true, k5, k9, k11, k12, h5Y, e3, Int.reduceToNat]
        refine (has_ok b dbl x p q r _ hcd hx64).then ?_; rintro _ _ ⟨rfl, rfl⟩
        rw [show hasM dbl x p q r = decide (p = 0) from decide_eq_decide.2 ⟨fun h => Classical.byContradiction fun hp => by have := h.2.2.2; rw [cnt_other hp] at this; omega, fun h => ⟨hr.1, hr.2.1, hr.2.2, h ▸ hc0⟩⟩]
        simp (disch := first | omega | assumption | (simp only [O1, World.size_alloc, World.size_setCell, World.size_drew]; first | done | omega)) only [↓D1, ↓D3, ↓D4, List.not_mem_nil, not_false_eq_true, Bool.false_eq_true, false_imp_iff, upto, O1, D2, ↓H0, S0, ↓S1, ↓S2, ↓S3, ↓S4, S5, S5b, S5c, ↓S6, S6b, M0, E0, ty, tl, te, tc, i64_wrap, u64_wrap, iaV_sl, iaV_arr, faV_pa, nck_pa, heap_new, heap_old, heap_set, ↓reduceIte, Nat.reduceEqDiff, Nat.reduceLT, Nat.reduceAdd, Int.reduceLT, Int.reduceLE, decide_false, decide_true, dec_true, dec_false, true_and, and_true, true_imp_iff, Bool.not_true, Bool.not_false, Option.map_none, Int.reduceToNat, Int.toNat_zero, Int.toNat_one, lkV_false, lkV_true, k5, k9, k11, k12, h5Y, e3, Int.reduceToNat]
        refine (cell_ok b dbl x q r _ hcd hx64 (by simp [dbl])).then ?_; rintro vc Z ⟨hvc, hxZ⟩
        have hcl : cellM dbl x q r = [0] := by
          rw [cellM, if_pos hr]
          show cellL dbl x q.toNat r.toNat (0 + 1) = [0]
          rw [cellL_succ, if_pos (by simpa using hc0)]; rfl
        rw [hcl] at hvc
        obtain ⟨VA, VC, rfl, _, _⟩ := hvc
        have hKz := Keep.of_ext hxZ []
        simp (disch := first | omega | assumption | (simp only [O1, World.size_alloc, World.size_setCell, World.size_drew]; first | done | omega)) only [↓D1, ↓D3, ↓D4, List.not_mem_nil, not_false_eq_true, Bool.false_eq_true, false_imp_iff, upto, O1, D2, ↓H0, S0, ↓S1, ↓S2, ↓S3, ↓S4, S5, S5b, S5c, ↓S6, S6b, M0, E0, ty, tl, te, tc, i64_wrap, u64_wrap, iaV_sl, iaV_arr, faV_pa, nck_pa, heap_new, heap_old, heap_set, ↓reduceIte, Nat.reduceEqDiff, Nat.reduceLT, Nat.reduceAdd, Int.reduceLT, Int.reduceLE, decide_false, decide_true, dec_true, dec_false, true_and, and_true, true_imp_iff, Bool.not_true, Bool.not_false, Option.map_none, Int.reduceToNat, Int.toNat_zero, Int.toNat_one, lkV_false, lkV_true, k5, k9, k11, k12, h5Y, e3, hKz, Int.reduceToNat, List.length_cons, List.length_nil]
        refine (yes_nil _).then ?_; rintro _ _ ⟨rfl, rfl⟩
        simp (disch := first | omega | assumption | (simp only [O1, World.size_alloc, World.size_setCell, World.size_drew]; first | done | omega)) only [↓D1, ↓D3, ↓D4, List.not_mem_nil, not_false_eq_true, Bool.false_eq_true, false_imp_iff, upto, O1, D2, ↓H0, S0, ↓S1, ↓S2, ↓S3, ↓S4, S5, S5b, S5c, ↓S6, S6b, M0, E0, ty, tl, te, tc, i64_wrap, u64_wrap, iaV_sl, iaV_arr, faV_pa, nck_pa, heap_new, heap_old, heap_set, ↓reduceIte, Nat.reduceEqDiff, Nat.reduceLT, Nat.reduceAdd, Int.reduceLT, Int.reduceLE, decide_false, decide_true, dec_true, dec_false, true_and, and_true, true_imp_iff, Bool.not_true, Bool.not_false, Option.map_none, Int.reduceToNat, Int.toNat_zero, Int.toNat_one, lkV_false, lkV_true, k5, k9, k11, k12, h5Y, e3, Int.reduceToNat]
        refine (trees_nil _).then ?_; rintro _ _ ⟨rfl, rfl⟩
        simp (disch := first | omega | assumption | (simp only [O1, World.size_alloc, World.size_setCell, World.size_drew]; first | done | omega)) only [↓D1, ↓D3, ↓D4, List.not_mem_nil, not_false_eq_true, Bool.false_eq_true, false_imp_iff, upto, O1, D2, ↓H0, S0, ↓S1, ↓S2, ↓S3, ↓S4, S5, S5b, S5c, ↓S6, S6b, M0, E0, ty, tl, te, tc, i64_wrap, u64_wrap, iaV_sl, iaV_arr, faV_pa, nck_pa, heap_new, heap_old, heap_set, ↓reduceIte, Nat.reduceEqDiff, Nat.reduceLT, Nat.reduceAdd, Int.reduceLT, Int.reduceLE, decide_false, decide_true, dec_true, dec_false, true_and, and_true, true_imp_iff, Bool.not_true, Bool.not_false, Option.map_none, Int.reduceToNat, Int.toNat_zero, Int.toNat_one, lkV_false, lkV_true, k5, k9, k11, k12, h5Y, e3, Int.reduceToNat]
        refine (amb_nil _).then ?_; rintro _ _ ⟨rfl, rfl⟩
        simp (disch := first | omega | assumption | (simp only [O1, World.size_alloc, World.size_setCell, World.size_drew]; first | done | omega)) only [↓D1, ↓D3, ↓D4, List.not_mem_nil, not_false_eq_true, Bool.false_eq_true, false_imp_iff, upto, O1, D2, ↓H0, S0, ↓S1, ↓S2, ↓S3, ↓S4, S5, S5b, S5c, ↓S6, S6b, M0, E0, ty, tl, te, tc, i64_wrap, u64_wrap, iaV_sl, iaV_arr, faV_pa, nck_pa, heap_new, heap_old, heap_set, ↓reduceIte, Nat.reduceEqDiff, Nat.reduceLT, Nat.reduceAdd, Int.reduceLT, Int.reduceLE, decide_false, decide_true, dec_true, dec_false, true_and, and_true, true_imp_iff, Bool.not_true, Bool.not_false, Option.map_none, Int.reduceToNat, Int.toNat_zero, Int.toNat_one, lkV_false, lkV_true, k5, k9, k11, k12, h5Y, e3, Int.reduceToNat]
        refine (cell_nil 0 1 _).then ?_; rintro _ _ ⟨rfl, rfl⟩
        simp (disch := first | omega | assumption | (simp only [O1, World.size_alloc, World.size_setCell, World.size_drew]; first | done | omega)) only [↓D1, ↓D3, ↓D4, List.not_mem_nil, not_false_eq_true, Bool.false_eq_true, false_imp_iff, upto, O1, D2, ↓H0, S0, ↓S1, ↓S2, ↓S3, ↓S4, S5, S5b, S5c, ↓S6, S6b, M0, E0, ty, tl, te, tc, i64_wrap, u64_wrap, iaV_sl, iaV_arr, faV_pa, nck_pa, heap_new, heap_old, heap_set, ↓reduceIte, Nat.reduceEqDiff, Nat.reduceLT, Nat.reduceAdd, Int.reduceLT, Int.reduceLE, decide_false, decide_true, dec_true, dec_false, true_and, and_true, true_imp_iff, Bool.not_true, Bool.not_false, Option.map_none, Int.reduceToNat, Int.toNat_zero, Int.toNat_one, lkV_false, lkV_true, k5, k9, k11, k12, h5Y, e3, Int.reduceToNat]
        exact hend ((Ext.rfl' Y').dr.tr hxZ)
      · simp (disch := first | omega | assumption | (simp only [O1, World.size_alloc, World.size_setCell, World.size_drew]; first | done | omega)) only [↓D1, ↓D3, ↓D4, List.not_mem_nil, not_false_eq_true, Bool.false_eq_true, false_imp_iff, upto, O1, D2, ↓H0, S0, ↓S1, ↓S2, ↓S3, ↓S4, S5, S5b, S5c, ↓S6, S6b, M0, E0, ty, tl, te, tc, i64_wrap, u64_wrap, iaV_sl, iaV_arr, faV_pa, nck_pa, heap_new, heap_old, heap_set, ↓reduceIte, Nat.reduceEqDiff, Nat.reduceLT, Nat.reduceAdd, Int.reduceLT, Int.reduceLE, decide_false, decide_true, dec_true, dec_false, true_and, and_true, true_imp_iff, Bool.not_true, Bool.not_false, Option.map_none, Int.reduceToNat, Int.toNat_zero, Int.toNat_one, lkV_false, lkV_true, k5, k9, k11, k12, h5Y, e3, Int.reduceToNat]
        have hcd := hch.ext (Ext.rfl' Y').dr
        refine (has_ok b dbl x 0 q r _ hcd hx64).then ?_; rintro _ _ ⟨rfl, rfl⟩
        rw [show hasM dbl x 0 q r = false from decide_eq_false fun h => hr ⟨h.1, h.2.1, h.2.2.1⟩]
        simp (disch := first | omega | assumption | (simp only [O1, World.size_alloc, World.size_setCell, World.size_drew]; first | done | omega)) only [↓D1, ↓D3, ↓D4, List.not_mem_nil, not_false_eq_true, Bool.false_eq_true, false_imp_iff, upto, O1, D2, ↓H0, S0, ↓S1, ↓S2, ↓S3, ↓S4, S5, S5b, S5c, ↓S6, S6b, M0, E0, ty, tl, te, tc, i64_wrap, u64_wrap, iaV_sl, iaV_arr, faV_pa, nck_pa, heap_new, heap_old, heap_set, ↓reduceIte, Nat.reduceEqDiff, Nat.reduceLT, Nat.reduceAdd, Int.reduceLT, Int.reduceLE, decide_false, decide_true, dec_true, dec_false, true_and, and_true, true_imp_iff, Bool.not_true, Bool.not_false, Option.map_none, Int.reduceToNat, Int.toNat_zero, Int.toNat_one, lkV_false, lkV_true, k5, k9, k11, k12, h5Y, e3, Int.reduceToNat]
        refine (cell_ok b dbl x q r _ hcd hx64 (by simp [dbl])).then ?_; rintro vc Z ⟨hvc, hxZ⟩
        rw [cellM, if_neg hr] at hvc
        obtain ⟨VA, VC, rfl, _, _⟩ := hvc
        have hKz := Keep.of_ext hxZ []
        simp (disch := first | omega | assumption | (simp only [O1, World.size_alloc, World.size_setCell, World.size_drew]; first | done | omega)) only [↓D1, ↓D3, ↓D4, List.not_mem_nil, not_false_eq_true, Bool.false_eq_true, false_imp_iff, upto, O1, D2, ↓H0, S0, ↓S1, ↓S2, ↓S3, ↓S4, S5, S5b, S5c, ↓S6, S6b, M0, E0, ty, tl, te, tc, i64_wrap, u64_wrap, iaV_sl, iaV_arr, faV_pa, nck_pa, heap_new, heap_old, heap_set, ↓reduceIte, Nat.reduceEqDiff, Nat.reduceLT, Nat.reduceAdd, Int.reduceLT, Int.reduceLE, decide_false, decide_true, dec_true, dec_false, true_and, and_true, true_imp_iff, Bool.not_true, Bool.not_false, Option.map_none, Int.reduceToNat, Int.toNat_zero, Int.toNat_one, lkV_false, lkV_true, k5, k9, k11, k12, h5Y, e3, hKz, Int.reduceToNat, List.length_cons, List.length_nil]
        refine (yes_nil _).then ?_; rintro _ _ ⟨rfl, rfl⟩
        simp (disch := first | omega | assumption | (simp only [O1, World.size_alloc, World.size_setCell, World.size_drew]; first | done | omega)) only [↓D1, ↓D3, ↓D4, List.not_mem_nil, not_false_eq_true, Bool.false_eq_true, false_imp_iff, upto, O1, D2, ↓H0, S0, ↓S1, ↓S2, ↓S3, ↓S4, S5, S5b, S5c, ↓S6, S6b, M0, E0, ty, tl, te, tc, i64_wrap, u64_wrap, iaV_sl, iaV_arr, faV_pa, nck_pa, heap_new, heap_old, heap_set, ↓reduceIte, Nat.reduceEqDiff, Nat.reduceLT, Nat.reduceAdd, Int.reduceLT, Int.reduceLE, decide_false, decide_true, dec_true, dec_false, true_and, and_true, true_imp_iff, Bool.not_true, Bool.not_false, Option.map_none, Int.reduceToNat, Int.toNat_zero, Int.toNat_one, lkV_false, lkV_true, k5, k9, k11, k12, h5Y, e3, Int.reduceToNat]
        refine (trees_nil _).then ?_; rintro _ _ ⟨rfl, rfl⟩
        simp (disch := first | omega | assumption | (simp only [O1, World.size_alloc, World.size_setCell, World.size_drew]; first | done | omega)) only [↓D1, ↓D3, ↓D4, List.not_mem_nil, not_false_eq_true, Bool.false_eq_true, false_imp_iff, upto, O1, D2, ↓H0, S0, ↓S1, ↓S2, ↓S3, ↓S4, S5, S5b, S5c, ↓S6, S6b, M0, E0, ty, tl, te, tc, i64_wrap, u64_wrap, iaV_sl, iaV_arr, faV_pa, nck_pa, heap_new, heap_old, heap_set, ↓reduceIte, Nat.reduceEqDiff, Nat.reduceLT, Nat.reduceAdd, Int.reduceLT, Int.reduceLE, decide_false, decide_true, dec_true, dec_false, true_and, and_true, true_imp_iff, Bool.not_true, Bool.not_false, Option.map_none, Int.reduceToNat, Int.toNat_zero, Int.toNat_one, lkV_false, lkV_true, k5, k9, k11, k12, h5Y, e3, Int.reduceToNat]
        refine (amb_nil _).then ?_; rintro _ _ ⟨rfl, rfl⟩
        simp (disch := first | omega | assumption | (simp only [O1, World.size_alloc, World.size_setCell, World.size_drew]; first | done | omega)) only [↓D1, ↓D3, ↓D4, List.not_mem_nil, not_false_eq_true, Bool.false_eq_true, false_imp_iff, upto, O1, D2, ↓H0, S0, ↓S1, ↓S2, ↓S3, ↓S4, S5, S5b, S5c, ↓S6, S6b, M0, E0, ty, tl, te, tc, i64_wrap, u64_wrap, iaV_sl, iaV_arr, faV_pa, nck_pa, heap_new, heap_old, heap_set, ↓reduceIte, Nat.reduceEqDiff, Nat.reduceLT, Nat.reduceAdd, Int.reduceLT, Int.reduceLE, decide_false, decide_true, dec_true, dec_false, true_and, and_true, true_imp_iff, Bool.not_true, Bool.not_false, Option.map_none, Int.reduceToNat, Int.toNat_zero, Int.toNat_one, lkV_false, lkV_true, k5, k9, k11, k12, h5Y, e3, Int.reduceToNat]
        refine (cell_nil 0 1 _).then ?_; rintro _ _ ⟨rfl, rfl⟩
        simp (disch := first | omega | assumption | (simp only [O1, World.size_alloc, World.size_setCell, World.size_drew]; first | done | omega)) only [↓D1, ↓D3, ↓D4, List.not_mem_nil, not_false_eq_true, Bool.false_eq_true, false_imp_iff, upto, O1, D2, ↓H0, S0, ↓S1, ↓S2, ↓S3, ↓S4, S5, S5b, S5c, ↓S6, S6b, M0, E0, ty, tl, te, tc, i64_wrap, u64_wrap, iaV_sl, iaV_arr, faV_pa, nck_pa, heap_new, heap_old, heap_set, ↓reduceIte, Nat.reduceEqDiff, Nat.reduceLT, Nat.reduceAdd, Int.reduceLT, Int.reduceLE, decide_false, decide_true, dec_true, dec_false, true_and, and_true, true_imp_iff, Bool.not_true, Bool.not_false, Option.map_none, Int.reduceToNat, Int.toNat_zero, Int.toNat_one, lkV_false, lkV_true, k5, k9, k11, k12, h5Y, e3, Int.reduceToNat]
        exact hend ((Ext.rfl' Y').dr.tr hxZ)
      · simp (disch := first | omega | assumption | (simp only [O1, World.size_alloc, World.size_setCell, World.size_drew]; first | done | omega)) only [↓D1, ↓D3, ↓D4, List.not_mem_nil, not_false_eq_true, Bool.false_eq_true, false_imp_iff, upto, O1, D2, ↓H0, S0, ↓S1, ↓S2, ↓S3, ↓S4, S5, S5b, S5c, ↓S6, S6b, M0, E0, ty, tl, te, tc, i64_wrap, u64_wrap, iaV_sl, iaV_arr, faV_pa, nck_pa, heap_new, heap_old, heap_set, ↓reduceIte, Nat.reduceEqDiff, Nat.reduceLT, Nat.reduceAdd, Int.reduceLT, Int.reduceLE, decide_false, decide_true, dec_true, dec_false, true_and, and_true, true_imp_iff, Bool.not_true, Bool.not_false, Option.map_none, Int.reduceToNat, Int.toNat_zero, Int.toNat_one, lkV_false, lkV_true, k5, k9, k11, k12, h5Y, e3, Int.reduceToNat]
        refine (has_nil 0 q r _).then ?_; rintro _ _ ⟨rfl, rfl⟩
        simp (disch := first | omega | assumption | (simp only [O1, World.size_alloc, World.size_setCell, World.size_drew]; first | done | omega)) only [↓D1, ↓D3, ↓D4, List.not_mem_nil, not_false_eq_true, Bool.false_eq_true, false_imp_iff, upto, O1, D2, ↓H0, S0, ↓S1, ↓S2, ↓S3, ↓S4, S5, S5b, S5c, ↓S6, S6b, M0, E0, ty, tl, te, tc, i64_wrap, u64_wrap, iaV_sl, iaV_arr, faV_pa, nck_pa, heap_new, heap_old, heap_set, ↓reduceIte, Nat.reduceEqDiff, Nat.reduceLT, Nat.reduceAdd, Int.reduceLT, Int.reduceLE, decide_false, decide_true, dec_true, dec_false, true_and, and_true, true_imp_iff, Bool.not_true, Bool.not_false, Option.map_none, Int.reduceToNat, Int.toNat_zero, Int.toNat_one, lkV_false, lkV_true, k5, k9, k11, k12, h5Y, e3, Int.reduceToNat]
        refine (cell_nil q r _).then ?_; rintro _ _ ⟨rfl, rfl⟩
        simp (disch := first | omega | assumption | (simp only [O1, World.size_alloc, World.size_setCell, World.size_drew]; first | done | omega)) only [↓D1, ↓D3, ↓D4, List.not_mem_nil, not_false_eq_true, Bool.false_eq_true, false_imp_iff, upto, O1, D2, ↓H0, S0, ↓S1, ↓S2, ↓S3, ↓S4, S5, S5b, S5c, ↓S6, S6b, M0, E0, ty, tl, te, tc, i64_wrap, u64_wrap, iaV_sl, iaV_arr, faV_pa, nck_pa, heap_new, heap_old, heap_set, ↓reduceIte, Nat.reduceEqDiff, Nat.reduceLT, Nat.reduceAdd, Int.reduceLT, Int.reduceLE, decide_false, decide_true, dec_true, dec_false, true_and, and_true, true_imp_iff, Bool.not_true, Bool.not_false, Option.map_none, Int.reduceToNat, Int.toNat_zero, Int.toNat_one, lkV_false, lkV_true, k5, k9, k11, k12, h5Y, e3, Int.reduceToNat]
        refine (yes_nil _).then ?_; rintro _ _ ⟨rfl, rfl⟩
        simp (disch := first | omega | assumption | (simp only [O1, World.size_alloc, World.size_setCell, World.size_drew]; first | done | omega)) only [↓D1, ↓D3, ↓D4, List.not_mem_nil, not_false_eq_true, Bool.false_eq_true, false_imp_iff, upto, O1, D2, ↓H0, S0, ↓S1, ↓S2, ↓S3, ↓S4, S5, S5b, S5c, ↓S6, S6b, M0, E0, ty, tl, te, tc, i64_wrap, u64_wrap, iaV_sl, iaV_arr, faV_pa, nck_pa, heap_new, heap_old, heap_set, ↓reduceIte, Nat.reduceEqDiff, Nat.reduceLT, Nat.reduceAdd, Int.reduceLT, Int.reduceLE, decide_false, decide_true, dec_true, dec_false, true_and, and_true, true_imp_iff, Bool.not_true, Bool.not_false, Option.map_none, Int.reduceToNat, Int.toNat_zero, Int.toNat_one, lkV_false, lkV_true, k5, k9, k11, k12, h5Y, e3, Int.reduceToNat]
        refine (trees_nil _).then ?_; rintro _ _ ⟨rfl, rfl⟩
        simp (disch := first | omega | assumption | (simp only [O1, World.size_alloc, World.size_setCell, World.size_drew]; first | done | omega)) only [↓D1, ↓D3, ↓D4, List.not_mem_nil, not_false_eq_true, Bool.false_eq_true, false_imp_iff, upto, O1, D2, ↓H0, S0, ↓S1, ↓S2, ↓S3, ↓S4, S5, S5b, S5c, ↓S6, S6b, M0, E0, ty, tl, te, tc, i64_wrap, u64_wrap, iaV_sl, iaV_arr, faV_pa, nck_pa, heap_new, heap_old, heap_set, ↓reduceIte, Nat.reduceEqDiff, Nat.reduceLT, Nat.reduceAdd, Int.reduceLT, Int.reduceLE, decide_false, decide_true, dec_true, dec_false, true_and, and_true, true_imp_iff, Bool.not_true, Bool.not_false, Option.map_none, Int.reduceToNat, Int.toNat_zero, Int.toNat_one, lkV_false, lkV_true, k5, k9, k11, k12, h5Y, e3, Int.reduceToNat]
        refine (amb_nil _).then ?_; rintro _ _ ⟨rfl, rfl⟩
        simp (disch := first | omega | assumption | (simp only [O1, World.size_alloc, World.size_setCell, World.size_drew]; first | done | omega)) only [↓D1, ↓D3, ↓D4, List.not_mem_nil, not_false_eq_true, Bool.false_eq_true, false_imp_iff, upto, O1, D2, ↓H0, S0, ↓S1, ↓S2, ↓S3, ↓S4, S5, S5b, S5c, ↓S6, S6b, M0, E0, ty, tl, te, tc, i64_wrap, u64_wrap, iaV_sl, iaV_arr, faV_pa, nck_pa, heap_new, heap_old, heap_set, ↓reduceIte, Nat.reduceEqDiff, Nat.reduceLT, Nat.reduceAdd, Int.reduceLT, Int.reduceLE, decide_false, decide_true, dec_true, dec_false, true_and, and_true, true_imp_iff, Bool.not_true, Bool.not_false, Option.map_none, Int.reduceToNat, Int.toNat_zero, Int.toNat_one, lkV_false, lkV_true, k5, k9, k11, k12, h5Y, e3, Int.reduceToNat]
        refine (cell_nil 0 1 _).then ?_; rintro _ _ ⟨rfl, rfl⟩
        simp (disch := first | omega | assumption | (simp only [O1, World.size_alloc, World.size_setCell, World.size_drew]; first | done | omega)) only [↓D1, ↓D3, ↓D4, List.not_mem_nil, not_false_eq_true, Bool.false_eq_true, false_imp_iff, upto, O1, D2, ↓H0, S0, ↓S1, ↓S2, ↓S3, ↓S4, S5, S5b, S5c, ↓S6, S6b, M0, E0, ty, tl, te, tc, i64_wrap, u64_wrap, iaV_sl, iaV_arr, faV_pa, nck_pa, heap_new, heap_old, heap_set, ↓reduceIte, Nat.reduceEqDiff, Nat.reduceLT, Nat.reduceAdd, Int.reduceLT, Int.reduceLE, decide_false, decide_true, dec_true, dec_false, true_and, and_true, true_imp_iff, Bool.not_true, Bool.not_false, Option.map_none, Int.reduceToNat, Int.toNat_zero, Int.toNat_one, lkV_false, lkV_true, k5, k9, k11, k12, h5Y, e3, Int.reduceToNat]
        exact hend ((Ext.rfl' Y').dr)
end Go.Proofs.Ytgioklmpnbnplaa
