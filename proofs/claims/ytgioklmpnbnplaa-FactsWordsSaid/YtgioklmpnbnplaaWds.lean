/- The reference's least lengths and empty words; rows of truths compared. Conditions: none. -/
import Derived.Test.YtgioklmpnbnplaaSho
import Derived.Test.YtgioklmpnbnplaaFq
set_option linter.unusedSimpArgs false
set_option linter.unusedVariables false
set_option maxRecDepth 100000
namespace Go.Proofs.Ytgioklmpnbnplaa
open Go.V

theorem bools_ok (xv yv : Value) (x y : List Bool) (w : World) (hx : Bools w xv x) (hy : Bools w yv y) (hn : x.length ≤ 1000000) :
    Ok Try.prog 36 #[xv, yv] w fun v w' => v = .bool (decide (x = y)) ∧ Ext w w' := by
  obtain ⟨A, a, rfl, ha, hA⟩ := hx
  obtain ⟨B, b, rfl, hb, hB⟩ := hy
  (refine Ok.enter Try.func36 rfl (by kernel_rfl) (Nat.le_of_ble_eq_true rfl) ?_; simp only [Try.f36, S7])
  simp (disch := first | omega | assumption | (simp only [O1, World.size_alloc, World.size_setCell, World.size_drew]; first | done | omega)) only [O1, D2, ↓H0, S0, ↓S1, ↓S2, ↓S3, ↓S4, S5, S5b, S5c, ↓S6, S6b, M0, E0, ty, tl, te, tc, i64_wrap, u64_wrap, iaV_sl, iaV_arr, faV_pa, nck_pa, heap_new, heap_old, heap_set, ↓reduceIte, Nat.reduceEqDiff, Nat.reduceLT, Nat.reduceAdd, Int.reduceLT, Int.reduceLE, decide_false, decide_true, dec_true, dec_false, true_and, and_true, true_imp_iff, Bool.not_true, Bool.not_false, Option.map_none, Int.reduceToNat, Int.toNat_zero, Int.toNat_one, lkV_false, lkV_true]
  refine Br_if (fun h => ?_) (fun h' => ?_) <;> (try simp (disch := first | omega | assumption | (simp only [O1, World.size_alloc, World.size_setCell, World.size_drew]; first | done | omega)) only [O1, D2, ↓H0, S0, ↓S1, ↓S2, ↓S3, ↓S4, S5, S5b, S5c, ↓S6, S6b, M0, E0, ty, tl, te, tc, i64_wrap, u64_wrap, iaV_sl, iaV_arr, faV_pa, nck_pa, heap_new, heap_old, heap_set, ↓reduceIte, Nat.reduceEqDiff, Nat.reduceLT, Nat.reduceAdd, Int.reduceLT, Int.reduceLE, decide_false, decide_true, dec_true, dec_false, true_and, and_true, true_imp_iff, Bool.not_true, Bool.not_false, Option.map_none, Int.reduceToNat, Int.toNat_zero, Int.toNat_one, lkV_false, lkV_true])
  · have hl : x.length = y.length := by omega
    refine ⟨fun k t W => ∃ i : Nat, k + i = x.length ∧ x.take i = y.take i ∧ Ext w W ∧ t 0 = .slice A x.length a ∧ t 1 = .slice B y.length b ∧ t 5 = .int .i64 i, ⟨x.length, 0, by omega, rfl, Ext.rfl' w, ?_⟩, ?_⟩
    · simp (disch := first | omega | assumption | (simp only [O1, World.size_alloc, World.size_setCell, World.size_drew]; first | done | omega)) only [O1, D2, ↓H0, S0, ↓S1, ↓S2, ↓S3, ↓S4, S5, S5b, S5c, ↓S6, S6b, M0, E0, ty, tl, te, tc, i64_wrap, u64_wrap, iaV_sl, iaV_arr, faV_pa, nck_pa, heap_new, heap_old, heap_set, ↓reduceIte, Nat.reduceEqDiff, Nat.reduceLT, Nat.reduceAdd, Int.reduceLT, Int.reduceLE, decide_false, decide_true, dec_true, dec_false, true_and, and_true, true_imp_iff, Bool.not_true, Bool.not_false, Option.map_none, Int.reduceToNat, Int.toNat_zero, Int.toNat_one, lkV_false, lkV_true] <;> rfl
    rintro k t W ⟨i, hk, he, hW, f0, f1, f5⟩
    simp (disch := first | omega | assumption | (simp only [O1, World.size_alloc, World.size_setCell, World.size_drew]; first | done | omega)) only [O1, D2, ↓H0, S0, ↓S1, ↓S2, ↓S3, ↓S4, S5, S5b, S5c, ↓S6, S6b, M0, E0, ty, tl, te, tc, i64_wrap, u64_wrap, iaV_sl, iaV_arr, faV_pa, nck_pa, heap_new, heap_old, heap_set, ↓reduceIte, Nat.reduceEqDiff, Nat.reduceLT, Nat.reduceAdd, Int.reduceLT, Int.reduceLE, decide_false, decide_true, dec_true, dec_false, true_and, and_true, true_imp_iff, Bool.not_true, Bool.not_false, Option.map_none, Int.reduceToNat, Int.toNat_zero, Int.toNat_one, lkV_false, lkV_true, f0, f1, f5]
    refine Br_if (fun h1 => ?_) (fun h1' => ?_) <;> (try simp (disch := first | omega | assumption | (simp only [O1, World.size_alloc, World.size_setCell, World.size_drew]; first | done | omega)) only [O1, D2, ↓H0, S0, ↓S1, ↓S2, ↓S3, ↓S4, S5, S5b, S5c, ↓S6, S6b, M0, E0, ty, tl, te, tc, i64_wrap, u64_wrap, iaV_sl, iaV_arr, faV_pa, nck_pa, heap_new, heap_old, heap_set, ↓reduceIte, Nat.reduceEqDiff, Nat.reduceLT, Nat.reduceAdd, Int.reduceLT, Int.reduceLE, decide_false, decide_true, dec_true, dec_false, true_and, and_true, true_imp_iff, Bool.not_true, Bool.not_false, Option.map_none, Int.reduceToNat, Int.toNat_zero, Int.toNat_one, lkV_false, lkV_true, f0, f1, f5])
    · have hi : i < x.length := by omega
      have hi2 : i < y.length := by omega
      have q1 := (hW.dr).rd (hA i hi)
      have q2 := (hW.dr).rd (hB i hi2)
      have s1 := rd_isSome q1
      have s2 := rd_isSome q2
      have tx : x.take (i + 1) = x.take i ++ [x[i]] := List.take_succ_eq_append_getElem hi
      have ty' : y.take (i + 1) = y.take i ++ [y[i]] := List.take_succ_eq_append_getElem hi2
      have ne : x[i] ≠ y[i] → x ≠ y := fun h e => by subst e; exact h rfl
      generalize x[i] = p at *
      generalize y[i] = q at *
      have d1 : decide (true = false) = false := rfl
      have d2 : decide (false = true) = false := rfl
      refine Dr_plan [] (fun _ => true) [0, 1, 2, 3, 4, 5, 6, 7, 8] mixed (by kernel_rfl) ?_
      cases p <;> cases q
      · simp (disch := first | omega | assumption | (simp only [O1, World.size_alloc, World.size_setCell, World.size_drew]; first | done | omega)) only [↓D1, ↓D3, ↓D4, List.not_mem_nil, not_false_eq_true, Bool.false_eq_true, false_imp_iff, upto, O1, D2, ↓H0, S0, ↓S1, ↓S2, ↓S3, ↓S4, S5, S5b, S5c, ↓S6, S6b, M0, E0, ty, tl, te, tc, i64_wrap, u64_wrap, iaV_sl, iaV_arr, faV_pa, nck_pa, heap_new, heap_old, heap_set, ↓reduceIte, Nat.reduceEqDiff, Nat.reduceLT, Nat.reduceAdd, Int.reduceLT, Int.reduceLE, decide_false, decide_true, dec_true, dec_false, true_and, and_true, true_imp_iff, Bool.not_true, Bool.not_false, Option.map_none, Int.reduceToNat, Int.toNat_zero, Int.toNat_one, lkV_false, lkV_true, f0, f1, f5, q1, q2, d1, d2]
        refine ⟨k - 1, by omega, i + 1, by omega, by rw [tx, ty', he], hW.dr, rfl⟩
      · simp (disch := first | omega | assumption | (simp only [O1, World.size_alloc, World.size_setCell, World.size_drew]; first | done | omega)) only [↓D1, ↓D3, ↓D4, List.not_mem_nil, not_false_eq_true, Bool.false_eq_true, false_imp_iff, upto, O1, D2, ↓H0, S0, ↓S1, ↓S2, ↓S3, ↓S4, S5, S5b, S5c, ↓S6, S6b, M0, E0, ty, tl, te, tc, i64_wrap, u64_wrap, iaV_sl, iaV_arr, faV_pa, nck_pa, heap_new, heap_old, heap_set, ↓reduceIte, Nat.reduceEqDiff, Nat.reduceLT, Nat.reduceAdd, Int.reduceLT, Int.reduceLE, decide_false, decide_true, dec_true, dec_false, true_and, and_true, true_imp_iff, Bool.not_true, Bool.not_false, Option.map_none, Int.reduceToNat, Int.toNat_zero, Int.toNat_one, lkV_false, lkV_true, f0, f1, f5, q1, q2, d1, d2]
        rw [decide_eq_false (ne (by simp))]
        exact ⟨rfl, hW.dr⟩
      · simp (disch := first | omega | assumption | (simp only [O1, World.size_alloc, World.size_setCell, World.size_drew]; first | done | omega)) only [↓D1, ↓D3, ↓D4, List.not_mem_nil, not_false_eq_true, Bool.false_eq_true, false_imp_iff, upto, O1, D2, ↓H0, S0, ↓S1, ↓S2, ↓S3, ↓S4, S5, S5b, S5c, ↓S6, S6b, M0, E0, ty, tl, te, tc, i64_wrap, u64_wrap, iaV_sl, iaV_arr, faV_pa, nck_pa, heap_new, heap_old, heap_set, ↓reduceIte, Nat.reduceEqDiff, Nat.reduceLT, Nat.reduceAdd, Int.reduceLT, Int.reduceLE, decide_false, decide_true, dec_true, dec_false, true_and, and_true, true_imp_iff, Bool.not_true, Bool.not_false, Option.map_none, Int.reduceToNat, Int.toNat_zero, Int.toNat_one, lkV_false, lkV_true, f0, f1, f5, q1, q2, d1, d2]
        rw [decide_eq_false (ne (by simp))]
        exact ⟨rfl, hW.dr⟩
      · simp (disch := first | omega | assumption | (simp only [O1, World.size_alloc, World.size_setCell, World.size_drew]; first | done | omega)) only [↓D1, ↓D3, ↓D4, List.not_mem_nil, not_false_eq_true, Bool.false_eq_true, false_imp_iff, upto, O1, D2, ↓H0, S0, ↓S1, ↓S2, ↓S3, ↓S4, S5, S5b, S5c, ↓S6, S6b, M0, E0, ty, tl, te, tc, i64_wrap, u64_wrap, iaV_sl, iaV_arr, faV_pa, nck_pa, heap_new, heap_old, heap_set, ↓reduceIte, Nat.reduceEqDiff, Nat.reduceLT, Nat.reduceAdd, Int.reduceLT, Int.reduceLE, decide_false, decide_true, dec_true, dec_false, true_and, and_true, true_imp_iff, Bool.not_true, Bool.not_false, Option.map_none, Int.reduceToNat, Int.toNat_zero, Int.toNat_one, lkV_false, lkV_true, f0, f1, f5, q1, q2, d1, d2]
        refine ⟨k - 1, by omega, i + 1, by omega, by rw [tx, ty', he], hW.dr, rfl⟩
    · have e : x = y := by
        have e1 : x.take i = x := List.take_of_length_le (by omega)
        have e2 : y.take i = y := List.take_of_length_le (by omega)
        rw [e1, e2] at he; exact he
      rw [decide_eq_true e]
      exact ⟨rfl, hW⟩
  · have : x ≠ y := fun e => h' (by rw [e])
    rw [decide_eq_false this]
    exact ⟨rfl, Ext.rfl' w⟩
set_option maxHeartbeats 4000000 in
theorem rshort_ok (v : Value) (g : PG) (w : World) (hg : RepPG w v g) (hS : SoundP g) (hs : SmallP g) :
    Ok Try.prog 34 #[v] w fun v w' => (∃ l, Ints w' v l ∧ Short g.names.length g.prods l) ∧ Ext w w' := by
  obtain ⟨nv, tv, pv, rfl, hN, hT, hp⟩ := hg
  obtain ⟨A, a, rfl, ha, hA⟩ := hN
  obtain ⟨C, c, rfl, hc, hC⟩ := hp
  obtain ⟨s1, s2, s3, s4⟩ := hs
  have hin := hS.inR
  (refine Ok.enter Try.func34 rfl (by kernel_rfl) (Nat.le_of_ble_eq_true rfl) ?_; simp only [Try.f34, S7])
  simp (disch := first | omega | assumption | (simp only [O1, World.size_alloc, World.size_setCell, World.size_drew]; first | done | omega)) only [O1, D2, ↓H0, S0, ↓S1, ↓S2, ↓S3, ↓S4, S5, S5b, S5c, ↓S6, S6b, M0, E0, ty, tl, te, tc, i64_wrap, u64_wrap, iaV_sl, iaV_arr, faV_pa, nck_pa, heap_new, heap_old, heap_set, ↓reduceIte, Nat.reduceEqDiff, Nat.reduceLT, Nat.reduceAdd, Int.reduceLT, Int.reduceLE, decide_false, decide_true, dec_true, dec_false, true_and, and_true, true_imp_iff, Bool.not_true, Bool.not_false, Option.map_none, Int.reduceToNat, Int.toNat_zero, Int.toNat_one, lkV_false, lkV_true]
  have hx0 := (Ext.rfl' w).al (.cells #[.int .i64 g.start, .int .i64 g.rules, .slice A g.names.length a, tv, .slice C g.prods.length c] 49)
  have hb0 := heap_new (w := w) (.cells #[.int .i64 g.start, .int .i64 g.rules, .slice A g.names.length a, tv, .slice C g.prods.length c] 49) rfl
  refine RunM_own (enc := Value.int .i64) (z := 0) sl23 rfl (by omega) (by omega) ?_
  intro W hWs hx1 hO
  obtain ⟨G, hG⟩ : ∃ G, G = w.heap.size + 1 := ⟨_, rfl⟩
  simp only [World.size_alloc] at hO hWs
  rw [← hG] at hO hWs
  have hb1 := hx1.hp hb0
  have hxW := hx0.tr hx1
  clear hx0 hb0 hx1
  rw [World.size_alloc, ← hG]
  simp (disch := first | omega | assumption | (simp only [O1, World.size_alloc, World.size_setCell, World.size_drew]; first | done | omega)) only [O1, D2, ↓H0, S0, ↓S1, ↓S2, ↓S3, ↓S4, S5, S5b, S5c, ↓S6, S6b, M0, E0, ty, tl, te, tc, i64_wrap, u64_wrap, iaV_sl, iaV_arr, faV_pa, nck_pa, heap_new, heap_old, heap_set, ↓reduceIte, Nat.reduceEqDiff, Nat.reduceLT, Nat.reduceAdd, Int.reduceLT, Int.reduceLE, decide_false, decide_true, dec_true, dec_false, true_and, and_true, true_imp_iff, Bool.not_true, Bool.not_false, Option.map_none, Int.reduceToNat, Int.toNat_zero, Int.toNat_one, lkV_false, lkV_true, sl]
  refine ⟨fun k t U => ∃ i : Nat, k + i = g.names.length ∧ Ext w U ∧ Own (.int .i64) 3 U G (List.replicate i (-1) ++ List.replicate (g.names.length - i) 0) ∧ U.heap[w.heap.size]? = some (.cells #[.int .i64 g.start, .int .i64 g.rules, .slice A g.names.length a, tv, .slice C g.prods.length c] 49 (0, 0)) ∧
    t 1 = pa (some ⟨w.heap.size, 0, none⟩) 0 ∧ t 3 = .slice (some ⟨G, 0, none⟩) g.names.length g.names.length ∧ t 4 = .int .i64 i, ⟨g.names.length, 0, by omega, hxW, by simpa using hO, hb1, ?_⟩, ?_⟩
  · simp (disch := first | omega | assumption | (simp only [O1, World.size_alloc, World.size_setCell, World.size_drew]; first | done | omega)) only [O1, D2, ↓H0, S0, ↓S1, ↓S2, ↓S3, ↓S4, S5, S5b, S5c, ↓S6, S6b, M0, E0, ty, tl, te, tc, i64_wrap, u64_wrap, iaV_sl, iaV_arr, faV_pa, nck_pa, heap_new, heap_old, heap_set, ↓reduceIte, Nat.reduceEqDiff, Nat.reduceLT, Nat.reduceAdd, Int.reduceLT, Int.reduceLE, decide_false, decide_true, dec_true, dec_false, true_and, and_true, true_imp_iff, Bool.not_true, Bool.not_false, Option.map_none, Int.reduceToNat, Int.toNat_zero, Int.toNat_one, lkV_false, lkV_true] <;> rfl
  clear hO hb1 hxW hWs
  rintro k t U ⟨i, hk, hx, hO, hbx, f1, f3, f4⟩
  simp (disch := first | omega | assumption | (simp only [O1, World.size_alloc, World.size_setCell, World.size_drew]; first | done | omega)) only [O1, D2, ↓H0, S0, ↓S1, ↓S2, ↓S3, ↓S4, S5, S5b, S5c, ↓S6, S6b, M0, E0, ty, tl, te, tc, i64_wrap, u64_wrap, iaV_sl, iaV_arr, faV_pa, nck_pa, heap_new, heap_old, heap_set, ↓reduceIte, Nat.reduceEqDiff, Nat.reduceLT, Nat.reduceAdd, Int.reduceLT, Int.reduceLE, decide_false, decide_true, dec_true, dec_false, true_and, and_true, true_imp_iff, Bool.not_true, Bool.not_false, Option.map_none, Int.reduceToNat, Int.toNat_zero, Int.toNat_one, lkV_false, lkV_true, f1, f3, f4]
  refine Br_if (fun h => ?_) (fun h' => ?_) <;> (try simp (disch := first | omega | assumption | (simp only [O1, World.size_alloc, World.size_setCell, World.size_drew]; first | done | omega)) only [O1, D2, ↓H0, S0, ↓S1, ↓S2, ↓S3, ↓S4, S5, S5b, S5c, ↓S6, S6b, M0, E0, ty, tl, te, tc, i64_wrap, u64_wrap, iaV_sl, iaV_arr, faV_pa, nck_pa, heap_new, heap_old, heap_set, ↓reduceIte, Nat.reduceEqDiff, Nat.reduceLT, Nat.reduceAdd, Int.reduceLT, Int.reduceLE, decide_false, decide_true, dec_true, dec_false, true_and, and_true, true_imp_iff, Bool.not_true, Bool.not_false, Option.map_none, Int.reduceToNat, Int.toNat_zero, Int.toNat_one, lkV_false, lkV_true, f1, f3, f4])
  · have hst := hO.sto (P := Try.prog) (t := 3) (by simp only [ty]) i (by simp; omega) (-1 : Int) rfl
    simp (disch := first | omega | assumption | (simp only [O1, World.size_alloc, World.size_setCell, World.size_drew]; first | done | omega)) only [O1, D2, ↓H0, S0, ↓S1, ↓S2, ↓S3, ↓S4, S5, S5b, S5c, ↓S6, S6b, M0, E0, ty, tl, te, tc, i64_wrap, u64_wrap, iaV_sl, iaV_arr, faV_pa, nck_pa, heap_new, heap_old, heap_set, ↓reduceIte, Nat.reduceEqDiff, Nat.reduceLT, Nat.reduceAdd, Int.reduceLT, Int.reduceLE, decide_false, decide_true, dec_true, dec_false, true_and, and_true, true_imp_iff, Bool.not_true, Bool.not_false, Option.map_none, Int.reduceToNat, Int.toNat_zero, Int.toNat_one, lkV_false, lkV_true, f1, f3, f4, hst]
    have hO2 := hO.set i (-1 : Int)
    have e : (List.replicate i (-1 : Int) ++ List.replicate (g.names.length - i) 0).set i (-1) = List.replicate (i + 1) (-1) ++ List.replicate (g.names.length - (i + 1)) 0 := by
      rw [List.set_append_right _ _ (by simp), List.length_replicate, Nat.sub_self, show g.names.length - i = (g.names.length - (i + 1)) + 1 by omega, List.replicate_succ, List.set_cons_zero, List.replicate_succ', List.append_assoc]; rfl
    rw [e] at hO2
    have hGU := hO.lt
    exact ⟨k - 1, by omega, i + 1, by omega, hx.st (by omega) _, hO2, hbx, rfl⟩
  have hin' : i = g.names.length := by omega
  subst hin'
  rw [Nat.sub_self, List.replicate_zero, List.append_nil] at hO
  refine ⟨fun k t U => ∃ (l : List Int) (m : Bool), k = 2 * left l + (if m then 1 else 0) ∧ ShortI g.names.length g.prods l ∧ (m = false → ∀ p ∈ g.prods, ClosedAt l p) ∧ Ext w U ∧ Own (.int .i64) 3 U G l ∧ U.heap[w.heap.size]? = some (.cells #[.int .i64 g.start, .int .i64 g.rules, .slice A g.names.length a, tv, .slice C g.prods.length c] 49 (0, 0)) ∧
    t 1 = pa (some ⟨w.heap.size, 0, none⟩) 0 ∧ t 3 = .slice (some ⟨G, 0, none⟩) g.names.length g.names.length ∧ t 5 = .bool m, ⟨_, List.replicate g.names.length (-1), true, rfl, ShortI.start _ _, by simp, hx, hO, hbx, ?_⟩, ?_⟩
  · simp (disch := first | omega | assumption | (simp only [O1, World.size_alloc, World.size_setCell, World.size_drew]; first | done | omega)) only [O1, D2, ↓H0, S0, ↓S1, ↓S2, ↓S3, ↓S4, S5, S5b, S5c, ↓S6, S6b, M0, E0, ty, tl, te, tc, i64_wrap, u64_wrap, iaV_sl, iaV_arr, faV_pa, nck_pa, heap_new, heap_old, heap_set, ↓reduceIte, Nat.reduceEqDiff, Nat.reduceLT, Nat.reduceAdd, Int.reduceLT, Int.reduceLE, decide_false, decide_true, dec_true, dec_false, true_and, and_true, true_imp_iff, Bool.not_true, Bool.not_false, Option.map_none, Int.reduceToNat, Int.toNat_zero, Int.toNat_one, lkV_false, lkV_true, f1, f3] <;> rfl
  clear hO hbx hx f1 f3 f4
  rintro k t U ⟨l, m, rfl, hI, hcl, hx, hO, hbx, f1, f3, f5⟩
  simp (disch := first | omega | assumption | (simp only [O1, World.size_alloc, World.size_setCell, World.size_drew]; first | done | omega)) only [O1, D2, ↓H0, S0, ↓S1, ↓S2, ↓S3, ↓S4, S5, S5b, S5c, ↓S6, S6b, M0, E0, ty, tl, te, tc, i64_wrap, u64_wrap, iaV_sl, iaV_arr, faV_pa, nck_pa, heap_new, heap_old, heap_set, ↓reduceIte, Nat.reduceEqDiff, Nat.reduceLT, Nat.reduceAdd, Int.reduceLT, Int.reduceLE, decide_false, decide_true, dec_true, dec_false, true_and, and_true, true_imp_iff, Bool.not_true, Bool.not_false, Option.map_none, Int.reduceToNat, Int.toNat_zero, Int.toNat_one, lkV_false, lkV_true, f1, f3, f5]
  cases m with
  | false =>
    simp (disch := first | omega | assumption | (simp only [O1, World.size_alloc, World.size_setCell, World.size_drew]; first | done | omega)) only [O1, D2, ↓H0, S0, ↓S1, ↓S2, ↓S3, ↓S4, S5, S5b, S5c, ↓S6, S6b, M0, E0, ty, tl, te, tc, i64_wrap, u64_wrap, iaV_sl, iaV_arr, faV_pa, nck_pa, heap_new, heap_old, heap_set, ↓reduceIte, Nat.reduceEqDiff, Nat.reduceLT, Nat.reduceAdd, Int.reduceLT, Int.reduceLE, decide_false, decide_true, dec_true, dec_false, true_and, and_true, true_imp_iff, Bool.not_true, Bool.not_false, Option.map_none, Int.reduceToNat, Int.toNat_zero, Int.toNat_one, lkV_false, lkV_true, f1, f3, f5]
    have := hO.sq
    rw [hI.1] at this
    exact ⟨⟨l, this, hI.done hin (hcl rfl)⟩, hx⟩
  | true =>
    simp (disch := first | omega | assumption | (simp only [O1, World.size_alloc, World.size_setCell, World.size_drew]; first | done | omega)) only [O1, D2, ↓H0, S0, ↓S1, ↓S2, ↓S3, ↓S4, S5, S5b, S5c, ↓S6, S6b, M0, E0, ty, tl, te, tc, i64_wrap, u64_wrap, iaV_sl, iaV_arr, faV_pa, nck_pa, heap_new, heap_old, heap_set, ↓reduceIte, Nat.reduceEqDiff, Nat.reduceLT, Nat.reduceAdd, Int.reduceLT, Int.reduceLE, decide_false, decide_true, dec_true, dec_false, true_and, and_true, true_imp_iff, Bool.not_true, Bool.not_false, Option.map_none, Int.reduceToNat, Int.toNat_zero, Int.toNat_one, lkV_false, lkV_true, f1, f3, f5]
    refine ⟨fun k2 t U => ∃ (j : Nat) (l2 : List Int) (m : Bool), k2 + j = g.prods.length ∧ (m = true → left l2 < left l) ∧ left l2 ≤ left l ∧ ShortI g.names.length g.prods l2 ∧ (m = false → ∀ i (h : i < g.prods.length), i < j → ClosedAt l2 g.prods[i]) ∧ Ext w U ∧ Own (.int .i64) 3 U G l2 ∧ U.heap[w.heap.size]? = some (.cells #[.int .i64 g.start, .int .i64 g.rules, .slice A g.names.length a, tv, .slice C g.prods.length c] 49 (0, 0)) ∧
      t 1 = pa (some ⟨w.heap.size, 0, none⟩) 0 ∧ t 3 = .slice (some ⟨G, 0, none⟩) g.names.length g.names.length ∧ t 5 = .bool m ∧ t 6 = .int .i64 j,
      ⟨g.prods.length, 0, l, false, by omega, by simp, Nat.le_refl _, hI, fun _ i _ h => by omega, hx, hO, hbx, ?_⟩, ?_⟩
    · simp (disch := first | omega | assumption | (simp only [O1, World.size_alloc, World.size_setCell, World.size_drew]; first | done | omega)) only [O1, D2, ↓H0, S0, ↓S1, ↓S2, ↓S3, ↓S4, S5, S5b, S5c, ↓S6, S6b, M0, E0, ty, tl, te, tc, i64_wrap, u64_wrap, iaV_sl, iaV_arr, faV_pa, nck_pa, heap_new, heap_old, heap_set, ↓reduceIte, Nat.reduceEqDiff, Nat.reduceLT, Nat.reduceAdd, Int.reduceLT, Int.reduceLE, decide_false, decide_true, dec_true, dec_false, true_and, and_true, true_imp_iff, Bool.not_true, Bool.not_false, Option.map_none, Int.reduceToNat, Int.toNat_zero, Int.toNat_one, lkV_false, lkV_true, f1, f3, f5] <;> rfl
    clear hI hcl hx hO hbx f1 f3 f5
    rintro k2 t U ⟨j, l2, m, hk2, hm1, hm2, hI, hcl, hx, hO, hbx, f1, f3, f5, f6⟩
    simp (disch := first | omega | assumption | (simp only [O1, World.size_alloc, World.size_setCell, World.size_drew]; first | done | omega)) only [O1, D2, ↓H0, S0, ↓S1, ↓S2, ↓S3, ↓S4, S5, S5b, S5c, ↓S6, S6b, M0, E0, ty, tl, te, tc, i64_wrap, u64_wrap, iaV_sl, iaV_arr, faV_pa, nck_pa, heap_new, heap_old, heap_set, ↓reduceIte, Nat.reduceEqDiff, Nat.reduceLT, Nat.reduceAdd, Int.reduceLT, Int.reduceLE, decide_false, decide_true, dec_true, dec_false, true_and, and_true, true_imp_iff, Bool.not_true, Bool.not_false, Option.map_none, Int.reduceToNat, Int.toNat_zero, Int.toNat_one, lkV_false, lkV_true, f1, f3, f5, f6, hbx]
    refine Br_if (fun h => ?_) (fun h' => ?_) <;> (try simp (disch := first | omega | assumption | (simp only [O1, World.size_alloc, World.size_setCell, World.size_drew]; first | done | omega)) only [O1, D2, ↓H0, S0, ↓S1, ↓S2, ↓S3, ↓S4, S5, S5b, S5c, ↓S6, S6b, M0, E0, ty, tl, te, tc, i64_wrap, u64_wrap, iaV_sl, iaV_arr, faV_pa, nck_pa, heap_new, heap_old, heap_set, ↓reduceIte, Nat.reduceEqDiff, Nat.reduceLT, Nat.reduceAdd, Int.reduceLT, Int.reduceLE, decide_false, decide_true, dec_true, dec_false, true_and, and_true, true_imp_iff, Bool.not_true, Bool.not_false, Option.map_none, Int.reduceToNat, Int.toNat_zero, Int.toNat_one, lkV_false, lkV_true, f1, f3, f5, f6, hbx])
    · have hj : j < g.prods.length := by omega
      obtain ⟨hl, r, hr, hR⟩ := hC j hj
      obtain ⟨D, d, rfl, hd, hD⟩ := hR
      have hl' := hx.rd hl
      have hr' := hx.rd hr
      have hAs := rd_isSome hl
      have hmem : g.prods[j] ∈ g.prods := List.getElem_mem _
      generalize hp : g.prods[j] = p at *
      obtain ⟨⟨hp0, hp1⟩, hps⟩ := hin p hmem
      have hlen := s4 p hmem
      simp (disch := first | omega | assumption | (simp only [O1, World.size_alloc, World.size_setCell, World.size_drew]; first | done | omega)) only [O1, D2, ↓H0, S0, ↓S1, ↓S2, ↓S3, ↓S4, S5, S5b, S5c, ↓S6, S6b, M0, E0, ty, tl, te, tc, i64_wrap, u64_wrap, iaV_sl, iaV_arr, faV_pa, nck_pa, heap_new, heap_old, heap_set, ↓reduceIte, Nat.reduceEqDiff, Nat.reduceLT, Nat.reduceAdd, Int.reduceLT, Int.reduceLE, decide_false, decide_true, dec_true, dec_false, true_and, and_true, true_imp_iff, Bool.not_true, Bool.not_false, Option.map_none, Int.reduceToNat, Int.toNat_zero, Int.toNat_one, lkV_false, lkV_true, f1, f3, f5, f6, hbx, hl', hr']
      refine ⟨fun k3 t V => ∃ (i : Nat) (x : Int), k3 + i = p.2.length ∧ V = U ∧ ((x = -1 ∧ ¬ Known l2 p.2) ∨ (x = (costOf (natAt l2) (p.2.take i) : Nat) ∧ Known l2 (p.2.take i))) ∧
        t 1 = pa (some ⟨w.heap.size, 0, none⟩) 0 ∧ t 3 = .slice (some ⟨G, 0, none⟩) g.names.length g.names.length ∧ t 5 = .bool m ∧ t 6 = .int .i64 j ∧ t 7 = .int .i64 x ∧ t 8 = .slice D p.2.length d ∧ t 9 = .int .i64 i,
        ⟨p.2.length, 0, 0, by omega, rfl, .inr ⟨rfl, fun s hs => by simp at hs⟩, ?_⟩, ?_⟩
      · simp (disch := first | omega | assumption | (simp only [O1, World.size_alloc, World.size_setCell, World.size_drew]; first | done | omega)) only [O1, D2, ↓H0, S0, ↓S1, ↓S2, ↓S3, ↓S4, S5, S5b, S5c, ↓S6, S6b, M0, E0, ty, tl, te, tc, i64_wrap, u64_wrap, iaV_sl, iaV_arr, faV_pa, nck_pa, heap_new, heap_old, heap_set, ↓reduceIte, Nat.reduceEqDiff, Nat.reduceLT, Nat.reduceAdd, Int.reduceLT, Int.reduceLE, decide_false, decide_true, dec_true, dec_false, true_and, and_true, true_imp_iff, Bool.not_true, Bool.not_false, Option.map_none, Int.reduceToNat, Int.toNat_zero, Int.toNat_one, lkV_false, lkV_true, f1, f3, f5, f6] <;> rfl
      clear f1 f3 f5 f6
      rintro k3 t U' ⟨i, x, hk3, rfl, hK, f1, f3, f5, f6, f7, f8, f9⟩
      have stay : ClosedAt l2 p → m = false → ∀ i (h : i < g.prods.length), i < j + 1 → ClosedAt l2 g.prods[i] := fun hc hm i hi hij => by
        by_cases e : i = j
        · subst e; rw [hp]; exact hc
        · exact hcl hm i hi (by omega)
      rcases hK with ⟨rfl, hnK⟩ | ⟨rfl, hK⟩
      · simp (disch := first | omega | assumption | (simp only [O1, World.size_alloc, World.size_setCell, World.size_drew]; first | done | omega)) only [O1, D2, ↓H0, S0, ↓S1, ↓S2, ↓S3, ↓S4, S5, S5b, S5c, ↓S6, S6b, M0, E0, ty, tl, te, tc, i64_wrap, u64_wrap, iaV_sl, iaV_arr, faV_pa, nck_pa, heap_new, heap_old, heap_set, ↓reduceIte, Nat.reduceEqDiff, Nat.reduceLT, Nat.reduceAdd, Int.reduceLT, Int.reduceLE, decide_false, decide_true, dec_true, dec_false, true_and, and_true, true_imp_iff, Bool.not_true, Bool.not_false, Option.map_none, Int.reduceToNat, Int.toNat_zero, Int.toNat_one, lkV_false, lkV_true, f1, f3, f5, f6, f7, f8, f9, hbx, hl', hr']
        refine Br_if (fun q => ?_) (fun q' => ?_) <;> (try simp (disch := first | omega | assumption | (simp only [O1, World.size_alloc, World.size_setCell, World.size_drew]; first | done | omega)) only [O1, D2, ↓H0, S0, ↓S1, ↓S2, ↓S3, ↓S4, S5, S5b, S5c, ↓S6, S6b, M0, E0, ty, tl, te, tc, i64_wrap, u64_wrap, iaV_sl, iaV_arr, faV_pa, nck_pa, heap_new, heap_old, heap_set, ↓reduceIte, Nat.reduceEqDiff, Nat.reduceLT, Nat.reduceAdd, Int.reduceLT, Int.reduceLE, decide_false, decide_true, dec_true, dec_false, true_and, and_true, true_imp_iff, Bool.not_true, Bool.not_false, Option.map_none, Int.reduceToNat, Int.toNat_zero, Int.toNat_one, lkV_false, lkV_true, f1, f3, f5, f6, f7, f8, f9, hbx, hl', hr'])
        · exact ⟨k2 - 1, by omega, j + 1, l2, m, by omega, hm1, hm2, hI, stay fun h => absurd h hnK, hx, hO, rfl, rfl⟩
        · exact ⟨k2 - 1, by omega, j + 1, l2, m, by omega, hm1, hm2, hI, stay fun h => absurd h hnK, hx, hO, rfl, rfl⟩
      · have hcle := costOf_le (natAt l2) (p.2.take i)
        have hge : (0 : Int) ≤ ((costOf (natAt l2) (p.2.take i) : Nat) : Int) := by omega
        simp (disch := first | omega | assumption | (simp only [O1, World.size_alloc, World.size_setCell, World.size_drew]; first | done | omega)) only [O1, D2, ↓H0, S0, ↓S1, ↓S2, ↓S3, ↓S4, S5, S5b, S5c, ↓S6, S6b, M0, E0, ty, tl, te, tc, i64_wrap, u64_wrap, iaV_sl, iaV_arr, faV_pa, nck_pa, heap_new, heap_old, heap_set, ↓reduceIte, Nat.reduceEqDiff, Nat.reduceLT, Nat.reduceAdd, Int.reduceLT, Int.reduceLE, decide_false, decide_true, dec_true, dec_false, true_and, and_true, true_imp_iff, Bool.not_true, Bool.not_false, Option.map_none, Int.reduceToNat, Int.toNat_zero, Int.toNat_one, lkV_false, lkV_true, f1, f3, f5, f6, f7, f8, f9, hbx, hl', hr']
        refine Br_if (fun q => ?_) (fun q' => ?_) <;> (try simp (disch := first | omega | assumption | (simp only [O1, World.size_alloc, World.size_setCell, World.size_drew]; first | done | omega)) only [O1, D2, ↓H0, S0, ↓S1, ↓S2, ↓S3, ↓S4, S5, S5b, S5c, ↓S6, S6b, M0, E0, ty, tl, te, tc, i64_wrap, u64_wrap, iaV_sl, iaV_arr, faV_pa, nck_pa, heap_new, heap_old, heap_set, ↓reduceIte, Nat.reduceEqDiff, Nat.reduceLT, Nat.reduceAdd, Int.reduceLT, Int.reduceLE, decide_false, decide_true, dec_true, dec_false, true_and, and_true, true_imp_iff, Bool.not_true, Bool.not_false, Option.map_none, Int.reduceToNat, Int.toNat_zero, Int.toNat_one, lkV_false, lkV_true, f1, f3, f5, f6, f7, f8, f9, hbx, hl', hr'])
        · skip
          · have hi : i < p.2.length := by omega
            have hs := hx.rd (hD i hi)
            have hDs := rd_isSome hs
            have htk : p.2.take (i + 1) = p.2.take i ++ [p.2[i]] := List.take_succ_eq_append_getElem hi
            have hmem2 : p.2[i] ∈ p.2 := List.getElem_mem _
            generalize hse : p.2[i] = s at *
            have hsn := hps s hmem2
            have hstep : Known l2 (p.2.take (i + 1)) ↔ (0 ≤ s → 0 ≤ l2.getD s.toNat (-1)) := by
              rw [htk]
              constructor
              · intro h; exact h s (by simp)
              · intro h x hx
                simp only [List.mem_append, List.mem_singleton] at hx
                rcases hx with hx | rfl
                · exact hK x hx
                · exact h
            have hsno : costOf (natAt l2) (p.2.take (i + 1)) = costN (natAt l2) (costOf (natAt l2) (p.2.take i)) s := by rw [htk, costOf_snoc]
            simp (disch := first | omega | assumption | (simp only [O1, World.size_alloc, World.size_setCell, World.size_drew]; first | done | omega)) only [O1, D2, ↓H0, S0, ↓S1, ↓S2, ↓S3, ↓S4, S5, S5b, S5c, ↓S6, S6b, M0, E0, ty, tl, te, tc, i64_wrap, u64_wrap, iaV_sl, iaV_arr, faV_pa, nck_pa, heap_new, heap_old, heap_set, ↓reduceIte, Nat.reduceEqDiff, Nat.reduceLT, Nat.reduceAdd, Int.reduceLT, Int.reduceLE, decide_false, decide_true, dec_true, dec_false, true_and, and_true, true_imp_iff, Bool.not_true, Bool.not_false, Option.map_none, Int.reduceToNat, Int.toNat_zero, Int.toNat_one, lkV_false, lkV_true, f1, f3, f5, f6, f7, f8, f9, hbx, hl', hr', hs]
            refine Br_if (fun h1 => ?_) (fun h1' => ?_) <;> (try simp (disch := first | omega | assumption | (simp only [O1, World.size_alloc, World.size_setCell, World.size_drew]; first | done | omega)) only [O1, D2, ↓H0, S0, ↓S1, ↓S2, ↓S3, ↓S4, S5, S5b, S5c, ↓S6, S6b, M0, E0, ty, tl, te, tc, i64_wrap, u64_wrap, iaV_sl, iaV_arr, faV_pa, nck_pa, heap_new, heap_old, heap_set, ↓reduceIte, Nat.reduceEqDiff, Nat.reduceLT, Nat.reduceAdd, Int.reduceLT, Int.reduceLE, decide_false, decide_true, dec_true, dec_false, true_and, and_true, true_imp_iff, Bool.not_true, Bool.not_false, Option.map_none, Int.reduceToNat, Int.toNat_zero, Int.toNat_one, lkV_false, lkV_true, f1, f3, f5, f6, f7, f8, f9, hbx, hl', hr', hs])
            · have hcn := costN_neg (natAt l2) (costOf (natAt l2) (p.2.take i)) s (by omega)
              rw [← hsno] at hcn
              have e1 : ((costOf (natAt l2) (p.2.take i) : Nat) : Int) + 1 = ((costOf (natAt l2) (p.2.take i) + 1 : Nat) : Int) := by omega
              refine Br_if (fun h2 => ?_) (fun h2' => ?_) <;> (try simp (disch := first | omega | assumption | (simp only [O1, World.size_alloc, World.size_setCell, World.size_drew]; first | done | omega)) only [O1, D2, ↓H0, S0, ↓S1, ↓S2, ↓S3, ↓S4, S5, S5b, S5c, ↓S6, S6b, M0, E0, ty, tl, te, tc, i64_wrap, u64_wrap, iaV_sl, iaV_arr, faV_pa, nck_pa, heap_new, heap_old, heap_set, ↓reduceIte, Nat.reduceEqDiff, Nat.reduceLT, Nat.reduceAdd, Int.reduceLT, Int.reduceLE, decide_false, decide_true, dec_true, dec_false, true_and, and_true, true_imp_iff, Bool.not_true, Bool.not_false, Option.map_none, Int.reduceToNat, Int.toNat_zero, Int.toNat_one, lkV_false, lkV_true, f1, f3, f5, f6, f7, f8, f9, hbx, hl', hr'])
              · rw [if_pos (by omega)] at hcn
                exact ⟨k3 - 1, by omega, i + 1, _, by omega, .inr ⟨rfl, hstep.2 (by omega)⟩, by rw [hcn], rfl⟩
              · rw [if_neg (by omega)] at hcn
                exact ⟨k3 - 1, by omega, i + 1, _, by omega, .inr ⟨rfl, hstep.2 (by omega)⟩, by rw [hcn], rfl⟩
            · have hsl : s.toNat < l2.length := by rw [hI.1]; omega
              have hrdS := hO.rd s.toNat hsl
              have hceS := hO.cell s.toNat hsl
              have hbd := hI.bounds l2[s.toNat] (List.getElem_mem _)
              have hgD : l2.getD s.toNat (-1) = l2[s.toNat] := by simp [List.getD_eq_getElem?_getD, List.getElem?_eq_getElem hsl]
              have hnat : natAt l2 s = l2[s.toNat].toNat := by unfold natAt; rw [hgD]
              generalize l2[s.toNat] = y at *
              simp (disch := first | omega | assumption | (simp only [O1, World.size_alloc, World.size_setCell, World.size_drew]; first | done | omega)) only [O1, D2, ↓H0, S0, ↓S1, ↓S2, ↓S3, ↓S4, S5, S5b, S5c, ↓S6, S6b, M0, E0, ty, tl, te, tc, i64_wrap, u64_wrap, iaV_sl, iaV_arr, faV_pa, nck_pa, heap_new, heap_old, heap_set, ↓reduceIte, Nat.reduceEqDiff, Nat.reduceLT, Nat.reduceAdd, Int.reduceLT, Int.reduceLE, decide_false, decide_true, dec_true, dec_false, true_and, and_true, true_imp_iff, Bool.not_true, Bool.not_false, Option.map_none, Int.reduceToNat, Int.toNat_zero, Int.toNat_one, lkV_false, lkV_true, f1, f3, f5, f6, f7, f8, f9, hbx, hl', hr', hs, hrdS, hceS]
              refine Br_if (fun h2 => ?_) (fun h2' => ?_) <;> (try simp (disch := first | omega | assumption | (simp only [O1, World.size_alloc, World.size_setCell, World.size_drew]; first | done | omega)) only [O1, D2, ↓H0, S0, ↓S1, ↓S2, ↓S3, ↓S4, S5, S5b, S5c, ↓S6, S6b, M0, E0, ty, tl, te, tc, i64_wrap, u64_wrap, iaV_sl, iaV_arr, faV_pa, nck_pa, heap_new, heap_old, heap_set, ↓reduceIte, Nat.reduceEqDiff, Nat.reduceLT, Nat.reduceAdd, Int.reduceLT, Int.reduceLE, decide_false, decide_true, dec_true, dec_false, true_and, and_true, true_imp_iff, Bool.not_true, Bool.not_false, Option.map_none, Int.reduceToNat, Int.toNat_zero, Int.toNat_one, lkV_false, lkV_true, f1, f3, f5, f6, f7, f8, f9, hbx, hl', hr', hs, hrdS, hceS])
              · exact ⟨k3 - 1, by omega, i + 1, -1, by omega, .inl ⟨rfl, fun hh => by have := hh s hmem2 (by omega); omega⟩, rfl, rfl⟩
              · have hcn := costN_pos (natAt l2) (costOf (natAt l2) (p.2.take i)) s (by omega)
                rw [← hsno, hnat] at hcn
                have e1 : ((costOf (natAt l2) (p.2.take i) : Nat) : Int) + y = ((costOf (natAt l2) (p.2.take i) + y.toNat : Nat) : Int) := by omega
                refine Br_if (fun h3 => ?_) (fun h3' => ?_) <;> (try simp (disch := first | omega | assumption | (simp only [O1, World.size_alloc, World.size_setCell, World.size_drew]; first | done | omega)) only [O1, D2, ↓H0, S0, ↓S1, ↓S2, ↓S3, ↓S4, S5, S5b, S5c, ↓S6, S6b, M0, E0, ty, tl, te, tc, i64_wrap, u64_wrap, iaV_sl, iaV_arr, faV_pa, nck_pa, heap_new, heap_old, heap_set, ↓reduceIte, Nat.reduceEqDiff, Nat.reduceLT, Nat.reduceAdd, Int.reduceLT, Int.reduceLE, decide_false, decide_true, dec_true, dec_false, true_and, and_true, true_imp_iff, Bool.not_true, Bool.not_false, Option.map_none, Int.reduceToNat, Int.toNat_zero, Int.toNat_one, lkV_false, lkV_true, f1, f3, f5, f6, f7, f8, f9, hbx, hl', hr'])
                · rw [if_pos (by omega)] at hcn
                  exact ⟨k3 - 1, by omega, i + 1, _, by omega, .inr ⟨rfl, hstep.2 (by rw [hgD]; omega)⟩, by rw [hcn], rfl⟩
                · rw [if_neg (by omega), ← e1] at hcn
                  exact ⟨k3 - 1, by omega, i + 1, _, by omega, .inr ⟨rfl, hstep.2 (by rw [hgD]; omega)⟩, by rw [hcn], rfl⟩
        · have hti : p.2.take i = p.2 := List.take_of_length_le (by omega)
          rw [hti] at f7 hK hcle hge
          have hp1' : p.1.toNat < l2.length := by rw [hI.1]; omega
          have hrdG := hO.rd p.1.toNat hp1'
          have hceG := hO.cell p.1.toNat hp1'
          have hgD : l2.getD p.1.toNat (-1) = l2[p.1.toNat] := by simp [List.getD_eq_getElem?_getD, List.getElem?_eq_getElem hp1']
          have hold : l2[p.1.toNat]? = some l2[p.1.toNat] := List.getElem?_eq_getElem hp1'
          generalize hco : costOf (natAt l2) p.2 = n at *
          have upd' : (l2[p.1.toNat] < 0 ∨ (n : Int) < l2[p.1.toNat]) → ShortI g.names.length g.prods (l2.set p.1.toNat (n : Nat)) ∧ left (l2.set p.1.toNat (n : Nat)) < left l2 := fun h => ⟨hco ▸ hI.set hmem hp0 hK hin, left_set hold hcle h⟩
          have hst := Own.sto (P := Try.prog) (t := 3) hO (by simp only [ty]) p.1.toNat hp1' (n : Int) rfl
          have hO3 := hO.set p.1.toNat (n : Int)
          have hGU := hO.lt
          have hx3 : Ext w (U'.setCell ⟨G, p.1.toNat, none⟩ (.int .i64 (n : Int))) := hx.st (by omega) _
          generalize hy : l2[p.1.toNat] = y at *
          simp (disch := first | omega | assumption | (simp only [O1, World.size_alloc, World.size_setCell, World.size_drew]; first | done | omega)) only [O1, D2, ↓H0, S0, ↓S1, ↓S2, ↓S3, ↓S4, S5, S5b, S5c, ↓S6, S6b, M0, E0, ty, tl, te, tc, i64_wrap, u64_wrap, iaV_sl, iaV_arr, faV_pa, nck_pa, heap_new, heap_old, heap_set, ↓reduceIte, Nat.reduceEqDiff, Nat.reduceLT, Nat.reduceAdd, Int.reduceLT, Int.reduceLE, decide_false, decide_true, dec_true, dec_false, true_and, and_true, true_imp_iff, Bool.not_true, Bool.not_false, Option.map_none, Int.reduceToNat, Int.toNat_zero, Int.toNat_one, lkV_false, lkV_true, f1, f3, f5, f6, f7, f8, f9, hbx, hl', hr', hrdG, hceG]
          refine Br_if (fun h1 => ?_) (fun h1' => ?_) <;> (try simp (disch := first | omega | assumption | (simp only [O1, World.size_alloc, World.size_setCell, World.size_drew]; first | done | omega)) only [O1, D2, ↓H0, S0, ↓S1, ↓S2, ↓S3, ↓S4, S5, S5b, S5c, ↓S6, S6b, M0, E0, ty, tl, te, tc, i64_wrap, u64_wrap, iaV_sl, iaV_arr, faV_pa, nck_pa, heap_new, heap_old, heap_set, ↓reduceIte, Nat.reduceEqDiff, Nat.reduceLT, Nat.reduceAdd, Int.reduceLT, Int.reduceLE, decide_false, decide_true, dec_true, dec_false, true_and, and_true, true_imp_iff, Bool.not_true, Bool.not_false, Option.map_none, Int.reduceToNat, Int.toNat_zero, Int.toNat_one, lkV_false, lkV_true, f1, f3, f5, f6, f7, f8, f9, hbx, hl', hr', hrdG, hceG, hst])
          · obtain ⟨i1, i2⟩ := upd' (.inl h1)
            exact ⟨k2 - 1, by omega, j + 1, _, true, by omega, fun _ => by omega, by omega, i1, by simp, hx3, hO3, rfl, rfl⟩
          · refine Br_if (fun h2 => ?_) (fun h2' => ?_) <;> (try simp (disch := first | omega | assumption | (simp only [O1, World.size_alloc, World.size_setCell, World.size_drew]; first | done | omega)) only [O1, D2, ↓H0, S0, ↓S1, ↓S2, ↓S3, ↓S4, S5, S5b, S5c, ↓S6, S6b, M0, E0, ty, tl, te, tc, i64_wrap, u64_wrap, iaV_sl, iaV_arr, faV_pa, nck_pa, heap_new, heap_old, heap_set, ↓reduceIte, Nat.reduceEqDiff, Nat.reduceLT, Nat.reduceAdd, Int.reduceLT, Int.reduceLE, decide_false, decide_true, dec_true, dec_false, true_and, and_true, true_imp_iff, Bool.not_true, Bool.not_false, Option.map_none, Int.reduceToNat, Int.toNat_zero, Int.toNat_one, lkV_false, lkV_true, f1, f3, f5, f6, f7, f8, f9, hbx, hl', hr', hrdG, hceG, hst])
            · obtain ⟨i1, i2⟩ := upd' (.inr h2)
              exact ⟨k2 - 1, by omega, j + 1, _, true, by omega, fun _ => by omega, by omega, i1, by simp, hx3, hO3, rfl, rfl⟩
            · refine ⟨k2 - 1, by omega, j + 1, l2, m, by omega, hm1, hm2, hI, stay fun _ => ?_, hx, hO, rfl, rfl⟩
              rw [hgD, hco]; omega
    · have hj : j = g.prods.length := by omega
      refine ⟨2 * left l2 + (if m then 1 else 0), ?_, l2, m, rfl, hI, fun hm p hp => ?_, hx, hO, rfl⟩
      · cases m with
        | true => have := hm1 rfl; simp; omega
        | false => simp; omega
      · obtain ⟨i, hi, rfl⟩ := List.mem_iff_getElem.1 hp
        exact hcl hm i hi (by omega)
/-- All symbols are known to derive the empty word. -/
def NulK (l : List Bool) (r : List Int) : Prop := ∀ s ∈ r, 0 ≤ s ∧ l[s.toNat]? = some true
set_option maxHeartbeats 4000000 in
theorem rnull_ok (v : Value) (g : PG) (w : World) (hg : RepPG w v g) (hS : SoundP g) (hs : SmallP g) :
    Ok Try.prog 38 #[v] w fun v w' => (∃ l, Bools w' v l ∧ Tells g.names.length (Gen false g.prods) l) ∧ Ext w w' := by
  obtain ⟨nv, tv, pv, rfl, hN, hT, hp⟩ := hg
  obtain ⟨A, a, rfl, ha, hA⟩ := hN
  obtain ⟨C, c, rfl, hc, hC⟩ := hp
  obtain ⟨s1, s2, s3, s4⟩ := hs
  have hin := hS.inR
  (refine Ok.enter Try.func38 rfl (by kernel_rfl) (Nat.le_of_ble_eq_true rfl) ?_; simp only [Try.f38, S7])
  simp (disch := first | omega | assumption | (simp only [O1, World.size_alloc, World.size_setCell, World.size_drew]; first | done | omega)) only [O1, D2, ↓H0, S0, ↓S1, ↓S2, ↓S3, ↓S4, S5, S5b, S5c, ↓S6, S6b, M0, E0, ty, tl, te, tc, i64_wrap, u64_wrap, iaV_sl, iaV_arr, faV_pa, nck_pa, heap_new, heap_old, heap_set, ↓reduceIte, Nat.reduceEqDiff, Nat.reduceLT, Nat.reduceAdd, Int.reduceLT, Int.reduceLE, decide_false, decide_true, dec_true, dec_false, true_and, and_true, true_imp_iff, Bool.not_true, Bool.not_false, Option.map_none, Int.reduceToNat, Int.toNat_zero, Int.toNat_one, lkV_false, lkV_true]
  have hx0 := (Ext.rfl' w).al (.cells #[.int .i64 g.start, .int .i64 g.rules, .slice A g.names.length a, tv, .slice C g.prods.length c] 49)
  have hb0 := heap_new (w := w) (.cells #[.int .i64 g.start, .int .i64 g.rules, .slice A g.names.length a, tv, .slice C g.prods.length c] 49) rfl
  refine RunM_own (enc := Value.bool) (z := false) sl53 rfl (by omega) (by omega) ?_
  intro W hWs hx1 hO
  obtain ⟨G, hG⟩ : ∃ G, G = w.heap.size + 1 := ⟨_, rfl⟩
  simp only [World.size_alloc] at hO hWs
  rw [← hG] at hO hWs
  have hb1 := hx1.hp hb0
  have hxW := hx0.tr hx1
  clear hx0 hb0 hx1
  rw [World.size_alloc, ← hG]
  simp (disch := first | omega | assumption | (simp only [O1, World.size_alloc, World.size_setCell, World.size_drew]; first | done | omega)) only [O1, D2, ↓H0, S0, ↓S1, ↓S2, ↓S3, ↓S4, S5, S5b, S5c, ↓S6, S6b, M0, E0, ty, tl, te, tc, i64_wrap, u64_wrap, iaV_sl, iaV_arr, faV_pa, nck_pa, heap_new, heap_old, heap_set, ↓reduceIte, Nat.reduceEqDiff, Nat.reduceLT, Nat.reduceAdd, Int.reduceLT, Int.reduceLE, decide_false, decide_true, dec_true, dec_false, true_and, and_true, true_imp_iff, Bool.not_true, Bool.not_false, Option.map_none, Int.reduceToNat, Int.toNat_zero, Int.toNat_one, lkV_false, lkV_true, sl]
  refine ⟨fun k t U => ∃ (l : List Bool) (m : Bool), k = 2 * falses l + (if m then 1 else 0) ∧ l.length = g.names.length ∧ (∀ i : Nat, i < g.names.length → l[i]? = some true → Gen false g.prods i) ∧ (m = false → ∀ p ∈ g.prods, NulK l p.2 → l[p.1.toNat]? = some true) ∧ Ext w U ∧ Own .bool 4 U G l ∧ U.heap[w.heap.size]? = some (.cells #[.int .i64 g.start, .int .i64 g.rules, .slice A g.names.length a, tv, .slice C g.prods.length c] 49 (0, 0)) ∧
    t 1 = pa (some ⟨w.heap.size, 0, none⟩) 0 ∧ t 3 = .slice (some ⟨G, 0, none⟩) g.names.length g.names.length ∧ t 4 = .bool m, ⟨_, List.replicate g.names.length false, true, rfl, by simp, fun i hi h => by simp [List.getElem?_replicate] at h, by simp, hxW, hO, hb1, ?_⟩, ?_⟩
  · simp (disch := first | omega | assumption | (simp only [O1, World.size_alloc, World.size_setCell, World.size_drew]; first | done | omega)) only [O1, D2, ↓H0, S0, ↓S1, ↓S2, ↓S3, ↓S4, S5, S5b, S5c, ↓S6, S6b, M0, E0, ty, tl, te, tc, i64_wrap, u64_wrap, iaV_sl, iaV_arr, faV_pa, nck_pa, heap_new, heap_old, heap_set, ↓reduceIte, Nat.reduceEqDiff, Nat.reduceLT, Nat.reduceAdd, Int.reduceLT, Int.reduceLE, decide_false, decide_true, dec_true, dec_false, true_and, and_true, true_imp_iff, Bool.not_true, Bool.not_false, Option.map_none, Int.reduceToNat, Int.toNat_zero, Int.toNat_one, lkV_false, lkV_true] <;> rfl
  clear hO hb1 hxW hWs
  rintro k t U ⟨l, m, rfl, hl, hI, hcl, hx, hO, hbx, f1, f3, f4⟩
  simp (disch := first | omega | assumption | (simp only [O1, World.size_alloc, World.size_setCell, World.size_drew]; first | done | omega)) only [O1, D2, ↓H0, S0, ↓S1, ↓S2, ↓S3, ↓S4, S5, S5b, S5c, ↓S6, S6b, M0, E0, ty, tl, te, tc, i64_wrap, u64_wrap, iaV_sl, iaV_arr, faV_pa, nck_pa, heap_new, heap_old, heap_set, ↓reduceIte, Nat.reduceEqDiff, Nat.reduceLT, Nat.reduceAdd, Int.reduceLT, Int.reduceLE, decide_false, decide_true, dec_true, dec_false, true_and, and_true, true_imp_iff, Bool.not_true, Bool.not_false, Option.map_none, Int.reduceToNat, Int.toNat_zero, Int.toNat_one, lkV_false, lkV_true, f1, f3, f4]
  cases m with
  | false =>
    simp (disch := first | omega | assumption | (simp only [O1, World.size_alloc, World.size_setCell, World.size_drew]; first | done | omega)) only [O1, D2, ↓H0, S0, ↓S1, ↓S2, ↓S3, ↓S4, S5, S5b, S5c, ↓S6, S6b, M0, E0, ty, tl, te, tc, i64_wrap, u64_wrap, iaV_sl, iaV_arr, faV_pa, nck_pa, heap_new, heap_old, heap_set, ↓reduceIte, Nat.reduceEqDiff, Nat.reduceLT, Nat.reduceAdd, Int.reduceLT, Int.reduceLE, decide_false, decide_true, dec_true, dec_false, true_and, and_true, true_imp_iff, Bool.not_true, Bool.not_false, Option.map_none, Int.reduceToNat, Int.toNat_zero, Int.toNat_one, lkV_false, lkV_true, f1, f3, f4]
    have := hO.sq
    rw [hl] at this
    exact ⟨⟨l, this, tells_gen hl hI fun p hp h => hcl rfl p hp fun s hs => by
      obtain ⟨h1, h2⟩ := h s hs
      rcases Int.lt_or_le s 0 with h3 | h3
      · have := h1 h3; cases this
      · exact ⟨h3, h2 h3⟩⟩, hx⟩
  | true =>
    simp (disch := first | omega | assumption | (simp only [O1, World.size_alloc, World.size_setCell, World.size_drew]; first | done | omega)) only [O1, D2, ↓H0, S0, ↓S1, ↓S2, ↓S3, ↓S4, S5, S5b, S5c, ↓S6, S6b, M0, E0, ty, tl, te, tc, i64_wrap, u64_wrap, iaV_sl, iaV_arr, faV_pa, nck_pa, heap_new, heap_old, heap_set, ↓reduceIte, Nat.reduceEqDiff, Nat.reduceLT, Nat.reduceAdd, Int.reduceLT, Int.reduceLE, decide_false, decide_true, dec_true, dec_false, true_and, and_true, true_imp_iff, Bool.not_true, Bool.not_false, Option.map_none, Int.reduceToNat, Int.toNat_zero, Int.toNat_one, lkV_false, lkV_true, f1, f3, f4]
    refine ⟨fun k2 t U => ∃ (j : Nat) (l2 : List Bool) (m : Bool), k2 + j = g.prods.length ∧ (m = true → falses l2 < falses l) ∧ falses l2 ≤ falses l ∧ l2.length = g.names.length ∧ (∀ i : Nat, i < g.names.length → l2[i]? = some true → Gen false g.prods i) ∧ (m = false → ∀ i (h : i < g.prods.length), i < j → NulK l2 g.prods[i].2 → l2[g.prods[i].1.toNat]? = some true) ∧ Ext w U ∧ Own .bool 4 U G l2 ∧ U.heap[w.heap.size]? = some (.cells #[.int .i64 g.start, .int .i64 g.rules, .slice A g.names.length a, tv, .slice C g.prods.length c] 49 (0, 0)) ∧
      t 1 = pa (some ⟨w.heap.size, 0, none⟩) 0 ∧ t 3 = .slice (some ⟨G, 0, none⟩) g.names.length g.names.length ∧ t 4 = .bool m ∧ t 5 = .int .i64 j,
      ⟨g.prods.length, 0, l, false, by omega, by simp, Nat.le_refl _, hl, hI, fun _ i _ h => by omega, hx, hO, hbx, ?_⟩, ?_⟩
    · simp (disch := first | omega | assumption | (simp only [O1, World.size_alloc, World.size_setCell, World.size_drew]; first | done | omega)) only [O1, D2, ↓H0, S0, ↓S1, ↓S2, ↓S3, ↓S4, S5, S5b, S5c, ↓S6, S6b, M0, E0, ty, tl, te, tc, i64_wrap, u64_wrap, iaV_sl, iaV_arr, faV_pa, nck_pa, heap_new, heap_old, heap_set, ↓reduceIte, Nat.reduceEqDiff, Nat.reduceLT, Nat.reduceAdd, Int.reduceLT, Int.reduceLE, decide_false, decide_true, dec_true, dec_false, true_and, and_true, true_imp_iff, Bool.not_true, Bool.not_false, Option.map_none, Int.reduceToNat, Int.toNat_zero, Int.toNat_one, lkV_false, lkV_true, f1, f3, f4] <;> rfl
    clear hI hcl hx hO hbx f1 f3 f4 hl
    rintro k2 t U ⟨j, l2, m, hk2, hm1, hm2, hl, hI, hcl, hx, hO, hbx, f1, f3, f4, f5⟩
    simp (disch := first | omega | assumption | (simp only [O1, World.size_alloc, World.size_setCell, World.size_drew]; first | done | omega)) only [O1, D2, ↓H0, S0, ↓S1, ↓S2, ↓S3, ↓S4, S5, S5b, S5c, ↓S6, S6b, M0, E0, ty, tl, te, tc, i64_wrap, u64_wrap, iaV_sl, iaV_arr, faV_pa, nck_pa, heap_new, heap_old, heap_set, ↓reduceIte, Nat.reduceEqDiff, Nat.reduceLT, Nat.reduceAdd, Int.reduceLT, Int.reduceLE, decide_false, decide_true, dec_true, dec_false, true_and, and_true, true_imp_iff, Bool.not_true, Bool.not_false, Option.map_none, Int.reduceToNat, Int.toNat_zero, Int.toNat_one, lkV_false, lkV_true, f1, f3, f4, f5, hbx]
    refine Br_if (fun h => ?_) (fun h' => ?_) <;> (try simp (disch := first | omega | assumption | (simp only [O1, World.size_alloc, World.size_setCell, World.size_drew]; first | done | omega)) only [O1, D2, ↓H0, S0, ↓S1, ↓S2, ↓S3, ↓S4, S5, S5b, S5c, ↓S6, S6b, M0, E0, ty, tl, te, tc, i64_wrap, u64_wrap, iaV_sl, iaV_arr, faV_pa, nck_pa, heap_new, heap_old, heap_set, ↓reduceIte, Nat.reduceEqDiff, Nat.reduceLT, Nat.reduceAdd, Int.reduceLT, Int.reduceLE, decide_false, decide_true, dec_true, dec_false, true_and, and_true, true_imp_iff, Bool.not_true, Bool.not_false, Option.map_none, Int.reduceToNat, Int.toNat_zero, Int.toNat_one, lkV_false, lkV_true, f1, f3, f4, f5, hbx])
    · have hj : j < g.prods.length := by omega
      obtain ⟨hl', r, hr, hR⟩ := hC j hj
      obtain ⟨D, d, rfl, hd, hD⟩ := hR
      have hl' := hx.rd hl'
      have hr' := hx.rd hr
      have hAs := rd_isSome hl'
      have hmem : g.prods[j] ∈ g.prods := List.getElem_mem _
      generalize hp : g.prods[j] = p at *
      obtain ⟨⟨hp0, hp1⟩, hps⟩ := hin p hmem
      have hlen := s4 p hmem
      simp (disch := first | omega | assumption | (simp only [O1, World.size_alloc, World.size_setCell, World.size_drew]; first | done | omega)) only [O1, D2, ↓H0, S0, ↓S1, ↓S2, ↓S3, ↓S4, S5, S5b, S5c, ↓S6, S6b, M0, E0, ty, tl, te, tc, i64_wrap, u64_wrap, iaV_sl, iaV_arr, faV_pa, nck_pa, heap_new, heap_old, heap_set, ↓reduceIte, Nat.reduceEqDiff, Nat.reduceLT, Nat.reduceAdd, Int.reduceLT, Int.reduceLE, decide_false, decide_true, dec_true, dec_false, true_and, and_true, true_imp_iff, Bool.not_true, Bool.not_false, Option.map_none, Int.reduceToNat, Int.toNat_zero, Int.toNat_one, lkV_false, lkV_true, f1, f3, f4, f5, hbx, hl', hr']
      have stay : (NulK l2 p.2 → l2[p.1.toNat]? = some true) → m = false → ∀ i (h : i < g.prods.length), i < j + 1 → NulK l2 g.prods[i].2 → l2[g.prods[i].1.toNat]? = some true := fun hc hm i hi hij => by
        by_cases e : i = j
        · subst e; rw [hp]; exact hc
        · exact hcl hm i hi (by omega)
      refine ⟨fun k3 t V => ∃ (i : Nat) (b : Bool), k3 + i = p.2.length ∧ V = U ∧ (b = true ↔ NulK l2 (p.2.take i)) ∧
        t 1 = pa (some ⟨w.heap.size, 0, none⟩) 0 ∧ t 3 = .slice (some ⟨G, 0, none⟩) g.names.length g.names.length ∧ t 4 = .bool m ∧ t 5 = .int .i64 j ∧ t 6 = .bool b ∧ t 7 = .slice D p.2.length d ∧ t 8 = .int .i64 i,
        ⟨p.2.length, 0, true, by omega, rfl, by simp [NulK], ?_⟩, ?_⟩
      · simp (disch := first | omega | assumption | (simp only [O1, World.size_alloc, World.size_setCell, World.size_drew]; first | done | omega)) only [O1, D2, ↓H0, S0, ↓S1, ↓S2, ↓S3, ↓S4, S5, S5b, S5c, ↓S6, S6b, M0, E0, ty, tl, te, tc, i64_wrap, u64_wrap, iaV_sl, iaV_arr, faV_pa, nck_pa, heap_new, heap_old, heap_set, ↓reduceIte, Nat.reduceEqDiff, Nat.reduceLT, Nat.reduceAdd, Int.reduceLT, Int.reduceLE, decide_false, decide_true, dec_true, dec_false, true_and, and_true, true_imp_iff, Bool.not_true, Bool.not_false, Option.map_none, Int.reduceToNat, Int.toNat_zero, Int.toNat_one, lkV_false, lkV_true, f1, f3, f4, f5] <;> rfl
      clear f1 f3 f4 f5
      rintro k3 t U' ⟨i, b, hk3, rfl, hK, f1, f3, f4, f5, f6, f7, f8⟩
      simp (disch := first | omega | assumption | (simp only [O1, World.size_alloc, World.size_setCell, World.size_drew]; first | done | omega)) only [O1, D2, ↓H0, S0, ↓S1, ↓S2, ↓S3, ↓S4, S5, S5b, S5c, ↓S6, S6b, M0, E0, ty, tl, te, tc, i64_wrap, u64_wrap, iaV_sl, iaV_arr, faV_pa, nck_pa, heap_new, heap_old, heap_set, ↓reduceIte, Nat.reduceEqDiff, Nat.reduceLT, Nat.reduceAdd, Int.reduceLT, Int.reduceLE, decide_false, decide_true, dec_true, dec_false, true_and, and_true, true_imp_iff, Bool.not_true, Bool.not_false, Option.map_none, Int.reduceToNat, Int.toNat_zero, Int.toNat_one, lkV_false, lkV_true, f1, f3, f4, f5, f6, f7, f8, hbx, hl', hr']
      refine Br_if (fun q => ?_) (fun q' => ?_) <;> (try simp (disch := first | omega | assumption | (simp only [O1, World.size_alloc, World.size_setCell, World.size_drew]; first | done | omega)) only [O1, D2, ↓H0, S0, ↓S1, ↓S2, ↓S3, ↓S4, S5, S5b, S5c, ↓S6, S6b, M0, E0, ty, tl, te, tc, i64_wrap, u64_wrap, iaV_sl, iaV_arr, faV_pa, nck_pa, heap_new, heap_old, heap_set, ↓reduceIte, Nat.reduceEqDiff, Nat.reduceLT, Nat.reduceAdd, Int.reduceLT, Int.reduceLE, decide_false, decide_true, dec_true, dec_false, true_and, and_true, true_imp_iff, Bool.not_true, Bool.not_false, Option.map_none, Int.reduceToNat, Int.toNat_zero, Int.toNat_one, lkV_false, lkV_true, f1, f3, f4, f5, f6, f7, f8, hbx, hl', hr'])
      · have hi : i < p.2.length := by omega
        have hs := hx.rd (hD i hi)
        have hDs := rd_isSome hs
        have htk : p.2.take (i + 1) = p.2.take i ++ [p.2[i]] := List.take_succ_eq_append_getElem hi
        have hmem2 : p.2[i] ∈ p.2 := List.getElem_mem _
        generalize hse : p.2[i] = s at *
        have hsn := hps s hmem2
        have hstep : NulK l2 (p.2.take (i + 1)) ↔ b = true ∧ 0 ≤ s ∧ l2[s.toNat]? = some true := by
          rw [htk, hK]
          unfold NulK
          simp [or_imp, forall_and]
          exact ⟨fun ⟨⟨a, b⟩, c, d⟩ => ⟨⟨a, c⟩, b, d⟩, fun ⟨⟨a, c⟩, b, d⟩ => ⟨⟨a, b⟩, c, d⟩⟩
        cases b with
        | false =>
          simp (disch := first | omega | assumption | (simp only [O1, World.size_alloc, World.size_setCell, World.size_drew]; first | done | omega)) only [O1, D2, ↓H0, S0, ↓S1, ↓S2, ↓S3, ↓S4, S5, S5b, S5c, ↓S6, S6b, M0, E0, ty, tl, te, tc, i64_wrap, u64_wrap, iaV_sl, iaV_arr, faV_pa, nck_pa, heap_new, heap_old, heap_set, ↓reduceIte, Nat.reduceEqDiff, Nat.reduceLT, Nat.reduceAdd, Int.reduceLT, Int.reduceLE, decide_false, decide_true, dec_true, dec_false, true_and, and_true, true_imp_iff, Bool.not_true, Bool.not_false, Option.map_none, Int.reduceToNat, Int.toNat_zero, Int.toNat_one, lkV_false, lkV_true, f1, f3, f4, f5, f6, f7, f8, hbx, hl', hr']
          exact ⟨k3 - 1, by omega, i + 1, false, by omega, by rw [hstep]; simp, rfl, rfl⟩
        | true =>
          simp (disch := first | omega | assumption | (simp only [O1, World.size_alloc, World.size_setCell, World.size_drew]; first | done | omega)) only [O1, D2, ↓H0, S0, ↓S1, ↓S2, ↓S3, ↓S4, S5, S5b, S5c, ↓S6, S6b, M0, E0, ty, tl, te, tc, i64_wrap, u64_wrap, iaV_sl, iaV_arr, faV_pa, nck_pa, heap_new, heap_old, heap_set, ↓reduceIte, Nat.reduceEqDiff, Nat.reduceLT, Nat.reduceAdd, Int.reduceLT, Int.reduceLE, decide_false, decide_true, dec_true, dec_false, true_and, and_true, true_imp_iff, Bool.not_true, Bool.not_false, Option.map_none, Int.reduceToNat, Int.toNat_zero, Int.toNat_one, lkV_false, lkV_true, f1, f3, f4, f5, f6, f7, f8, hbx, hl', hr', hs]
          refine Br_if (fun h1 => ?_) (fun h1' => ?_) <;> (try simp (disch := first | omega | assumption | (simp only [O1, World.size_alloc, World.size_setCell, World.size_drew]; first | done | omega)) only [O1, D2, ↓H0, S0, ↓S1, ↓S2, ↓S3, ↓S4, S5, S5b, S5c, ↓S6, S6b, M0, E0, ty, tl, te, tc, i64_wrap, u64_wrap, iaV_sl, iaV_arr, faV_pa, nck_pa, heap_new, heap_old, heap_set, ↓reduceIte, Nat.reduceEqDiff, Nat.reduceLT, Nat.reduceAdd, Int.reduceLT, Int.reduceLE, decide_false, decide_true, dec_true, dec_false, true_and, and_true, true_imp_iff, Bool.not_true, Bool.not_false, Option.map_none, Int.reduceToNat, Int.toNat_zero, Int.toNat_one, lkV_false, lkV_true, f1, f3, f4, f5, f6, f7, f8, hbx, hl', hr', hs])
          · have hsl : s.toNat < l2.length := by omega
            have hrdS := hO.rd s.toNat hsl
            have hceS := hO.cell s.toNat hsl
            have hq : l2[s.toNat]? = some l2[s.toNat] := List.getElem?_eq_getElem hsl
            generalize l2[s.toNat] = y at *
            simp (disch := first | omega | assumption | (simp only [O1, World.size_alloc, World.size_setCell, World.size_drew]; first | done | omega)) only [O1, D2, ↓H0, S0, ↓S1, ↓S2, ↓S3, ↓S4, S5, S5b, S5c, ↓S6, S6b, M0, E0, ty, tl, te, tc, i64_wrap, u64_wrap, iaV_sl, iaV_arr, faV_pa, nck_pa, heap_new, heap_old, heap_set, ↓reduceIte, Nat.reduceEqDiff, Nat.reduceLT, Nat.reduceAdd, Int.reduceLT, Int.reduceLE, decide_false, decide_true, dec_true, dec_false, true_and, and_true, true_imp_iff, Bool.not_true, Bool.not_false, Option.map_none, Int.reduceToNat, Int.toNat_zero, Int.toNat_one, lkV_false, lkV_true, f1, f3, f4, f5, f6, f7, f8, hbx, hl', hr', hs, hrdS, hceS]
            exact ⟨k3 - 1, by omega, i + 1, y, by omega, by rw [hstep, hq]; simp [h1], rfl, rfl⟩
          · exact ⟨k3 - 1, by omega, i + 1, false, by omega, by rw [hstep]; simp [h1'], rfl, rfl⟩
      · have hti : p.2.take i = p.2 := List.take_of_length_le (by omega)
        rw [hti] at hK
        cases b with
        | false =>
          simp (disch := first | omega | assumption | (simp only [O1, World.size_alloc, World.size_setCell, World.size_drew]; first | done | omega)) only [O1, D2, ↓H0, S0, ↓S1, ↓S2, ↓S3, ↓S4, S5, S5b, S5c, ↓S6, S6b, M0, E0, ty, tl, te, tc, i64_wrap, u64_wrap, iaV_sl, iaV_arr, faV_pa, nck_pa, heap_new, heap_old, heap_set, ↓reduceIte, Nat.reduceEqDiff, Nat.reduceLT, Nat.reduceAdd, Int.reduceLT, Int.reduceLE, decide_false, decide_true, dec_true, dec_false, true_and, and_true, true_imp_iff, Bool.not_true, Bool.not_false, Option.map_none, Int.reduceToNat, Int.toNat_zero, Int.toNat_one, lkV_false, lkV_true, f1, f3, f4, f5, f6, f7, f8, hbx, hl', hr']
          exact ⟨k2 - 1, by omega, j + 1, l2, m, by omega, hm1, hm2, hl, hI, stay (fun h => absurd (hK.2 h) (by simp)), hx, hO, rfl, rfl⟩
        | true =>
          have hN := hK.1 rfl
          have hp1' : p.1.toNat < l2.length := by omega
          have hrdG := hO.rd p.1.toNat hp1'
          have hceG := hO.cell p.1.toNat hp1'
          have hq : l2[p.1.toNat]? = some l2[p.1.toNat] := List.getElem?_eq_getElem hp1'
          generalize l2[p.1.toNat] = y at *
          cases y with
          | true =>
            simp (disch := first | omega | assumption | (simp only [O1, World.size_alloc, World.size_setCell, World.size_drew]; first | done | omega)) only [O1, D2, ↓H0, S0, ↓S1, ↓S2, ↓S3, ↓S4, S5, S5b, S5c, ↓S6, S6b, M0, E0, ty, tl, te, tc, i64_wrap, u64_wrap, iaV_sl, iaV_arr, faV_pa, nck_pa, heap_new, heap_old, heap_set, ↓reduceIte, Nat.reduceEqDiff, Nat.reduceLT, Nat.reduceAdd, Int.reduceLT, Int.reduceLE, decide_false, decide_true, dec_true, dec_false, true_and, and_true, true_imp_iff, Bool.not_true, Bool.not_false, Option.map_none, Int.reduceToNat, Int.toNat_zero, Int.toNat_one, lkV_false, lkV_true, f1, f3, f4, f5, f6, f7, f8, hbx, hl', hr', hrdG, hceG]
            exact ⟨k2 - 1, by omega, j + 1, l2, m, by omega, hm1, hm2, hl, hI, stay fun _ => hq, hx, hO, rfl, rfl⟩
          | false =>
            have hst := hO.sto (P := Try.prog) (t := 4) (by simp only [ty]) p.1.toNat hp1' true rfl
            have hO3 := hO.set p.1.toNat true
            have hGU := hO.lt
            have hx3 : Ext w (U'.setCell ⟨G, p.1.toNat, none⟩ (.bool true)) := hx.st (by omega) _
            have hfs := falses_set hq
            have hG1 : Gen false g.prods p.1 := .mk p hmem (fun s hs h => by have := (hN s hs).1; omega) fun s hs h => by
              have h2 := (hN s hs).2
              have := hI s.toNat (by rw [← hl]; exact (List.getElem?_eq_some_iff.1 h2).1) h2
              rwa [Int.toNat_of_nonneg h] at this
            simp (disch := first | omega | assumption | (simp only [O1, World.size_alloc, World.size_setCell, World.size_drew]; first | done | omega)) only [O1, D2, ↓H0, S0, ↓S1, ↓S2, ↓S3, ↓S4, S5, S5b, S5c, ↓S6, S6b, M0, E0, ty, tl, te, tc, i64_wrap, u64_wrap, iaV_sl, iaV_arr, faV_pa, nck_pa, heap_new, heap_old, heap_set, ↓reduceIte, Nat.reduceEqDiff, Nat.reduceLT, Nat.reduceAdd, Int.reduceLT, Int.reduceLE, decide_false, decide_true, dec_true, dec_false, true_and, and_true, true_imp_iff, Bool.not_true, Bool.not_false, Option.map_none, Int.reduceToNat, Int.toNat_zero, Int.toNat_one, lkV_false, lkV_true, f1, f3, f4, f5, f6, f7, f8, hbx, hl', hr', hrdG, hceG, hst]
            refine ⟨k2 - 1, by omega, j + 1, _, true, by omega, fun _ => by omega, by omega, by simpa using hl, fun i hi h => ?_, by simp, hx3, hO3, rfl, rfl⟩
            rw [List.getElem?_set] at h
            by_cases e : p.1.toNat = i
            · have : ((i : Nat) : Int) = p.1 := by omega
              rw [this]; exact hG1
            · rw [if_neg e] at h; exact hI i hi h
    · have hj : j = g.prods.length := by omega
      refine ⟨2 * falses l2 + (if m then 1 else 0), ?_, l2, m, rfl, hl, hI, fun hm p hp => ?_, hx, hO, rfl⟩
      · cases m with
        | true => have := hm1 rfl; simp; omega
        | false => simp; omega
      · obtain ⟨i, hi, rfl⟩ := List.mem_iff_getElem.1 hp
        exact hcl hm i hi (by omega)
end Go.Proofs.Ytgioklmpnbnplaa
