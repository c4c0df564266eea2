/- The walks of facts.length, slices.Repeat and facts.Shortest. Conditions: none. -/
import Derived.Test.YtgioklmpnbnplaaSnd
import Derived.Test.YtgioklmpnbnplaaFp
import Derived.Test.YtgioklmpnbnplaaMul
import Derived.Test.YtgioklmpnbnplaaVj
set_option linter.unusedSimpArgs false
set_option linter.unusedVariables false
set_option maxRecDepth 100000
namespace Go.Proofs.Ytgioklmpnbnplaa
open Go.V

theorem length_ok (p : Int × List Int) (rv kv : Value) (known : List Int) (w : World) (hr : Ints w rv p.2) (hk : Ints w kv known) (hin : ∀ s ∈ p.2, s < known.length) (hb : ∀ x ∈ known, -1 ≤ x ∧ x ≤ 1099511627776) (hn : p.2.length ≤ 1000000000) :
    Ok Try.prog 90 #[.agg #[.int .i64 p.1, rv], kv] w fun v w' => ((v = .tuple #[.int .i64 0, .bool false] ∧ ¬ Known known p.2) ∨ (v = .tuple #[.int .i64 (costOf (natAt known) p.2 : Nat), .bool true] ∧ Known known p.2)) ∧ Ext w w' := by
  obtain ⟨A, a, rfl, ha, hA⟩ := hr
  obtain ⟨B, b, rfl, hb', hB⟩ := hk
  (refine Ok.enter Try.func90 rfl (by kernel_rfl) (Nat.le_of_ble_eq_true rfl) ?_; simp only [Try.f90, S7])
  simp (disch := first | omega | assumption | (simp only [O1, World.size_alloc, World.size_setCell, World.size_drew]; first | done | omega)) only [O1, D2, ↓H0, S0, ↓S1, ↓S2, ↓S3, ↓S4, S5, S5b, S5c, ↓S6, S6b, M0, E0, ty, tl, te, tc, i64_wrap, u64_wrap, iaV_sl, iaV_arr, faV_pa, nck_pa, heap_new, heap_old, heap_set, ↓reduceIte, Nat.reduceEqDiff, Nat.reduceLT, Nat.reduceAdd, Int.reduceLT, Int.reduceLE, decide_false, decide_true, dec_true, dec_false, true_and, and_true, true_imp_iff, Bool.not_true, Bool.not_false, Option.map_none, Int.reduceToNat, Int.toNat_zero, Int.toNat_one, lkV_false, lkV_true]
  have hx := (Ext.rfl' w).al (.cells #[.int .i64 p.1, .slice A p.2.length a] 35)
  refine ⟨fun k t W => ∃ i : Nat, k + i = p.2.length ∧ Known known (p.2.take i) ∧ W = w.alloc (.cells #[.int .i64 p.1, .slice A p.2.length a] 35) ∧ t 1 = .slice B known.length b ∧ t 6 = .int .i64 (costOf (natAt known) (p.2.take i) : Nat) ∧ t 11 = .slice A p.2.length a ∧ t 12 = .int .i64 p.2.length ∧ t 13 = .int .i64 i,
    ⟨p.2.length, 0, by omega, fun s hs => by simp at hs, rfl, ?_⟩, ?_⟩
  · simp (disch := first | omega | assumption | (simp only [O1, World.size_alloc, World.size_setCell, World.size_drew]; first | done | omega)) only [O1, D2, ↓H0, S0, ↓S1, ↓S2, ↓S3, ↓S4, S5, S5b, S5c, ↓S6, S6b, M0, E0, ty, tl, te, tc, i64_wrap, u64_wrap, iaV_sl, iaV_arr, faV_pa, nck_pa, heap_new, heap_old, heap_set, ↓reduceIte, Nat.reduceEqDiff, Nat.reduceLT, Nat.reduceAdd, Int.reduceLT, Int.reduceLE, decide_false, decide_true, dec_true, dec_false, true_and, and_true, true_imp_iff, Bool.not_true, Bool.not_false, Option.map_none, Int.reduceToNat, Int.toNat_zero, Int.toNat_one, lkV_false, lkV_true]; exact ⟨rfl, rfl⟩
  rintro k t W ⟨i, hk, hK, rfl, f1, f6, f11, f12, f13⟩
  simp (disch := first | omega | assumption | (simp only [O1, World.size_alloc, World.size_setCell, World.size_drew]; first | done | omega)) only [O1, D2, ↓H0, S0, ↓S1, ↓S2, ↓S3, ↓S4, S5, S5b, S5c, ↓S6, S6b, M0, E0, ty, tl, te, tc, i64_wrap, u64_wrap, iaV_sl, iaV_arr, faV_pa, nck_pa, heap_new, heap_old, heap_set, ↓reduceIte, Nat.reduceEqDiff, Nat.reduceLT, Nat.reduceAdd, Int.reduceLT, Int.reduceLE, decide_false, decide_true, dec_true, dec_false, true_and, and_true, true_imp_iff, Bool.not_true, Bool.not_false, Option.map_none, Int.reduceToNat, Int.toNat_zero, Int.toNat_one, lkV_false, lkV_true, f1, f6, f11, f12, f13]
  refine Br_if (fun h => ?_) (fun h' => ?_) <;> (try simp (disch := first | omega | assumption | (simp only [O1, World.size_alloc, World.size_setCell, World.size_drew]; first | done | omega)) only [O1, D2, ↓H0, S0, ↓S1, ↓S2, ↓S3, ↓S4, S5, S5b, S5c, ↓S6, S6b, M0, E0, ty, tl, te, tc, i64_wrap, u64_wrap, iaV_sl, iaV_arr, faV_pa, nck_pa, heap_new, heap_old, heap_set, ↓reduceIte, Nat.reduceEqDiff, Nat.reduceLT, Nat.reduceAdd, Int.reduceLT, Int.reduceLE, decide_false, decide_true, dec_true, dec_false, true_and, and_true, true_imp_iff, Bool.not_true, Bool.not_false, Option.map_none, Int.reduceToNat, Int.toNat_zero, Int.toNat_one, lkV_false, lkV_true, f1, f6, f11, f12, f13])
  · have hi : i < p.2.length := by omega
    have hs := hx.rd (hA i hi)
    have hAs := rd_isSome hs
    have htk : p.2.take (i + 1) = p.2.take i ++ [p.2[i]] := List.take_succ_eq_append_getElem hi
    have hmem : p.2[i] ∈ p.2 := List.getElem_mem _
    generalize hse : p.2[i] = s at *
    have hsn := hin s hmem
    have hco := costOf_le (natAt known) (p.2.take i)
    have hstep : Known known (p.2.take (i + 1)) ↔ (0 ≤ s → 0 ≤ known.getD s.toNat (-1)) := by
      rw [htk]
      constructor
      · intro h; exact h s (by simp)
      · intro h x hx
        simp only [List.mem_append, List.mem_singleton] at hx
        rcases hx with hx | rfl
        · exact hK x hx
        · exact h
    have notK : ¬ (0 ≤ s → 0 ≤ known.getD s.toNat (-1)) → ¬ Known known p.2 := fun h hh => h (hh s hmem)
    simp (disch := first | omega | assumption | (simp only [O1, World.size_alloc, World.size_setCell, World.size_drew]; first | done | omega)) only [O1, D2, ↓H0, S0, ↓S1, ↓S2, ↓S3, ↓S4, S5, S5b, S5c, ↓S6, S6b, M0, E0, ty, tl, te, tc, i64_wrap, u64_wrap, iaV_sl, iaV_arr, faV_pa, nck_pa, heap_new, heap_old, heap_set, ↓reduceIte, Nat.reduceEqDiff, Nat.reduceLT, Nat.reduceAdd, Int.reduceLT, Int.reduceLE, decide_false, decide_true, dec_true, dec_false, true_and, and_true, true_imp_iff, Bool.not_true, Bool.not_false, Option.map_none, Int.reduceToNat, Int.toNat_zero, Int.toNat_one, lkV_false, lkV_true, f1, f6, f11, f12, f13, hs]
    refine Br_if (fun h1 => ?_) (fun h1 => ?_) <;> (try simp (disch := first | omega | assumption | (simp only [O1, World.size_alloc, World.size_setCell, World.size_drew]; first | done | omega)) only [O1, D2, ↓H0, S0, ↓S1, ↓S2, ↓S3, ↓S4, S5, S5b, S5c, ↓S6, S6b, M0, E0, ty, tl, te, tc, i64_wrap, u64_wrap, iaV_sl, iaV_arr, faV_pa, nck_pa, heap_new, heap_old, heap_set, ↓reduceIte, Nat.reduceEqDiff, Nat.reduceLT, Nat.reduceAdd, Int.reduceLT, Int.reduceLE, decide_false, decide_true, dec_true, dec_false, true_and, and_true, true_imp_iff, Bool.not_true, Bool.not_false, Option.map_none, Int.reduceToNat, Int.toNat_zero, Int.toNat_one, lkV_false, lkV_true, f1, f6, f11, f12, f13])
    · have hsl : s.toNat < known.length := by omega
      have hs2 := hx.rd (hB s.toNat hsl)
      have hBs := rd_isSome hs2
      have hD : known.getD s.toNat (-1) = known[s.toNat] := by simp [List.getD_eq_getElem?_getD, List.getElem?_eq_getElem hsl]
      have hbd := hb known[s.toNat] (List.getElem_mem _)
      have hnat : natAt known s = known[s.toNat].toNat := by unfold natAt; rw [hD]
      generalize known[s.toNat] = x at *
      simp (disch := first | omega | assumption | (simp only [O1, World.size_alloc, World.size_setCell, World.size_drew]; first | done | omega)) only [O1, D2, ↓H0, S0, ↓S1, ↓S2, ↓S3, ↓S4, S5, S5b, S5c, ↓S6, S6b, M0, E0, ty, tl, te, tc, i64_wrap, u64_wrap, iaV_sl, iaV_arr, faV_pa, nck_pa, heap_new, heap_old, heap_set, ↓reduceIte, Nat.reduceEqDiff, Nat.reduceLT, Nat.reduceAdd, Int.reduceLT, Int.reduceLE, decide_false, decide_true, dec_true, dec_false, true_and, and_true, true_imp_iff, Bool.not_true, Bool.not_false, Option.map_none, Int.reduceToNat, Int.toNat_zero, Int.toNat_one, lkV_false, lkV_true, f1, f6, f11, f12, f13, hs2]
      refine Br_if (fun h2 => ?_) (fun h2 => ?_) <;> (try simp (disch := first | omega | assumption | (simp only [O1, World.size_alloc, World.size_setCell, World.size_drew]; first | done | omega)) only [O1, D2, ↓H0, S0, ↓S1, ↓S2, ↓S3, ↓S4, S5, S5b, S5c, ↓S6, S6b, M0, E0, ty, tl, te, tc, i64_wrap, u64_wrap, iaV_sl, iaV_arr, faV_pa, nck_pa, heap_new, heap_old, heap_set, ↓reduceIte, Nat.reduceEqDiff, Nat.reduceLT, Nat.reduceAdd, Int.reduceLT, Int.reduceLE, decide_false, decide_true, dec_true, dec_false, true_and, and_true, true_imp_iff, Bool.not_true, Bool.not_false, Option.map_none, Int.reduceToNat, Int.toNat_zero, Int.toNat_one, lkV_false, lkV_true, f1, f6, f11, f12, f13])
      · exact ⟨.inl (notK (by rw [hD]; omega)), hx⟩
      · refine ⟨k - 1, by omega, i + 1, by omega, hstep.2 (by rw [hD]; omega), ?_, rfl⟩
        have e2 : x = ((x.toNat : Nat) : Int) := by omega
        rw [htk, costOf_snoc, costN_pos _ _ _ h1, hnat, Int.natCast_add, ← e2]
    · refine ⟨k - 1, by omega, i + 1, by omega, hstep.2 (by omega), ?_, rfl⟩
      rw [htk, costOf_snoc, costN_neg _ _ _ h1]
  · have : p.2.take i = p.2 := List.take_of_length_le (by omega)
    rw [this] at f6 hK ⊢
    exact ⟨.inr ⟨rfl, hK⟩, hx⟩
theorem repeat_ok (c : Int) (n : Nat) (xv : Value) (w : World) (hx : Ints w xv [c]) (hn1 : 1 ≤ n) (hn : n ≤ 1000000) :
    Ok Try.prog 89 #[xv, .int .i64 n] w fun v w' => (∃ G, v = sl G n ∧ w.heap.size ≤ G ∧ Own (.int .i64) 3 w' G (List.replicate n c)) ∧ Ext w w' := by
  obtain ⟨A, a, rfl, ha, hA⟩ := hx
  have hA0 := hA 0 (by simp)
  simp only [List.length_cons, List.length_nil, Nat.zero_add] at ha ⊢
  (refine Ok.enter Try.func89 rfl (by kernel_rfl) (Nat.le_of_ble_eq_true rfl) ?_; simp only [Try.f89, S7])
  have e1 : ((1 : Nat) : Int) = 1 := rfl
  simp (disch := first | omega | assumption | (simp only [O1, World.size_alloc, World.size_setCell, World.size_drew]; first | done | omega)) only [O1, D2, ↓H0, S0, ↓S1, ↓S2, ↓S3, ↓S4, S5, S5b, S5c, ↓S6, S6b, M0, E0, ty, tl, te, tc, i64_wrap, u64_wrap, iaV_sl, iaV_arr, faV_pa, nck_pa, heap_new, heap_old, heap_set, ↓reduceIte, Nat.reduceEqDiff, Nat.reduceLT, Nat.reduceAdd, Int.reduceLT, Int.reduceLE, decide_false, decide_true, dec_true, dec_false, true_and, and_true, true_imp_iff, Bool.not_true, Bool.not_false, Option.map_none, Int.reduceToNat, Int.toNat_zero, Int.toNat_one, lkV_false, lkV_true, e1]
  refine (mul_ok n hn w).then ?_; rintro _ w ⟨rfl, rfl⟩
  simp (disch := first | omega | assumption | (simp only [O1, World.size_alloc, World.size_setCell, World.size_drew]; first | done | omega)) only [O1, D2, ↓H0, S0, ↓S1, ↓S2, ↓S3, ↓S4, S5, S5b, S5c, ↓S6, S6b, M0, E0, ty, tl, te, tc, i64_wrap, u64_wrap, iaV_sl, iaV_arr, faV_pa, nck_pa, heap_new, heap_old, heap_set, ↓reduceIte, Nat.reduceEqDiff, Nat.reduceLT, Nat.reduceAdd, Int.reduceLT, Int.reduceLE, decide_false, decide_true, dec_true, dec_false, true_and, and_true, true_imp_iff, Bool.not_true, Bool.not_false, Option.map_none, Int.reduceToNat, Int.toNat_zero, Int.toNat_one, lkV_false, lkV_true]
  refine RunM_own (enc := Value.int .i64) (z := 0) sl23 rfl (by omega) (by omega) ?_
  intro W hWs hxW hO
  generalize hG : w.heap.size = G at hO ⊢
  simp (disch := first | omega | assumption | (simp only [O1, World.size_alloc, World.size_setCell, World.size_drew]; first | done | omega)) only [O1, D2, ↓H0, S0, ↓S1, ↓S2, ↓S3, ↓S4, S5, S5b, S5c, ↓S6, S6b, M0, E0, ty, tl, te, tc, i64_wrap, u64_wrap, iaV_sl, iaV_arr, faV_pa, nck_pa, heap_new, heap_old, heap_set, ↓reduceIte, Nat.reduceEqDiff, Nat.reduceLT, Nat.reduceAdd, Int.reduceLT, Int.reduceLE, decide_false, decide_true, dec_true, dec_false, true_and, and_true, true_imp_iff, Bool.not_true, Bool.not_false, Option.map_none, Int.reduceToNat, Int.toNat_zero, Int.toNat_one, lkV_false, lkV_true, vop_copy, sl]
  refine RunC_own (r := [c]) sl23 hO (fun _ => rfl) (fun j hj => ?_) (by simp; omega) (by simp) (by simp; omega) ?_
  · have hj0 : j = 0 := by simpa using hj
    subst hj0; exact hxW.rd hA0
  intro W2 hg2 hO2
  have hx2 : Ext w W2 := hxW.grown' hg2 (fun k hk => by cases hk; omega)
  simp (disch := first | omega | assumption | (simp only [O1, World.size_alloc, World.size_setCell, World.size_drew]; first | done | omega)) only [O1, D2, ↓H0, S0, ↓S1, ↓S2, ↓S3, ↓S4, S5, S5b, S5c, ↓S6, S6b, M0, E0, ty, tl, te, tc, i64_wrap, u64_wrap, iaV_sl, iaV_arr, faV_pa, nck_pa, heap_new, heap_old, heap_set, ↓reduceIte, Nat.reduceEqDiff, Nat.reduceLT, Nat.reduceAdd, Int.reduceLT, Int.reduceLE, decide_false, decide_true, dec_true, dec_false, true_and, and_true, true_imp_iff, Bool.not_true, Bool.not_false, Option.map_none, Int.reduceToNat, Int.toNat_zero, Int.toNat_one, lkV_false, lkV_true, List.length_cons, List.length_nil]
  refine ⟨fun k t W => ∃ bp : Nat, k + bp = n ∧ 1 ≤ bp ∧ Ext w W ∧ Own (.int .i64) 3 W G (List.replicate bp c ++ List.replicate (n - bp) 0) ∧ t 7 = .slice (some ⟨G, 0, none⟩) n n ∧ t 8 = .int .i64 bp, ⟨n - 1, 1, by omega, by omega, hx2, ?_, ?_⟩, ?_⟩
  · have : List.replicate 1 c ++ List.replicate (n - 1) 0 = List.take 0 (List.replicate n 0) ++ [c] ++ List.drop (0 + [c].length) (List.replicate n (0 : Int)) := by simp
    rw [this]; exact hO2
  · simp (disch := first | omega | assumption | (simp only [O1, World.size_alloc, World.size_setCell, World.size_drew]; first | done | omega)) only [O1, D2, ↓H0, S0, ↓S1, ↓S2, ↓S3, ↓S4, S5, S5b, S5c, ↓S6, S6b, M0, E0, ty, tl, te, tc, i64_wrap, u64_wrap, iaV_sl, iaV_arr, faV_pa, nck_pa, heap_new, heap_old, heap_set, ↓reduceIte, Nat.reduceEqDiff, Nat.reduceLT, Nat.reduceAdd, Int.reduceLT, Int.reduceLE, decide_false, decide_true, dec_true, dec_false, true_and, and_true, true_imp_iff, Bool.not_true, Bool.not_false, Option.map_none, Int.reduceToNat, Int.toNat_zero, Int.toNat_one, lkV_false, lkV_true]
  clear hO hg2 hO2 hx2 hxW
  rintro k t W ⟨bp, hk, hb1, hx, hO, f7, f8⟩
  simp (disch := first | omega | assumption | (simp only [O1, World.size_alloc, World.size_setCell, World.size_drew]; first | done | omega)) only [O1, D2, ↓H0, S0, ↓S1, ↓S2, ↓S3, ↓S4, S5, S5b, S5c, ↓S6, S6b, M0, E0, ty, tl, te, tc, i64_wrap, u64_wrap, iaV_sl, iaV_arr, faV_pa, nck_pa, heap_new, heap_old, heap_set, ↓reduceIte, Nat.reduceEqDiff, Nat.reduceLT, Nat.reduceAdd, Int.reduceLT, Int.reduceLE, decide_false, decide_true, dec_true, dec_false, true_and, and_true, true_imp_iff, Bool.not_true, Bool.not_false, Option.map_none, Int.reduceToNat, Int.toNat_zero, Int.toNat_one, lkV_false, lkV_true, f7, f8]
  refine Br_if (fun h => ?_) (fun h' => ?_) <;> (try simp (disch := first | omega | assumption | (simp only [O1, World.size_alloc, World.size_setCell, World.size_drew]; first | done | omega)) only [O1, D2, ↓H0, S0, ↓S1, ↓S2, ↓S3, ↓S4, S5, S5b, S5c, ↓S6, S6b, M0, E0, ty, tl, te, tc, i64_wrap, u64_wrap, iaV_sl, iaV_arr, faV_pa, nck_pa, heap_new, heap_old, heap_set, ↓reduceIte, Nat.reduceEqDiff, Nat.reduceLT, Nat.reduceAdd, Int.reduceLT, Int.reduceLE, decide_false, decide_true, dec_true, dec_false, true_and, and_true, true_imp_iff, Bool.not_true, Bool.not_false, Option.map_none, Int.reduceToNat, Int.toNat_zero, Int.toNat_one, lkV_false, lkV_true, f7, f8])
  · have hbn : bp < n := by omega
    have s1 := slV_lo (g := G) (o := 0) (k := .i64) sl23 (show bp ≤ n by omega) (Nat.le_refl n) (by omega)
    have s2 := slV_hi (A := some ⟨G, 0, none⟩) (k := .i64) sl23 (show bp ≤ n by omega) (Nat.le_refl n)
    obtain ⟨m, hm⟩ : ∃ m, m = min bp (n - bp) := ⟨_, rfl⟩
    have hGx := hO.lt
    refine Dr_plan [G] (fun _ => true) [0, 1, 2, 3, 4, 5, 6, 7, 8, 9] mixed (by kernel_rfl) ?_
    simp (disch := first | omega | assumption | (simp only [O1, World.size_alloc, World.size_setCell, World.size_drew]; first | done | omega)) only [↓D1, ↓D3, ↓D4, List.not_mem_nil, not_false_eq_true, Bool.false_eq_true, false_imp_iff, upto, O1, D2, ↓H0, S0, ↓S1, ↓S2, ↓S3, ↓S4, S5, S5b, S5c, ↓S6, S6b, M0, E0, ty, tl, te, tc, i64_wrap, u64_wrap, iaV_sl, iaV_arr, faV_pa, nck_pa, heap_new, heap_old, heap_set, ↓reduceIte, Nat.reduceEqDiff, Nat.reduceLT, Nat.reduceAdd, Int.reduceLT, Int.reduceLE, decide_false, decide_true, dec_true, dec_false, true_and, and_true, true_imp_iff, Bool.not_true, Bool.not_false, Option.map_none, Int.reduceToNat, Int.toNat_zero, Int.toNat_one, lkV_false, lkV_true, f7, f8, s1, s2, vopK_copy]
    refine RunC_own (r := List.replicate m c) sl23 (hO : Own (.int .i64) 3 W.drew G _) (fun _ => rfl) (fun j hj => ?_) (by simp; omega) (by simp; omega) (by simp; omega) ?_
    · have hjm : j < m := by simpa using hj
      have := Own.rd (w := W.drew) hO j (by simp; omega)
      rw [this]
      congr 2
      rw [List.getElem_replicate, List.getElem_append_left (by simp; omega), List.getElem_replicate]
    intro W3 hg3 hO3
    have hK3 : Keep [G] W.drew W3 := Keep.of_grown hg3 (fun g hg => by cases hg; simp)
    simp (disch := first | omega | assumption | (simp only [O1, World.size_alloc, World.size_setCell, World.size_drew]; first | done | omega)) only [↓D1, ↓D3, ↓D4, List.not_mem_nil, not_false_eq_true, Bool.false_eq_true, false_imp_iff, upto, O1, D2, ↓H0, S0, ↓S1, ↓S2, ↓S3, ↓S4, S5, S5b, S5c, ↓S6, S6b, M0, E0, ty, tl, te, tc, i64_wrap, u64_wrap, iaV_sl, iaV_arr, faV_pa, nck_pa, heap_new, heap_old, heap_set, ↓reduceIte, Nat.reduceEqDiff, Nat.reduceLT, Nat.reduceAdd, Int.reduceLT, Int.reduceLE, decide_false, decide_true, dec_true, dec_false, true_and, and_true, true_imp_iff, Bool.not_true, Bool.not_false, Option.map_none, Int.reduceToNat, Int.toNat_zero, Int.toNat_one, lkV_false, lkV_true, f7, f8, hK3, List.length_replicate]
    have hx3 : Ext w W3 := (hx.dr).grown' hg3 (fun k hk => by cases hk; omega)
    refine ⟨k - m, by omega, bp + m, by omega, by omega, hx3, ?_, ?_⟩
    · have : List.replicate (bp + m) c ++ List.replicate (n - (bp + m)) 0 = List.take bp (List.replicate bp c ++ List.replicate (n - bp) 0) ++ List.replicate m c ++ List.drop (bp + (List.replicate m c).length) (List.replicate bp c ++ List.replicate (n - bp) (0 : Int)) := by
        rw [List.take_append_of_le_length (by simp), List.take_of_length_le (by simp), List.length_replicate, List.drop_append]
        simp [List.replicate_append_replicate, Nat.sub_sub]
      rw [this]; simpa using hO3
    · rfl
  · obtain rfl : bp = n := by omega
    refine ⟨⟨G, rfl, by omega, by simpa using hO⟩, hx⟩
/-- What a production says of the lengths. -/
def ClosedAt (l : List Int) (p : Int × List Int) : Prop := Known l p.2 → 0 ≤ l.getD p.1.toNat (-1) ∧ l.getD p.1.toNat (-1) ≤ (costOf (natAt l) p.2 : Nat)
theorem SoundP.inR {g : PG} (h : SoundP g) : InR g.names.length g.prods := by
  intro p hp
  obtain ⟨i, hi, rfl⟩ := List.mem_iff_getElem.1 hp
  have := h.2.2 i hi
  exact ⟨⟨this.1, this.2.1⟩, fun s hs => (this.2.2.2.2 s hs).1⟩
theorem ShortI.bounds {n : Nat} {ps : List (Int × List Int)} {l : List Int} (h : ShortI n ps l) : ∀ x ∈ l, -1 ≤ x ∧ x ≤ 1099511627776 := by
  intro x hx
  obtain ⟨i, hi⟩ := List.getElem?_of_mem hx
  rcases h.2 i x hi with rfl | ⟨m, rfl, hm, _⟩
  · omega
  · omega
set_option maxHeartbeats 2000000 in
theorem shortest_ok (v : Value) (g : PG) (w : World) (hg : RepPG w v g) (hs : SmallP g) :
    Ok Try.prog 32 #[v] w fun v w' => ((¬ SoundP g ∧ v = .slice none 0 0) ∨ (SoundP g ∧ ∃ l, Ints w' v l ∧ Short g.names.length g.prods l)) ∧ Ext w w' := by
  have hg0 := hg
  obtain ⟨nv, tv, pv, rfl, hN, hT, hp⟩ := hg
  obtain ⟨A, a, rfl, ha, hA⟩ := hN
  obtain ⟨C, c, rfl, hc, hC⟩ := hp
  obtain ⟨s1, s2, s3, s4⟩ := hs
  (refine Ok.enter Try.func32 rfl (by kernel_rfl) (Nat.le_of_ble_eq_true rfl) ?_; simp only [Try.f32, S7])
  simp (disch := first | omega | assumption | (simp only [O1, World.size_alloc, World.size_setCell, World.size_drew]; first | done | omega)) only [O1, D2, ↓H0, S0, ↓S1, ↓S2, ↓S3, ↓S4, S5, S5b, S5c, ↓S6, S6b, M0, E0, ty, tl, te, tc, i64_wrap, u64_wrap, iaV_sl, iaV_arr, faV_pa, nck_pa, heap_new, heap_old, heap_set, ↓reduceIte, Nat.reduceEqDiff, Nat.reduceLT, Nat.reduceAdd, Int.reduceLT, Int.reduceLE, decide_false, decide_true, dec_true, dec_false, true_and, and_true, true_imp_iff, Bool.not_true, Bool.not_false, Option.map_none, Int.reduceToNat, Int.toNat_zero, Int.toNat_one, lkV_false, lkV_true]
  have hx0 := (Ext.rfl' w).al (.cells #[.int .i64 g.start, .int .i64 g.rules, .slice A g.names.length a, tv, .slice C g.prods.length c] 41)
  have hb0 := heap_new (w := w) (.cells #[.int .i64 g.start, .int .i64 g.rules, .slice A g.names.length a, tv, .slice C g.prods.length c] 41) rfl
  simp (disch := first | omega | assumption | (simp only [O1, World.size_alloc, World.size_setCell, World.size_drew]; first | done | omega)) only [O1, D2, ↓H0, S0, ↓S1, ↓S2, ↓S3, ↓S4, S5, S5b, S5c, ↓S6, S6b, M0, E0, ty, tl, te, tc, i64_wrap, u64_wrap, iaV_sl, iaV_arr, faV_pa, nck_pa, heap_new, heap_old, heap_set, ↓reduceIte, Nat.reduceEqDiff, Nat.reduceLT, Nat.reduceAdd, Int.reduceLT, Int.reduceLE, decide_false, decide_true, dec_true, dec_false, true_and, and_true, true_imp_iff, Bool.not_true, Bool.not_false, Option.map_none, Int.reduceToNat, Int.toNat_zero, Int.toNat_one, lkV_false, lkV_true, ldA5]
  refine (sound_ok _ g _ (hg0.ext hx0) ⟨s1, s2, s3, s4⟩).then ?_; rintro _ W ⟨⟨b, rfl, hb⟩, hx1⟩
  have hxW := hx0.tr hx1
  have hbW := hx1.hp hb0
  cases b with
  | false =>
    simp (disch := first | omega | assumption | (simp only [O1, World.size_alloc, World.size_setCell, World.size_drew]; first | done | omega)) only [O1, D2, ↓H0, S0, ↓S1, ↓S2, ↓S3, ↓S4, S5, S5b, S5c, ↓S6, S6b, M0, E0, ty, tl, te, tc, i64_wrap, u64_wrap, iaV_sl, iaV_arr, faV_pa, nck_pa, heap_new, heap_old, heap_set, ↓reduceIte, Nat.reduceEqDiff, Nat.reduceLT, Nat.reduceAdd, Int.reduceLT, Int.reduceLE, decide_false, decide_true, dec_true, dec_false, true_and, and_true, true_imp_iff, Bool.not_true, Bool.not_false, Option.map_none, Int.reduceToNat, Int.toNat_zero, Int.toNat_one, lkV_false, lkV_true]
    exact ⟨.inl fun h => by have := hb.2 h; simp at this, hxW⟩
  | true =>
    have hS := hb.1 rfl
    have hin := hS.inR
    have hx0s : w.heap.size < W.heap.size := lt_heap hbW
    simp (disch := first | omega | assumption | (simp only [O1, World.size_alloc, World.size_setCell, World.size_drew]; first | done | omega)) only [O1, D2, ↓H0, S0, ↓S1, ↓S2, ↓S3, ↓S4, S5, S5b, S5c, ↓S6, S6b, M0, E0, ty, tl, te, tc, i64_wrap, u64_wrap, iaV_sl, iaV_arr, faV_pa, nck_pa, heap_new, heap_old, heap_set, ↓reduceIte, Nat.reduceEqDiff, Nat.reduceLT, Nat.reduceAdd, Int.reduceLT, Int.reduceLE, decide_false, decide_true, dec_true, dec_false, true_and, and_true, true_imp_iff, Bool.not_true, Bool.not_false, Option.map_none, Int.reduceToNat, Int.toNat_zero, Int.toNat_one, lkV_false, lkV_true, hbW, bsl1 sl23]
    have hx2 := (Ext.rfl' W).al (.cells #[.int .i64 (-1)] 3)
    refine (repeat_ok (-1) g.names.length _ _ ⟨some ⟨W.heap.size, 0, none⟩, 1, rfl, by simp, fun i hi => ?_⟩ (by have := hS.1.1; omega) (by have := hS.1.2.1; omega)).then ?_
    · rw [rd_own, heap_new _ rfl]
      have hi0 : i = 0 := by simpa using hi
      subst hi0; rfl
    rintro _ W2 ⟨⟨G, rfl, hGl, hO⟩, hx3⟩
    simp only [World.size_alloc] at hGl
    have hxs := hxW.size
    have hb2 := (hx2.tr hx3).hp hbW
    have hxW2 := (hxW.tr hx2).tr hx3
    simp (disch := first | omega | assumption | (simp only [O1, World.size_alloc, World.size_setCell, World.size_drew]; first | done | omega)) only [O1, D2, ↓H0, S0, ↓S1, ↓S2, ↓S3, ↓S4, S5, S5b, S5c, ↓S6, S6b, M0, E0, ty, tl, te, tc, i64_wrap, u64_wrap, iaV_sl, iaV_arr, faV_pa, nck_pa, heap_new, heap_old, heap_set, ↓reduceIte, Nat.reduceEqDiff, Nat.reduceLT, Nat.reduceAdd, Int.reduceLT, Int.reduceLE, decide_false, decide_true, dec_true, dec_false, true_and, and_true, true_imp_iff, Bool.not_true, Bool.not_false, Option.map_none, Int.reduceToNat, Int.toNat_zero, Int.toNat_one, lkV_false, lkV_true, sl]
    refine ⟨fun k t U => ∃ (l : List Int) (m : Bool), k = 2 * left l + (if m then 1 else 0) ∧ ShortI g.names.length g.prods l ∧ (m = false → ∀ p ∈ g.prods, ClosedAt l p) ∧ Ext w U ∧ Own (.int .i64) 3 U G l ∧
      U.heap[w.heap.size]? = some (.cells #[.int .i64 g.start, .int .i64 g.rules, .slice A g.names.length a, tv, .slice C g.prods.length c] 41 (0, 0)) ∧
      t 1 = pa (some ⟨w.heap.size, 0, none⟩) 0 ∧ t 3 = .slice (some ⟨G, 0, none⟩) g.names.length g.names.length ∧ t 4 = .bool m, ⟨_, List.replicate g.names.length (-1), true, rfl, ShortI.start _ _, by simp, hxW2, hO, hb2, ?_⟩, ?_⟩
    · simp (disch := first | omega | assumption | (simp only [O1, World.size_alloc, World.size_setCell, World.size_drew]; first | done | omega)) only [O1, D2, ↓H0, S0, ↓S1, ↓S2, ↓S3, ↓S4, S5, S5b, S5c, ↓S6, S6b, M0, E0, ty, tl, te, tc, i64_wrap, u64_wrap, iaV_sl, iaV_arr, faV_pa, nck_pa, heap_new, heap_old, heap_set, ↓reduceIte, Nat.reduceEqDiff, Nat.reduceLT, Nat.reduceAdd, Int.reduceLT, Int.reduceLE, decide_false, decide_true, dec_true, dec_false, true_and, and_true, true_imp_iff, Bool.not_true, Bool.not_false, Option.map_none, Int.reduceToNat, Int.toNat_zero, Int.toNat_one, lkV_false, lkV_true]
    clear hxW2 hb2 hx3 hx2 hbW hxW hb0 hx0
    rintro k t U ⟨l, m, rfl, hI, hcl, hx, hO, hbx, f1, f3, f4⟩
    simp (disch := first | omega | assumption | (simp only [O1, World.size_alloc, World.size_setCell, World.size_drew]; first | done | omega)) only [O1, D2, ↓H0, S0, ↓S1, ↓S2, ↓S3, ↓S4, S5, S5b, S5c, ↓S6, S6b, M0, E0, ty, tl, te, tc, i64_wrap, u64_wrap, iaV_sl, iaV_arr, faV_pa, nck_pa, heap_new, heap_old, heap_set, ↓reduceIte, Nat.reduceEqDiff, Nat.reduceLT, Nat.reduceAdd, Int.reduceLT, Int.reduceLE, decide_false, decide_true, dec_true, dec_false, true_and, and_true, true_imp_iff, Bool.not_true, Bool.not_false, Option.map_none, Int.reduceToNat, Int.toNat_zero, Int.toNat_one, lkV_false, lkV_true, f1, f3, f4]
    cases m with
    | false =>
      simp (disch := first | omega | assumption | (simp only [O1, World.size_alloc, World.size_setCell, World.size_drew]; first | done | omega)) only [O1, D2, ↓H0, S0, ↓S1, ↓S2, ↓S3, ↓S4, S5, S5b, S5c, ↓S6, S6b, M0, E0, ty, tl, te, tc, i64_wrap, u64_wrap, iaV_sl, iaV_arr, faV_pa, nck_pa, heap_new, heap_old, heap_set, ↓reduceIte, Nat.reduceEqDiff, Nat.reduceLT, Nat.reduceAdd, Int.reduceLT, Int.reduceLE, decide_false, decide_true, dec_true, dec_false, true_and, and_true, true_imp_iff, Bool.not_true, Bool.not_false, Option.map_none, Int.reduceToNat, Int.toNat_zero, Int.toNat_one, lkV_false, lkV_true, f1, f3, f4]
      have := hO.sq
      rw [hI.1] at this
      exact ⟨.inr ⟨hS, l, this, hI.done hin (hcl rfl)⟩, hx⟩
    | true =>
      simp (disch := first | omega | assumption | (simp only [O1, World.size_alloc, World.size_setCell, World.size_drew]; first | done | omega)) only [O1, D2, ↓H0, S0, ↓S1, ↓S2, ↓S3, ↓S4, S5, S5b, S5c, ↓S6, S6b, M0, E0, ty, tl, te, tc, i64_wrap, u64_wrap, iaV_sl, iaV_arr, faV_pa, nck_pa, heap_new, heap_old, heap_set, ↓reduceIte, Nat.reduceEqDiff, Nat.reduceLT, Nat.reduceAdd, Int.reduceLT, Int.reduceLE, decide_false, decide_true, dec_true, dec_false, true_and, and_true, true_imp_iff, Bool.not_true, Bool.not_false, Option.map_none, Int.reduceToNat, Int.toNat_zero, Int.toNat_one, lkV_false, lkV_true, f1, f3, f4, hbx]
      refine ⟨fun k2 t U => ∃ (j : Nat) (l2 : List Int) (m : Bool), k2 + j = g.prods.length ∧ (m = true → left l2 < left l) ∧ left l2 ≤ left l ∧ ShortI g.names.length g.prods l2 ∧ (m = false → ∀ i (h : i < g.prods.length), i < j → ClosedAt l2 g.prods[i]) ∧ Ext w U ∧ Own (.int .i64) 3 U G l2 ∧
        U.heap[w.heap.size]? = some (.cells #[.int .i64 g.start, .int .i64 g.rules, .slice A g.names.length a, tv, .slice C g.prods.length c] 41 (0, 0)) ∧
        t 1 = pa (some ⟨w.heap.size, 0, none⟩) 0 ∧ t 3 = .slice (some ⟨G, 0, none⟩) g.names.length g.names.length ∧ t 4 = .bool m ∧ t 19 = .slice C g.prods.length c ∧ t 20 = .int .i64 g.prods.length ∧ t 21 = .int .i64 j,
        ⟨g.prods.length, 0, l, false, by omega, by simp, Nat.le_refl _, hI, fun _ i _ h => by omega, hx, hO, hbx, ?_⟩, ?_⟩
      · simp (disch := first | omega | assumption | (simp only [O1, World.size_alloc, World.size_setCell, World.size_drew]; first | done | omega)) only [O1, D2, ↓H0, S0, ↓S1, ↓S2, ↓S3, ↓S4, S5, S5b, S5c, ↓S6, S6b, M0, E0, ty, tl, te, tc, i64_wrap, u64_wrap, iaV_sl, iaV_arr, faV_pa, nck_pa, heap_new, heap_old, heap_set, ↓reduceIte, Nat.reduceEqDiff, Nat.reduceLT, Nat.reduceAdd, Int.reduceLT, Int.reduceLE, decide_false, decide_true, dec_true, dec_false, true_and, and_true, true_imp_iff, Bool.not_true, Bool.not_false, Option.map_none, Int.reduceToNat, Int.toNat_zero, Int.toNat_one, lkV_false, lkV_true, f1, f3, f4]
        rfl
      clear hI hcl hx hO hbx f1 f3 f4
      rintro k2 t U ⟨j, l2, m, hk2, hm1, hm2, hI, hcl, hx, hO, hbx, f1, f3, f4, f19, f20, f21⟩
      simp (disch := first | omega | assumption | (simp only [O1, World.size_alloc, World.size_setCell, World.size_drew]; first | done | omega)) only [O1, D2, ↓H0, S0, ↓S1, ↓S2, ↓S3, ↓S4, S5, S5b, S5c, ↓S6, S6b, M0, E0, ty, tl, te, tc, i64_wrap, u64_wrap, iaV_sl, iaV_arr, faV_pa, nck_pa, heap_new, heap_old, heap_set, ↓reduceIte, Nat.reduceEqDiff, Nat.reduceLT, Nat.reduceAdd, Int.reduceLT, Int.reduceLE, decide_false, decide_true, dec_true, dec_false, true_and, and_true, true_imp_iff, Bool.not_true, Bool.not_false, Option.map_none, Int.reduceToNat, Int.toNat_zero, Int.toNat_one, lkV_false, lkV_true, f1, f3, f4, f19, f20, f21]
      refine Br_if (fun h => ?_) (fun h' => ?_) <;> (try simp (disch := first | omega | assumption | (simp only [O1, World.size_alloc, World.size_setCell, World.size_drew]; first | done | omega)) only [O1, D2, ↓H0, S0, ↓S1, ↓S2, ↓S3, ↓S4, S5, S5b, S5c, ↓S6, S6b, M0, E0, ty, tl, te, tc, i64_wrap, u64_wrap, iaV_sl, iaV_arr, faV_pa, nck_pa, heap_new, heap_old, heap_set, ↓reduceIte, Nat.reduceEqDiff, Nat.reduceLT, Nat.reduceAdd, Int.reduceLT, Int.reduceLE, decide_false, decide_true, dec_true, dec_false, true_and, and_true, true_imp_iff, Bool.not_true, Bool.not_false, Option.map_none, Int.reduceToNat, Int.toNat_zero, Int.toNat_one, lkV_false, lkV_true, f1, f3, f4, f19, f20, f21])
      · have hj : j < g.prods.length := by omega
        obtain ⟨hl, r, hr, hR⟩ := hC j hj
        have hR0 := hR
        obtain ⟨D, d, rfl, hd, hD⟩ := hR
        have hl' := hx.rd hl
        have hr' := hx.rd hr
        have hAs := rd_isSome hl
        have hmem : g.prods[j] ∈ g.prods := List.getElem_mem _
        generalize hp : g.prods[j] = p at *
        obtain ⟨⟨hp0, hp1⟩, hps⟩ := hin p hmem
        have hlen := s4 p hmem
        simp (disch := first | omega | assumption | (simp only [O1, World.size_alloc, World.size_setCell, World.size_drew]; first | done | omega)) only [O1, D2, ↓H0, S0, ↓S1, ↓S2, ↓S3, ↓S4, S5, S5b, S5c, ↓S6, S6b, M0, E0, ty, tl, te, tc, i64_wrap, u64_wrap, iaV_sl, iaV_arr, faV_pa, nck_pa, heap_new, heap_old, heap_set, ↓reduceIte, Nat.reduceEqDiff, Nat.reduceLT, Nat.reduceAdd, Int.reduceLT, Int.reduceLE, decide_false, decide_true, dec_true, dec_false, true_and, and_true, true_imp_iff, Bool.not_true, Bool.not_false, Option.map_none, Int.reduceToNat, Int.toNat_zero, Int.toNat_one, lkV_false, lkV_true, f1, f3, f4, f19, f20, f21, hl', hr', ldA2, st35]
        have hU1 := (Ext.rfl' U).al (.cells #[.int .i64 p.1, .slice D p.2.length d] 35)
        have hU1' := hU1
        refine (length_ok p _ _ l2 _ (hR0.ext (hx.tr hU1)) (by have := (hO.ext hU1).sq; rw [hI.1] at this; exact this) (fun s hs => by rw [hI.1]; exact hps s hs) hI.bounds hlen).then ?_
        rintro _ V ⟨hlv, hxV⟩
        have hUV := hU1.tr hxV
        have hOV := hO.ext hUV
        have hbV := hUV.hp hbx
        have hqV := hxV.hp (heap_new (w := U) (.cells #[.int .i64 p.1, .slice D p.2.length d] 35) rfl)
        have hxV' := hx.tr hUV
        have hGV := hOV.lt
        have hp1' : p.1.toNat < l2.length := by rw [hI.1]; omega
        have hrdG := hOV.rd p.1.toNat hp1'
        have hgD : l2.getD p.1.toNat (-1) = l2[p.1.toNat] := by simp [List.getD_eq_getElem?_getD, List.getElem?_eq_getElem hp1']
        have hsz := hO.lt
        have stay : ClosedAt l2 p → m = false → ∀ i (h : i < g.prods.length), i < j + 1 → ClosedAt l2 g.prods[i] := fun hc hm i hi hij => by
          by_cases e : i = j
          · subst e; rw [hp]; exact hc
          · exact hcl hm i hi (by omega)
        rcases hlv with ⟨rfl, hK⟩ | ⟨rfl, hK⟩
        · simp (disch := first | omega | assumption | (simp only [O1, World.size_alloc, World.size_setCell, World.size_drew]; first | done | omega)) only [O1, D2, ↓H0, S0, ↓S1, ↓S2, ↓S3, ↓S4, S5, S5b, S5c, ↓S6, S6b, M0, E0, ty, tl, te, tc, i64_wrap, u64_wrap, iaV_sl, iaV_arr, faV_pa, nck_pa, heap_new, heap_old, heap_set, ↓reduceIte, Nat.reduceEqDiff, Nat.reduceLT, Nat.reduceAdd, Int.reduceLT, Int.reduceLE, decide_false, decide_true, dec_true, dec_false, true_and, and_true, true_imp_iff, Bool.not_true, Bool.not_false, Option.map_none, Int.reduceToNat, Int.toNat_zero, Int.toNat_one, lkV_false, lkV_true, f1, f3, f4, f19, f20, f21]
          exact ⟨k2 - 1, by omega, j + 1, l2, m, by omega, hm1, hm2, hI, stay fun h => absurd h hK, hxV', hOV, hbV, rfl, rfl⟩
        · have hcle := costOf_le (natAt l2) p.2
          generalize hco : costOf (natAt l2) p.2 = n at *
          have hold : l2[p.1.toNat]? = some l2[p.1.toNat] := List.getElem?_eq_getElem hp1'
          have upd' : (l2[p.1.toNat] < 0 ∨ (n : Int) < l2[p.1.toNat]) → ShortI g.names.length g.prods (l2.set p.1.toNat (n : Nat)) ∧ left (l2.set p.1.toNat (n : Nat)) < left l2 := fun h => ⟨hco ▸ hI.set hmem hp0 hK hin, left_set hold hcle h⟩
          have hst := fun (hn : True) => Own.sto (P := Try.prog) (t := 3) hOV (by simp only [ty]) p.1.toNat hp1' (n : Int) rfl
          have hst := hst trivial
          have hO3 := hOV.set p.1.toNat (n : Int)
          have hx3 : Ext w (V.setCell ⟨G, p.1.toNat, none⟩ (.int .i64 (n : Int))) := hxV'.st (by omega) _
          have hb3 : (V.setCell ⟨G, p.1.toNat, none⟩ (.int .i64 (n : Int))).heap[w.heap.size]? = _ := (heap_set _ (by omega)).trans hbV
          generalize hy : l2[p.1.toNat] = y at *
          simp (disch := first | omega | assumption | (simp only [O1, World.size_alloc, World.size_setCell, World.size_drew]; first | done | omega)) only [O1, D2, ↓H0, S0, ↓S1, ↓S2, ↓S3, ↓S4, S5, S5b, S5c, ↓S6, S6b, M0, E0, ty, tl, te, tc, i64_wrap, u64_wrap, iaV_sl, iaV_arr, faV_pa, nck_pa, heap_new, heap_old, heap_set, ↓reduceIte, Nat.reduceEqDiff, Nat.reduceLT, Nat.reduceAdd, Int.reduceLT, Int.reduceLE, decide_false, decide_true, dec_true, dec_false, true_and, and_true, true_imp_iff, Bool.not_true, Bool.not_false, Option.map_none, Int.reduceToNat, Int.toNat_zero, Int.toNat_one, lkV_false, lkV_true, f1, f3, f4, f19, f20, f21, hqV, hrdG]
          refine Br_if (fun h1 => ?_) (fun h1 => ?_) <;> (try simp (disch := first | omega | assumption | (simp only [O1, World.size_alloc, World.size_setCell, World.size_drew]; first | done | omega)) only [O1, D2, ↓H0, S0, ↓S1, ↓S2, ↓S3, ↓S4, S5, S5b, S5c, ↓S6, S6b, M0, E0, ty, tl, te, tc, i64_wrap, u64_wrap, iaV_sl, iaV_arr, faV_pa, nck_pa, heap_new, heap_old, heap_set, ↓reduceIte, Nat.reduceEqDiff, Nat.reduceLT, Nat.reduceAdd, Int.reduceLT, Int.reduceLE, decide_false, decide_true, dec_true, dec_false, true_and, and_true, true_imp_iff, Bool.not_true, Bool.not_false, Option.map_none, Int.reduceToNat, Int.toNat_zero, Int.toNat_one, lkV_false, lkV_true, f1, f3, f4, f19, f20, f21, hqV, hrdG, hst])
          · obtain ⟨i1, i2⟩ := upd' (.inl h1)
            exact ⟨k2 - 1, by omega, j + 1, _, true, by omega, fun _ => by omega, by omega, i1, by simp, hx3, hO3, hbV, rfl, rfl⟩
          · refine Br_if (fun h2 => ?_) (fun h2 => ?_) <;> (try simp (disch := first | omega | assumption | (simp only [O1, World.size_alloc, World.size_setCell, World.size_drew]; first | done | omega)) only [O1, D2, ↓H0, S0, ↓S1, ↓S2, ↓S3, ↓S4, S5, S5b, S5c, ↓S6, S6b, M0, E0, ty, tl, te, tc, i64_wrap, u64_wrap, iaV_sl, iaV_arr, faV_pa, nck_pa, heap_new, heap_old, heap_set, ↓reduceIte, Nat.reduceEqDiff, Nat.reduceLT, Nat.reduceAdd, Int.reduceLT, Int.reduceLE, decide_false, decide_true, dec_true, dec_false, true_and, and_true, true_imp_iff, Bool.not_true, Bool.not_false, Option.map_none, Int.reduceToNat, Int.toNat_zero, Int.toNat_one, lkV_false, lkV_true, f1, f3, f4, f19, f20, f21, hqV, hrdG, hst])
            · obtain ⟨i1, i2⟩ := upd' (.inr h2)
              exact ⟨k2 - 1, by omega, j + 1, _, true, by omega, fun _ => by omega, by omega, i1, by simp, hx3, hO3, hbV, rfl, rfl⟩
            · refine ⟨k2 - 1, by omega, j + 1, l2, m, by omega, hm1, hm2, hI, stay fun _ => ?_, hxV', hOV, hbV, rfl, rfl⟩
              rw [hgD, hco]; omega
      · have hj : j = g.prods.length := by omega
        refine ⟨2 * left l2 + (if m then 1 else 0), ?_, l2, m, rfl, hI, fun hm p hp => ?_, hx, hO, hbx, rfl⟩
        · cases m with
          | true => have := hm1 rfl; simp; omega
          | false => simp; omega
        · obtain ⟨i, hi, rfl⟩ := List.mem_iff_getElem.1 hp
          exact hcl hm i hi (by omega)
end Go.Proofs.Ytgioklmpnbnplaa
