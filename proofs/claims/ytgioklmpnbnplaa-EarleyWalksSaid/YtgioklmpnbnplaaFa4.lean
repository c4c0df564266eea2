/- The walk of the iterator that maps.Keys hands back, at int keys; The walk of slices.AppendSeq at int: what an iterator gives, collected; The shelf's contracts for slices.Sort at int and string, laid at this seat's numbers in plain words (the text is what the kit's lay-plain prints); slices.Sort at int over a row of the call's own; slices.Sorted over maps.Keys, at int keys; The walk of maps.Copy at int keys; slices.ContainsFunc with a test that need only stand on the row's own numbers; the test of facts.First; The walk of facts.First. Conditions: none. -/
import Derived.Test.YtgioklmpnbnplaaTy
import Derived.Test.YtgioklmpnbnplaaKr2
import Derived.RangeFuncFrom
import Derived.RangeFuncLeaves
import Derived.RangeFuncBox
import Derived.Shelf.Sort.Plain
import Derived.Shelf.Slices.In.SortNone
import Derived.Test.YtgioklmpnbnplaaProg
import Derived.Test.YtgioklmpnbnplaaFa1
import Derived.Test.YtgioklmpnbnplaaFa2
import Derived.Test.YtgioklmpnbnplaaFa3
set_option linter.unusedSimpArgs false
set_option linter.unusedVariables false
set_option maxRecDepth 100000
namespace Go.Proofs.Ytgioklmpnbnplaa
open Go.V Go.RowKit

theorem iter_walks {ke : Int → Value} {w w' : World} {r b : Nat} {f : Int → Option Value} {rem : List (Int × Value)} {cur : Option (Int × Value)} (h : IterF ke w r b f rem cur) (hk : KeepsWalks w w') : IterF ke w' r b f rem cur := by
  obtain ⟨l, cl, seen, h1, ⟨h2, h3⟩, h4⟩ := h
  exact ⟨l, cl, seen, hk.same _ _ h1 rfl, ⟨hk.same _ _ h2 rfl, h3⟩, h4⟩
theorem iter_walk {ke : Int → Value} {w : World} {r b : Nat} {f : Int → Option Value} {rem : List (Int × Value)} {cur : Option (Int × Value)} (h : IterF ke w r b f rem cur) : ∃ o : Obj, w.heap[r]? = some o ∧ o.isWalk = true := by
  obtain ⟨l, cl, seen, h1, _⟩ := h
  exact ⟨_, h1, rfl⟩
set_option maxHeartbeats 1000000 in
theorem keys1_ok (n l Bm b : Nat) (f : Int → Option Value) (N : Nat) (J : List Int → World → Prop) (W : World) (hB : W.heap[Bm]? = some (.cells #[.map (some b)] 145 (0, 0))) (hm : MapF (Value.int .i64) W b f)
    (hN : ∀ xs : List Int, xs.Nodup → (∀ k ∈ xs, ∃ v, f k = some v) → xs.length ≤ N) (Jx : List Int → World → Prop) (hJ : AbidesFrom W.heap.size J)
    (hY : ∀ pre x W1, J pre W1 → pre.length < N → YieldAt Fence.wide (n - 1) Try.prog l #[.int .i64 x] W1 fun e W' => (e = .returned (.bool true) ∧ J (pre ++ [x]) W' ∧ KeepsWalks W1 W') ∨ (e = .returned (.bool false) ∧ Jx (pre ++ [x]) W')) (h0 : J [] W) :
    Ok Try.prog 142 #[.func (.yield l) #[] #[], pa (some ⟨Bm, 0, none⟩) 0] W fun v W' => (∃ xs : List Int, (xs.Nodup ∧ ∀ k, k ∈ xs ↔ ∃ v, f k = some v) ∧ J xs W') ∨ (∃ pre, True ∧ Jx pre W') := by
  (refine Ok.enterx 3 Try.func142 rfl (by kernel_rfl) (Nat.le_of_ble_eq_true rfl) ?_; simp only [Try.f142, S7])
  simp (disch := first | omega | assumption | (simp only [O1, World.size_alloc, World.size_setCell, World.size_drew]; first | done | omega)) only [O1, D2, ↓H0, S0, ↓S1, ↓S2, ↓S3, ↓S4, S5, S5b, S5c, ↓S6, S6b, M0, E0, ty, tl, te, tc, i64_wrap, u64_wrap, iaV_sl, iaV_arr, faV_pa, nck_pa, heap_new, heap_old, heap_set, ↓reduceIte, Nat.reduceEqDiff, Nat.reduceLT, Nat.reduceAdd, Int.reduceLT, Int.reduceLE, decide_false, decide_true, dec_true, dec_false, true_and, and_true, true_imp_iff, Bool.not_true, Bool.not_false, Option.map_none, Int.reduceToNat, Int.toNat_zero, Int.toNat_one, lkV_false, lkV_true, SX, hB]
  refine RunR_map mp145 hm ?_
  intro W1 rem hi1 hx1 hs1 hrem1 hnd1
  obtain ⟨r, hr⟩ : ∃ r, r = W.heap.size := ⟨_, rfl⟩
  rw [← hr] at hi1 hs1 ⊢
  have hbr : r ≠ b := by have := hm.lt; omega
  have hJ1 : J [] W1 := hJ [] W W1 none h0 (grown_none hx1 none) (fun _ e => by cases e)
  simp (disch := first | omega | assumption | (simp only [O1, World.size_alloc, World.size_setCell, World.size_drew]; first | done | omega)) only [O1, D2, ↓H0, S0, ↓S1, ↓S2, ↓S3, ↓S4, S5, S5b, S5c, ↓S6, S6b, M0, E0, ty, tl, te, tc, i64_wrap, u64_wrap, iaV_sl, iaV_arr, faV_pa, nck_pa, heap_new, heap_old, heap_set, ↓reduceIte, Nat.reduceEqDiff, Nat.reduceLT, Nat.reduceAdd, Int.reduceLT, Int.reduceLE, decide_false, decide_true, dec_true, dec_false, true_and, and_true, true_imp_iff, Bool.not_true, Bool.not_false, Option.map_none, Int.reduceToNat, Int.toNat_zero, Int.toNat_one, lkV_false, lkV_true, SX]
  refine ⟨fun k t U => ∃ (rem : List (Int × Value)) (cur : Option (Int × Value)) (xs : List Int), k = rem.length ∧ IterF (Value.int .i64) U r b f rem cur ∧ J xs U ∧ xs.Nodup ∧ (∀ q, q ∈ xs ↔ (∃ v, f q = some v) ∧ q ∉ rem.map (·.1)) ∧ (∀ q v, (q, v) ∈ rem → f q = some v) ∧ (rem.map (·.1)).Nodup ∧
    t 0 = .func (.yield l) #[] #[] ∧ t 1 = pa (some ⟨Bm, 0, none⟩) 0 ∧ t 5 = .pointer (some ⟨r, 0, none⟩), ⟨rem.length, rem, none, [], rfl, hi1, hJ1, by simp, fun q => ?_, fun q v hq => (hrem1 q v).1 hq, hnd1, ?_⟩, ?_⟩
  · constructor
    · intro h; simp at h
    · rintro ⟨⟨v, hv⟩, hn⟩
      exact absurd (List.mem_map.2 ⟨(q, v), (hrem1 q v).2 hv, rfl⟩) hn
  · simp (disch := first | omega | assumption | (simp only [O1, World.size_alloc, World.size_setCell, World.size_drew]; first | done | omega)) only [O1, D2, ↓H0, S0, ↓S1, ↓S2, ↓S3, ↓S4, S5, S5b, S5c, ↓S6, S6b, M0, E0, ty, tl, te, tc, i64_wrap, u64_wrap, iaV_sl, iaV_arr, faV_pa, nck_pa, heap_new, heap_old, heap_set, ↓reduceIte, Nat.reduceEqDiff, Nat.reduceLT, Nat.reduceAdd, Int.reduceLT, Int.reduceLE, decide_false, decide_true, dec_true, dec_false, true_and, and_true, true_imp_iff, Bool.not_true, Bool.not_false, Option.map_none, Int.reduceToNat, Int.toNat_zero, Int.toNat_one, lkV_false, lkV_true]
  clear hi1 hJ1 hrem1 hnd1 hs1 hx1 h0
  rintro k t U ⟨rem, cur, xs, rfl, hi, hJs, hxn, hxs, hrf, hnd, f0, f1, f5⟩
  simp (disch := first | omega | assumption | (simp only [O1, World.size_alloc, World.size_setCell, World.size_drew]; first | done | omega)) only [O1, D2, ↓H0, S0, ↓S1, ↓S2, ↓S3, ↓S4, S5, S5b, S5c, ↓S6, S6b, M0, E0, ty, tl, te, tc, i64_wrap, u64_wrap, iaV_sl, iaV_arr, faV_pa, nck_pa, heap_new, heap_old, heap_set, ↓reduceIte, Nat.reduceEqDiff, Nat.reduceLT, Nat.reduceAdd, Int.reduceLT, Int.reduceLE, decide_false, decide_true, dec_true, dec_false, true_and, and_true, true_imp_iff, Bool.not_true, Bool.not_false, Option.map_none, Int.reduceToNat, Int.toNat_zero, Int.toNat_one, lkV_false, lkV_true, SX, f0, f1, f5]
  refine RunN_map hi hbr (fun h0 => ?_) (fun q v U2 hmem hfq hi2 hg2 hs2 hlt2 => ?_)
  · subst h0
    simp (disch := first | omega | assumption | (simp only [O1, World.size_alloc, World.size_setCell, World.size_drew]; first | done | omega)) only [O1, D2, ↓H0, S0, ↓S1, ↓S2, ↓S3, ↓S4, S5, S5b, S5c, ↓S6, S6b, M0, E0, ty, tl, te, tc, i64_wrap, u64_wrap, iaV_sl, iaV_arr, faV_pa, nck_pa, heap_new, heap_old, heap_set, ↓reduceIte, Nat.reduceEqDiff, Nat.reduceLT, Nat.reduceAdd, Int.reduceLT, Int.reduceLE, decide_false, decide_true, dec_true, dec_false, true_and, and_true, true_imp_iff, Bool.not_true, Bool.not_false, Option.map_none, Int.reduceToNat, Int.toNat_zero, Int.toNat_one, lkV_false, lkV_true, SX, f0, f1, f5]
    exact .inl ⟨xs, ⟨hxn, fun q => by rw [hxs q]; simp⟩, hJs⟩
  have hJ2 : J xs U2 := hJ xs U U2 (some r) hJs hg2 (fun r' e => by cases e; exact ⟨by omega, iter_walk hi⟩)
  have hqx : q ∉ xs := fun h => ((hxs q).1 h).2 (List.mem_map.2 ⟨(q, v), hmem, rfl⟩)
  simp (disch := first | omega | assumption | (simp only [O1, World.size_alloc, World.size_setCell, World.size_drew]; first | done | omega)) only [O1, D2, ↓H0, S0, ↓S1, ↓S2, ↓S3, ↓S4, S5, S5b, S5c, ↓S6, S6b, M0, E0, ty, tl, te, tc, i64_wrap, u64_wrap, iaV_sl, iaV_arr, faV_pa, nck_pa, heap_new, heap_old, heap_set, ↓reduceIte, Nat.reduceEqDiff, Nat.reduceLT, Nat.reduceAdd, Int.reduceLT, Int.reduceLE, decide_false, decide_true, dec_true, dec_false, true_and, and_true, true_imp_iff, Bool.not_true, Bool.not_false, Option.map_none, Int.reduceToNat, Int.toNat_zero, Int.toNat_one, lkV_false, lkV_true, SX, f0, f1, f5]
  refine RunE_map hi2 ?_
  simp (disch := first | omega | assumption | (simp only [O1, World.size_alloc, World.size_setCell, World.size_drew]; first | done | omega)) only [O1, D2, ↓H0, S0, ↓S1, ↓S2, ↓S3, ↓S4, S5, S5b, S5c, ↓S6, S6b, M0, E0, ty, tl, te, tc, i64_wrap, u64_wrap, iaV_sl, iaV_arr, faV_pa, nck_pa, heap_new, heap_old, heap_set, ↓reduceIte, Nat.reduceEqDiff, Nat.reduceLT, Nat.reduceAdd, Int.reduceLT, Int.reduceLE, decide_false, decide_true, dec_true, dec_false, true_and, and_true, true_imp_iff, Bool.not_true, Bool.not_false, Option.map_none, Int.reduceToNat, Int.toNat_zero, Int.toNat_one, lkV_false, lkV_true, SX, f0, f1, f5]
  have hlen : xs.length < N := by
    have := hN (xs ++ [q]) (by rw [List.nodup_append]; exact ⟨hxn, by simp, fun a ha c hc e => by simp at hc; subst hc e; exact hqx ha⟩) (fun x hx => by
      rcases List.mem_append.1 hx with hx | hx
      · exact ((hxs x).1 hx).1
      · simp at hx; subst hx; exact ⟨v, hfq⟩)
    simp at this; omega
  refine esc_list (nF := n) ?_
  refine wpl_vop ?_
  simp (disch := first | omega | assumption | (simp only [O1, World.size_alloc, World.size_setCell, World.size_drew]; first | done | omega)) only [O1, D2, ↓H0, S0, ↓S1, ↓S2, ↓S3, ↓S4, S5, S5b, S5c, ↓S6, S6b, M0, E0, ty, tl, te, tc, i64_wrap, u64_wrap, iaV_sl, iaV_arr, faV_pa, nck_pa, heap_new, heap_old, heap_set, ↓reduceIte, Nat.reduceEqDiff, Nat.reduceLT, Nat.reduceAdd, Int.reduceLT, Int.reduceLE, decide_false, decide_true, dec_true, dec_false, true_and, and_true, true_imp_iff, Bool.not_true, Bool.not_false, Option.map_none, Int.reduceToNat, Int.toNat_zero, Int.toNat_one, lkV_false, lkV_true, SX, f0, f1, f5]
  refine wpl_vop ?_
  simp (disch := first | omega | assumption | (simp only [O1, World.size_alloc, World.size_setCell, World.size_drew]; first | done | omega)) only [O1, D2, ↓H0, S0, ↓S1, ↓S2, ↓S3, ↓S4, S5, S5b, S5c, ↓S6, S6b, M0, E0, ty, tl, te, tc, i64_wrap, u64_wrap, iaV_sl, iaV_arr, faV_pa, nck_pa, heap_new, heap_old, heap_set, ↓reduceIte, Nat.reduceEqDiff, Nat.reduceLT, Nat.reduceAdd, Int.reduceLT, Int.reduceLE, decide_false, decide_true, dec_true, dec_false, true_and, and_true, true_imp_iff, Bool.not_true, Bool.not_false, Option.map_none, Int.reduceToNat, Int.toNat_zero, Int.toNat_one, lkV_false, lkV_true, SX, f0, f1, f5]
  refine wpl_yield (l := l) (by simp (disch := first | omega | assumption | (simp only [O1, World.size_alloc, World.size_setCell, World.size_drew]; first | done | omega)) only [O1, D2, ↓H0, S0, ↓S1, ↓S2, ↓S3, ↓S4, S5, S5b, S5c, ↓S6, S6b, M0, E0, ty, tl, te, tc, i64_wrap, u64_wrap, iaV_sl, iaV_arr, faV_pa, nck_pa, heap_new, heap_old, heap_set, ↓reduceIte, Nat.reduceEqDiff, Nat.reduceLT, Nat.reduceAdd, Int.reduceLT, Int.reduceLE, decide_false, decide_true, dec_true, dec_false, true_and, and_true, true_imp_iff, Bool.not_true, Bool.not_false, Option.map_none, Int.reduceToNat, Int.toNat_zero, Int.toNat_one, lkV_false, lkV_true, SX, f0, f1, f5]) ?_
  obtain ⟨fn, tmps, assign, body, hy, hR⟩ := hY xs q U2 hJ2 hlen
  refine ⟨fn, tmps, assign, body, ?_, hR.mono ?_⟩
  · simp (disch := first | omega | assumption | (simp only [O1, World.size_alloc, World.size_setCell, World.size_drew]; first | done | omega)) only [O1, D2, ↓H0, S0, ↓S1, ↓S2, ↓S3, ↓S4, S5, S5b, S5c, ↓S6, S6b, M0, E0, ty, tl, te, tc, i64_wrap, u64_wrap, iaV_sl, iaV_arr, faV_pa, nck_pa, heap_new, heap_old, heap_set, ↓reduceIte, Nat.reduceEqDiff, Nat.reduceLT, Nat.reduceAdd, Int.reduceLT, Int.reduceLE, decide_false, decide_true, dec_true, dec_false, true_and, and_true, true_imp_iff, Bool.not_true, Bool.not_false, Option.map_none, Int.reduceToNat, Int.toNat_zero, Int.toNat_one, lkV_false, lkV_true, SX, f0, f1, f5]
    exact hy
  rintro e W' (⟨rfl, hJ3, hk3⟩ | ⟨rfl, hJ3⟩)
  rotate_left
  · refine ⟨_, rfl, wpl_vop ?_⟩
    simp (disch := first | omega | assumption | (simp only [O1, World.size_alloc, World.size_setCell, World.size_drew]; first | done | omega)) only [O1, D2, ↓H0, S0, ↓S1, ↓S2, ↓S3, ↓S4, S5, S5b, S5c, ↓S6, S6b, M0, E0, ty, tl, te, tc, i64_wrap, u64_wrap, iaV_sl, iaV_arr, faV_pa, nck_pa, heap_new, heap_old, heap_set, ↓reduceIte, Nat.reduceEqDiff, Nat.reduceLT, Nat.reduceAdd, Int.reduceLT, Int.reduceLE, decide_false, decide_true, dec_true, dec_false, true_and, and_true, true_imp_iff, Bool.not_true, Bool.not_false, Option.map_none, Int.reduceToNat, Int.toNat_zero, Int.toNat_one, lkV_false, lkV_true, SX, f0, f1, f5]
    refine wpListIn_nil ⟨_, rfl, ?_⟩
    simp (disch := first | omega | assumption | (simp only [O1, World.size_alloc, World.size_setCell, World.size_drew]; first | done | omega)) only [O1, D2, ↓H0, S0, ↓S1, ↓S2, ↓S3, ↓S4, S5, S5b, S5c, ↓S6, S6b, M0, E0, ty, tl, te, tc, i64_wrap, u64_wrap, iaV_sl, iaV_arr, faV_pa, nck_pa, heap_new, heap_old, heap_set, ↓reduceIte, Nat.reduceEqDiff, Nat.reduceLT, Nat.reduceAdd, Int.reduceLT, Int.reduceLE, decide_false, decide_true, dec_true, dec_false, true_and, and_true, true_imp_iff, Bool.not_true, Bool.not_false, Option.map_none, Int.reduceToNat, Int.toNat_zero, Int.toNat_one, lkV_false, lkV_true, SX, f0, f1, f5]
    exact .inr ⟨_, hJ3⟩
  refine ⟨_, rfl, wpl_vop ?_⟩
  simp (disch := first | omega | assumption | (simp only [O1, World.size_alloc, World.size_setCell, World.size_drew]; first | done | omega)) only [O1, D2, ↓H0, S0, ↓S1, ↓S2, ↓S3, ↓S4, S5, S5b, S5c, ↓S6, S6b, M0, E0, ty, tl, te, tc, i64_wrap, u64_wrap, iaV_sl, iaV_arr, faV_pa, nck_pa, heap_new, heap_old, heap_set, ↓reduceIte, Nat.reduceEqDiff, Nat.reduceLT, Nat.reduceAdd, Int.reduceLT, Int.reduceLE, decide_false, decide_true, dec_true, dec_false, true_and, and_true, true_imp_iff, Bool.not_true, Bool.not_false, Option.map_none, Int.reduceToNat, Int.toNat_zero, Int.toNat_one, lkV_false, lkV_true, SX, f0, f1, f5]
  refine wpListIn_nil ⟨_, rfl, ?_⟩
  simp (disch := first | omega | assumption | (simp only [O1, World.size_alloc, World.size_setCell, World.size_drew]; first | done | omega)) only [O1, D2, ↓H0, S0, ↓S1, ↓S2, ↓S3, ↓S4, S5, S5b, S5c, ↓S6, S6b, M0, E0, ty, tl, te, tc, i64_wrap, u64_wrap, iaV_sl, iaV_arr, faV_pa, nck_pa, heap_new, heap_old, heap_set, ↓reduceIte, Nat.reduceEqDiff, Nat.reduceLT, Nat.reduceAdd, Int.reduceLT, Int.reduceLE, decide_false, decide_true, dec_true, dec_false, true_and, and_true, true_imp_iff, Bool.not_true, Bool.not_false, Option.map_none, Int.reduceToNat, Int.toNat_zero, Int.toNat_one, lkV_false, lkV_true, SX, f0, f1, f5]
  refine ⟨_, hlt2, _, _, xs ++ [q], rfl, iter_walks hi2 hk3, hJ3, ?_, fun x => ?_, fun x y hxy => hrf x y (List.mem_filter.1 hxy).1, ?_⟩
  · rw [List.nodup_append]; exact ⟨hxn, by simp, fun a ha c hc e => by simp at hc; subst hc e; exact hqx ha⟩
  · constructor
    · intro hx
      rcases List.mem_append.1 hx with hx | hx
      · obtain ⟨h1, h2⟩ := (hxs x).1 hx
        exact ⟨h1, fun h => by
          obtain ⟨y, hy, e⟩ := List.mem_map.1 h
          exact h2 (List.mem_map.2 ⟨y, (List.mem_filter.1 hy).1, e⟩)⟩
      · simp at hx; subst hx
        exact ⟨⟨v, hfq⟩, fun h => by
          obtain ⟨y, hy, e⟩ := List.mem_map.1 h
          have := (List.mem_filter.1 hy).2
          simp [e] at this⟩
    · rintro ⟨h1, h2⟩
      by_cases e : x = q
      · subst e; simp
      · refine List.mem_append_left _ ((hxs x).2 ⟨h1, fun h => h2 ?_⟩)
        obtain ⟨y, hy, e2⟩ := List.mem_map.1 h
        refine List.mem_map.2 ⟨y, List.mem_filter.2 ⟨hy, ?_⟩, e2⟩
        have : y.1 ≠ q := fun e3 => e (e2.symm.trans e3)
        simpa using this
  · exact hnd.sublist (List.Sublist.map _ List.filter_sublist)
/-- What maps.Keys hands back gives the keys, each once. -/
theorem keys1_stops (n Bm b : Nat) (f : Int → Option Value) (N : Nat) (w0 : World) (hB : w0.heap[Bm]? = some (.cells #[.map (some b)] 145 (0, 0))) (hm : MapF (Value.int .i64) w0 b f) (hN : ∀ xs : List Int, xs.Nodup → (∀ k ∈ xs, ∃ v, f k = some v) → xs.length ≤ N) :
    SeqStopsK Fence.wide n Try.prog 142 #[pa (some ⟨Bm, 0, none⟩) 0] (fun x : Int => #[.int .i64 x]) KeepsWalks (fun xs => xs.Nodup ∧ ∀ k, k ∈ xs ↔ ∃ v, f k = some v) (fun _ => True) N w0 := by
  intro l J Jx W hW hJ hJx hY h0
  have hB1 : W.heap[Bm]? = _ := (hW.block Bm (lt_heap hB)).trans hB
  have hm1 : MapF (Value.int .i64) W b f := hm.hp (hW.block b hm.lt)
  exact callsIn_wide.2 (Calls.mono (keys1_ok n l Bm b f N J W hB1 hm1 hN Jx hJ hY h0).2 fun e w' ⟨v, hv, h⟩ => ⟨⟨v, hv⟩, h⟩)
end Go.Proofs.Ytgioklmpnbnplaa
namespace Go.Proofs.Ytgioklmpnbnplaa
open Go.V Go.RowKit

/-- An operation whose run is known. -/
theorem wpl_run {F : Fence} {nF : Nat} {P : Program} {ops : Array Oper} {Q : Exit → Act → World → Prop} {o : Oper} {rest : List Oper} {a : Act} {w w' : World} {v : Value} (hg : o.guard = none) (hd : ∀ c, o.op ≠ .defer c) (ha : o.about P w a.eval = none) (hr : (execOp a.eval o).run P w = .ok (.value v) w')
    (hK : wpListIn F nF P ops Q rest (a.put o.dst v) w') : wpListIn F nF P ops Q (o :: rest) a w := by
  refine wpListIn_plain hg fun K' hK' => ?_
  unfold Oper.wpIn
  refine ⟨fun f h => (by rw [ha] at h; exact absurd h (by simp)), ?_⟩
  rw [Oper.semAt_plain F _ _ hd, hr]
  exact hK' _ _ hK
theorem actD_put (n : Nat) (t : Fr) (d : Option Nat) (v : Value) (ds : List Deferred) : ({ act n t with defers := ds } : Act).put d v = { act n (updO t d v) with defers := ds } := by
  have h := congrArg Act.tmps (act_put n t d v)
  cases d with
  | none => rfl
  | some d =>
    simp only [Act.put, updO] at h ⊢
    rw [h]
theorem wpl_nil {P : Program} {F : Fence} {nF : Nat} {ops : Array Oper} {K : Act → World → Prop} {Q : Exit → Act → World → Prop} {a : Act} {w : World} (h : K a w) : wpListIn F nF P ops (Exit.then K Q) [] a w := wpListIn_nil h
theorem wpIn_of_wpR {P : Program} {o : Oper} {a : Act} {w : World} {next : Act → World → Prop} {Q : Exit → Act → World → Prop} (nF l : Nat) (hd : ∀ c, o.op ≠ .defer c) (h : o.wp P a w next Q) : o.wpIn (Fence.wide.inRound l) nF P a w next Q := by
  refine ⟨fun f _ => trivial, ?_⟩
  rw [Oper.semAt_plain _ _ _ hd]
  unfold Oper.wp at h
  generalize (execOp a.eval o).run P w = r at h
  unfold Oper.upon at h
  unfold Oper.uponIn
  split at h
  · exact h
  · exact h
  · exact h
  · exact ⟨fun h => (by cases h), callsIn_wide.2 h⟩
  · exact ⟨fun h => (by cases h), fun c cs _ => by obtain ⟨v, w', h1, h2⟩ := h c cs; exact ⟨v, w', h1, stepsIn_wide.2 h2⟩⟩
  · exact h
  · exact h.elim
theorem wpl_vopR {P : Program} {n nF l : Nat} {ops : Array Oper} {Q : Exit → Act → World → Prop} {rest : List Oper} {t : Fr} {w : World} {d : Option Tmp} {op : Op} {ty : TypeId} {pos : String} {af : Array Edge} (hd : ∀ c, op ≠ .defer c)
    (h : vop P n ⟨d, op, ty, pos, af, none⟩ t w fun v w' => wpListIn (Fence.wide.inRound l) nF P ops Q rest (act n (updO t d v)) w') : wpListIn (Fence.wide.inRound l) nF P ops Q (⟨d, op, ty, pos, af, none⟩ :: rest) (act n t) w := by
  refine wpListIn_plain rfl fun K' hK' => wpIn_of_wpR nF l hd (vop_sound h fun v w' hv => ?_)
  rw [act_put]; exact hK' _ _ hv
set_option maxHeartbeats 1000000 in
theorem aps_in (n g : Nat) (lb : Array Value) (hn : 1 ≤ n) (eg : ∀ args w, (callFunc g args).run Try.prog w = .ok (.enter g args) w) (S Sp : List Int → Prop) (N : Nat) (hN : N ≤ 1000000) (w : World) (hseq : SeqStopsK Fence.wide (n - 1) Try.prog g lb (fun x : Int => #[.int .i64 x]) KeepsWalks S Sp N w) :
    CallsIn Fence.wide n Try.prog 163 #[.slice none 0 0, .func (.func g) #[] lb] w fun e w' => ∃ v xs, e = .returned v ∧ S xs ∧ Row (Value.int .i64) w.heap.size 3 w' v xs ∧ Ext w w' := by
  refine callsIn_of_wp_marks Try.func163 rfl trivial ?_ rfl
  rw [← act_fr _ Try.f163.ntmps (Nat.le_of_ble_eq_true rfl)]
  simp only [Try.f163]
  refine wpIn_seq (wpIn_region_lit (wpl_vop ?_))
  simp (disch := first | omega | assumption | (simp only [O1, World.size_alloc, World.size_setCell, World.size_drew]; first | done | omega)) only [O1, D2, ↓H0, S0, ↓S1, ↓S2, ↓S3, ↓S4, S5, S5b, S5c, ↓S6, S6b, M0, E0, ty, tl, te, tc, i64_wrap, u64_wrap, iaV_sl, iaV_arr, faV_pa, nck_pa, heap_new, heap_old, heap_set, ↓reduceIte, Nat.reduceEqDiff, Nat.reduceLT, Nat.reduceAdd, Int.reduceLT, Int.reduceLE, decide_false, decide_true, dec_true, dec_false, true_and, and_true, true_imp_iff, Bool.not_true, Bool.not_false, Option.map_none, Int.reduceToNat, Int.toNat_zero, Int.toNat_one, lkV_false, lkV_true, S7]
  refine wpl_vop ?_
  simp (disch := first | omega | assumption | (simp only [O1, World.size_alloc, World.size_setCell, World.size_drew]; first | done | omega)) only [O1, D2, ↓H0, S0, ↓S1, ↓S2, ↓S3, ↓S4, S5, S5b, S5c, ↓S6, S6b, M0, E0, ty, tl, te, tc, i64_wrap, u64_wrap, iaV_sl, iaV_arr, faV_pa, nck_pa, heap_new, heap_old, heap_set, ↓reduceIte, Nat.reduceEqDiff, Nat.reduceLT, Nat.reduceAdd, Int.reduceLT, Int.reduceLE, decide_false, decide_true, dec_true, dec_false, true_and, and_true, true_imp_iff, Bool.not_true, Bool.not_false, Option.map_none, Int.reduceToNat, Int.toNat_zero, Int.toNat_one, lkV_false, lkV_true]
  refine wpl_nil ?_
  refine wpIn_seq (wpIn_seq (wpIn_region_lit (wpl_vop ?_)))
  simp (disch := first | omega | assumption | (simp only [O1, World.size_alloc, World.size_setCell, World.size_drew]; first | done | omega)) only [O1, D2, ↓H0, S0, ↓S1, ↓S2, ↓S3, ↓S4, S5, S5b, S5c, ↓S6, S6b, M0, E0, ty, tl, te, tc, i64_wrap, u64_wrap, iaV_sl, iaV_arr, faV_pa, nck_pa, heap_new, heap_old, heap_set, ↓reduceIte, Nat.reduceEqDiff, Nat.reduceLT, Nat.reduceAdd, Int.reduceLT, Int.reduceLE, decide_false, decide_true, dec_true, dec_false, true_and, and_true, true_imp_iff, Bool.not_true, Bool.not_false, Option.map_none, Int.reduceToNat, Int.toNat_zero, Int.toNat_one, lkV_false, lkV_true]
  refine wpl_nil ?_
  refine wpIn_block ?_
  obtain ⟨W0, hW0⟩ : ∃ W0, W0 = w.alloc (.cells #[.slice none 0 0] 23) := ⟨_, rfl⟩
  have hs0 : W0.heap.size = w.heap.size + 1 := by rw [hW0]; simp
  have hx0 : Ext w W0 := by rw [hW0]; exact (Ext.rfl' w).al _
  have hb0 : Boxed W0 w.heap.size 23 (.slice none 0 0) := by rw [hW0]; exact heap_new _ rfl
  rw [show w.alloc (Obj.cells (Value.slice none 0 0).cells 23) = W0 from hW0.symm]
  obtain ⟨t0, ht0⟩ : ∃ t0, t0 = upd (upd (upd (upd (upd und 0 (.slice none 0 0)) 1 (.func (.func g) #[] lb)) 2 (pa (some ⟨w.heap.size, 0, none⟩) 0)) 4 (.slice none 0 0)) 6 (.func (.func g) #[] lb) := ⟨_, rfl⟩
  rw [← ht0]
  have h2 : t0 2 = pa (some ⟨w.heap.size, 0, none⟩) 0 := by rw [ht0]; rfl
  refine wpIn_rangeFunc_ownF rfl hn (gf := g) (lb := lb) (by rw [act_eval, ht0]; rfl) trivial eg hseq walksK_t walksK_b hx0 (fun _ => rfl)
    (fun pre W => (∃ v, Boxed W w.heap.size 23 v ∧ W.ownsRow w.heap.size 3 1 v pre.length (pre.map (Value.int .i64)) ∧ True) ∧ Below w.heap.size w W) (fun _ _ _ => False)
    (OwnFrom.and (Own.from (holdsRow_own w.heap.size w.heap.size 23 3 1 (fun pre : List Int => pre.length) (fun pre => pre.map (Value.int .i64)) (fun _ _ => True)) _) (ownFrom_below (Nat.le_refl _) (by omega)))
    (fun _ _ _ _ _ h => h.elim) ⟨⟨_, hb0, World.ownsRow_nil _ _ _ _, trivial⟩, hx0⟩ (fun x => act 13 (upd (upd t0 7 (.int .i64 x)) 5 (.int .i64 x))) ?_ ?_ ?_ ?_
  · intro l x W K hK
    have h := act_put 13 t0 (some 7) (.int .i64 x)
    simp only [Act.put, updO] at h
    have e : ({ tmps := ((#[7] : Array Nat).zip #[Value.int .i64 x]).foldl (fun t (p, v) => t.setIfInBounds p v) (act 13 t0).tmps, defers := [] } : Act) = act 13 (upd t0 7 (.int .i64 x)) := by
      have hd : (act 13 t0).defers = [] := rfl
      rw [hd] at h
      simpa using h
    rw [e]
    refine wpIn_region_lit (wpl_vopR (by intro c h; cases h) ?_)
    simp (disch := first | omega | assumption | (simp only [O1, World.size_alloc, World.size_setCell, World.size_drew]; first | done | omega)) only [O1, D2, ↓H0, S0, ↓S1, ↓S2, ↓S3, ↓S4, S5, S5b, S5c, ↓S6, S6b, M0, E0, ty, tl, te, tc, i64_wrap, u64_wrap, iaV_sl, iaV_arr, faV_pa, nck_pa, heap_new, heap_old, heap_set, ↓reduceIte, Nat.reduceEqDiff, Nat.reduceLT, Nat.reduceAdd, Int.reduceLT, Int.reduceLE, decide_false, decide_true, dec_true, dec_false, true_and, and_true, true_imp_iff, Bool.not_true, Bool.not_false, Option.map_none, Int.reduceToNat, Int.toNat_zero, Int.toNat_one, lkV_false, lkV_true]
    refine wpl_nil ?_
    exact hK
  · intro l pre x W ⟨⟨v, hb, hR, _⟩, hbl⟩ hlen
    have hb' : W.heap[w.heap.size]? = some (.cells #[v] 23 (0, 0)) := hb
    have hws := hbl.size
    have hRow : Row (Value.int .i64) w.heap.size 3 W v pre := hR
    refine wpIn_block (wpIn_region_lit (wpl_vopR (by intro c h; cases h) ?_))
    simp (disch := first | omega | assumption | (simp only [O1, World.size_alloc, World.size_setCell, World.size_drew]; first | done | omega)) only [O1, D2, ↓H0, S0, ↓S1, ↓S2, ↓S3, ↓S4, S5, S5b, S5c, ↓S6, S6b, M0, E0, ty, tl, te, tc, i64_wrap, u64_wrap, iaV_sl, iaV_arr, faV_pa, nck_pa, heap_new, heap_old, heap_set, ↓reduceIte, Nat.reduceEqDiff, Nat.reduceLT, Nat.reduceAdd, Int.reduceLT, Int.reduceLE, decide_false, decide_true, dec_true, dec_false, true_and, and_true, true_imp_iff, Bool.not_true, Bool.not_false, Option.map_none, Int.reduceToNat, Int.toNat_zero, Int.toNat_one, lkV_false, lkV_true, h2, hb']
    refine wpl_vopR (by intro c h; cases h) ?_
    simp (disch := first | omega | assumption | (simp only [O1, World.size_alloc, World.size_setCell, World.size_drew]; first | done | omega)) only [O1, D2, ↓H0, S0, ↓S1, ↓S2, ↓S3, ↓S4, S5, S5b, S5c, ↓S6, S6b, M0, E0, ty, tl, te, tc, i64_wrap, u64_wrap, iaV_sl, iaV_arr, faV_pa, nck_pa, heap_new, heap_old, heap_set, ↓reduceIte, Nat.reduceEqDiff, Nat.reduceLT, Nat.reduceAdd, Int.reduceLT, Int.reduceLE, decide_false, decide_true, dec_true, dec_false, true_and, and_true, true_imp_iff, Bool.not_true, Bool.not_false, Option.map_none, Int.reduceToNat, Int.toNat_zero, Int.toNat_one, lkV_false, lkV_true, h2, hb']
    refine wpl_vopR (by intro c h; cases h) ?_
    simp (disch := first | omega | assumption | (simp only [O1, World.size_alloc, World.size_setCell, World.size_drew]; first | done | omega)) only [O1, D2, ↓H0, S0, ↓S1, ↓S2, ↓S3, ↓S4, S5, S5b, S5c, ↓S6, S6b, M0, E0, ty, tl, te, tc, i64_wrap, u64_wrap, iaV_sl, iaV_arr, faV_pa, nck_pa, heap_new, heap_old, heap_set, ↓reduceIte, Nat.reduceEqDiff, Nat.reduceLT, Nat.reduceAdd, Int.reduceLT, Int.reduceLE, decide_false, decide_true, dec_true, dec_false, true_and, and_true, true_imp_iff, Bool.not_true, Bool.not_false, Option.map_none, Int.reduceToNat, Int.toNat_zero, Int.toNat_one, lkV_false, lkV_true, h2, hb', bsl1 sl23]
    refine wpl_vopR (by intro c h; cases h) ?_
    simp (disch := first | omega | assumption | (simp only [O1, World.size_alloc, World.size_setCell, World.size_drew]; first | done | omega)) only [O1, D2, ↓H0, S0, ↓S1, ↓S2, ↓S3, ↓S4, S5, S5b, S5c, ↓S6, S6b, M0, E0, ty, tl, te, tc, i64_wrap, u64_wrap, iaV_sl, iaV_arr, faV_pa, nck_pa, heap_new, heap_old, heap_set, ↓reduceIte, Nat.reduceEqDiff, Nat.reduceLT, Nat.reduceAdd, Int.reduceLT, Int.reduceLE, decide_false, decide_true, dec_true, dec_false, true_and, and_true, true_imp_iff, Bool.not_true, Bool.not_false, Option.map_none, Int.reduceToNat, Int.toNat_zero, Int.toNat_one, lkV_false, lkV_true, h2, hb']
    refine RunA_row2 (enc := Value.int .i64) (x := x) sl23 hRow rfl (by omega) (by omega) hws ?_
    intro v' X hR' hg hsz hv hg2
    have hne := hRow.ne hb' (by decide)
    have hbX : X.heap[w.heap.size]? = some (.cells #[v] 23 (0, 0)) := (hg.block _ (lt_heap hb') (fun e => hne e.symm)).trans hb'
    have hst := sto_own (P := Try.prog) (T := 23) (w := X) (g := w.heap.size) (o := 0) (k := 0) (x := v') (by simp only [ty]) hbX (by simp) hR'.one
    refine wpl_vopR (by intro c h; cases h) ?_
    simp (disch := first | omega | assumption | (simp only [O1, World.size_alloc, World.size_setCell, World.size_drew]; first | done | omega)) only [O1, D2, ↓H0, S0, ↓S1, ↓S2, ↓S3, ↓S4, S5, S5b, S5c, ↓S6, S6b, M0, E0, ty, tl, te, tc, i64_wrap, u64_wrap, iaV_sl, iaV_arr, faV_pa, nck_pa, heap_new, heap_old, heap_set, ↓reduceIte, Nat.reduceEqDiff, Nat.reduceLT, Nat.reduceAdd, Int.reduceLT, Int.reduceLE, decide_false, decide_true, dec_true, dec_false, true_and, and_true, true_imp_iff, Bool.not_true, Bool.not_false, Option.map_none, Int.reduceToNat, Int.toNat_zero, Int.toNat_one, lkV_false, lkV_true, h2, hst]
    refine wpListIn_nil ?_
    have hcl : ∀ (j : Nat) (o : Obj), v.ownBlock = some j → W.heap[j]? = some o → o.isCells = true ∧ o.isWalk = false := fun j o hj ho => by
      obtain ⟨cs, f, hq⟩ := hRow.typed hj
      rw [ho] at hq; cases hq; exact ⟨rfl, rfl⟩
    have hxY : Ext w X := (show Ext w W from hbl).grown' hg fun k hk => (hRow.lt k hk).1
    exact ⟨(KeepsOthers.of_grownBy hg fun j o hj ho => (hcl j o hj ho).1).trans (KeepsOthers.setCell _ _ _), (KeepsWalks.of_grownBy hg fun j o hj ho => (hcl j o hj ho).2).trans (KeepsWalks.setCell _ _ _),
      ⟨v', Boxed.set v' (show Boxed X _ _ v from hbX), hR'.kept (row := some w.heap.size) set_grown (.inr (hR'.ne hbX (by decide)))⟩, hxY.st (Nat.le_refl _) _⟩
  · intro D xs W hD hS ⟨⟨v, hb, hR, _⟩, hbl⟩ hDd
    have hb' : W.heap[w.heap.size]? = some (.cells #[v] 23 (0, 0)) := hb
    have hRow : Row (Value.int .i64) w.heap.size 3 W v xs := hR
    have hld : ldV Try.prog 23 W (ev 13 t0 (.tmp 2)) = some v := by
      rw [show ev 13 t0 (.tmp 2) = pa (some ⟨w.heap.size, 0, none⟩) 0 from h2]
      simp (disch := first | omega | assumption | (simp only [O1, World.size_alloc, World.size_setCell, World.size_drew]; first | done | omega)) only [O1, D2, ↓H0, S0, ↓S1, ↓S2, ↓S3, ↓S4, S5, S5b, S5c, ↓S6, S6b, M0, E0, ty, tl, te, tc, i64_wrap, u64_wrap, iaV_sl, iaV_arr, faV_pa, nck_pa, heap_new, heap_old, heap_set, ↓reduceIte, Nat.reduceEqDiff, Nat.reduceLT, Nat.reduceAdd, Int.reduceLT, Int.reduceLE, decide_false, decide_true, dec_true, dec_false, true_and, and_true, true_imp_iff, Bool.not_true, Bool.not_false, Option.map_none, Int.reduceToNat, Int.toNat_zero, Int.toNat_one, lkV_false, lkV_true, hb']
    have hev : ∀ ds, ({ act 13 t0 with defers := ds } : Act).eval = ev 13 t0 := fun ds => act_eval' 13 t0
    refine (wpIn_seq (wpIn_region_lit ?_) : Code.wpIn Fence.wide n _ (Code.seq (Code.region 4 _ false) Code.ret) _ _ W)
    refine wpl_run rfl (by intro c h; cases h) (by simp [Oper.about]) (v := v) (w' := W) ?_ ?_
    · rw [hev]; exact ro_sound hld
    rw [actD_put]
    have hev2 : ∀ ds, ({ act 13 (updO t0 (some 12) v) with defers := ds } : Act).eval = ev 13 (updO t0 (some 12) v) := fun ds => act_eval' 13 _
    refine wpl_run rfl (by intro c h; cases h) (by simp [Oper.about]) (v := v) (w' := W) (by rw [hev2]; exact ro_sound rfl) ?_
    rw [actD_put]
    refine wpl_nil (wpIn_ret ?_)
    refine ⟨by simp, .inl ⟨_, _, rfl, run_takeDeferred hDd, ?_⟩⟩
    have hgD := grownBy_putObj' W D (.deferred none)
    have hneD : v.ownBlock ≠ some D := fun h => by
      obtain ⟨cs, f, hq⟩ := hRow.typed h
      rw [hDd] at hq; cases hq
    have hxD : Ext w (W.putObj D (.deferred none)) := (show Ext w W from hbl).grown' hgD fun k hk => by cases hk; omega
    have hv : (act 13 (updO (updO t0 (some 12) v) (some 4) v)).tmps.getD 4 undef = v := getD_act 13 _ 4
    exact ⟨_, results_tmp rfl _ _ _, v, xs, congrArg Ending.returned hv, hS, hRow.kept hgD (.inr hneD), hxD⟩
  · intro D c pre W _ _ h
    exact h.elim
end Go.Proofs.Ytgioklmpnbnplaa
namespace Go.Proofs
open Go.Shelf
def Try.lays189_ren : Go.Shelf.Ren := ⟨fun | 189 => 141 | 125 => 165 | 257 => 164 | 128 => 187 | 129 => 188 | 294 => 178 | 295 => 179 | 296 => 180 | 297 => 181 | 298 => 182 | 299 => 183 | 216 => 184 | 300 => 185 | 301 => 186 | 328 => 213 | 329 => 214 | 330 => 215 | 331 => 216 | 332 => 217 | 215 => 175 | 343 => 234 | n => n, fun | 28 => 23 | 3 => 3 | 46 => 121 | 0 => 0 | 51 => 212 | 53 => 215 | 4 => 4 | 183 => 231 | 182 => 230 | 131 => 118 | 5 => 5 | 9 => 9 | 218 => 255 | 222 => 259 | 228 => 270 | 229 => 271 | n => n, fun | n => n⟩
theorem Try.lays189 : Go.Proofs.Lays.n189 Try.prog Try.lays189_ren := {
  mixed := by kernel_rfl
  f125 := Try.func165.trans (congrArg some (by kernel_rfl))
  f128 := Try.func187.trans (congrArg some (by kernel_rfl))
  f129 := Try.func188.trans (congrArg some (by kernel_rfl))
  f189 := Try.func141.trans (congrArg some (by kernel_rfl))
  f215 := Try.func175.trans (congrArg some (by kernel_rfl))
  f216 := Try.func184.trans (congrArg some (by kernel_rfl))
  f257 := Try.func164.trans (congrArg some (by kernel_rfl))
  f294 := Try.func178.trans (congrArg some (by kernel_rfl))
  f295 := Try.func179.trans (congrArg some (by kernel_rfl))
  f296 := Try.func180.trans (congrArg some (by kernel_rfl))
  f297 := Try.func181.trans (congrArg some (by kernel_rfl))
  f298 := Try.func182.trans (congrArg some (by kernel_rfl))
  f299 := Try.func183.trans (congrArg some (by kernel_rfl))
  f300 := Try.func185.trans (congrArg some (by kernel_rfl))
  f301 := Try.func186.trans (congrArg some (by kernel_rfl))
  f328 := Try.func213.trans (congrArg some (by kernel_rfl))
  f329 := Try.func214.trans (congrArg some (by kernel_rfl))
  f330 := Try.func215.trans (congrArg some (by kernel_rfl))
  f331 := Try.func216.trans (congrArg some (by kernel_rfl))
  f332 := Try.func217.trans (congrArg some (by kernel_rfl))
  f343 := Try.func234.trans (congrArg some (by kernel_rfl))
  t0 := Try.underlying0
  a0 := Try.isAgg0
  z0 := Try.sizeOf0
  v0 := Try.zeroValue0
  t3 := Try.underlying3
  a3 := Try.isAgg3
  z3 := Try.sizeOf3
  v3 := Try.zeroValue3
  t4 := Try.underlying4
  a4 := Try.isAgg4
  z4 := Try.sizeOf4
  v4 := Try.zeroValue4
  t5 := Try.underlying5
  a5 := Try.isAgg5
  z5 := Try.sizeOf5
  v5 := Try.zeroValue5
  t9 := Try.underlying9
  a9 := Try.isAgg9
  z9 := Try.sizeOf9
  v9 := Try.zeroValue9
  t28 := Try.underlying23
  a28 := Try.isAgg23
  z28 := Try.sizeOf23
  v28 := Try.zeroValue23
  t46 := Try.underlying121
  a46 := Try.isAgg121
  z46 := Try.sizeOf121
  v46 := Try.zeroValue121
  t51 := Try.underlying212
  a51 := Try.isAgg212
  z51 := Try.sizeOf212
  v51 := Try.zeroValue212
  t53 := Try.underlying215
  a53 := Try.isAgg215
  z53 := Try.sizeOf215
  v53 := Try.zeroValue215
  t131 := Try.underlying118
  a131 := Try.isAgg118
  z131 := Try.sizeOf118
  v131 := Try.zeroValue118
  t182 := Try.underlying230
  a182 := Try.isAgg230
  z182 := Try.sizeOf230
  v182 := Try.zeroValue230
  t183 := Try.underlying231
  a183 := Try.isAgg231
  z183 := Try.sizeOf231
  v183 := Try.zeroValue231
  t218 := Try.underlying255
  a218 := Try.isAgg255
  z218 := Try.sizeOf255
  v218 := Try.zeroValue255
  t222 := Try.underlying259
  a222 := Try.isAgg259
  z222 := Try.sizeOf259
  v222 := Try.zeroValue259
  t228 := Try.underlying270
  a228 := Try.isAgg270
  z228 := Try.sizeOf270
  v228 := Try.zeroValue270
  t229 := Try.underlying271
  a229 := Try.isAgg271
  z229 := Try.sizeOf271
  v229 := Try.zeroValue271 }
def Try.lays190_ren : Go.Shelf.Ren := ⟨fun | 190 => 160 | 125 => 165 | 258 => 177 | 128 => 187 | 129 => 188 | 302 => 204 | 303 => 205 | 304 => 206 | 305 => 207 | 306 => 208 | 307 => 209 | 308 => 210 | 309 => 211 | 310 => 212 | 333 => 230 | 329 => 214 | 330 => 215 | 334 => 231 | 335 => 232 | 336 => 233 | 344 => 239 | n => n, fun | 31 => 39 | 9 => 9 | 3 => 3 | 46 => 121 | 0 => 0 | 51 => 212 | 53 => 215 | 4 => 4 | 183 => 231 | 182 => 230 | 131 => 118 | 5 => 5 | 218 => 255 | 222 => 259 | 228 => 270 | 229 => 271 | n => n, fun | n => n⟩
theorem Try.lays190 : Go.Proofs.Lays.n190 Try.prog Try.lays190_ren := {
  mixed := by kernel_rfl
  f125 := Try.func165.trans (congrArg some (by kernel_rfl))
  f128 := Try.func187.trans (congrArg some (by kernel_rfl))
  f129 := Try.func188.trans (congrArg some (by kernel_rfl))
  f190 := Try.func160.trans (congrArg some (by kernel_rfl))
  f258 := Try.func177.trans (congrArg some (by kernel_rfl))
  f302 := Try.func204.trans (congrArg some (by kernel_rfl))
  f303 := Try.func205.trans (congrArg some (by kernel_rfl))
  f304 := Try.func206.trans (congrArg some (by kernel_rfl))
  f305 := Try.func207.trans (congrArg some (by kernel_rfl))
  f306 := Try.func208.trans (congrArg some (by kernel_rfl))
  f307 := Try.func209.trans (congrArg some (by kernel_rfl))
  f308 := Try.func210.trans (congrArg some (by kernel_rfl))
  f309 := Try.func211.trans (congrArg some (by kernel_rfl))
  f310 := Try.func212.trans (congrArg some (by kernel_rfl))
  f329 := Try.func214.trans (congrArg some (by kernel_rfl))
  f330 := Try.func215.trans (congrArg some (by kernel_rfl))
  f333 := Try.func230.trans (congrArg some (by kernel_rfl))
  f334 := Try.func231.trans (congrArg some (by kernel_rfl))
  f335 := Try.func232.trans (congrArg some (by kernel_rfl))
  f336 := Try.func233.trans (congrArg some (by kernel_rfl))
  f344 := Try.func239.trans (congrArg some (by kernel_rfl))
  t0 := Try.underlying0
  a0 := Try.isAgg0
  z0 := Try.sizeOf0
  v0 := Try.zeroValue0
  t3 := Try.underlying3
  a3 := Try.isAgg3
  z3 := Try.sizeOf3
  v3 := Try.zeroValue3
  t4 := Try.underlying4
  a4 := Try.isAgg4
  z4 := Try.sizeOf4
  v4 := Try.zeroValue4
  t5 := Try.underlying5
  a5 := Try.isAgg5
  z5 := Try.sizeOf5
  v5 := Try.zeroValue5
  t9 := Try.underlying9
  a9 := Try.isAgg9
  z9 := Try.sizeOf9
  v9 := Try.zeroValue9
  t31 := Try.underlying39
  a31 := Try.isAgg39
  z31 := Try.sizeOf39
  v31 := Try.zeroValue39
  t46 := Try.underlying121
  a46 := Try.isAgg121
  z46 := Try.sizeOf121
  v46 := Try.zeroValue121
  t51 := Try.underlying212
  a51 := Try.isAgg212
  z51 := Try.sizeOf212
  v51 := Try.zeroValue212
  t53 := Try.underlying215
  a53 := Try.isAgg215
  z53 := Try.sizeOf215
  v53 := Try.zeroValue215
  t131 := Try.underlying118
  a131 := Try.isAgg118
  z131 := Try.sizeOf118
  v131 := Try.zeroValue118
  t182 := Try.underlying230
  a182 := Try.isAgg230
  z182 := Try.sizeOf230
  v182 := Try.zeroValue230
  t183 := Try.underlying231
  a183 := Try.isAgg231
  z183 := Try.sizeOf231
  v183 := Try.zeroValue231
  t218 := Try.underlying255
  a218 := Try.isAgg255
  z218 := Try.sizeOf255
  v218 := Try.zeroValue255
  t222 := Try.underlying259
  a222 := Try.isAgg259
  z222 := Try.sizeOf259
  v222 := Try.zeroValue259
  t228 := Try.underlying270
  a228 := Try.isAgg270
  z228 := Try.sizeOf270
  v228 := Try.zeroValue270
  t229 := Try.underlying271
  a229 := Try.isAgg271
  z229 := Try.sizeOf271
  v229 := Try.zeroValue271 }
end Go.Proofs
namespace Go.Proofs.Ytgioklmpnbnplaa
open Go.V Go.RowKit Go.Sort

theorem putRow_grown {α : Type} [Inhabited α] (enc : α → Value) (w : World) (g n : Nat) (d : Array α) (os : Array Obj) (hg : g < w.heap.size) : w.grownBy (grow (putRow enc (Sort.ahead w n) g 0 d) os) (some g) := by
  refine ⟨rfl, rfl, rfl, by simp, fun k hk hne => ?_⟩
  rw [heap_grow_old _ _ (by simpa using hk)]
  show ((Sort.ahead w n).heap.modify g _)[k]? = _
  rw [Array.getElem?_modify, if_neg (fun e => hne (by rw [e]))]
  rfl
theorem sort_ok (l : List Int) (v : Value) (base : Nat) (w : World) (h : Row (Value.int .i64) base 3 w v l) (hn : l.length < 1000000) :
    Ok Try.prog 141 #[v] w fun u w' => Row (Value.int .i64) base 3 w' v (l.mergeSort fun x y => decide (x ≤ y)) ∧ w.grownBy w' v.ownBlock := by
  refine ⟨⟨_, Try.func141, by kernel_rfl, rfl⟩, ?_⟩
  rcases h.shape with ⟨rfl, rfl⟩ | ⟨g, c, cur, rfl, hb, hg, hlc, hc, hcs, hct⟩
  · refine Calls.mono (Any.slices_Sort_int_none Try.lays189 none 0 w) ?_
    rintro e w' ⟨rfl, rfl⟩
    exact ⟨_, rfl, by rw [List.mergeSort_nil]; exact Row.nil _, World.grownBy.refl _ _⟩
  · have hgl := lt_heap hg
    have hlen : (l.mergeSort fun x y => decide (x ≤ y)).length = l.length := List.length_mergeSort l
    have hcur : ∀ j (hj : j < l.length), cur[j]? = some (.int .i64 l[j]) := fun j hj => by
      have h1 : (cur.toList.take l.length)[j]? = (l.map (Value.int .i64))[j]? := by rw [hct]
      rw [List.getElem?_take, if_pos hj] at h1
      simpa [List.getElem?_eq_getElem hj] using h1
    have hH : Holds (Value.int .i64) w g 0 l.toArray := fun j hj => by
      have hj' : j < l.length := by simpa using hj
      refine ⟨?_, by simp [World.frozen?, hg]⟩
      simp only [World.cell?, hg, Nat.zero_add, hcur j hj']
      simp [getElem!_pos, hj']
    refine Calls.mono (Any.slices_Sort_int Try.lays189 g 0 c l w hH hgl (by omega)) ?_
    rintro e w' ⟨rfl, n, os, rfl⟩
    generalize l.mergeSort (fun x y => decide (x ≤ y)) = s at hlen ⊢
    refine ⟨_, rfl, ?_, putRow_grown _ _ _ _ _ _ hgl⟩
    rw [← hlen]
    refine ⟨by simp, .inr ⟨g, c, putCells (Value.int .i64) 0 s.toArray cur, rfl, hb, ?_, by omega, hc, by simp [putCells, hcs], ?_⟩⟩
    · rw [heap_grow_old _ _ (by simpa using hgl)]
      show ((Sort.ahead w n).heap.modify g _)[g]? = _
      rw [Array.getElem?_modify, if_pos rfl]
      show (w.heap[g]?).map _ = _
      rw [hg]; rfl
    · apply List.ext_getElem?
      intro j
      by_cases hj : j < s.length
      · rw [List.getElem?_take, if_pos (by omega), List.getElem?_map, List.getElem?_eq_getElem hj]
        have hjc : j < cur.size := by omega
        simp [putCells, hjc, hj]
      · rw [List.getElem?_take, if_neg (by omega), List.getElem?_map, List.getElem?_eq_none (by omega)]; rfl
end Go.Proofs.Ytgioklmpnbnplaa
namespace Go.Proofs.Ytgioklmpnbnplaa
open Go.V Go.RowKit

section
variable (Bm b : Nat) (f : Int → Option Value) (N : Nat) (w : World) (hB : w.heap[Bm]? = some (.cells #[.map (some b)] 145 (0, 0))) (hm : MapF (Value.int .i64) w b f) (hN : ∀ xs : List Int, xs.Nodup → (∀ k ∈ xs, ∃ v, f k = some v) → xs.length ≤ N) (hN1 : N ≤ 1000000 - 1)
include hB hm hN hN1
theorem collect_ok : Ok Try.prog 140 #[.func (.func 142) #[] #[pa (some ⟨Bm, 0, none⟩) 0]] w fun v w' => (∃ xs : List Int, (xs.Nodup ∧ ∀ k, k ∈ xs ↔ ∃ v, f k = some v) ∧ Row (Value.int .i64) w.heap.size 3 w' v xs) ∧ Ext w w' := by
  have hap : Ok Try.prog 163 #[.slice none 0 0, .func (.func 142) #[] #[pa (some ⟨Bm, 0, none⟩) 0]] w fun v w' => (∃ xs : List Int, (xs.Nodup ∧ ∀ k, k ∈ xs ↔ ∃ v, f k = some v) ∧ Row (Value.int .i64) w.heap.size 3 w' v xs) ∧ Ext w w' :=
    ⟨⟨_, Try.func163, by kernel_rfl, rfl⟩, Calls.mono (callsIn_wide.1 (aps_in 1 142 _ (Nat.le_refl _) (enters_of Try.func142 (by kernel_rfl) rfl) _ _ N (by omega) w (keys1_stops 0 Bm b f N w hB hm hN)))
      fun e w' ⟨v, xs, he, hS, hR, hx⟩ => ⟨v, he, ⟨xs, hS, hR⟩, hx⟩⟩
  (refine Ok.enter Try.func140 rfl (by kernel_rfl) (Nat.le_of_ble_eq_true rfl) ?_; simp only [Try.f140, S7])
  simp (disch := first | omega | assumption | (simp only [O1, World.size_alloc, World.size_setCell, World.size_drew]; first | done | omega)) only [O1, D2, ↓H0, S0, ↓S1, ↓S2, ↓S3, ↓S4, S5, S5b, S5c, ↓S6, S6b, M0, E0, ty, tl, te, tc, i64_wrap, u64_wrap, iaV_sl, iaV_arr, faV_pa, nck_pa, heap_new, heap_old, heap_set, ↓reduceIte, Nat.reduceEqDiff, Nat.reduceLT, Nat.reduceAdd, Int.reduceLT, Int.reduceLE, decide_false, decide_true, dec_true, dec_false, true_and, and_true, true_imp_iff, Bool.not_true, Bool.not_false, Option.map_none, Int.reduceToNat, Int.toNat_zero, Int.toNat_one, lkV_false, lkV_true]
  refine hap.then ?_
  rintro v w' ⟨hS, hx⟩
  simp (disch := first | omega | assumption | (simp only [O1, World.size_alloc, World.size_setCell, World.size_drew]; first | done | omega)) only [O1, D2, ↓H0, S0, ↓S1, ↓S2, ↓S3, ↓S4, S5, S5b, S5c, ↓S6, S6b, M0, E0, ty, tl, te, tc, i64_wrap, u64_wrap, iaV_sl, iaV_arr, faV_pa, nck_pa, heap_new, heap_old, heap_set, ↓reduceIte, Nat.reduceEqDiff, Nat.reduceLT, Nat.reduceAdd, Int.reduceLT, Int.reduceLE, decide_false, decide_true, dec_true, dec_false, true_and, and_true, true_imp_iff, Bool.not_true, Bool.not_false, Option.map_none, Int.reduceToNat, Int.toNat_zero, Int.toNat_one, lkV_false, lkV_true]
  exact ⟨hS, hx⟩
theorem sorted_ok : Ok Try.prog 103 #[.func (.func 142) #[] #[pa (some ⟨Bm, 0, none⟩) 0]] w fun v w' => (∃ xs : List Int, xs.Pairwise (· < ·) ∧ (∀ k, k ∈ xs ↔ ∃ v, f k = some v) ∧ Row (Value.int .i64) w.heap.size 3 w' v xs) ∧ Ext w w' := by
  (refine Ok.enter Try.func103 rfl (by kernel_rfl) (Nat.le_of_ble_eq_true rfl) ?_; simp only [Try.f103, S7])
  simp (disch := first | omega | assumption | (simp only [O1, World.size_alloc, World.size_setCell, World.size_drew]; first | done | omega)) only [O1, D2, ↓H0, S0, ↓S1, ↓S2, ↓S3, ↓S4, S5, S5b, S5c, ↓S6, S6b, M0, E0, ty, tl, te, tc, i64_wrap, u64_wrap, iaV_sl, iaV_arr, faV_pa, nck_pa, heap_new, heap_old, heap_set, ↓reduceIte, Nat.reduceEqDiff, Nat.reduceLT, Nat.reduceAdd, Int.reduceLT, Int.reduceLE, decide_false, decide_true, dec_true, dec_false, true_and, and_true, true_imp_iff, Bool.not_true, Bool.not_false, Option.map_none, Int.reduceToNat, Int.toNat_zero, Int.toNat_one, lkV_false, lkV_true]
  refine (collect_ok Bm b f N w hB hm hN hN1).then ?_
  rintro v w1 ⟨⟨xs, ⟨hn, hk⟩, hR⟩, hx⟩
  have hlen := hN xs hn fun k hk' => (hk k).1 hk'
  simp (disch := first | omega | assumption | (simp only [O1, World.size_alloc, World.size_setCell, World.size_drew]; first | done | omega)) only [O1, D2, ↓H0, S0, ↓S1, ↓S2, ↓S3, ↓S4, S5, S5b, S5c, ↓S6, S6b, M0, E0, ty, tl, te, tc, i64_wrap, u64_wrap, iaV_sl, iaV_arr, faV_pa, nck_pa, heap_new, heap_old, heap_set, ↓reduceIte, Nat.reduceEqDiff, Nat.reduceLT, Nat.reduceAdd, Int.reduceLT, Int.reduceLE, decide_false, decide_true, dec_true, dec_false, true_and, and_true, true_imp_iff, Bool.not_true, Bool.not_false, Option.map_none, Int.reduceToNat, Int.toNat_zero, Int.toNat_one, lkV_false, lkV_true]
  refine (sort_ok xs v w.heap.size w1 hR (by omega)).then ?_
  rintro u w2 ⟨hR2, hg⟩
  simp (disch := first | omega | assumption | (simp only [O1, World.size_alloc, World.size_setCell, World.size_drew]; first | done | omega)) only [O1, D2, ↓H0, S0, ↓S1, ↓S2, ↓S3, ↓S4, S5, S5b, S5c, ↓S6, S6b, M0, E0, ty, tl, te, tc, i64_wrap, u64_wrap, iaV_sl, iaV_arr, faV_pa, nck_pa, heap_new, heap_old, heap_set, ↓reduceIte, Nat.reduceEqDiff, Nat.reduceLT, Nat.reduceAdd, Int.reduceLT, Int.reduceLE, decide_false, decide_true, dec_true, dec_false, true_and, and_true, true_imp_iff, Bool.not_true, Bool.not_false, Option.map_none, Int.reduceToNat, Int.toNat_zero, Int.toNat_one, lkV_false, lkV_true]
  refine ⟨⟨_, ?_, fun k => ?_, hR2⟩, hx.grown' hg fun k hk => (hR.lt k hk).1⟩
  · have h1 : (xs.mergeSort fun x y => decide (x ≤ y)).Pairwise (fun x y => decide (x ≤ y) = true) := List.pairwise_mergeSort (fun a b c h1 h2 => by simp at *; omega) (fun a b => by simp; omega) xs
    have h2 : (xs.mergeSort fun x y => decide (x ≤ y)).Nodup := (List.mergeSort_perm xs _).nodup_iff.2 hn
    exact (h1.and h2).imp fun {x y} h => by have := h.1; have := h.2; simp at *; omega
  · rw [(List.mergeSort_perm xs _).mem_iff]; exact hk k
end
theorem keys_ok (b : Nat) (w : World) : Ok Try.prog 104 #[.map (some b)] w fun v w' => v = .func (.func 142) #[] #[pa (some ⟨w.heap.size, 0, none⟩) 0] ∧ w' = w.alloc (.cells #[.map (some b)] 145) := by
  (refine Ok.enter Try.func104 rfl (by kernel_rfl) (Nat.le_of_ble_eq_true rfl) ?_; simp only [Try.f104, S7])
  simp (disch := first | omega | assumption | (simp only [O1, World.size_alloc, World.size_setCell, World.size_drew]; first | done | omega)) only [O1, D2, ↓H0, S0, ↓S1, ↓S2, ↓S3, ↓S4, S5, S5b, S5c, ↓S6, S6b, M0, E0, ty, tl, te, tc, i64_wrap, u64_wrap, iaV_sl, iaV_arr, faV_pa, nck_pa, heap_new, heap_old, heap_set, ↓reduceIte, Nat.reduceEqDiff, Nat.reduceLT, Nat.reduceAdd, Int.reduceLT, Int.reduceLE, decide_false, decide_true, dec_true, dec_false, true_and, and_true, true_imp_iff, Bool.not_true, Bool.not_false, Option.map_none, Int.reduceToNat, Int.toNat_zero, Int.toNat_one, lkV_false, lkV_true]
  rfl
end Go.Proofs.Ytgioklmpnbnplaa
namespace Go.Proofs.Ytgioklmpnbnplaa
open Go.V Go.RowKit

set_option maxHeartbeats 1000000 in
theorem copym_ok (d s : Nat) (fd fs : Int → Option Value) (w : World) (hd : MapI w d fd) (hs : MapI w s fs) (hds : d ≠ s) :
    Ok Try.prog 107 #[.map (some d), .map (some s)] w fun v w' => MapI w' d (fun k => match fs k with | some v => some v | none => fd k) ∧ w.grownBy w' (some d) := by
  have hdl := hd.lt
  have hsl := hs.lt
  (refine Ok.enter Try.func107 rfl (by kernel_rfl) (Nat.le_of_ble_eq_true rfl) ?_; simp only [Try.f107, S7])
  simp (disch := first | omega | assumption | (simp only [O1, World.size_alloc, World.size_setCell, World.size_drew]; first | done | omega)) only [O1, D2, ↓H0, S0, ↓S1, ↓S2, ↓S3, ↓S4, S5, S5b, S5c, ↓S6, S6b, M0, E0, ty, tl, te, tc, i64_wrap, u64_wrap, iaV_sl, iaV_arr, faV_pa, nck_pa, heap_new, heap_old, heap_set, ↓reduceIte, Nat.reduceEqDiff, Nat.reduceLT, Nat.reduceAdd, Int.reduceLT, Int.reduceLE, decide_false, decide_true, dec_true, dec_false, true_and, and_true, true_imp_iff, Bool.not_true, Bool.not_false, Option.map_none, Int.reduceToNat, Int.toNat_zero, Int.toNat_one, lkV_false, lkV_true]
  refine RunR_map mp145 hs ?_
  intro W1 rem hi1 hx1 hs1 hrem1 hnd1
  obtain ⟨r, hr⟩ : ∃ r, r = w.heap.size := ⟨_, rfl⟩
  rw [← hr] at hi1 hs1 ⊢
  simp (disch := first | omega | assumption | (simp only [O1, World.size_alloc, World.size_setCell, World.size_drew]; first | done | omega)) only [O1, D2, ↓H0, S0, ↓S1, ↓S2, ↓S3, ↓S4, S5, S5b, S5c, ↓S6, S6b, M0, E0, ty, tl, te, tc, i64_wrap, u64_wrap, iaV_sl, iaV_arr, faV_pa, nck_pa, heap_new, heap_old, heap_set, ↓reduceIte, Nat.reduceEqDiff, Nat.reduceLT, Nat.reduceAdd, Int.reduceLT, Int.reduceLE, decide_false, decide_true, dec_true, dec_false, true_and, and_true, true_imp_iff, Bool.not_true, Bool.not_false, Option.map_none, Int.reduceToNat, Int.toNat_zero, Int.toNat_one, lkV_false, lkV_true]
  refine ⟨fun k t U => ∃ (rem : List (Int × Value)) (cur : Option (Int × Value)), k = rem.length ∧ IterF (fun n : Int => Value.int .i64 n) U r s fs rem cur ∧ MapI U d (fun k => if k ∈ rem.map (·.1) then fd k else match fs k with | some v => some v | none => fd k) ∧ (∀ q v, (q, v) ∈ rem → fs q = some v) ∧ (rem.map (·.1)).Nodup ∧ w.grownBy U (some d) ∧ r < U.heap.size ∧
    t 0 = .map (some d) ∧ t 7 = .pointer (some ⟨r, 0, none⟩), ⟨rem.length, rem, none, rfl, hi1, ?_, fun q v hq => (hrem1 q v).1 hq, hnd1, grown_none hx1 _, by omega, ?_⟩, ?_⟩
  · have e : (fun k => if k ∈ rem.map (·.1) then fd k else match fs k with | some v => some v | none => fd k) = fd := by
      funext k
      by_cases h : k ∈ rem.map (·.1)
      · rw [if_pos h]
      · rw [if_neg h]
        cases hq : fs k with
        | none => rfl
        | some v => exact absurd (List.mem_map.2 ⟨(k, v), (hrem1 k v).2 hq, rfl⟩) h
    rw [e]; exact hd.ext hx1
  · simp (disch := first | omega | assumption | (simp only [O1, World.size_alloc, World.size_setCell, World.size_drew]; first | done | omega)) only [O1, D2, ↓H0, S0, ↓S1, ↓S2, ↓S3, ↓S4, S5, S5b, S5c, ↓S6, S6b, M0, E0, ty, tl, te, tc, i64_wrap, u64_wrap, iaV_sl, iaV_arr, faV_pa, nck_pa, heap_new, heap_old, heap_set, ↓reduceIte, Nat.reduceEqDiff, Nat.reduceLT, Nat.reduceAdd, Int.reduceLT, Int.reduceLE, decide_false, decide_true, dec_true, dec_false, true_and, and_true, true_imp_iff, Bool.not_true, Bool.not_false, Option.map_none, Int.reduceToNat, Int.toNat_zero, Int.toNat_one, lkV_false, lkV_true] <;> rfl
  clear hi1 hrem1 hnd1 hs1 hx1
  rintro k t U ⟨rem, cur, rfl, hi, hM, hrf, hnd, hg, hrU, f0, f7⟩
  simp (disch := first | omega | assumption | (simp only [O1, World.size_alloc, World.size_setCell, World.size_drew]; first | done | omega)) only [O1, D2, ↓H0, S0, ↓S1, ↓S2, ↓S3, ↓S4, S5, S5b, S5c, ↓S6, S6b, M0, E0, ty, tl, te, tc, i64_wrap, u64_wrap, iaV_sl, iaV_arr, faV_pa, nck_pa, heap_new, heap_old, heap_set, ↓reduceIte, Nat.reduceEqDiff, Nat.reduceLT, Nat.reduceAdd, Int.reduceLT, Int.reduceLE, decide_false, decide_true, dec_true, dec_false, true_and, and_true, true_imp_iff, Bool.not_true, Bool.not_false, Option.map_none, Int.reduceToNat, Int.toNat_zero, Int.toNat_one, lkV_false, lkV_true, f0, f7]
  refine RunN_map hi (by omega) (fun h0 => ?_) (fun q v U2 hmem hfq hi2 hg2 hs2 hlt2 => ?_)
  · subst h0
    simp (disch := first | omega | assumption | (simp only [O1, World.size_alloc, World.size_setCell, World.size_drew]; first | done | omega)) only [O1, D2, ↓H0, S0, ↓S1, ↓S2, ↓S3, ↓S4, S5, S5b, S5c, ↓S6, S6b, M0, E0, ty, tl, te, tc, i64_wrap, u64_wrap, iaV_sl, iaV_arr, faV_pa, nck_pa, heap_new, heap_old, heap_set, ↓reduceIte, Nat.reduceEqDiff, Nat.reduceLT, Nat.reduceAdd, Int.reduceLT, Int.reduceLE, decide_false, decide_true, dec_true, dec_false, true_and, and_true, true_imp_iff, Bool.not_true, Bool.not_false, Option.map_none, Int.reduceToNat, Int.toNat_zero, Int.toNat_one, lkV_false, lkV_true, f0, f7]
    exact ⟨by simpa using hM, hg⟩
  have hM2 : MapI U2 d _ := hM.hp (hg2.block d (by have := hg.size; omega) (by simp; omega))
  have hgU2 : w.grownBy U2 (some d) := ⟨hg2.os.trans hg.os, hg2.tape.trans hg.tape, hg2.output.trans hg.output, by have := hg.size; omega, fun k hk hn => (hg2.block k (by have := hg.size; omega) (by simp; omega)).trans (hg.block k hk hn)⟩
  simp (disch := first | omega | assumption | (simp only [O1, World.size_alloc, World.size_setCell, World.size_drew]; first | done | omega)) only [O1, D2, ↓H0, S0, ↓S1, ↓S2, ↓S3, ↓S4, S5, S5b, S5c, ↓S6, S6b, M0, E0, ty, tl, te, tc, i64_wrap, u64_wrap, iaV_sl, iaV_arr, faV_pa, nck_pa, heap_new, heap_old, heap_set, ↓reduceIte, Nat.reduceEqDiff, Nat.reduceLT, Nat.reduceAdd, Int.reduceLT, Int.reduceLE, decide_false, decide_true, dec_true, dec_false, true_and, and_true, true_imp_iff, Bool.not_true, Bool.not_false, Option.map_none, Int.reduceToNat, Int.toNat_zero, Int.toNat_one, lkV_false, lkV_true, f0, f7]
  refine RunE_map hi2 ?_
  simp (disch := first | omega | assumption | (simp only [O1, World.size_alloc, World.size_setCell, World.size_drew]; first | done | omega)) only [O1, D2, ↓H0, S0, ↓S1, ↓S2, ↓S3, ↓S4, S5, S5b, S5c, ↓S6, S6b, M0, E0, ty, tl, te, tc, i64_wrap, u64_wrap, iaV_sl, iaV_arr, faV_pa, nck_pa, heap_new, heap_old, heap_set, ↓reduceIte, Nat.reduceEqDiff, Nat.reduceLT, Nat.reduceAdd, Int.reduceLT, Int.reduceLE, decide_false, decide_true, dec_true, dec_false, true_and, and_true, true_imp_iff, Bool.not_true, Bool.not_false, Option.map_none, Int.reduceToNat, Int.toNat_zero, Int.toNat_one, lkV_false, lkV_true, f0, f7]
  refine RunU_map mp145 kInt hM2 q v ?_
  intro U3 hM3 hg3 hs3
  simp (disch := first | omega | assumption | (simp only [O1, World.size_alloc, World.size_setCell, World.size_drew]; first | done | omega)) only [O1, D2, ↓H0, S0, ↓S1, ↓S2, ↓S3, ↓S4, S5, S5b, S5c, ↓S6, S6b, M0, E0, ty, tl, te, tc, i64_wrap, u64_wrap, iaV_sl, iaV_arr, faV_pa, nck_pa, heap_new, heap_old, heap_set, ↓reduceIte, Nat.reduceEqDiff, Nat.reduceLT, Nat.reduceAdd, Int.reduceLT, Int.reduceLE, decide_false, decide_true, dec_true, dec_false, true_and, and_true, true_imp_iff, Bool.not_true, Bool.not_false, Option.map_none, Int.reduceToNat, Int.toNat_zero, Int.toNat_one, lkV_false, lkV_true, f0, f7]
  have hgU3 : w.grownBy U3 (some d) := hgU2.trans hg3
  refine ⟨_, hlt2, _, _, rfl, hi2.hp (hg3.block r (by omega) (by simp; omega)) (hg3.block s (by have := hgU2.size; omega) (by simp; omega)), ?_, fun x y hxy => hrf x y (List.mem_filter.1 hxy).1, hnd.sublist (List.Sublist.map _ List.filter_sublist), hgU3, by omega⟩
  have e : (fun k' => if k' = q then some v else if k' ∈ rem.map (·.1) then fd k' else match fs k' with | some v => some v | none => fd k') = (fun k' => if k' ∈ (rem.filter fun x => decide (x.1 ≠ q)).map (·.1) then fd k' else match fs k' with | some v => some v | none => fd k') := by
    funext k'
    by_cases h : k' = q
    · subst h
      rw [if_pos rfl, if_neg, hfq]
      intro hh
      obtain ⟨y, hy, e⟩ := List.mem_map.1 hh
      have := (List.mem_filter.1 hy).2
      simp [e] at this
    · rw [if_neg h]
      have : k' ∈ rem.map (·.1) ↔ k' ∈ (rem.filter fun x => decide (x.1 ≠ q)).map (·.1) := by
        simp only [List.mem_map, List.mem_filter]
        constructor
        · rintro ⟨y, hy, rfl⟩; exact ⟨y, ⟨hy, by simpa using h⟩, rfl⟩
        · rintro ⟨y, ⟨hy, _⟩, rfl⟩; exact ⟨y, hy, rfl⟩
      simp only [this]
  rw [← e]; exact hM3
end Go.Proofs.Ytgioklmpnbnplaa
namespace Go.Proofs.Ytgioklmpnbnplaa
open Go.V

/-- A function value that answers a test of the row's numbers and leaves the world alone. -/
def TestsOn (f : Value) (p : Int → Bool) (l : List Int) (w : World) : Prop := ∃ g b c, f = .func (.func g) b c ∧ ∀ s ∈ l, Ok Try.prog g (b ++ #[.int .i64 s] ++ c) w fun v w' => v = .bool (p s) ∧ w' = w
theorem index_on (v f : Value) (l : List Int) (p : Int → Bool) (w : World) (hl : Ints w v l) (hf : TestsOn f p l w) (hn : l.length ≤ 1000000000) :
    Ok Try.prog 136 #[v, f] w fun v w' => v = .int .i64 (match l.findIdx? p with | some i => (i : Int) | none => -1) ∧ w' = w := by
  obtain ⟨A, c, rfl, hc, hA⟩ := hl
  obtain ⟨g, fb, fc, rfl, hf⟩ := hf
  (refine Ok.enter Try.func136 rfl (by kernel_rfl) (Nat.le_of_ble_eq_true rfl) ?_; simp only [Try.f136, S7])
  simp (disch := first | omega | assumption | (simp only [O1, World.size_alloc, World.size_setCell, World.size_drew]; first | done | omega)) only [O1, D2, ↓H0, S0, ↓S1, ↓S2, ↓S3, ↓S4, S5, S5b, S5c, ↓S6, S6b, M0, E0, ty, tl, te, tc, i64_wrap, u64_wrap, iaV_sl, iaV_arr, faV_pa, nck_pa, heap_new, heap_old, heap_set, ↓reduceIte, Nat.reduceEqDiff, Nat.reduceLT, Nat.reduceAdd, Int.reduceLT, Int.reduceLE, decide_false, decide_true, dec_true, dec_false, true_and, and_true, true_imp_iff, Bool.not_true, Bool.not_false, Option.map_none, Int.reduceToNat, Int.toNat_zero, Int.toNat_one, lkV_false, lkV_true]
  refine ⟨fun k t W => ∃ i : Nat, k + i = l.length ∧ (∀ j (h : j < l.length), j < i → p l[j] = false) ∧ W = w ∧ t 0 = .slice A l.length c ∧ t 1 = .func (.func g) fb fc ∧ t 7 = .int .i64 l.length ∧ t 8 = .int .i64 i, ⟨l.length, 0, by omega, fun j _ h => by omega, rfl, ?_⟩, ?_⟩
  · simp (disch := first | omega | assumption | (simp only [O1, World.size_alloc, World.size_setCell, World.size_drew]; first | done | omega)) only [O1, D2, ↓H0, S0, ↓S1, ↓S2, ↓S3, ↓S4, S5, S5b, S5c, ↓S6, S6b, M0, E0, ty, tl, te, tc, i64_wrap, u64_wrap, iaV_sl, iaV_arr, faV_pa, nck_pa, heap_new, heap_old, heap_set, ↓reduceIte, Nat.reduceEqDiff, Nat.reduceLT, Nat.reduceAdd, Int.reduceLT, Int.reduceLE, decide_false, decide_true, dec_true, dec_false, true_and, and_true, true_imp_iff, Bool.not_true, Bool.not_false, Option.map_none, Int.reduceToNat, Int.toNat_zero, Int.toNat_one, lkV_false, lkV_true]; rfl
  rintro k t W ⟨i, hk, hno, rfl, f0, f1, f7, f8⟩
  simp (disch := first | omega | assumption | (simp only [O1, World.size_alloc, World.size_setCell, World.size_drew]; first | done | omega)) only [O1, D2, ↓H0, S0, ↓S1, ↓S2, ↓S3, ↓S4, S5, S5b, S5c, ↓S6, S6b, M0, E0, ty, tl, te, tc, i64_wrap, u64_wrap, iaV_sl, iaV_arr, faV_pa, nck_pa, heap_new, heap_old, heap_set, ↓reduceIte, Nat.reduceEqDiff, Nat.reduceLT, Nat.reduceAdd, Int.reduceLT, Int.reduceLE, decide_false, decide_true, dec_true, dec_false, true_and, and_true, true_imp_iff, Bool.not_true, Bool.not_false, Option.map_none, Int.reduceToNat, Int.toNat_zero, Int.toNat_one, lkV_false, lkV_true, f0, f1, f7, f8]
  refine Br_if (fun h => ?_) (fun h' => ?_) <;> (try simp (disch := first | omega | assumption | (simp only [O1, World.size_alloc, World.size_setCell, World.size_drew]; first | done | omega)) only [O1, D2, ↓H0, S0, ↓S1, ↓S2, ↓S3, ↓S4, S5, S5b, S5c, ↓S6, S6b, M0, E0, ty, tl, te, tc, i64_wrap, u64_wrap, iaV_sl, iaV_arr, faV_pa, nck_pa, heap_new, heap_old, heap_set, ↓reduceIte, Nat.reduceEqDiff, Nat.reduceLT, Nat.reduceAdd, Int.reduceLT, Int.reduceLE, decide_false, decide_true, dec_true, dec_false, true_and, and_true, true_imp_iff, Bool.not_true, Bool.not_false, Option.map_none, Int.reduceToNat, Int.toNat_zero, Int.toNat_one, lkV_false, lkV_true, f0, f1, f7, f8])
  · have hi : i < l.length := by omega
    have hs := hA i hi
    have hAs := rd_isSome hs
    simp (disch := first | omega | assumption | (simp only [O1, World.size_alloc, World.size_setCell, World.size_drew]; first | done | omega)) only [O1, D2, ↓H0, S0, ↓S1, ↓S2, ↓S3, ↓S4, S5, S5b, S5c, ↓S6, S6b, M0, E0, ty, tl, te, tc, i64_wrap, u64_wrap, iaV_sl, iaV_arr, faV_pa, nck_pa, heap_new, heap_old, heap_set, ↓reduceIte, Nat.reduceEqDiff, Nat.reduceLT, Nat.reduceAdd, Int.reduceLT, Int.reduceLE, decide_false, decide_true, dec_true, dec_false, true_and, and_true, true_imp_iff, Bool.not_true, Bool.not_false, Option.map_none, Int.reduceToNat, Int.toNat_zero, Int.toNat_one, lkV_false, lkV_true, f0, f1, f7, f8, hs, CallV_func]
    refine (hf l[i] (List.getElem_mem _)).then ?_; rintro _ _ ⟨rfl, rfl⟩
    cases hp : p l[i] with
    | true =>
      simp (disch := first | omega | assumption | (simp only [O1, World.size_alloc, World.size_setCell, World.size_drew]; first | done | omega)) only [O1, D2, ↓H0, S0, ↓S1, ↓S2, ↓S3, ↓S4, S5, S5b, S5c, ↓S6, S6b, M0, E0, ty, tl, te, tc, i64_wrap, u64_wrap, iaV_sl, iaV_arr, faV_pa, nck_pa, heap_new, heap_old, heap_set, ↓reduceIte, Nat.reduceEqDiff, Nat.reduceLT, Nat.reduceAdd, Int.reduceLT, Int.reduceLE, decide_false, decide_true, dec_true, dec_false, true_and, and_true, true_imp_iff, Bool.not_true, Bool.not_false, Option.map_none, Int.reduceToNat, Int.toNat_zero, Int.toNat_one, lkV_false, lkV_true, f0, f1, f7, f8]
      have : l.findIdx? p = some i := by
        rw [List.findIdx?_eq_some_iff_getElem]
        exact ⟨hi, hp, fun j hj => by simp [hno j (by omega) hj]⟩
      rw [this]
    | false =>
      simp (disch := first | omega | assumption | (simp only [O1, World.size_alloc, World.size_setCell, World.size_drew]; first | done | omega)) only [O1, D2, ↓H0, S0, ↓S1, ↓S2, ↓S3, ↓S4, S5, S5b, S5c, ↓S6, S6b, M0, E0, ty, tl, te, tc, i64_wrap, u64_wrap, iaV_sl, iaV_arr, faV_pa, nck_pa, heap_new, heap_old, heap_set, ↓reduceIte, Nat.reduceEqDiff, Nat.reduceLT, Nat.reduceAdd, Int.reduceLT, Int.reduceLE, decide_false, decide_true, dec_true, dec_false, true_and, and_true, true_imp_iff, Bool.not_true, Bool.not_false, Option.map_none, Int.reduceToNat, Int.toNat_zero, Int.toNat_one, lkV_false, lkV_true, f0, f1, f7, f8]
      refine ⟨k - 1, by omega, i + 1, by omega, fun j hj hji => ?_, rfl⟩
      by_cases e : j = i
      · subst e; exact hp
      · exact hno j hj (by omega)
  · have : l.findIdx? p = none := by
      rw [List.findIdx?_eq_none_iff]
      intro x hx
      obtain ⟨j, hj, rfl⟩ := List.mem_iff_getElem.1 hx
      exact hno j hj (by omega)
    rw [this]
theorem contains_on (v f : Value) (l : List Int) (p : Int → Bool) (w : World) (hl : Ints w v l) (hf : TestsOn f p l w) (hn : l.length ≤ 1000000000) :
    Ok Try.prog 92 #[v, f] w fun v w' => v = .bool (l.any p) ∧ w' = w := by
  (refine Ok.enter Try.func92 rfl (by kernel_rfl) (Nat.le_of_ble_eq_true rfl) ?_; simp only [Try.f92, S7])
  simp (disch := first | omega | assumption | (simp only [O1, World.size_alloc, World.size_setCell, World.size_drew]; first | done | omega)) only [O1, D2, ↓H0, S0, ↓S1, ↓S2, ↓S3, ↓S4, S5, S5b, S5c, ↓S6, S6b, M0, E0, ty, tl, te, tc, i64_wrap, u64_wrap, iaV_sl, iaV_arr, faV_pa, nck_pa, heap_new, heap_old, heap_set, ↓reduceIte, Nat.reduceEqDiff, Nat.reduceLT, Nat.reduceAdd, Int.reduceLT, Int.reduceLE, decide_false, decide_true, dec_true, dec_false, true_and, and_true, true_imp_iff, Bool.not_true, Bool.not_false, Option.map_none, Int.reduceToNat, Int.toNat_zero, Int.toNat_one, lkV_false, lkV_true]
  refine (index_on v f l p w hl hf hn).then ?_; rintro _ _ ⟨rfl, rfl⟩
  cases hq : l.findIdx? p with
  | none =>
    simp (disch := first | omega | assumption | (simp only [O1, World.size_alloc, World.size_setCell, World.size_drew]; first | done | omega)) only [O1, D2, ↓H0, S0, ↓S1, ↓S2, ↓S3, ↓S4, S5, S5b, S5c, ↓S6, S6b, M0, E0, ty, tl, te, tc, i64_wrap, u64_wrap, iaV_sl, iaV_arr, faV_pa, nck_pa, heap_new, heap_old, heap_set, ↓reduceIte, Nat.reduceEqDiff, Nat.reduceLT, Nat.reduceAdd, Int.reduceLT, Int.reduceLE, decide_false, decide_true, dec_true, dec_false, true_and, and_true, true_imp_iff, Bool.not_true, Bool.not_false, Option.map_none, Int.reduceToNat, Int.toNat_zero, Int.toNat_one, lkV_false, lkV_true]
    have := List.findIdx?_eq_none_iff.1 hq
    congr 1
    rw [eq_comm, List.any_eq_false]
    intro x hx; simp [this x hx]
  | some i =>
    simp (disch := first | omega | assumption | (simp only [O1, World.size_alloc, World.size_setCell, World.size_drew]; first | done | omega)) only [O1, D2, ↓H0, S0, ↓S1, ↓S2, ↓S3, ↓S4, S5, S5b, S5c, ↓S6, S6b, M0, E0, ty, tl, te, tc, i64_wrap, u64_wrap, iaV_sl, iaV_arr, faV_pa, nck_pa, heap_new, heap_old, heap_set, ↓reduceIte, Nat.reduceEqDiff, Nat.reduceLT, Nat.reduceAdd, Int.reduceLT, Int.reduceLE, decide_false, decide_true, dec_true, dec_false, true_and, and_true, true_imp_iff, Bool.not_true, Bool.not_false, Option.map_none, Int.reduceToNat, Int.toNat_zero, Int.toNat_one, lkV_false, lkV_true]
    rw [List.findIdx?_eq_some_iff_getElem] at hq
    obtain ⟨hi, hp, _⟩ := hq
    congr 1
    rw [eq_comm, List.any_eq_true]
    exact ⟨_, List.getElem_mem _, hp⟩
theorem first1_ok (s : Int) (B : Nat) (v : Value) (gl : List Bool) (w : World) (hB : w.heap[B]? = some (.cells #[v] 53 (0, 0))) (hg : Bools w v gl) (hs : s < gl.length) :
    Ok Try.prog 105 #[.int .i64 s, pa (some ⟨B, 0, none⟩) 0] w fun u w' => u = .bool (decide (0 ≤ s) && !(gl.getD s.toNat false)) ∧ w' = w := by
  obtain ⟨A, c, rfl, hc, hA⟩ := hg
  (refine Ok.enter Try.func105 rfl (by kernel_rfl) (Nat.le_of_ble_eq_true rfl) ?_; simp only [Try.f105, S7])
  simp (disch := first | omega | assumption | (simp only [O1, World.size_alloc, World.size_setCell, World.size_drew]; first | done | omega)) only [O1, D2, ↓H0, S0, ↓S1, ↓S2, ↓S3, ↓S4, S5, S5b, S5c, ↓S6, S6b, M0, E0, ty, tl, te, tc, i64_wrap, u64_wrap, iaV_sl, iaV_arr, faV_pa, nck_pa, heap_new, heap_old, heap_set, ↓reduceIte, Nat.reduceEqDiff, Nat.reduceLT, Nat.reduceAdd, Int.reduceLT, Int.reduceLE, decide_false, decide_true, dec_true, dec_false, true_and, and_true, true_imp_iff, Bool.not_true, Bool.not_false, Option.map_none, Int.reduceToNat, Int.toNat_zero, Int.toNat_one, lkV_false, lkV_true]
  refine Br_if (fun h => ?_) (fun h' => ?_) <;> (try simp (disch := first | omega | assumption | (simp only [O1, World.size_alloc, World.size_setCell, World.size_drew]; first | done | omega)) only [O1, D2, ↓H0, S0, ↓S1, ↓S2, ↓S3, ↓S4, S5, S5b, S5c, ↓S6, S6b, M0, E0, ty, tl, te, tc, i64_wrap, u64_wrap, iaV_sl, iaV_arr, faV_pa, nck_pa, heap_new, heap_old, heap_set, ↓reduceIte, Nat.reduceEqDiff, Nat.reduceLT, Nat.reduceAdd, Int.reduceLT, Int.reduceLE, decide_false, decide_true, dec_true, dec_false, true_and, and_true, true_imp_iff, Bool.not_true, Bool.not_false, Option.map_none, Int.reduceToNat, Int.toNat_zero, Int.toNat_one, lkV_false, lkV_true, hB])
  · have hsl : s.toNat < gl.length := by omega
    have h1 := hA s.toNat hsl
    have h2 := rd_isSome h1
    have hD : gl.getD s.toNat false = gl[s.toNat] := by simp [List.getD_eq_getElem?_getD, List.getElem?_eq_getElem hsl]
    rw [hD, decide_eq_true h]
    generalize gl[s.toNat] = y at *
    simp (disch := first | omega | assumption | (simp only [O1, World.size_alloc, World.size_setCell, World.size_drew]; first | done | omega)) only [O1, D2, ↓H0, S0, ↓S1, ↓S2, ↓S3, ↓S4, S5, S5b, S5c, ↓S6, S6b, M0, E0, ty, tl, te, tc, i64_wrap, u64_wrap, iaV_sl, iaV_arr, faV_pa, nck_pa, heap_new, heap_old, heap_set, ↓reduceIte, Nat.reduceEqDiff, Nat.reduceLT, Nat.reduceAdd, Int.reduceLT, Int.reduceLE, decide_false, decide_true, dec_true, dec_false, true_and, and_true, true_imp_iff, Bool.not_true, Bool.not_false, Option.map_none, Int.reduceToNat, Int.toNat_zero, Int.toNat_one, lkV_false, lkV_true, hB, h1]
    simp
  · simp
/-- A row of bits is not touched by a store into a box that holds no bit. -/
theorem bools_keep {X : World} {v u s0 : Value} {l : List Bool} {B T : Nat} (h : Bools X v l) (hb : X.heap[B]? = some (.cells #[s0] T (0, 0))) (hs0 : ∀ y, s0 ≠ .bool y) : Bools (X.setCell ⟨B, 0, none⟩ u) v l := by
  obtain ⟨A, c, rfl, hc, hA⟩ := h
  refine ⟨A, c, rfl, hc, fun i hi => ?_⟩
  have h1 := hA i hi
  cases A with
  | none => simp [rd] at h1
  | some a =>
    simp only [rd, Option.bind_some] at h1 ⊢
    generalize a.add i = a2 at h1 ⊢
    have hne : a2.block ≠ B := by
      intro e
      unfold World.cell? at h1
      rw [e, hb] at h1
      simp only at h1
      split at h1
      · cases h1
      · have h2 : (Value.bool l[i]) ∈ [s0] := List.mem_of_getElem? (by simpa using h1)
        simp at h2
        exact hs0 _ h2.symm
    rw [← h1]
    exact World.cell?_of_block (w := X) (heap_set _ hne)
end Go.Proofs.Ytgioklmpnbnplaa
namespace Go.Proofs.Ytgioklmpnbnplaa
open Go.V

theorem SoundP.low {g : PG} (h : SoundP g) : ∀ p ∈ g.prods, ∀ s ∈ p.2, -(g.terms.length : Int) ≤ s ∧ -256 ≤ s := by
  intro p hp s hs
  obtain ⟨i, hi, rfl⟩ := List.mem_iff_getElem.1 hp
  have h1 := ((h.2.2 i hi).2.2.2.2 s hs).2
  have h2 := h.2.1.1
  exact ⟨h1, by omega⟩
set_option maxHeartbeats 4000000 in
theorem first_ok (v : Value) (g : PG) (w : World) (hg : RepPG w v g) (hs : SmallP g) :
    Ok Try.prog 50 #[v] w fun v w' => ((¬ SoundP g ∧ v = .slice none 0 0) ∨ (SoundP g ∧ ∃ L, Go.V.Rows (.int .i64) w' v L ∧ L.length = g.names.length ∧ ∀ (a : Nat) r, L[a]? = some r → r.Pairwise (· < ·) ∧ ∀ x, x ∈ r ↔ ∃ t : Nat, x = t ∧ Fst g.prods a t)) ∧ Ext w w' := by
  have hg0 := hg
  obtain ⟨nv, tv, pv, rfl, hN, hT, hp⟩ := hg
  obtain ⟨A, a, rfl, ha, hA⟩ := hN
  obtain ⟨C, c, rfl, hc, hC⟩ := hp
  (refine Ok.enter Try.func50 rfl (by kernel_rfl) (Nat.le_of_ble_eq_true rfl) ?_; simp only [Try.f50, S7])
  simp (disch := first | omega | assumption | (simp only [O1, World.size_alloc, World.size_setCell, World.size_drew]; first | done | omega)) only [O1, D2, ↓H0, S0, ↓S1, ↓S2, ↓S3, ↓S4, S5, S5b, S5c, ↓S6, S6b, M0, E0, ty, tl, te, tc, i64_wrap, u64_wrap, iaV_sl, iaV_arr, faV_pa, nck_pa, heap_new, heap_old, heap_set, ↓reduceIte, Nat.reduceEqDiff, Nat.reduceLT, Nat.reduceAdd, Int.reduceLT, Int.reduceLE, decide_false, decide_true, dec_true, dec_false, true_and, and_true, true_imp_iff, Bool.not_true, Bool.not_false, Option.map_none, Int.reduceToNat, Int.toNat_zero, Int.toNat_one, lkV_false, lkV_true]
  obtain ⟨bx, hbx⟩ : ∃ bx, bx = #[Value.int .i64 g.start, .int .i64 g.rules, .slice A g.names.length a, tv, .slice C g.prods.length c] := ⟨_, rfl⟩
  have hx0 := (Ext.rfl' w).al (.cells bx 41)
  have hb0 := heap_new (w := w) (.cells bx 41) rfl
  rw [hbx] at hx0 hb0
  simp (disch := first | omega | assumption | (simp only [O1, World.size_alloc, World.size_setCell, World.size_drew]; first | done | omega)) only [O1, D2, ↓H0, S0, ↓S1, ↓S2, ↓S3, ↓S4, S5, S5b, S5c, ↓S6, S6b, M0, E0, ty, tl, te, tc, i64_wrap, u64_wrap, iaV_sl, iaV_arr, faV_pa, nck_pa, heap_new, heap_old, heap_set, ↓reduceIte, Nat.reduceEqDiff, Nat.reduceLT, Nat.reduceAdd, Int.reduceLT, Int.reduceLE, decide_false, decide_true, dec_true, dec_false, true_and, and_true, true_imp_iff, Bool.not_true, Bool.not_false, Option.map_none, Int.reduceToNat, Int.toNat_zero, Int.toNat_one, lkV_false, lkV_true, ldA5]
  refine (sound_ok _ g _ (hg0.ext hx0) hs).then ?_; rintro _ W ⟨⟨b, rfl, hb⟩, hx1⟩
  have hxW := hx0.tr hx1
  have hbW := hx1.hp hb0
  cases b with
  | false =>
    simp (disch := first | omega | assumption | (simp only [O1, World.size_alloc, World.size_setCell, World.size_drew]; first | done | omega)) only [O1, D2, ↓H0, S0, ↓S1, ↓S2, ↓S3, ↓S4, S5, S5b, S5c, ↓S6, S6b, M0, E0, ty, tl, te, tc, i64_wrap, u64_wrap, iaV_sl, iaV_arr, faV_pa, nck_pa, heap_new, heap_old, heap_set, ↓reduceIte, Nat.reduceEqDiff, Nat.reduceLT, Nat.reduceAdd, Int.reduceLT, Int.reduceLE, decide_false, decide_true, dec_true, dec_false, true_and, and_true, true_imp_iff, Bool.not_true, Bool.not_false, Option.map_none, Int.reduceToNat, Int.toNat_zero, Int.toNat_one, lkV_false, lkV_true]
    exact ⟨.inl fun h => by have := hb.2 h; simp at this, hxW⟩
  | true =>
    have hS := hb.1 rfl
    have hin := hS.inR
    have hside := hS.sides
    have hn1 := hS.1.2.1
    have hn2 := hS.2.1.2.2.1
    have hx0s : w.heap.size < W.heap.size := lt_heap hbW
    simp (disch := first | omega | assumption | (simp only [O1, World.size_alloc, World.size_setCell, World.size_drew]; first | done | omega)) only [O1, D2, ↓H0, S0, ↓S1, ↓S2, ↓S3, ↓S4, S5, S5b, S5c, ↓S6, S6b, M0, E0, ty, tl, te, tc, i64_wrap, u64_wrap, iaV_sl, iaV_arr, faV_pa, nck_pa, heap_new, heap_old, heap_set, ↓reduceIte, Nat.reduceEqDiff, Nat.reduceLT, Nat.reduceAdd, Int.reduceLT, Int.reduceLE, decide_false, decide_true, dec_true, dec_false, true_and, and_true, true_imp_iff, Bool.not_true, Bool.not_false, Option.map_none, Int.reduceToNat, Int.toNat_zero, Int.toNat_one, lkV_false, lkV_true]
    have hbd : W.drew.heap[w.heap.size]? = _ := hbW
    refine Dr_rg ([]) (upto 6) [0, 2] [(1, [], [4]), (3, [1], [21, 4]), (4, [], [21, 23])] [5, 6] [21, 23, 4] mixed (by kernel_rfl) ?_
    simp (disch := first | omega | assumption | (simp only [O1, World.size_alloc, World.size_setCell, World.size_drew]; first | done | omega)) only [↓D1, ↓D3, ↓D4, List.not_mem_nil, not_false_eq_true, Bool.false_eq_true, false_imp_iff, upto, O1, D2, ↓H0, S0, ↓S1, ↓S2, ↓S3, ↓S4, S5, S5b, S5c, ↓S6, S6b, M0, E0, ty, tl, te, tc, i64_wrap, u64_wrap, iaV_sl, iaV_arr, faV_pa, nck_pa, heap_new, heap_old, heap_set, ↓reduceIte, Nat.reduceEqDiff, Nat.reduceLT, Nat.reduceAdd, Int.reduceLT, Int.reduceLE, decide_false, decide_true, dec_true, dec_false, true_and, and_true, true_imp_iff, Bool.not_true, Bool.not_false, Option.map_none, Int.reduceToNat, Int.toNat_zero, Int.toNat_one, lkV_false, lkV_true, hbW, hbd, ldA5]
    have hgW := hg0.ext (hxW.tr ((Ext.rfl' W).dr))
    refine ⟨rgA [(1, fun v X => ∃ nl, Bools X v nl ∧ Tells g.names.length (Gen false g.prods) nl), (3, fun v X => ∃ gl, Bools X v gl ∧ Tells g.names.length (Gen true g.prods) gl), (4, fun v X => ∃ q, v = pa (some ⟨q, 0, none⟩) 0 ∧ W.heap.size ≤ q ∧ X.heap[q]? = some (.cells #[.slice none 0 0] 53 (0, 0)))],
      rg_stab ⟨fun _ _ _ ⟨nl, h1, h2⟩ hx => ⟨nl, h1.ext hx, h2⟩, fun _ _ _ ⟨nl, h1, h2⟩ hx => ⟨nl, h1.ext hx, h2⟩, fun _ _ _ ⟨q, h1, h2, h3⟩ hx => ⟨q, h1, h2, hx.hp h3⟩, trivial⟩, ⟨?_, ?_, ?_, trivial⟩, ?_⟩
    · intro t1 X hX hp hf
      simp (disch := first | (simp only [List.mem_cons, List.not_mem_nil, or_false, not_or, Nat.reduceEqDiff, not_false_eq_true, and_self]; done) | omega | assumption | (simp only [O1, World.size_alloc, World.size_setCell, World.size_drew]; first | done | omega)) only [↓G1, rgA_cons, rgA_nil, eq_self, ↓D1, ↓D3, ↓D4, List.not_mem_nil, not_false_eq_true, Bool.false_eq_true, false_imp_iff, upto, O1, D2, ↓H0, S0, ↓S1, ↓S2, ↓S3, ↓S4, S5, S5b, S5c, ↓S6, S6b, M0, E0, ty, tl, te, tc, i64_wrap, u64_wrap, iaV_sl, iaV_arr, faV_pa, nck_pa, heap_new, heap_old, heap_set, ↓reduceIte, Nat.reduceEqDiff, Nat.reduceLT, Nat.reduceAdd, Int.reduceLT, Int.reduceLE, decide_false, decide_true, dec_true, dec_false, true_and, and_true, true_imp_iff, Bool.not_true, Bool.not_false, Option.map_none, Int.reduceToNat, Int.toNat_zero, Int.toNat_one, lkV_false, lkV_true, hf]
      refine (nullable_ok _ g X (hgW.ext hX) hs).then ?_
      rintro u X2 ⟨h, hx⟩
      rcases h with ⟨h, _⟩ | ⟨_, nl, h1, h2⟩
      · exact absurd hS h
      simp (disch := first | (simp only [List.mem_cons, List.not_mem_nil, or_false, not_or, Nat.reduceEqDiff, not_false_eq_true, and_self]; done) | omega | assumption | (simp only [O1, World.size_alloc, World.size_setCell, World.size_drew]; first | done | omega)) only [↓G1, rgA_cons, rgA_nil, eq_self, ↓D1, ↓D3, ↓D4, List.not_mem_nil, not_false_eq_true, Bool.false_eq_true, false_imp_iff, upto, O1, D2, ↓H0, S0, ↓S1, ↓S2, ↓S3, ↓S4, S5, S5b, S5c, ↓S6, S6b, M0, E0, ty, tl, te, tc, i64_wrap, u64_wrap, iaV_sl, iaV_arr, faV_pa, nck_pa, heap_new, heap_old, heap_set, ↓reduceIte, Nat.reduceEqDiff, Nat.reduceLT, Nat.reduceAdd, Int.reduceLT, Int.reduceLE, decide_false, decide_true, dec_true, dec_false, true_and, and_true, true_imp_iff, Bool.not_true, Bool.not_false, Option.map_none, Int.reduceToNat, Int.toNat_zero, Int.toNat_one, lkV_false, lkV_true]
      exact ⟨hx, nl, h1, h2⟩
    · intro t1 X hX hp hf
      simp (disch := first | (simp only [List.mem_cons, List.not_mem_nil, or_false, not_or, Nat.reduceEqDiff, not_false_eq_true, and_self]; done) | omega | assumption | (simp only [O1, World.size_alloc, World.size_setCell, World.size_drew]; first | done | omega)) only [↓G1, rgA_cons, rgA_nil, eq_self, ↓D1, ↓D3, ↓D4, List.not_mem_nil, not_false_eq_true, Bool.false_eq_true, false_imp_iff, upto, O1, D2, ↓H0, S0, ↓S1, ↓S2, ↓S3, ↓S4, S5, S5b, S5c, ↓S6, S6b, M0, E0, ty, tl, te, tc, i64_wrap, u64_wrap, iaV_sl, iaV_arr, faV_pa, nck_pa, heap_new, heap_old, heap_set, ↓reduceIte, Nat.reduceEqDiff, Nat.reduceLT, Nat.reduceAdd, Int.reduceLT, Int.reduceLE, decide_false, decide_true, dec_true, dec_false, true_and, and_true, true_imp_iff, Bool.not_true, Bool.not_false, Option.map_none, Int.reduceToNat, Int.toNat_zero, Int.toNat_one, lkV_false, lkV_true, hf]
      refine (generating_ok _ g X (hgW.ext hX) hs).then ?_
      rintro u X2 ⟨h, hx⟩
      rcases h with ⟨h, _⟩ | ⟨_, nl, h1, h2⟩
      · exact absurd hS h
      simp (disch := first | (simp only [List.mem_cons, List.not_mem_nil, or_false, not_or, Nat.reduceEqDiff, not_false_eq_true, and_self]; done) | omega | assumption | (simp only [O1, World.size_alloc, World.size_setCell, World.size_drew]; first | done | omega)) only [↓G1, rgA_cons, rgA_nil, eq_self, ↓D1, ↓D3, ↓D4, List.not_mem_nil, not_false_eq_true, Bool.false_eq_true, false_imp_iff, upto, O1, D2, ↓H0, S0, ↓S1, ↓S2, ↓S3, ↓S4, S5, S5b, S5c, ↓S6, S6b, M0, E0, ty, tl, te, tc, i64_wrap, u64_wrap, iaV_sl, iaV_arr, faV_pa, nck_pa, heap_new, heap_old, heap_set, ↓reduceIte, Nat.reduceEqDiff, Nat.reduceLT, Nat.reduceAdd, Int.reduceLT, Int.reduceLE, decide_false, decide_true, dec_true, dec_false, true_and, and_true, true_imp_iff, Bool.not_true, Bool.not_false, Option.map_none, Int.reduceToNat, Int.toNat_zero, Int.toNat_one, lkV_false, lkV_true]
      exact ⟨hx, nl, h1, h2⟩
    · intro t1 X hX hp hf
      simp (disch := first | (simp only [List.mem_cons, List.not_mem_nil, or_false, not_or, Nat.reduceEqDiff, not_false_eq_true, and_self]; done) | omega | assumption | (simp only [O1, World.size_alloc, World.size_setCell, World.size_drew]; first | done | omega)) only [↓G1, rgA_cons, rgA_nil, eq_self, ↓D1, ↓D3, ↓D4, List.not_mem_nil, not_false_eq_true, Bool.false_eq_true, false_imp_iff, upto, O1, D2, ↓H0, S0, ↓S1, ↓S2, ↓S3, ↓S4, S5, S5b, S5c, ↓S6, S6b, M0, E0, ty, tl, te, tc, i64_wrap, u64_wrap, iaV_sl, iaV_arr, faV_pa, nck_pa, heap_new, heap_old, heap_set, ↓reduceIte, Nat.reduceEqDiff, Nat.reduceLT, Nat.reduceAdd, Int.reduceLT, Int.reduceLE, decide_false, decide_true, dec_true, dec_false, true_and, and_true, true_imp_iff, Bool.not_true, Bool.not_false, Option.map_none, Int.reduceToNat, Int.toNat_zero, Int.toNat_one, lkV_false, lkV_true, hf]
      exact ⟨(Ext.rfl' X).al _, X.heap.size, rfl, hX.size, heap_new _ rfl⟩
    · intro t1 X hX hp hf
      simp only [rgPre, D2, G0, ↓reduceIte, Nat.reduceEqDiff, Nat.reduceLT, Nat.reduceAdd, and_true, true_and, eq_self, rgA_cons, rgA_nil, List.map_cons, List.map_nil] at hp
      obtain ⟨⟨nl, hnl, hTl⟩, ⟨gl, hgl, hGl⟩, B4, e4, hB4, hb4⟩ := hp
      have hnl' := bools_keep (u := t1 23) hnl hb4 (fun y h => by cases h)
      have hgl' := bools_keep (u := t1 23) hgl hb4 (fun y h => by cases h)
      have hone : (t1 23).oneCell' = true := by obtain ⟨GA, gc, e, _⟩ := hgl; rw [e]; rfl
      have hst := sto_own (P := Try.prog) (T := 53) (w := X) (g := B4) (o := 0) (k := 0) (x := t1 23) (by simp only [ty]) hb4 (by simp) hone
      have hbX := hX.hp hbd
      have hxY : Ext w (X.setCell ⟨B4, 0, none⟩ (t1 23)) := (hxW.tr (((Ext.rfl' W).dr).tr hX)).st (by omega) _
      have hB4l := lt_heap hb4
      have hbY : (X.setCell ⟨B4, 0, none⟩ (t1 23)).heap[w.heap.size]? = _ := (heap_set _ (by omega)).trans hbX
      have hb4Y : (X.setCell ⟨B4, 0, none⟩ (t1 23)).heap[B4]? = some (.cells #[t1 23] 53 (0, 0)) := by rw [heap_set_same, hb4]; rfl
      simp (disch := first | (simp only [List.mem_cons, List.not_mem_nil, or_false, not_or, Nat.reduceEqDiff, not_false_eq_true, and_self]; done) | omega | assumption | (simp only [O1, World.size_alloc, World.size_setCell, World.size_drew]; first | done | omega)) only [↓G1, rgA_cons, rgA_nil, eq_self, ↓D1, ↓D3, ↓D4, List.not_mem_nil, not_false_eq_true, Bool.false_eq_true, false_imp_iff, upto, O1, D2, ↓H0, S0, ↓S1, ↓S2, ↓S3, ↓S4, S5, S5b, S5c, ↓S6, S6b, M0, E0, ty, tl, te, tc, i64_wrap, u64_wrap, iaV_sl, iaV_arr, faV_pa, nck_pa, heap_new, heap_old, heap_set, ↓reduceIte, Nat.reduceEqDiff, Nat.reduceLT, Nat.reduceAdd, Int.reduceLT, Int.reduceLE, decide_false, decide_true, dec_true, dec_false, true_and, and_true, true_imp_iff, Bool.not_true, Bool.not_false, Option.map_none, Int.reduceToNat, Int.toNat_zero, Int.toNat_one, lkV_false, lkV_true, hf, e4, hst, hbX]
      obtain ⟨NA, nc, e21, hnc, hNA⟩ := hnl'
      obtain ⟨GA, gc, e23, hgc, hGA⟩ := hgl'
      rw [e23] at hxY hbY hb4Y hNA hGA ⊢
      generalize X.setCell ⟨B4, 0, none⟩ (.slice GA gl.length gc) = Y at *
      refine RunM_one sl44 rfl (by omega) (by omega) ?_
      have hYs := hxY.size
      have hB4w : w.heap.size < B4 := by omega
      have hB4Y := lt_heap hb4Y
      have hO := RowsO.new (enc := IV) (base := Y.heap.size) (e := 3) (T := 23) (g := Y.heap.size) (Y.alloc (.cells (List.replicate g.names.length (.slice none 0 0)).toArray 23)) g.names.length (heap_new _ rfl)
      have hxn := (Ext.rfl' Y).al (.cells (List.replicate g.names.length (.slice none 0 0)).toArray 23)
      have hW0 : RowW w (Y.alloc (.cells (List.replicate g.names.length (.slice none 0 0)).toArray 23)) bx w.heap.size Y.heap.size Y.heap.size (List.replicate g.names.length []) :=
        ⟨hxY.tr hxn, hbx ▸ hxn.hp hbY, hO, rfl, by simp, by omega, by omega⟩
      have hbY2 := hxn.hp hbY
      have hs1 : (Y.alloc (.cells (List.replicate g.names.length (.slice none 0 0)).toArray 23)).heap.size = Y.heap.size + 1 := by simp
      have hGc0 := heap_new (w := Y) (.cells (List.replicate g.names.length (.slice none 0 0)).toArray 23) rfl
      generalize hG : Y.heap.size = G at *
      generalize Y.alloc (.cells (List.replicate g.names.length (.slice none 0 0)).toArray 23) = U0 at *
      simp (disch := first | (simp only [List.mem_cons, List.not_mem_nil, or_false, not_or, Nat.reduceEqDiff, not_false_eq_true, and_self]; done) | omega | assumption | (simp only [O1, World.size_alloc, World.size_setCell, World.size_drew]; first | done | omega)) only [↓G1, rgA_cons, rgA_nil, eq_self, ↓D1, ↓D3, ↓D4, List.not_mem_nil, not_false_eq_true, Bool.false_eq_true, false_imp_iff, upto, O1, D2, ↓H0, S0, ↓S1, ↓S2, ↓S3, ↓S4, S5, S5b, S5c, ↓S6, S6b, M0, E0, ty, tl, te, tc, i64_wrap, u64_wrap, iaV_sl, iaV_arr, faV_pa, nck_pa, heap_new, heap_old, heap_set, ↓reduceIte, Nat.reduceEqDiff, Nat.reduceLT, Nat.reduceAdd, Int.reduceLT, Int.reduceLE, decide_false, decide_true, dec_true, dec_false, true_and, and_true, true_imp_iff, Bool.not_true, Bool.not_false, Option.map_none, Int.reduceToNat, Int.toNat_zero, Int.toNat_one, lkV_false, lkV_true, hf, hbY2]
      refine RunM_own (enc := Value.map) (z := none) sl150 rfl (by omega) (by omega) ?_
      intro U1 hU1s hx01 hOm
      obtain ⟨gm, hgm⟩ : ∃ gm, gm = U0.heap.size := ⟨_, rfl⟩
      rw [← hgm] at hOm hU1s ⊢
      have hM0 : MpS 145 gm g.names.length U1 gm [] [] := ⟨by simpa using hOm, Nat.zero_le _, rfl, by simp, by simp, fun i b f h => by simp at h⟩
      have hYU : Ext Y U1 := hxn.tr hx01
      have hGc := hx01.hp hGc0
      simp (disch := first | (simp only [List.mem_cons, List.not_mem_nil, or_false, not_or, Nat.reduceEqDiff, not_false_eq_true, and_self]; done) | omega | assumption | (simp only [O1, World.size_alloc, World.size_setCell, World.size_drew]; first | done | omega)) only [↓G1, rgA_cons, rgA_nil, eq_self, ↓D1, ↓D3, ↓D4, List.not_mem_nil, not_false_eq_true, Bool.false_eq_true, false_imp_iff, upto, O1, D2, ↓H0, S0, ↓S1, ↓S2, ↓S3, ↓S4, S5, S5b, S5c, ↓S6, S6b, M0, E0, ty, tl, te, tc, i64_wrap, u64_wrap, iaV_sl, iaV_arr, faV_pa, nck_pa, heap_new, heap_old, heap_set, ↓reduceIte, Nat.reduceEqDiff, Nat.reduceLT, Nat.reduceAdd, Int.reduceLT, Int.reduceLE, decide_false, decide_true, dec_true, dec_false, true_and, and_true, true_imp_iff, Bool.not_true, Bool.not_false, Option.map_none, Int.reduceToNat, Int.toNat_zero, Int.toNat_one, lkV_false, lkV_true, hf, e21, e4, sl]
      refine ⟨fun k t U => ∃ (i : Nat) (ms : List Nat), k + i = g.names.length ∧ ms.length = i ∧ Ext Y U ∧ U.heap[G]? = some (.cells (List.replicate g.names.length (.slice none 0 0)).toArray 23 (0, 0)) ∧ MpS 145 gm g.names.length U gm ms (List.replicate i fun _ => none) ∧
        t 1 = pa (some ⟨w.heap.size, 0, none⟩) 0 ∧ t 3 = .slice NA nl.length nc ∧ t 4 = pa (some ⟨B4, 0, none⟩) 0 ∧ t 5 = .slice (some ⟨G, 0, none⟩) g.names.length g.names.length ∧ t 6 = .slice (some ⟨gm, 0, none⟩) g.names.length g.names.length ∧ t 33 = .int .i64 g.names.length ∧ t 34 = .int .i64 i,
        ⟨g.names.length, 0, [], by omega, rfl, hYU, hGc, hM0, ?_⟩, ?_⟩
      · simp (disch := first | (simp only [List.mem_cons, List.not_mem_nil, or_false, not_or, Nat.reduceEqDiff, not_false_eq_true, and_self]; done) | omega | assumption | (simp only [O1, World.size_alloc, World.size_setCell, World.size_drew]; first | done | omega)) only [↓G1, rgA_cons, rgA_nil, eq_self, ↓D1, ↓D3, ↓D4, List.not_mem_nil, not_false_eq_true, Bool.false_eq_true, false_imp_iff, upto, O1, D2, ↓H0, S0, ↓S1, ↓S2, ↓S3, ↓S4, S5, S5b, S5c, ↓S6, S6b, M0, E0, ty, tl, te, tc, i64_wrap, u64_wrap, iaV_sl, iaV_arr, faV_pa, nck_pa, heap_new, heap_old, heap_set, ↓reduceIte, Nat.reduceEqDiff, Nat.reduceLT, Nat.reduceAdd, Int.reduceLT, Int.reduceLE, decide_false, decide_true, dec_true, dec_false, true_and, and_true, true_imp_iff, Bool.not_true, Bool.not_false, Option.map_none, Int.reduceToNat, Int.toNat_zero, Int.toNat_one, lkV_false, lkV_true, hf, e21, e4] <;> rfl
      clear hM0 hGc hYU hOm hx01 hxn hW0 hO hGc0
      rintro k t U ⟨i, ms, hk, hml, hYU, hGc, hM, f1, f3, f4, f5, f6, f33, f34⟩
      simp (disch := first | omega | assumption | (simp only [O1, World.size_alloc, World.size_setCell, World.size_drew]; first | done | omega)) only [O1, D2, ↓H0, S0, ↓S1, ↓S2, ↓S3, ↓S4, S5, S5b, S5c, ↓S6, S6b, M0, E0, ty, tl, te, tc, i64_wrap, u64_wrap, iaV_sl, iaV_arr, faV_pa, nck_pa, heap_new, heap_old, heap_set, ↓reduceIte, Nat.reduceEqDiff, Nat.reduceLT, Nat.reduceAdd, Int.reduceLT, Int.reduceLE, decide_false, decide_true, dec_true, dec_false, true_and, and_true, true_imp_iff, Bool.not_true, Bool.not_false, Option.map_none, Int.reduceToNat, Int.toNat_zero, Int.toNat_one, lkV_false, lkV_true, f1, f3, f4, f5, f6, f33, f34]
      refine Br_if (fun h => ?_) (fun h' => ?_) <;> (try simp (disch := first | omega | assumption | (simp only [O1, World.size_alloc, World.size_setCell, World.size_drew]; first | done | omega)) only [O1, D2, ↓H0, S0, ↓S1, ↓S2, ↓S3, ↓S4, S5, S5b, S5c, ↓S6, S6b, M0, E0, ty, tl, te, tc, i64_wrap, u64_wrap, iaV_sl, iaV_arr, faV_pa, nck_pa, heap_new, heap_old, heap_set, ↓reduceIte, Nat.reduceEqDiff, Nat.reduceLT, Nat.reduceAdd, Int.reduceLT, Int.reduceLE, decide_false, decide_true, dec_true, dec_false, true_and, and_true, true_imp_iff, Bool.not_true, Bool.not_false, Option.map_none, Int.reduceToNat, Int.toNat_zero, Int.toNat_one, lkV_false, lkV_true, f1, f3, f4, f5, f6, f33, f34])
      · have hxa := (Ext.rfl' U).al (.map #[] 0)
        have hMa := hM.ext hxa
        have hmp : MapI (U.alloc (.map #[] 0)) U.heap.size (fun _ => none) := ⟨[], 0, ⟨heap_new _ rfl, by simp, by simp, by simp⟩, fun k => rfl⟩
        have hst := hMa.own.sto (P := Try.prog) (t := 145) (by simp only [ty]) i (by simp; omega) (some U.heap.size) rfl
        have hgl := hM.own.lt
        have hM2 := hMa.push (b := U.heap.size) (f := fun _ => none) (by omega) (by omega) (fun x hx e => by have := hM.lt hx; omega) (by omega) hmp
        rw [hml] at hM2
        have hGlt := lt_heap hGc
        simp (disch := first | omega | assumption | (simp only [O1, World.size_alloc, World.size_setCell, World.size_drew]; first | done | omega)) only [O1, D2, ↓H0, S0, ↓S1, ↓S2, ↓S3, ↓S4, S5, S5b, S5c, ↓S6, S6b, M0, E0, ty, tl, te, tc, i64_wrap, u64_wrap, iaV_sl, iaV_arr, faV_pa, nck_pa, heap_new, heap_old, heap_set, ↓reduceIte, Nat.reduceEqDiff, Nat.reduceLT, Nat.reduceAdd, Int.reduceLT, Int.reduceLE, decide_false, decide_true, dec_true, dec_false, true_and, and_true, true_imp_iff, Bool.not_true, Bool.not_false, Option.map_none, Int.reduceToNat, Int.toNat_zero, Int.toNat_one, lkV_false, lkV_true, f1, f3, f4, f5, f6, f33, f34, hst]
        refine ⟨k - 1, by omega, i + 1, ms ++ [U.heap.size], by omega, by simp [hml], (hYU.tr hxa).st (by omega) _, ?_, ?_, rfl⟩
        · exact hGc
        · have e : List.replicate (i + 1) (fun _ : Int => (none : Option Value)) = List.replicate i (fun _ => none) ++ [fun _ => none] := List.replicate_succ'
          rw [e]; exact hM2
      · have hin2 : i = g.names.length := by omega
        subst hin2
        have hGlt := lt_heap hGc
        have hxU := hxY.tr hYU
        have hbU := hYU.hp hbY
        have hW : RowW Y U bx w.heap.size G G (List.replicate g.names.length []) := ⟨hYU, hbx ▸ hbU, RowsO.new U g.names.length hGc, rfl, by omega, by omega, by omega⟩
        clear hGc
        have hD0 : ∀ i, (h : i < g.prods.length) → g.prods.getD i (0, []) = g.prods[i] := fun i h => by simp [List.getD_eq_getElem?_getD, List.getElem?_eq_getElem h]
        obtain ⟨us, hus⟩ : ∃ us : List Int → Bool, us = fun r => !(r.any fun s => decide (0 ≤ s) && !(gl.getD s.toNat false)) := ⟨_, rfl⟩
        obtain ⟨nlf, hnlf⟩ : ∃ nlf : Int → Bool, nlf = fun x => nl.getD x.toNat false := ⟨_, rfl⟩
        have hgll : gl.length = g.names.length := hGl.1
        have hnll : nl.length = g.names.length := hTl.1
        simp (disch := first | omega | assumption | (simp only [O1, World.size_alloc, World.size_setCell, World.size_drew]; first | done | omega)) only [O1, D2, ↓H0, S0, ↓S1, ↓S2, ↓S3, ↓S4, S5, S5b, S5c, ↓S6, S6b, M0, E0, ty, tl, te, tc, i64_wrap, u64_wrap, iaV_sl, iaV_arr, faV_pa, nck_pa, heap_new, heap_old, heap_set, ↓reduceIte, Nat.reduceEqDiff, Nat.reduceLT, Nat.reduceAdd, Int.reduceLT, Int.reduceLE, decide_false, decide_true, dec_true, dec_false, true_and, and_true, true_imp_iff, Bool.not_true, Bool.not_false, Option.map_none, Int.reduceToNat, Int.toNat_zero, Int.toNat_one, lkV_false, lkV_true, f1, f3, f4, f5, f6, hbU]
        refine ⟨fun k t U => ∃ (i : Nat) (F : List (List Int)) (T : List (Int → Option Value)), k + i = g.prods.length ∧ RowW Y U bx w.heap.size G G F ∧ F.length = g.names.length ∧ (∀ s : Nat, s < g.names.length → F[s]? = some (stUp us nlf g.prods s i)) ∧
          MpS 145 gm g.names.length U gm ms T ∧ (∀ s : Nat, s < g.names.length → T[s]? = some (setF (tmUp us nlf g.prods s i))) ∧
          t 1 = pa (some ⟨w.heap.size, 0, none⟩) 0 ∧ t 3 = .slice NA nl.length nc ∧ t 4 = pa (some ⟨B4, 0, none⟩) 0 ∧ t 5 = .slice (some ⟨G, 0, none⟩) g.names.length g.names.length ∧ t 6 = .slice (some ⟨gm, 0, none⟩) g.names.length g.names.length ∧ t 43 = .slice C g.prods.length c ∧ t 44 = .int .i64 g.prods.length ∧ t 45 = .int .i64 i,
          ⟨g.prods.length, 0, _, _, by omega, hW, by simp, fun s hs => by simp [stUp, List.getElem?_replicate, hs], hM, fun s hs => by simp only [tmUp, List.getElem?_replicate, hs, ↓reduceIte]; congr 1, ?_⟩, ?_⟩
        · simp (disch := first | omega | assumption | (simp only [O1, World.size_alloc, World.size_setCell, World.size_drew]; first | done | omega)) only [O1, D2, ↓H0, S0, ↓S1, ↓S2, ↓S3, ↓S4, S5, S5b, S5c, ↓S6, S6b, M0, E0, ty, tl, te, tc, i64_wrap, u64_wrap, iaV_sl, iaV_arr, faV_pa, nck_pa, heap_new, heap_old, heap_set, ↓reduceIte, Nat.reduceEqDiff, Nat.reduceLT, Nat.reduceAdd, Int.reduceLT, Int.reduceLE, decide_false, decide_true, dec_true, dec_false, true_and, and_true, true_imp_iff, Bool.not_true, Bool.not_false, Option.map_none, Int.reduceToNat, Int.toNat_zero, Int.toNat_one, lkV_false, lkV_true, f1, f3, f4, f5, f6] <;> rfl
        clear hW hM f1 f3 f4 f5 f6 hbU hxU hYU f33 f34
        rintro k t U ⟨i, F, T, hk, hW, hFl, hF, hM, hT, f1, f3, f4, f5, f6, f43, f44, f45⟩
        simp (disch := first | omega | assumption | (simp only [O1, World.size_alloc, World.size_setCell, World.size_drew]; first | done | omega)) only [O1, D2, ↓H0, S0, ↓S1, ↓S2, ↓S3, ↓S4, S5, S5b, S5c, ↓S6, S6b, M0, E0, ty, tl, te, tc, i64_wrap, u64_wrap, iaV_sl, iaV_arr, faV_pa, nck_pa, heap_new, heap_old, heap_set, ↓reduceIte, Nat.reduceEqDiff, Nat.reduceLT, Nat.reduceAdd, Int.reduceLT, Int.reduceLE, decide_false, decide_true, dec_true, dec_false, true_and, and_true, true_imp_iff, Bool.not_true, Bool.not_false, Option.map_none, Int.reduceToNat, Int.toNat_zero, Int.toNat_one, lkV_false, lkV_true, f1, f3, f4, f5, f6, f43, f44, f45]
        refine Br_if (fun h => ?_) (fun h' => ?_) <;> (try simp (disch := first | omega | assumption | (simp only [O1, World.size_alloc, World.size_setCell, World.size_drew]; first | done | omega)) only [O1, D2, ↓H0, S0, ↓S1, ↓S2, ↓S3, ↓S4, S5, S5b, S5c, ↓S6, S6b, M0, E0, ty, tl, te, tc, i64_wrap, u64_wrap, iaV_sl, iaV_arr, faV_pa, nck_pa, heap_new, heap_old, heap_set, ↓reduceIte, Nat.reduceEqDiff, Nat.reduceLT, Nat.reduceAdd, Int.reduceLT, Int.reduceLE, decide_false, decide_true, dec_true, dec_false, true_and, and_true, true_imp_iff, Bool.not_true, Bool.not_false, Option.map_none, Int.reduceToNat, Int.toNat_zero, Int.toNat_one, lkV_false, lkV_true, f1, f3, f4, f5, f6, f43, f44, f45])
        · have hi : i < g.prods.length := by omega
          obtain ⟨hl, r, hr, hR⟩ := hC i hi
          obtain ⟨D, d, rfl, hd, hD⟩ := hR
          have hxw := hxY.tr hW.ext
          have hl' := hxw.rd hl
          have hr' := hxw.rd hr
          have hAs := rd_isSome hl
          have hmem : g.prods[i] ∈ g.prods := List.getElem_mem _
          have hgD := hD0 i hi
          generalize hp : g.prods[i] = p at *
          obtain ⟨⟨hp0, hp1⟩, hps⟩ := hin p hmem
          have hlen := hside p hmem
          have hU1 := (Ext.rfl' U).al (.cells #[.int .i64 p.1, .slice D p.2.length d] 35)
          have hW1 := hW.ext' hU1
          have hM1 := hM.ext hU1
          simp (disch := first | omega | assumption | (simp only [O1, World.size_alloc, World.size_setCell, World.size_drew]; first | done | omega)) only [O1, D2, ↓H0, S0, ↓S1, ↓S2, ↓S3, ↓S4, S5, S5b, S5c, ↓S6, S6b, M0, E0, ty, tl, te, tc, i64_wrap, u64_wrap, iaV_sl, iaV_arr, faV_pa, nck_pa, heap_new, heap_old, heap_set, ↓reduceIte, Nat.reduceEqDiff, Nat.reduceLT, Nat.reduceAdd, Int.reduceLT, Int.reduceLE, decide_false, decide_true, dec_true, dec_false, true_and, and_true, true_imp_iff, Bool.not_true, Bool.not_false, Option.map_none, Int.reduceToNat, Int.toNat_zero, Int.toNat_one, lkV_false, lkV_true, f1, f3, f4, f5, f6, f43, f44, f45, hl', hr', ldA2, st35]
          generalize hq : U.heap.size = q at *
          have hqb : (U.alloc (.cells #[.int .i64 p.1, .slice D p.2.length d] 35)).heap[q]? = some (.cells #[.int .i64 p.1, .slice D p.2.length d] 35 (0, 0)) := heap_new _ hq.symm
          generalize U.alloc (.cells #[.int .i64 p.1, .slice D p.2.length d] 35) = U1 at hW1 hM1 hqb ⊢
          clear hW hM hl' hr' hU1 hq hxw
          have hxw := hxY.tr hW1.ext
          have hbq := hW1.ext.hp hb4Y
          have hG1 := hb4Y
          refine (contains_on _ _ p.2 (fun s => decide (0 ≤ s) && !(gl.getD s.toNat false)) U1 ⟨D, d, rfl, hd, fun i hi => hxw.rd (hD i hi)⟩ ⟨_, _, _, rfl, fun s hs => ?_⟩ (by omega)).then ?_
          · exact first1_ok s B4 _ gl U1 hbq ⟨GA, gc, rfl, hgc, fun i hi => hW1.ext.rd (hGA i hi)⟩ (by rw [hgll]; exact hps s hs)
          rintro _ V1 ⟨rfl, rfl⟩
          have hue : p.2.any (fun s => decide (0 ≤ s) && !(gl.getD s.toNat false)) = !us p.2 := by rw [hus]; simp
          rw [hue]
          cases hu : us p.2 with
          | false =>
            simp (disch := first | omega | assumption | (simp only [O1, World.size_alloc, World.size_setCell, World.size_drew]; first | done | omega)) only [O1, D2, ↓H0, S0, ↓S1, ↓S2, ↓S3, ↓S4, S5, S5b, S5c, ↓S6, S6b, M0, E0, ty, tl, te, tc, i64_wrap, u64_wrap, iaV_sl, iaV_arr, faV_pa, nck_pa, heap_new, heap_old, heap_set, ↓reduceIte, Nat.reduceEqDiff, Nat.reduceLT, Nat.reduceAdd, Int.reduceLT, Int.reduceLE, decide_false, decide_true, dec_true, dec_false, true_and, and_true, true_imp_iff, Bool.not_true, Bool.not_false, Option.map_none, Int.reduceToNat, Int.toNat_zero, Int.toNat_one, lkV_false, lkV_true, f1, f3, f4, f5, f6, f43, f44, f45]
            refine ⟨k - 1, by omega, i + 1, F, T, by omega, hW1, hFl, fun s hs => ?_, hM1, fun s hs => ?_, rfl⟩
            · rw [hF s hs, stUp_no hgD hu]
            · rw [hT s hs, tmUp_no hgD hu]
          | true =>
            simp (disch := first | omega | assumption | (simp only [O1, World.size_alloc, World.size_setCell, World.size_drew]; first | done | omega)) only [O1, D2, ↓H0, S0, ↓S1, ↓S2, ↓S3, ↓S4, S5, S5b, S5c, ↓S6, S6b, M0, E0, ty, tl, te, tc, i64_wrap, u64_wrap, iaV_sl, iaV_arr, faV_pa, nck_pa, heap_new, heap_old, heap_set, ↓reduceIte, Nat.reduceEqDiff, Nat.reduceLT, Nat.reduceAdd, Int.reduceLT, Int.reduceLE, decide_false, decide_true, dec_true, dec_false, true_and, and_true, true_imp_iff, Bool.not_true, Bool.not_false, Option.map_none, Int.reduceToNat, Int.toNat_zero, Int.toNat_one, lkV_false, lkV_true, f1, f3, f4, f5, f6, f43, f44, f45, hqb]
            refine ⟨fun k3 t X => ∃ (j : Nat) (F2 : List (List Int)), k3 + j = p.2.length ∧ RowW Y X bx w.heap.size G G F2 ∧ F2.length = g.names.length ∧ (∀ s : Nat, s < g.names.length → F2[s]? = some (stUp us nlf g.prods s i ++ if p.1 = (s : Int) then p.2.take j else [])) ∧ MpS 145 gm g.names.length X gm ms T ∧
              scanE nlf p.2 = p.2.take j ++ scanE nlf (p.2.drop j) ∧ scanT nlf p.2 = scanT nlf (p.2.drop j) ∧
              X.heap[q]? = some (.cells #[.int .i64 p.1, .slice D p.2.length d] 35 (0, 0)) ∧ t 1 = pa (some ⟨w.heap.size, 0, none⟩) 0 ∧ t 3 = .slice NA nl.length nc ∧ t 4 = pa (some ⟨B4, 0, none⟩) 0 ∧ t 5 = .slice (some ⟨G, 0, none⟩) g.names.length g.names.length ∧ t 6 = .slice (some ⟨gm, 0, none⟩) g.names.length g.names.length ∧ t 43 = .slice C g.prods.length c ∧ t 44 = .int .i64 g.prods.length ∧ t 45 = .int .i64 i ∧
              t 9 = pa (some ⟨q, 0, none⟩) 0 ∧ t 54 = .slice D p.2.length d ∧ t 55 = .int .i64 p.2.length ∧ t 56 = .int .i64 j, ⟨p.2.length, 0, F, by omega, hW1, hFl, fun s hs => by rw [hF s hs]; simp, hM1, by simp, by simp, hqb, ?_⟩, ?_⟩
            · simp (disch := first | omega | assumption | (simp only [O1, World.size_alloc, World.size_setCell, World.size_drew]; first | done | omega)) only [O1, D2, ↓H0, S0, ↓S1, ↓S2, ↓S3, ↓S4, S5, S5b, S5c, ↓S6, S6b, M0, E0, ty, tl, te, tc, i64_wrap, u64_wrap, iaV_sl, iaV_arr, faV_pa, nck_pa, heap_new, heap_old, heap_set, ↓reduceIte, Nat.reduceEqDiff, Nat.reduceLT, Nat.reduceAdd, Int.reduceLT, Int.reduceLE, decide_false, decide_true, dec_true, dec_false, true_and, and_true, true_imp_iff, Bool.not_true, Bool.not_false, Option.map_none, Int.reduceToNat, Int.toNat_zero, Int.toNat_one, lkV_false, lkV_true, f1, f3, f4, f5, f6, f43, f44, f45] <;> rfl
            clear hW1 hFl hF hqb hM1 f1 f3 f4 f5 f6 f43 f44 f45 hxw hbq hG1
            have fin : ∀ (j : Nat) (F2 : List (List Int)), (scanE nlf p.2 = p.2.take j) → (∀ s : Nat, s < g.names.length → F2[s]? = some (stUp us nlf g.prods s i ++ if p.1 = (s : Int) then p.2.take j else [])) → ∀ s : Nat, s < g.names.length → F2[s]? = some (stUp us nlf g.prods s (i + 1)) := fun j F2 h1 h2 s hs => by rw [h2 s hs, stUp_ok hgD hu, h1]
            have finT : scanT nlf p.2 = none → ∀ s : Nat, s < g.names.length → T[s]? = some (setF (tmUp us nlf g.prods s (i + 1))) := fun h1 s hs => by rw [hT s hs, tmUp_ok hgD hu, h1]; simp
            rintro k3 t X ⟨j, F2, hk3, hW, hFl, hF, hM, hsE, hsT, hqb, f1, f3, f4, f5, f6, f43, f44, f45, f9, f54, f55, f56⟩
            simp (disch := first | omega | assumption | (simp only [O1, World.size_alloc, World.size_setCell, World.size_drew]; first | done | omega)) only [O1, D2, ↓H0, S0, ↓S1, ↓S2, ↓S3, ↓S4, S5, S5b, S5c, ↓S6, S6b, M0, E0, ty, tl, te, tc, i64_wrap, u64_wrap, iaV_sl, iaV_arr, faV_pa, nck_pa, heap_new, heap_old, heap_set, ↓reduceIte, Nat.reduceEqDiff, Nat.reduceLT, Nat.reduceAdd, Int.reduceLT, Int.reduceLE, decide_false, decide_true, dec_true, dec_false, true_and, and_true, true_imp_iff, Bool.not_true, Bool.not_false, Option.map_none, Int.reduceToNat, Int.toNat_zero, Int.toNat_one, lkV_false, lkV_true, f1, f3, f4, f5, f6, f43, f44, f45, f9, f54, f55, f56]
            refine Br_if (fun h2 => ?_) (fun h2' => ?_) <;> (try simp (disch := first | omega | assumption | (simp only [O1, World.size_alloc, World.size_setCell, World.size_drew]; first | done | omega)) only [O1, D2, ↓H0, S0, ↓S1, ↓S2, ↓S3, ↓S4, S5, S5b, S5c, ↓S6, S6b, M0, E0, ty, tl, te, tc, i64_wrap, u64_wrap, iaV_sl, iaV_arr, faV_pa, nck_pa, heap_new, heap_old, heap_set, ↓reduceIte, Nat.reduceEqDiff, Nat.reduceLT, Nat.reduceAdd, Int.reduceLT, Int.reduceLE, decide_false, decide_true, dec_true, dec_false, true_and, and_true, true_imp_iff, Bool.not_true, Bool.not_false, Option.map_none, Int.reduceToNat, Int.toNat_zero, Int.toNat_one, lkV_false, lkV_true, f1, f3, f4, f5, f6, f43, f44, f45, f9, f54, f55, f56])
            · have hj : j < p.2.length := by omega
              have hxw := hxY.tr hW.ext
              have hs := hxw.rd (hD j hj)
              have hDs := rd_isSome hs
              have htk : p.2.take (j + 1) = p.2.take j ++ [p.2[j]] := List.take_succ_eq_append_getElem hj
              have hdr : p.2.drop j = p.2[j] :: p.2.drop (j + 1) := List.drop_eq_getElem_cons hj
              have hxm : p.2[j] ∈ p.2 := List.getElem_mem _
              generalize hse : p.2[j] = x at *
              have hxn := hps x hxm
              have hxl := (hS.low p hmem x hxm).2
              rw [hdr] at hsE hsT
              simp (disch := first | omega | assumption | (simp only [O1, World.size_alloc, World.size_setCell, World.size_drew]; first | done | omega)) only [O1, D2, ↓H0, S0, ↓S1, ↓S2, ↓S3, ↓S4, S5, S5b, S5c, ↓S6, S6b, M0, E0, ty, tl, te, tc, i64_wrap, u64_wrap, iaV_sl, iaV_arr, faV_pa, nck_pa, heap_new, heap_old, heap_set, ↓reduceIte, Nat.reduceEqDiff, Nat.reduceLT, Nat.reduceAdd, Int.reduceLT, Int.reduceLE, decide_false, decide_true, dec_true, dec_false, true_and, and_true, true_imp_iff, Bool.not_true, Bool.not_false, Option.map_none, Int.reduceToNat, Int.toNat_zero, Int.toNat_one, lkV_false, lkV_true, f1, f3, f4, f5, f6, f43, f44, f45, f9, f54, f55, f56, hs]
              refine Br_if (fun h3 => ?_) (fun h3' => ?_) <;> (try simp (disch := first | omega | assumption | (simp only [O1, World.size_alloc, World.size_setCell, World.size_drew]; first | done | omega)) only [O1, D2, ↓H0, S0, ↓S1, ↓S2, ↓S3, ↓S4, S5, S5b, S5c, ↓S6, S6b, M0, E0, ty, tl, te, tc, i64_wrap, u64_wrap, iaV_sl, iaV_arr, faV_pa, nck_pa, heap_new, heap_old, heap_set, ↓reduceIte, Nat.reduceEqDiff, Nat.reduceLT, Nat.reduceAdd, Int.reduceLT, Int.reduceLE, decide_false, decide_true, dec_true, dec_false, true_and, and_true, true_imp_iff, Bool.not_true, Bool.not_false, Option.map_none, Int.reduceToNat, Int.toNat_zero, Int.toNat_one, lkV_false, lkV_true, f1, f3, f4, f5, f6, f43, f44, f45, f9, f54, f55, f56])
              · rw [scanE, if_pos h3, List.append_nil] at hsE
                rw [scanT, if_pos h3] at hsT
                have hpm : p.1.toNat < (ms.map some ++ List.replicate (g.names.length - ms.length) none).length := by simp; omega
                have hrm := hM.own.rd p.1.toNat hpm
                have hcm := hM.own.cell p.1.toNat hpm
                have hpl : p.1.toNat < ms.length := by omega
                have hgmb : (ms.map some ++ List.replicate (g.names.length - ms.length) none)[p.1.toNat]'hpm = some ms[p.1.toNat] := by
                  rw [List.getElem_append_left (by simpa using hpl)]; simp
                rw [hgmb] at hrm hcm
                have hmb : ms[p.1.toNat]? = some ms[p.1.toNat] := List.getElem?_eq_getElem hpl
                have hTb := hT p.1.toNat (by omega)
                generalize ms[p.1.toNat] = b at *
                have hmap := hM.maps _ _ _ hmb hTb
                have hwr : IntKind.i64.wrap (-1 - x) = -1 - x := i64_wrap (by omega) (by omega)
                simp (disch := first | omega | assumption | (simp only [O1, World.size_alloc, World.size_setCell, World.size_drew]; first | done | omega)) only [O1, D2, ↓H0, S0, ↓S1, ↓S2, ↓S3, ↓S4, S5, S5b, S5c, ↓S6, S6b, M0, E0, ty, tl, te, tc, i64_wrap, u64_wrap, iaV_sl, iaV_arr, faV_pa, nck_pa, heap_new, heap_old, heap_set, ↓reduceIte, Nat.reduceEqDiff, Nat.reduceLT, Nat.reduceAdd, Int.reduceLT, Int.reduceLE, decide_false, decide_true, dec_true, dec_false, true_and, and_true, true_imp_iff, Bool.not_true, Bool.not_false, Option.map_none, Int.reduceToNat, Int.toNat_zero, Int.toNat_one, lkV_false, lkV_true, f1, f3, f4, f5, f6, f43, f44, f45, f9, f54, f55, f56, hs, hqb, hrm, hcm]
                refine RunU_map mp145 kInt hmap _ _ ?_
                intro X2 hm2 hg2 hs2
                have hM2 := hM.upd hmb hm2 hg2
                have hW2 : RowW Y X2 bx w.heap.size G G F2 := ⟨hW.ext.grown' hg2 fun k hk => by (have := hM.low b (List.mem_of_getElem? hmb); simp only [Option.some.injEq] at hk; omega), (hg2.block _ (lt_heap hW.box) (by simpa using hM.ne hW.box b (List.mem_of_getElem? hmb))).trans hW.box, hW.rows.chg (Chg.grown (M := fun k => k = b) hg2 fun k hk => by simpa using hk.symm) (fun k cs t f hk hq => absurd hk (hM.ne hq b (List.mem_of_getElem? hmb))), rfl, by have := hW.le; omega, hW.gw, hW.bw⟩
                simp (disch := first | omega | assumption | (simp only [O1, World.size_alloc, World.size_setCell, World.size_drew]; first | done | omega)) only [O1, D2, ↓H0, S0, ↓S1, ↓S2, ↓S3, ↓S4, S5, S5b, S5c, ↓S6, S6b, M0, E0, ty, tl, te, tc, i64_wrap, u64_wrap, iaV_sl, iaV_arr, faV_pa, nck_pa, heap_new, heap_old, heap_set, ↓reduceIte, Nat.reduceEqDiff, Nat.reduceLT, Nat.reduceAdd, Int.reduceLT, Int.reduceLE, decide_false, decide_true, dec_true, dec_false, true_and, and_true, true_imp_iff, Bool.not_true, Bool.not_false, Option.map_none, Int.reduceToNat, Int.toNat_zero, Int.toNat_one, lkV_false, lkV_true, f1, f3, f4, f5, f6, f43, f44, f45, f9, f54, f55, f56]
                refine ⟨k - 1, by omega, i + 1, F2, _, by omega, hW2, hFl, fin j F2 hsE hF, hM2, fun s hs => ?_, rfl⟩
                rw [tmUp_ok hgD hu, hsT, List.getElem?_set]
                by_cases e : p.1.toNat = s
                · subst e
                  have e2 : ((p.1.toNat : Nat) : Int) = p.1 := by omega
                  rw [if_pos rfl, if_pos (by have := hM.len; omega), e2, if_pos rfl, Option.toList_some, setF_push]
                · have e2 : ¬ p.1 = (s : Int) := by omega
                  rw [if_neg e, hT s hs, if_neg e2, List.append_nil]
              · have hx0' : 0 ≤ x := by omega
                rw [scanE, if_neg h3'] at hsE
                rw [scanT, if_neg h3'] at hsT
                have hW' := hW.ext' (Ext.rfl' X).dr
                have hM' := hM.ext (Ext.rfl' X).dr
                have hsF : p.1.toNat < F2.length := by omega
                have hFx := hF p.1.toNat (by omega)
                rw [List.getElem?_eq_getElem hsF] at hFx
                simp only [Option.some.injEq] at hFx
                have hlF : F2[p.1.toNat].length < 1000000000000 := by
                  rw [hFx, List.length_append]
                  have h1 := stUp_len (us := us) (nl := nlf) (a := ((p.1.toNat : Nat) : Int)) (m := i) hside
                  have h2 : (if p.1 = ((p.1.toNat : Nat) : Int) then p.2.take j else []).length ≤ 16 := by
                    split
                    · rw [List.length_take]; omega
                    · simp
                  omega
                have hnx : x.toNat < nl.length := by omega
                have hnr := hW.ext.rd (hNA x.toNat hnx)
                have hnlx : nlf x = nl[x.toNat] := by rw [hnlf]; simp [List.getD_eq_getElem?_getD, List.getElem?_eq_getElem hnx]
                have hNs := rd_isSome hnr
                obtain ⟨u, hu1, hu1', hGu, hno, hpush⟩ := hW'.push2 p.1.toNat hsF hlF x
                have hqb' : X.drew.heap[q]? = some (.cells #[.int .i64 p.1, .slice D p.2.length d] 35 (0, 0)) := hqb
                have hqn := hno q _ _ _ (by decide) hqb'
                refine Dr_plan u.ownBlock.toList (upto 12) [0, 1, 2, 3, 4, 5, 6, 7, 8, 9, 10, 11, 12] mixed (by kernel_rfl) ?_
                simp (disch := first | omega | assumption | (simp only [O1, World.size_alloc, World.size_setCell, World.size_drew]; first | done | omega)) only [↓D1, ↓D3, ↓D4, List.not_mem_nil, not_false_eq_true, Bool.false_eq_true, false_imp_iff, upto, O1, D2, ↓H0, S0, ↓S1, ↓S2, ↓S3, ↓S4, S5, S5b, S5c, ↓S6, S6b, M0, E0, ty, tl, te, tc, i64_wrap, u64_wrap, iaV_sl, iaV_arr, faV_pa, nck_pa, heap_new, heap_old, heap_set, ↓reduceIte, Nat.reduceEqDiff, Nat.reduceLT, Nat.reduceAdd, Int.reduceLT, Int.reduceLE, decide_false, decide_true, dec_true, dec_false, true_and, and_true, true_imp_iff, Bool.not_true, Bool.not_false, Option.map_none, Int.reduceToNat, Int.toNat_zero, Int.toNat_one, lkV_false, lkV_true, f1, f3, f4, f5, f6, f43, f44, f45, f9, f54, f55, f56, hqb, hqb', hu1, hu1', hqn, hGu, bsl1 sl23]
                refine hpush _ _ fun v' Y2 hK hsz hxY2 hold hst hWn hkq => ?_
                have hq2 := (hkq q _ (by simp) (by simp) hqb').1
                have hq3 := (hkq q _ (by simp) (by simp) hqb').2
                have hM2 := hM'.kept ((hkq gm _ (fun _ _ e => by cases e) (fun _ _ e => by cases e) hM'.own).2.trans hM'.own.symm) fun b hb => by
                  obtain ⟨es, cl, hq⟩ := hM'.obj b hb
                  exact (hkq b _ (fun _ _ e => by cases e) (fun _ _ e => by cases e) hq).2.trans hq.symm
                have hnr' := hWn.ext.rd (hNA x.toNat hnx)
                simp (disch := first | omega | assumption | (simp only [O1, World.size_alloc, World.size_setCell, World.size_drew]; first | done | omega)) only [↓D1, ↓D3, ↓D4, List.not_mem_nil, not_false_eq_true, Bool.false_eq_true, false_imp_iff, upto, O1, D2, ↓H0, S0, ↓S1, ↓S2, ↓S3, ↓S4, S5, S5b, S5c, ↓S6, S6b, M0, E0, ty, tl, te, tc, i64_wrap, u64_wrap, iaV_sl, iaV_arr, faV_pa, nck_pa, heap_new, heap_old, heap_set, ↓reduceIte, Nat.reduceEqDiff, Nat.reduceLT, Nat.reduceAdd, Int.reduceLT, Int.reduceLE, decide_false, decide_true, dec_true, dec_false, true_and, and_true, true_imp_iff, Bool.not_true, Bool.not_false, Option.map_none, Int.reduceToNat, Int.toNat_zero, Int.toNat_one, lkV_false, lkV_true, f1, f3, f4, f5, f6, f43, f44, f45, f9, f54, f55, f56, hK, hst, hnr']
                have hF2 : ∀ s : Nat, s < g.names.length → (F2.set p.1.toNat (F2[p.1.toNat] ++ [x]))[s]? = some (stUp us nlf g.prods s i ++ if p.1 = (s : Int) then p.2.take (j + 1) else []) := fun s hs => by
                  rw [List.getElem?_set, htk]
                  by_cases e : p.1.toNat = s
                  · subst e
                    have e2 : ((p.1.toNat : Nat) : Int) = p.1 := by omega
                    rw [if_pos rfl, if_pos hsF, hFx, e2]
                    simp
                  · have e2 : ¬ p.1 = (s : Int) := by omega
                    rw [if_neg e, hF s hs]; simp [e2]
                generalize nl[x.toNat] = bb at *
                rw [hnlx] at hsE hsT
                cases bb with
                | false =>
                  simp (disch := first | omega | assumption | (simp only [O1, World.size_alloc, World.size_setCell, World.size_drew]; first | done | omega)) only [↓D1, ↓D3, ↓D4, List.not_mem_nil, not_false_eq_true, Bool.false_eq_true, false_imp_iff, upto, O1, D2, ↓H0, S0, ↓S1, ↓S2, ↓S3, ↓S4, S5, S5b, S5c, ↓S6, S6b, M0, E0, ty, tl, te, tc, i64_wrap, u64_wrap, iaV_sl, iaV_arr, faV_pa, nck_pa, heap_new, heap_old, heap_set, ↓reduceIte, Nat.reduceEqDiff, Nat.reduceLT, Nat.reduceAdd, Int.reduceLT, Int.reduceLE, decide_false, decide_true, dec_true, dec_false, true_and, and_true, true_imp_iff, Bool.not_true, Bool.not_false, Option.map_none, Int.reduceToNat, Int.toNat_zero, Int.toNat_one, lkV_false, lkV_true, f1, f3, f4, f5, f6, f43, f44, f45, f9, f54, f55, f56]
                  rw [if_neg (by simp)] at hsE hsT
                  refine ⟨k - 1, by omega, i + 1, _, T, by omega, hWn, by simpa using hFl, fin (j + 1) _ (by rw [hsE, htk]) hF2, hM2, finT hsT, rfl⟩
                | true =>
                  simp (disch := first | omega | assumption | (simp only [O1, World.size_alloc, World.size_setCell, World.size_drew]; first | done | omega)) only [↓D1, ↓D3, ↓D4, List.not_mem_nil, not_false_eq_true, Bool.false_eq_true, false_imp_iff, upto, O1, D2, ↓H0, S0, ↓S1, ↓S2, ↓S3, ↓S4, S5, S5b, S5c, ↓S6, S6b, M0, E0, ty, tl, te, tc, i64_wrap, u64_wrap, iaV_sl, iaV_arr, faV_pa, nck_pa, heap_new, heap_old, heap_set, ↓reduceIte, Nat.reduceEqDiff, Nat.reduceLT, Nat.reduceAdd, Int.reduceLT, Int.reduceLE, decide_false, decide_true, dec_true, dec_false, true_and, and_true, true_imp_iff, Bool.not_true, Bool.not_false, Option.map_none, Int.reduceToNat, Int.toNat_zero, Int.toNat_one, lkV_false, lkV_true, f1, f3, f4, f5, f6, f43, f44, f45, f9, f54, f55, f56]
                  rw [if_pos rfl] at hsE hsT
                  refine ⟨k3 - 1, by omega, j + 1, _, by omega, hWn, by simpa using hFl, hF2, hM2, by rw [hsE, htk]; simp, hsT, hq3, rfl⟩
            · have hj : j = p.2.length := by omega
              subst hj
              rw [List.drop_length, scanE, List.append_nil] at hsE
              rw [List.drop_length, scanT] at hsT
              refine ⟨k - 1, by omega, i + 1, _, T, by omega, hW, hFl, fin _ _ hsE hF, hM, finT hsT, rfl⟩
        · have hil : i = g.prods.length := by omega
          subst hil
          have husI : ∀ p ∈ g.prods, us p.2 = true ↔ Usable g.prods p.2 := by
            intro p hp
            rw [hus]
            simp only [Bool.not_eq_true', List.any_eq_false, Bool.and_eq_true, decide_eq_true_eq, Bool.not_eq_eq_eq_not, Bool.not_true, not_and, Bool.not_eq_false]
            refine ⟨fun h s hs h0 => ?_, fun h s hs h0 => ?_⟩
            · have h1 := h s hs h0
              have h2 := (hin p hp).2 s hs
              have h3 := (hGl.2 s.toNat (by omega)).1 (by rw [List.getD_eq_getElem?_getD] at h1; cases hq : gl[s.toNat]? with
                | none => rw [hq] at h1; simp at h1
                | some y => rw [hq] at h1; simpa using h1)
              rwa [Int.toNat_of_nonneg h0] at h3
            · have h2 := (hin p hp).2 s hs
              have h3 := (hGl.2 s.toNat (by omega)).2 (by rw [Int.toNat_of_nonneg h0]; exact h s hs h0)
              rw [List.getD_eq_getElem?_getD, h3]; rfl
          have hnlI : ∀ p ∈ g.prods, ∀ x ∈ p.2, 0 ≤ x → (nlf x = true ↔ Gen false g.prods x) := by
            intro p hp x hx h0
            have h2 := (hin p hp).2 x hx
            have h3 := hTl.2 x.toNat (by omega)
            rw [Int.toNat_of_nonneg h0] at h3
            rw [← h3, hnlf]
            simp only [List.getD_eq_getElem?_getD]
            cases nl[x.toNat]? <;> simp
          clear hus hnlf
          have hbU := hbx ▸ hW.box
          have hrl : ∀ r ∈ F, r.length ≤ 4096 ∧ ∀ b ∈ r, 0 ≤ b ∧ b < F.length := by
            intro r hr
            obtain ⟨s, hs, rfl⟩ := List.mem_iff_getElem.1 hr
            have h1 := hF s (by omega)
            rw [List.getElem?_eq_getElem hs] at h1
            simp only [Option.some.injEq] at h1
            refine ⟨?_, fun b hb => ?_⟩
            · rw [h1]; have := stUp_len (us := us) (nl := nlf) (a := (s : Int)) (m := g.prods.length) hside; omega
            · rw [h1] at hb
              obtain ⟨p, hp, _, _, hm⟩ := (stE_iff husI).1 hb
              obtain ⟨i, h4, h5, _⟩ := scanE_iff.1 hm
              rw [hFl]
              exact ⟨h5, (hin p hp).2 _ (List.mem_of_getElem? h4)⟩
          have hxU := hxY.tr hW.ext
          have hIR := hW.rows.rows
          clear hW
          simp (disch := first | omega | assumption | (simp only [O1, World.size_alloc, World.size_setCell, World.size_drew]; first | done | omega)) only [O1, D2, ↓H0, S0, ↓S1, ↓S2, ↓S3, ↓S4, S5, S5b, S5c, ↓S6, S6b, M0, E0, ty, tl, te, tc, i64_wrap, u64_wrap, iaV_sl, iaV_arr, faV_pa, nck_pa, heap_new, heap_old, heap_set, ↓reduceIte, Nat.reduceEqDiff, Nat.reduceLT, Nat.reduceAdd, Int.reduceLT, Int.reduceLE, decide_false, decide_true, dec_true, dec_false, true_and, and_true, true_imp_iff, Bool.not_true, Bool.not_false, Option.map_none, Int.reduceToNat, Int.toNat_zero, Int.toNat_one, lkV_false, lkV_true, f1, f3, f4, f5, f6, hbU]
          refine RunM_one sl44 rfl (by omega) (by omega) ?_
          have hxo := (Ext.rfl' U).al (.cells (List.replicate g.names.length (.slice none 0 0)).toArray 23)
          have hSo : RowsS (Value.int .i64) U.heap.size 3 23 g.names.length (U.alloc (.cells (List.replicate g.names.length (.slice none 0 0)).toArray 23)) U.heap.size [] := RowsS.new (heap_new _ rfl)
          generalize U.alloc (.cells (List.replicate g.names.length (.slice none 0 0)).toArray 23) = Z0 at hxo hSo ⊢
          obtain ⟨Gq, hGq⟩ : ∃ Gq, Gq = U.heap.size := ⟨_, rfl⟩
          rw [← hGq] at hSo ⊢
          simp (disch := first | omega | assumption | (simp only [O1, World.size_alloc, World.size_setCell, World.size_drew]; first | done | omega)) only [O1, D2, ↓H0, S0, ↓S1, ↓S2, ↓S3, ↓S4, S5, S5b, S5c, ↓S6, S6b, M0, E0, ty, tl, te, tc, i64_wrap, u64_wrap, iaV_sl, iaV_arr, faV_pa, nck_pa, heap_new, heap_old, heap_set, ↓reduceIte, Nat.reduceEqDiff, Nat.reduceLT, Nat.reduceAdd, Int.reduceLT, Int.reduceLE, decide_false, decide_true, dec_true, dec_false, true_and, and_true, true_imp_iff, Bool.not_true, Bool.not_false, Option.map_none, Int.reduceToNat, Int.toNat_zero, Int.toNat_one, lkV_false, lkV_true, f1, f3, f4, f5, f6, sl]
          refine ⟨fun k t X => ∃ (i : Nat) (L : List (List Int)), k + i = g.names.length ∧ Ext U X ∧ RowsS (Value.int .i64) Gq 3 23 g.names.length X Gq L ∧ L.length = i ∧ (∀ (a : Nat) r, L[a]? = some r → r.Pairwise (· < ·) ∧ ∀ x, x ∈ r ↔ ∃ t : Nat, x = t ∧ Fst g.prods a t) ∧
            t 5 = .slice (some ⟨G, 0, none⟩) g.names.length g.names.length ∧ t 6 = .slice (some ⟨gm, 0, none⟩) g.names.length g.names.length ∧ t 12 = .slice (some ⟨Gq, 0, none⟩) g.names.length g.names.length ∧ t 93 = .int .i64 g.names.length ∧ t 94 = .int .i64 i,
            ⟨g.names.length, 0, [], by omega, hxo, hSo, rfl, fun a r h => by simp at h, ?_⟩, ?_⟩
          · simp (disch := first | omega | assumption | (simp only [O1, World.size_alloc, World.size_setCell, World.size_drew]; first | done | omega)) only [O1, D2, ↓H0, S0, ↓S1, ↓S2, ↓S3, ↓S4, S5, S5b, S5c, ↓S6, S6b, M0, E0, ty, tl, te, tc, i64_wrap, u64_wrap, iaV_sl, iaV_arr, faV_pa, nck_pa, heap_new, heap_old, heap_set, ↓reduceIte, Nat.reduceEqDiff, Nat.reduceLT, Nat.reduceAdd, Int.reduceLT, Int.reduceLE, decide_false, decide_true, dec_true, dec_false, true_and, and_true, true_imp_iff, Bool.not_true, Bool.not_false, Option.map_none, Int.reduceToNat, Int.toNat_zero, Int.toNat_one, lkV_false, lkV_true, f1, f3, f4, f5, f6] <;> rfl
          clear hxo hSo hk f1 f3 f4 f43 f44 f45
          rintro k t X ⟨i, L, hk, hxX, hSo, hLl, hL, f5, f6, f12, f93, f94⟩
          simp (disch := first | omega | assumption | (simp only [O1, World.size_alloc, World.size_setCell, World.size_drew]; first | done | omega)) only [O1, D2, ↓H0, S0, ↓S1, ↓S2, ↓S3, ↓S4, S5, S5b, S5c, ↓S6, S6b, M0, E0, ty, tl, te, tc, i64_wrap, u64_wrap, iaV_sl, iaV_arr, faV_pa, nck_pa, heap_new, heap_old, heap_set, ↓reduceIte, Nat.reduceEqDiff, Nat.reduceLT, Nat.reduceAdd, Int.reduceLT, Int.reduceLE, decide_false, decide_true, dec_true, dec_false, true_and, and_true, true_imp_iff, Bool.not_true, Bool.not_false, Option.map_none, Int.reduceToNat, Int.toNat_zero, Int.toNat_one, lkV_false, lkV_true, f5, f6, f12, f93, f94]
          refine Br_if (fun q => ?_) (fun q' => ?_) <;> (try simp (disch := first | omega | assumption | (simp only [O1, World.size_alloc, World.size_setCell, World.size_drew]; first | done | omega)) only [O1, D2, ↓H0, S0, ↓S1, ↓S2, ↓S3, ↓S4, S5, S5b, S5c, ↓S6, S6b, M0, E0, ty, tl, te, tc, i64_wrap, u64_wrap, iaV_sl, iaV_arr, faV_pa, nck_pa, heap_new, heap_old, heap_set, ↓reduceIte, Nat.reduceEqDiff, Nat.reduceLT, Nat.reduceAdd, Int.reduceLT, Int.reduceLE, decide_false, decide_true, dec_true, dec_false, true_and, and_true, true_imp_iff, Bool.not_true, Bool.not_false, Option.map_none, Int.reduceToNat, Int.toNat_zero, Int.toNat_one, lkV_false, lkV_true, f5, f6, f12, f93, f94])
          · have hi : i < g.names.length := by omega
            have hx1 := (Ext.rfl' X).al (.map #[] 0)
            have hmp : MapI (X.alloc (.map #[] 0)) X.heap.size (fun _ => none) := ⟨[], 0, ⟨heap_new _ rfl, by simp, by simp, by simp⟩, fun k => rfl⟩
            have hs1 : (X.alloc (.map #[] 0)).heap.size = X.heap.size + 1 := by simp
            generalize X.alloc (.map #[] 0) = X1 at hx1 hmp hs1 ⊢
            obtain ⟨dm, hdm⟩ : ∃ dm, dm = X.heap.size := ⟨_, rfl⟩
            rw [← hdm] at hmp ⊢
            simp (disch := first | omega | assumption | (simp only [O1, World.size_alloc, World.size_setCell, World.size_drew]; first | done | omega)) only [O1, D2, ↓H0, S0, ↓S1, ↓S2, ↓S3, ↓S4, S5, S5b, S5c, ↓S6, S6b, M0, E0, ty, tl, te, tc, i64_wrap, u64_wrap, iaV_sl, iaV_arr, faV_pa, nck_pa, heap_new, heap_old, heap_set, ↓reduceIte, Nat.reduceEqDiff, Nat.reduceLT, Nat.reduceAdd, Int.reduceLT, Int.reduceLE, decide_false, decide_true, dec_true, dec_false, true_and, and_true, true_imp_iff, Bool.not_true, Bool.not_false, Option.map_none, Int.reduceToNat, Int.toNat_zero, Int.toNat_one, lkV_false, lkV_true, f5, f6, f12, f93, f94, bsl1 sl23]
            have hxa := (Ext.rfl' X1).al (.cells #[IV i] 3)
            have hIA := hIR.ext ((hxX.tr hx1).tr hxa)
            rw [hFl] at hIA
            refine (spread_ok _ _ F [(i : Int)] 4096 (X1.alloc (.cells #[IV i] 3)) hIA ⟨some ⟨X1.heap.size, 0, none⟩, 1, rfl, Nat.le_refl _, fun i hi => ?_⟩ (by omega) (by omega) (fun r hr => (hrl r hr).1) (by simp) (fun r hr b hb => (hrl r hr).2 b hb) (fun b hb => by simp at hb; subst hb; omega)).then ?_
            · have hi0 : i = 0 := by simpa using hi
              subst hi0
              rw [rd_own, heap_new _ rfl]; rfl
            rintro _ X2 ⟨⟨G2, l2, rfl, hO2, hT2⟩, hx2⟩
            have hx12 := hxa.tr hx2
            clear hxa hx2
            rw [hFl] at hT2
            have hmp2 := hmp.ext hx12
            have hl2 := hT2.1
            simp (disch := first | omega | assumption | (simp only [O1, World.size_alloc, World.size_setCell, World.size_drew]; first | done | omega)) only [O1, D2, ↓H0, S0, ↓S1, ↓S2, ↓S3, ↓S4, S5, S5b, S5c, ↓S6, S6b, M0, E0, ty, tl, te, tc, i64_wrap, u64_wrap, iaV_sl, iaV_arr, faV_pa, nck_pa, heap_new, heap_old, heap_set, ↓reduceIte, Nat.reduceEqDiff, Nat.reduceLT, Nat.reduceAdd, Int.reduceLT, Int.reduceLE, decide_false, decide_true, dec_true, dec_false, true_and, and_true, true_imp_iff, Bool.not_true, Bool.not_false, Option.map_none, Int.reduceToNat, Int.toNat_zero, Int.toNat_one, lkV_false, lkV_true, f5, f6, f12, f93, f94]
            rw [hFl]
            have hset0 : ((fun _ => none) : Int → Option Value) = setF (accL (fun s => tmUp us nlf g.prods s g.prods.length) l2 0) := by funext k; simp [setF, accL]
            have hmp2' := hmp2
            rw [hset0] at hmp2
            have hG2 : G2 ≠ dm := fun e => by
              obtain ⟨l, c, ⟨h1, _⟩, _⟩ := hmp2
              have h2 : X2.heap[G2]? = _ := hO2
              rw [← e, h2] at h1; cases h1
            have hMX : MpS 145 gm g.names.length X2 gm ms T := hM.ext (hxX.tr (hx1.tr hx12))
            have hdU : U.heap.size ≤ dm := by have := hxX.size; omega
            refine ⟨fun k3 t X' => ∃ (j : Nat), k3 + j = g.names.length ∧ X2.grownBy X' (some dm) ∧ MapI X' dm (setF (accL (fun s => tmUp us nlf g.prods s g.prods.length) l2 j)) ∧
              t 5 = .slice (some ⟨G, 0, none⟩) g.names.length g.names.length ∧ t 6 = .slice (some ⟨gm, 0, none⟩) g.names.length g.names.length ∧ t 12 = .slice (some ⟨Gq, 0, none⟩) g.names.length g.names.length ∧ t 93 = .int .i64 g.names.length ∧ t 94 = .int .i64 i ∧ t 13 = .int .i64 i ∧ t 14 = .map (some dm) ∧ t 101 = .slice (some ⟨G2, 0, none⟩) g.names.length g.names.length ∧ t 102 = .int .i64 g.names.length ∧ t 103 = .int .i64 j,
              ⟨g.names.length, 0, by omega, grown_none (Ext.rfl' X2) _, hmp2, ?_⟩, ?_⟩
            · simp (disch := first | omega | assumption | (simp only [O1, World.size_alloc, World.size_setCell, World.size_drew]; first | done | omega)) only [O1, D2, ↓H0, S0, ↓S1, ↓S2, ↓S3, ↓S4, S5, S5b, S5c, ↓S6, S6b, M0, E0, ty, tl, te, tc, i64_wrap, u64_wrap, iaV_sl, iaV_arr, faV_pa, nck_pa, heap_new, heap_old, heap_set, ↓reduceIte, Nat.reduceEqDiff, Nat.reduceLT, Nat.reduceAdd, Int.reduceLT, Int.reduceLE, decide_false, decide_true, dec_true, dec_false, true_and, and_true, true_imp_iff, Bool.not_true, Bool.not_false, Option.map_none, Int.reduceToNat, Int.toNat_zero, Int.toNat_one, lkV_false, lkV_true, f5, f6, f12, f93, f94] <;> rfl
            clear f5 f6 f12 f93 f94 hmp2
            rintro k3 t X' ⟨j, hk3, hg3, hmp3, f5, f6, f12, f93, f94, f13, f14, f101, f102, f103⟩
            have hM3 : MpS 145 gm g.names.length X' gm ms T := hMX.kept (hg3.block gm hMX.own.lt (by have := hM.own.lt; simp; omega)) fun b hb => hg3.block b (hMX.lt hb) (by have := hM.lt hb; simp; omega)
            have hO3 : Go.V.Own Value.bool 4 X' G2 l2 := hO2.hp (hg3.block G2 hO2.lt (by simpa using hG2))
            simp (disch := first | omega | assumption | (simp only [O1, World.size_alloc, World.size_setCell, World.size_drew]; first | done | omega)) only [O1, D2, ↓H0, S0, ↓S1, ↓S2, ↓S3, ↓S4, S5, S5b, S5c, ↓S6, S6b, M0, E0, ty, tl, te, tc, i64_wrap, u64_wrap, iaV_sl, iaV_arr, faV_pa, nck_pa, heap_new, heap_old, heap_set, ↓reduceIte, Nat.reduceEqDiff, Nat.reduceLT, Nat.reduceAdd, Int.reduceLT, Int.reduceLE, decide_false, decide_true, dec_true, dec_false, true_and, and_true, true_imp_iff, Bool.not_true, Bool.not_false, Option.map_none, Int.reduceToNat, Int.toNat_zero, Int.toNat_one, lkV_false, lkV_true, f5, f6, f12, f93, f94, f13, f14, f101, f102, f103]
            refine Br_if (fun q2 => ?_) (fun q2' => ?_) <;> (try simp (disch := first | omega | assumption | (simp only [O1, World.size_alloc, World.size_setCell, World.size_drew]; first | done | omega)) only [O1, D2, ↓H0, S0, ↓S1, ↓S2, ↓S3, ↓S4, S5, S5b, S5c, ↓S6, S6b, M0, E0, ty, tl, te, tc, i64_wrap, u64_wrap, iaV_sl, iaV_arr, faV_pa, nck_pa, heap_new, heap_old, heap_set, ↓reduceIte, Nat.reduceEqDiff, Nat.reduceLT, Nat.reduceAdd, Int.reduceLT, Int.reduceLE, decide_false, decide_true, dec_true, dec_false, true_and, and_true, true_imp_iff, Bool.not_true, Bool.not_false, Option.map_none, Int.reduceToNat, Int.toNat_zero, Int.toNat_one, lkV_false, lkV_true, f5, f6, f12, f93, f94, f13, f14, f101, f102, f103])
            · have hj : j < g.names.length := by omega
              have hjl : j < l2.length := by omega
              have hrb := hO3.rd j hjl
              have hcb := hO3.cell j hjl
              have hgd : l2.getD j false = l2[j] := by simp [List.getD_eq_getElem?_getD, List.getElem?_eq_getElem hjl]
              generalize l2[j] = bb at hrb hcb hgd
              simp (disch := first | omega | assumption | (simp only [O1, World.size_alloc, World.size_setCell, World.size_drew]; first | done | omega)) only [O1, D2, ↓H0, S0, ↓S1, ↓S2, ↓S3, ↓S4, S5, S5b, S5c, ↓S6, S6b, M0, E0, ty, tl, te, tc, i64_wrap, u64_wrap, iaV_sl, iaV_arr, faV_pa, nck_pa, heap_new, heap_old, heap_set, ↓reduceIte, Nat.reduceEqDiff, Nat.reduceLT, Nat.reduceAdd, Int.reduceLT, Int.reduceLE, decide_false, decide_true, dec_true, dec_false, true_and, and_true, true_imp_iff, Bool.not_true, Bool.not_false, Option.map_none, Int.reduceToNat, Int.toNat_zero, Int.toNat_one, lkV_false, lkV_true, f5, f6, f12, f93, f94, f13, f14, f101, f102, f103, hrb, hcb]
              cases bb with
              | false =>
                simp (disch := first | omega | assumption | (simp only [O1, World.size_alloc, World.size_setCell, World.size_drew]; first | done | omega)) only [O1, D2, ↓H0, S0, ↓S1, ↓S2, ↓S3, ↓S4, S5, S5b, S5c, ↓S6, S6b, M0, E0, ty, tl, te, tc, i64_wrap, u64_wrap, iaV_sl, iaV_arr, faV_pa, nck_pa, heap_new, heap_old, heap_set, ↓reduceIte, Nat.reduceEqDiff, Nat.reduceLT, Nat.reduceAdd, Int.reduceLT, Int.reduceLE, decide_false, decide_true, dec_true, dec_false, true_and, and_true, true_imp_iff, Bool.not_true, Bool.not_false, Option.map_none, Int.reduceToNat, Int.toNat_zero, Int.toNat_one, lkV_false, lkV_true, f5, f6, f12, f93, f94, f13, f14, f101, f102, f103, hrb, hcb]
                refine ⟨k3 - 1, by omega, j + 1, by omega, hg3, ?_, rfl⟩
                rw [accL, hgd]; simpa using hmp3
              | true =>
                have hpm : j < (ms.map some ++ List.replicate (g.names.length - ms.length) none).length := by simp; omega
                have hrm := hM3.own.rd j hpm
                have hcm := hM3.own.cell j hpm
                have hpl : j < ms.length := by omega
                have hgmb : (ms.map some ++ List.replicate (g.names.length - ms.length) none)[j]'hpm = some ms[j] := by
                  rw [List.getElem_append_left (by simpa using hpl)]; simp
                rw [hgmb] at hrm hcm
                have hmb : ms[j]? = some ms[j] := List.getElem?_eq_getElem hpl
                have hTb := hT j hj
                generalize ms[j] = b at *
                have hmap := hM3.maps _ _ _ hmb hTb
                have hbU2 := hM.lt (List.mem_of_getElem? hmb)
                simp (disch := first | omega | assumption | (simp only [O1, World.size_alloc, World.size_setCell, World.size_drew]; first | done | omega)) only [O1, D2, ↓H0, S0, ↓S1, ↓S2, ↓S3, ↓S4, S5, S5b, S5c, ↓S6, S6b, M0, E0, ty, tl, te, tc, i64_wrap, u64_wrap, iaV_sl, iaV_arr, faV_pa, nck_pa, heap_new, heap_old, heap_set, ↓reduceIte, Nat.reduceEqDiff, Nat.reduceLT, Nat.reduceAdd, Int.reduceLT, Int.reduceLE, decide_false, decide_true, dec_true, dec_false, true_and, and_true, true_imp_iff, Bool.not_true, Bool.not_false, Option.map_none, Int.reduceToNat, Int.toNat_zero, Int.toNat_one, lkV_false, lkV_true, f5, f6, f12, f93, f94, f13, f14, f101, f102, f103, hrb, hcb, hrm, hcm]
                refine (copym_ok dm b _ _ X' hmp3 hmap (by omega)).then ?_
                rintro _ X4 ⟨hm4, hg4⟩
                have hm5 : MapI X4 dm (setF (accL (fun s => tmUp us nlf g.prods s g.prods.length) l2 j ++ tmUp us nlf g.prods j g.prods.length)) := by rw [← setF_app]; exact hm4
                simp (disch := first | omega | assumption | (simp only [O1, World.size_alloc, World.size_setCell, World.size_drew]; first | done | omega)) only [O1, D2, ↓H0, S0, ↓S1, ↓S2, ↓S3, ↓S4, S5, S5b, S5c, ↓S6, S6b, M0, E0, ty, tl, te, tc, i64_wrap, u64_wrap, iaV_sl, iaV_arr, faV_pa, nck_pa, heap_new, heap_old, heap_set, ↓reduceIte, Nat.reduceEqDiff, Nat.reduceLT, Nat.reduceAdd, Int.reduceLT, Int.reduceLE, decide_false, decide_true, dec_true, dec_false, true_and, and_true, true_imp_iff, Bool.not_true, Bool.not_false, Option.map_none, Int.reduceToNat, Int.toNat_zero, Int.toNat_one, lkV_false, lkV_true, f5, f6, f12, f93, f94, f13, f14, f101, f102, f103]
                refine ⟨k3 - 1, by omega, j + 1, by omega, grown_tr hg3 hg4, ?_, rfl⟩
                rw [accL, hgd]; simpa using hm5
            · have hj : j = g.names.length := by omega
              subst hj
              have hxX3 : Ext U X' := ((hxX.tr (hx1.tr hx12)).grown' hg3 fun k hk => by simp only [Option.some.injEq] at hk; omega)
              have hSo3 := (hSo.ext (hx1.tr hx12)).chg (Chg.of_grown hg3) (fun k cs t f hk hq => by
                subst hk
                obtain ⟨l, c, ⟨h1, _⟩, _⟩ := hmp2'
                rw [hq] at h1; cases h1)
              have hacc := fst_row hin husI hnlI hFl hF hi hT2
              generalize accL (fun s => tmUp us nlf g.prods s g.prods.length) l2 g.names.length = acc at hacc hmp3
              refine (keys_ok dm X').then ?_
              rintro _ X4 ⟨rfl, rfl⟩
              have hx4 := (Ext.rfl' X').al (.cells #[.map (some dm)] 145)
              have hB4n := heap_new (w := X') (.cells #[.map (some dm)] 145) rfl
              generalize X'.alloc (.cells #[.map (some dm)] 145) = X5 at hx4 hB4n ⊢
              simp (disch := first | omega | assumption | (simp only [O1, World.size_alloc, World.size_setCell, World.size_drew]; first | done | omega)) only [O1, D2, ↓H0, S0, ↓S1, ↓S2, ↓S3, ↓S4, S5, S5b, S5c, ↓S6, S6b, M0, E0, ty, tl, te, tc, i64_wrap, u64_wrap, iaV_sl, iaV_arr, faV_pa, nck_pa, heap_new, heap_old, heap_set, ↓reduceIte, Nat.reduceEqDiff, Nat.reduceLT, Nat.reduceAdd, Int.reduceLT, Int.reduceLE, decide_false, decide_true, dec_true, dec_false, true_and, and_true, true_imp_iff, Bool.not_true, Bool.not_false, Option.map_none, Int.reduceToNat, Int.toNat_zero, Int.toNat_one, lkV_false, lkV_true, f5, f6, f12, f93, f94, f13, f14, f101, f102, f103]
              refine (sorted_ok X'.heap.size dm _ 256 X5 hB4n (hmp3.ext hx4) (fun xs hnd hk => nodup_len 256 xs hnd fun x hx => ?_) (by omega)).then ?_
              · obtain ⟨v, hv⟩ := hk x hx
                have hxa : x ∈ acc := by
                  unfold setF at hv
                  split at hv
                  · assumption
                  · cases hv
                obtain ⟨t, rfl, hf⟩ := (hacc x).1 hxa
                have := fst_lt (m := g.terms.length) (fun p hp s hs => (hS.low p hp s hs).1) hf
                have h256 := hS.2.1.1
                omega
              rintro sv X6 ⟨⟨xs, hpw, hmx, hRx⟩, hx6⟩
              have hSo6 := hSo3.ext (hx4.tr hx6)
              have hGlt6 := hxX3.size
              have hRx' := hRx.mono (base' := Gq) (by have := hx4.size; omega)
              obtain ⟨hst, hSo7⟩ := hSo6.push (P := Try.prog) (t := 23) (by simp only [ty]) (by decide) (by omega) hRx'
              rw [hLl] at hst hSo7
              simp (disch := first | omega | assumption | (simp only [O1, World.size_alloc, World.size_setCell, World.size_drew]; first | done | omega)) only [O1, D2, ↓H0, S0, ↓S1, ↓S2, ↓S3, ↓S4, S5, S5b, S5c, ↓S6, S6b, M0, E0, ty, tl, te, tc, i64_wrap, u64_wrap, iaV_sl, iaV_arr, faV_pa, nck_pa, heap_new, heap_old, heap_set, ↓reduceIte, Nat.reduceEqDiff, Nat.reduceLT, Nat.reduceAdd, Int.reduceLT, Int.reduceLE, decide_false, decide_true, dec_true, dec_false, true_and, and_true, true_imp_iff, Bool.not_true, Bool.not_false, Option.map_none, Int.reduceToNat, Int.toNat_zero, Int.toNat_one, lkV_false, lkV_true, f5, f6, f12, f93, f94, f13, f14, f101, f102, f103, hst]
              refine ⟨k - 1, by omega, i + 1, _, by omega, (hxX3.tr (hx4.tr hx6)).st (by omega) _, hSo7, by simp [hLl], fun a r hr => ?_, rfl⟩
              by_cases e : a < L.length
              · rw [List.getElem?_append_left e] at hr; exact hL a r hr
              · rw [List.getElem?_append_right (by omega)] at hr
                have e2 : a = i := by have := (List.getElem?_eq_some_iff.1 hr).1; simp at this; omega
                subst e2
                simp [hLl] at hr
                subst hr
                refine ⟨hpw, fun x => ?_⟩
                rw [hmx, ← hacc]
                unfold setF
                constructor
                · rintro ⟨v, hv⟩
                  split at hv
                  · assumption
                  · cases hv
                · intro h; exact ⟨_, if_pos h⟩
          · have hin2 : i = g.names.length := by omega
            subst hin2
            exact ⟨.inr ⟨hS, L, hSo.rows hLl, hLl, hL⟩, hxU.tr hxX⟩
end Go.Proofs.Ytgioklmpnbnplaa
