/- The walks of slices.Clone at int and of facts.spread. Conditions: none. -/
import Derived.Test.YtgioklmpnbnplaaTy
import Derived.Test.YtgioklmpnbnplaaFq
import Derived.Test.YtgioklmpnbnplaaVj
set_option linter.unusedSimpArgs false
set_option linter.unusedVariables false
set_option maxRecDepth 100000
namespace Go.Proofs.Ytgioklmpnbnplaa
open Go.V

theorem Sq.none_nil {α : Type} {enc : α → Value} {w : World} {n c : Nat} {l : List α} (h : Sq enc w (.slice none n c) l) : l = [] := by
  obtain ⟨A, c', hv, hc, hA⟩ := h
  cases hv
  cases l with
  | nil => rfl
  | cons x l => have := hA 0 (by simp); simp [rd] at this
theorem clone_ok (v : Value) (l : List Int) (w : World) (h : Ints w v l) (hn : l.length ≤ 1000000000) :
    Ok Try.prog 94 #[v] w fun u w' => Row (.int .i64) w.heap.size 3 w' u l ∧ Ext w w' := by
  have h0 := h
  obtain ⟨A, c, rfl, hc, hA⟩ := h
  (refine Ok.enter Try.func94 rfl (by kernel_rfl) (Nat.le_of_ble_eq_true rfl) ?_; simp only [Try.f94, S7])
  simp (disch := first | omega | assumption | (simp only [O1, World.size_alloc, World.size_setCell, World.size_drew]; first | done | omega)) only [O1, D2, ↓H0, S0, ↓S1, ↓S2, ↓S3, ↓S4, S5, S5b, S5c, ↓S6, S6b, M0, E0, ty, tl, te, tc, i64_wrap, u64_wrap, iaV_sl, iaV_arr, faV_pa, nck_pa, heap_new, heap_old, heap_set, ↓reduceIte, Nat.reduceEqDiff, Nat.reduceLT, Nat.reduceAdd, Int.reduceLT, Int.reduceLE, decide_false, decide_true, dec_true, dec_false, true_and, and_true, true_imp_iff, Bool.not_true, Bool.not_false, Option.map_none, Int.reduceToNat, Int.toNat_zero, Int.toNat_one, lkV_false, lkV_true]
  cases A with
  | none =>
    have := Sq.none_nil h0
    subst this
    simp (disch := first | omega | assumption | (simp only [O1, World.size_alloc, World.size_setCell, World.size_drew]; first | done | omega)) only [O1, D2, ↓H0, S0, ↓S1, ↓S2, ↓S3, ↓S4, S5, S5b, S5c, ↓S6, S6b, M0, E0, ty, tl, te, tc, i64_wrap, u64_wrap, iaV_sl, iaV_arr, faV_pa, nck_pa, heap_new, heap_old, heap_set, ↓reduceIte, Nat.reduceEqDiff, Nat.reduceLT, Nat.reduceAdd, Int.reduceLT, Int.reduceLE, decide_false, decide_true, dec_true, dec_false, true_and, and_true, true_imp_iff, Bool.not_true, Bool.not_false, Option.map_none, Int.reduceToNat, Int.toNat_zero, Int.toNat_one, lkV_false, lkV_true, Option.isNone]
    exact ⟨Row.nil w, Ext.rfl' w⟩
  | some a =>
    simp (disch := first | omega | assumption | (simp only [O1, World.size_alloc, World.size_setCell, World.size_drew]; first | done | omega)) only [O1, D2, ↓H0, S0, ↓S1, ↓S2, ↓S3, ↓S4, S5, S5b, S5c, ↓S6, S6b, M0, E0, ty, tl, te, tc, i64_wrap, u64_wrap, iaV_sl, iaV_arr, faV_pa, nck_pa, heap_new, heap_old, heap_set, ↓reduceIte, Nat.reduceEqDiff, Nat.reduceLT, Nat.reduceAdd, Int.reduceLT, Int.reduceLE, decide_false, decide_true, dec_true, dec_false, true_and, and_true, true_imp_iff, Bool.not_true, Bool.not_false, Option.map_none, Int.reduceToNat, Int.toNat_zero, Int.toNat_one, lkV_false, lkV_true, Option.isNone, bsl0 sl23]
    have hx := (Ext.rfl' w).al (.cells #[] 3)
    have hR : Row (.int .i64) w.heap.size 3 (w.alloc (.cells #[] 3)) (.slice (some ⟨w.heap.size, 0, none⟩) 0 0) ([] : List Int) := World.ownsRow_lit (e := 3) (size := 1) w #[] 0 (base := w.heap.size) (Nat.le_refl _) (by decide) rfl
    refine RunA_sq sl23 hR (fun i hi => hx.rd (hA i hi)) (fun _ => rfl) (by simp; omega) (by omega) (by simp) ?_
    intro u W hRu hg hv
    simp (disch := first | omega | assumption | (simp only [O1, World.size_alloc, World.size_setCell, World.size_drew]; first | done | omega)) only [O1, D2, ↓H0, S0, ↓S1, ↓S2, ↓S3, ↓S4, S5, S5b, S5c, ↓S6, S6b, M0, E0, ty, tl, te, tc, i64_wrap, u64_wrap, iaV_sl, iaV_arr, faV_pa, nck_pa, heap_new, heap_old, heap_set, ↓reduceIte, Nat.reduceEqDiff, Nat.reduceLT, Nat.reduceAdd, Int.reduceLT, Int.reduceLE, decide_false, decide_true, dec_true, dec_false, true_and, and_true, true_imp_iff, Bool.not_true, Bool.not_false, Option.map_none, Int.reduceToNat, Int.toNat_zero, Int.toNat_one, lkV_false, lkV_true]
    exact ⟨by simpa using hRu, hx.grown' hg (fun k hk => by cases hk; exact Nat.le_refl _)⟩
/-- One step along rows. -/
def Sx (S : List (List Int)) (a b : Int) : Prop := 0 ≤ a ∧ b ∈ S.getD a.toNat []
set_option maxHeartbeats 1000000 in
theorem spread_ok (sv fv : Value) (S : List (List Int)) (start : List Int) (M : Nat) (w : World) (hS : IRows w sv S) (hf : Ints w fv start) (hn : S.length ≤ 256) (hM : M ≤ 1000000) (hMS : ∀ r ∈ S, r.length ≤ M) (hMs : start.length ≤ 1000000)
    (hr : ∀ r ∈ S, ∀ b ∈ r, 0 ≤ b ∧ b < S.length) (hs : ∀ a ∈ start, 0 ≤ a ∧ a < S.length) :
    Ok Try.prog 106 #[sv, fv] w fun v w' => (∃ G l, v = .slice (some ⟨G, 0, none⟩) S.length S.length ∧ Own .bool 4 w' G l ∧ Tells S.length (Reach (Sx S) start) l) ∧ Ext w w' := by
  obtain ⟨A, c, rfl, hc, hA⟩ := hS
  have hSx : ∀ a b, Sx S a b → 0 ≤ b ∧ b < S.length := by
    rintro a b ⟨h0, h1⟩
    rw [List.getD_eq_getElem?_getD] at h1
    cases hq : S[a.toNat]? with
    | none => rw [hq] at h1; simp at h1
    | some r => rw [hq] at h1; exact hr r (List.mem_of_getElem? hq) b h1
  have hSa : ∀ a b, Sx S a b → 0 ≤ a ∧ a < S.length := by
    rintro a b ⟨h0, h1⟩
    rw [List.getD_eq_getElem?_getD] at h1
    cases hq : S[a.toNat]? with
    | none => rw [hq] at h1; simp at h1
    | some r => have := (List.getElem?_eq_some_iff.1 hq).1; omega
  (refine Ok.enter Try.func106 rfl (by kernel_rfl) (Nat.le_of_ble_eq_true rfl) ?_; simp only [Try.f106, S7])
  simp (disch := first | omega | assumption | (simp only [O1, World.size_alloc, World.size_setCell, World.size_drew]; first | done | omega)) only [O1, D2, ↓H0, S0, ↓S1, ↓S2, ↓S3, ↓S4, S5, S5b, S5c, ↓S6, S6b, M0, E0, ty, tl, te, tc, i64_wrap, u64_wrap, iaV_sl, iaV_arr, faV_pa, nck_pa, heap_new, heap_old, heap_set, ↓reduceIte, Nat.reduceEqDiff, Nat.reduceLT, Nat.reduceAdd, Int.reduceLT, Int.reduceLE, decide_false, decide_true, dec_true, dec_false, true_and, and_true, true_imp_iff, Bool.not_true, Bool.not_false, Option.map_none, Int.reduceToNat, Int.toNat_zero, Int.toNat_one, lkV_false, lkV_true]
  refine RunM_own (enc := Value.bool) (z := false) sl53 rfl (by omega) (by omega) ?_
  intro W hWs hx1 hO
  generalize hG : w.heap.size = G at *
  simp (disch := first | omega | assumption | (simp only [O1, World.size_alloc, World.size_setCell, World.size_drew]; first | done | omega)) only [O1, D2, ↓H0, S0, ↓S1, ↓S2, ↓S3, ↓S4, S5, S5b, S5c, ↓S6, S6b, M0, E0, ty, tl, te, tc, i64_wrap, u64_wrap, iaV_sl, iaV_arr, faV_pa, nck_pa, heap_new, heap_old, heap_set, ↓reduceIte, Nat.reduceEqDiff, Nat.reduceLT, Nat.reduceAdd, Int.reduceLT, Int.reduceLE, decide_false, decide_true, dec_true, dec_false, true_and, and_true, true_imp_iff, Bool.not_true, Bool.not_false, Option.map_none, Int.reduceToNat, Int.toNat_zero, Int.toNat_one, lkV_false, lkV_true, sl]
  refine (clone_ok fv start W (hf.ext hx1) (by omega)).then ?_
  intro wv W2 ⟨hR, hx2⟩
  have hx12 := hx1.tr hx2
  simp (disch := first | omega | assumption | (simp only [O1, World.size_alloc, World.size_setCell, World.size_drew]; first | done | omega)) only [O1, D2, ↓H0, S0, ↓S1, ↓S2, ↓S3, ↓S4, S5, S5b, S5c, ↓S6, S6b, M0, E0, ty, tl, te, tc, i64_wrap, u64_wrap, iaV_sl, iaV_arr, faV_pa, nck_pa, heap_new, heap_old, heap_set, ↓reduceIte, Nat.reduceEqDiff, Nat.reduceLT, Nat.reduceAdd, Int.reduceLT, Int.reduceLE, decide_false, decide_true, dec_true, dec_false, true_and, and_true, true_imp_iff, Bool.not_true, Bool.not_false, Option.map_none, Int.reduceToNat, Int.toNat_zero, Int.toNat_one, lkV_false, lkV_true]
  obtain ⟨K0, hK0⟩ : ∃ K0, K0 = S.length * (M + 1) + start.length := ⟨_, rfl⟩
  have hK1 : S.length * (M + 1) ≤ 256 * 1000001 := Nat.mul_le_mul hn (by omega)
  refine ⟨fun k t U => ∃ (l : List Bool) (wv : Value) (work : List Int), k = falses l * (M + 1) + work.length ∧ k ≤ K0 ∧ Ext w U ∧ Own .bool 4 U G l ∧ Row (.int .i64) (G + 1) 3 U wv work ∧ SprI S.length (Sx S) start l work ∧
    t 0 = .slice A S.length c ∧ t 5 = .slice (some ⟨G, 0, none⟩) S.length S.length ∧ t 6 = wv, ⟨_, List.replicate S.length false, wv, start, rfl, ?_, hx12, hO.ext hx2, hWs ▸ hR, SprI.start hs, ?_⟩, ?_⟩
  · rw [hK0]; simp [falses, List.countP_replicate]
  · simp (disch := first | omega | assumption | (simp only [O1, World.size_alloc, World.size_setCell, World.size_drew]; first | done | omega)) only [O1, D2, ↓H0, S0, ↓S1, ↓S2, ↓S3, ↓S4, S5, S5b, S5c, ↓S6, S6b, M0, E0, ty, tl, te, tc, i64_wrap, u64_wrap, iaV_sl, iaV_arr, faV_pa, nck_pa, heap_new, heap_old, heap_set, ↓reduceIte, Nat.reduceEqDiff, Nat.reduceLT, Nat.reduceAdd, Int.reduceLT, Int.reduceLE, decide_false, decide_true, dec_true, dec_false, true_and, and_true, true_imp_iff, Bool.not_true, Bool.not_false, Option.map_none, Int.reduceToNat, Int.toNat_zero, Int.toNat_one, lkV_false, lkV_true] <;> rfl
  clear hO hx1 hx2 hx12 hR
  rintro k t U ⟨l, wv, work, rfl, hkK, hx, hO, hR, hI, f0, f5, f6⟩
  rcases List.eq_nil_or_concat work with rfl | ⟨work', s, hwe⟩
  · obtain ⟨QA, qc, rfl, hqc, hQ⟩ := hR.sq
    simp (disch := first | omega | assumption | (simp only [O1, World.size_alloc, World.size_setCell, World.size_drew]; first | done | omega)) only [O1, D2, ↓H0, S0, ↓S1, ↓S2, ↓S3, ↓S4, S5, S5b, S5c, ↓S6, S6b, M0, E0, ty, tl, te, tc, i64_wrap, u64_wrap, iaV_sl, iaV_arr, faV_pa, nck_pa, heap_new, heap_old, heap_set, ↓reduceIte, Nat.reduceEqDiff, Nat.reduceLT, Nat.reduceAdd, Int.reduceLT, Int.reduceLE, decide_false, decide_true, dec_true, dec_false, true_and, and_true, true_imp_iff, Bool.not_true, Bool.not_false, Option.map_none, Int.reduceToNat, Int.toNat_zero, Int.toNat_one, lkV_false, lkV_true, f0, f5, f6, List.length_nil]
    exact ⟨⟨G, l, rfl, hO, hI.done hSa hs⟩, hx⟩
  · rw [List.concat_eq_append] at hwe
    subst hwe
    obtain ⟨hs0, hs1⟩ := hI.rng s (by simp)
    obtain ⟨v', hslv, hR', hown⟩ := hR.pop sl23 (k := .i64)
    obtain ⟨QA, qc, rfl, hQs, hQl⟩ := hR.last
    have e1 : ((work'.length + 1 : Nat) : Int) - 1 = (work'.length : Int) := by omega
    have hsl : s.toNat < l.length := by rw [hI.len]; omega
    have hrd := hO.rd s.toNat hsl
    have hce := hO.cell s.toNat hsl
    have hgl : l[s.toNat]? = some l[s.toNat] := List.getElem?_eq_getElem hsl
    rw [List.length_append, List.length_cons, List.length_nil] at hkK
    generalize hy : l[s.toNat] = y at *
    cases y with
    | true =>
      simp (disch := first | omega | assumption | (simp only [O1, World.size_alloc, World.size_setCell, World.size_drew]; first | done | omega)) only [O1, D2, ↓H0, S0, ↓S1, ↓S2, ↓S3, ↓S4, S5, S5b, S5c, ↓S6, S6b, M0, E0, ty, tl, te, tc, i64_wrap, u64_wrap, iaV_sl, iaV_arr, faV_pa, nck_pa, heap_new, heap_old, heap_set, ↓reduceIte, Nat.reduceEqDiff, Nat.reduceLT, Nat.reduceAdd, Int.reduceLT, Int.reduceLE, decide_false, decide_true, dec_true, dec_false, true_and, and_true, true_imp_iff, Bool.not_true, Bool.not_false, Option.map_none, Int.reduceToNat, Int.toNat_zero, Int.toNat_one, lkV_false, lkV_true, f0, f5, f6, hQl, e1, hslv, hrd, hce]
      refine ⟨falses l * (M + 1) + work'.length, ?_, l, v', work', rfl, by omega, hx, hO, hR', hI.old hgl, rfl⟩
      rw [List.length_append, List.length_cons, List.length_nil]; omega
    | false =>
      have hst := hO.sto (P := Try.prog) (t := 4) (by simp only [ty]) s.toNat hsl true rfl
      have hsS : s.toNat < S.length := by omega
      obtain ⟨r, hr1, hr2⟩ := hA s.toNat hsS
      have hrM := hMS S[s.toNat] (List.getElem_mem _)
      have hrr := hr S[s.toNat] (List.getElem_mem _)
      have hgS : S.getD s.toNat [] = S[s.toNat] := by simp [List.getD_eq_getElem?_getD, List.getElem?_eq_getElem hsS]
      generalize hrow : S[s.toNat] = row at *
      obtain ⟨RA, rc, rfl, hrc, hRA⟩ := hr2
      obtain ⟨X, hX⟩ : ∃ X, X = U.setCell ⟨G, s.toNat, none⟩ (.bool true) := ⟨_, rfl⟩
      have hGw : w.heap.size ≤ G := by omega
      have hxX : Ext w X := by rw [hX]; exact hx.st hGw _
      have hOX : Own .bool 4 X G (l.set s.toNat true) := by rw [hX]; exact hO.set _ _
      have hRX : Row (.int .i64) (G + 1) 3 X v' work' := by rw [hX]; exact hR'.kept (row := some G) set_grown (.inr (hR'.ne_lt (by omega)))
      have hXs : X.heap.size = U.heap.size := by rw [hX]; simp
      have hGU := hO.lt
      rw [← hX] at hst
      have hr1' := hxX.rd hr1
      have hAs := rd_isSome hr1
      simp (disch := first | omega | assumption | (simp only [O1, World.size_alloc, World.size_setCell, World.size_drew]; first | done | omega)) only [O1, D2, ↓H0, S0, ↓S1, ↓S2, ↓S3, ↓S4, S5, S5b, S5c, ↓S6, S6b, M0, E0, ty, tl, te, tc, i64_wrap, u64_wrap, iaV_sl, iaV_arr, faV_pa, nck_pa, heap_new, heap_old, heap_set, ↓reduceIte, Nat.reduceEqDiff, Nat.reduceLT, Nat.reduceAdd, Int.reduceLT, Int.reduceLE, decide_false, decide_true, dec_true, dec_false, true_and, and_true, true_imp_iff, Bool.not_true, Bool.not_false, Option.map_none, Int.reduceToNat, Int.toNat_zero, Int.toNat_one, lkV_false, lkV_true, f0, f5, f6, hQl, e1, hslv, hrd, hce, hst, hr1']
      refine RunA_sq (enc := Value.int .i64) sl23 hRX (fun i hi => hxX.rd (hRA i hi)) (fun _ => rfl) (by omega) (by omega) (by omega) ?_
      intro v2 Y hRY hg hv
      simp (disch := first | omega | assumption | (simp only [O1, World.size_alloc, World.size_setCell, World.size_drew]; first | done | omega)) only [O1, D2, ↓H0, S0, ↓S1, ↓S2, ↓S3, ↓S4, S5, S5b, S5c, ↓S6, S6b, M0, E0, ty, tl, te, tc, i64_wrap, u64_wrap, iaV_sl, iaV_arr, faV_pa, nck_pa, heap_new, heap_old, heap_set, ↓reduceIte, Nat.reduceEqDiff, Nat.reduceLT, Nat.reduceAdd, Int.reduceLT, Int.reduceLE, decide_false, decide_true, dec_true, dec_false, true_and, and_true, true_imp_iff, Bool.not_true, Bool.not_false, Option.map_none, Int.reduceToNat, Int.toNat_zero, Int.toNat_one, lkV_false, lkV_true, f0, f5, f6]
      have hfs := falses_set hgl
      have hGY : Own .bool 4 Y G (l.set s.toNat true) := hOX.hp (hg.block G (by omega) (fun e => hRX.ne_lt (by omega) e.symm))
      have hxY : Ext w Y := hxX.grown' hg (fun k hk => by have := (hRX.lt k hk).1; omega)
      have hmul : falses l * (M + 1) = falses (l.set s.toNat true) * (M + 1) + (M + 1) := by rw [← hfs, Nat.add_mul, Nat.one_mul]
      refine ⟨falses (l.set s.toNat true) * (M + 1) + (work' ++ row).length, ?_, l.set s.toNat true, v2, work' ++ row, rfl, ?_, hxY, hGY, hRY, hI.new (fun b => ?_) hrr, rfl⟩
      · rw [List.length_append, List.length_append, List.length_cons, List.length_nil]; omega
      · rw [List.length_append]; omega
      · unfold Sx; rw [hgS]; exact ⟨fun h => ⟨hs0, h⟩, fun h => h.2⟩
end Go.Proofs.Ytgioklmpnbnplaa
