/- The walk of earley.Make. Conditions: none. -/
import Derived.Test.YtgioklmpnbnplaaEs
import Derived.Test.YtgioklmpnbnplaaFa4
set_option linter.unusedSimpArgs false
set_option linter.unusedVariables false
set_option maxRecDepth 100000
namespace Go.Proofs.Ytgioklmpnbnplaa
open Go.V Go.RowKit

theorem make1_ok (t : Int) (b : Nat) (x0 x1 x2 x4 : Value) (TA : Option Addr) (n tcap : Nat) (w : World) (hb : w.heap[b]? = some (.cells #[x0, x1, x2, .slice TA n tcap, x4] 41 (0, 0))) :
    Ok Try.prog 93 #[.int .i64 t, pa (some ⟨b, 0, none⟩) 0] w fun u w' => u = .bool (decide (t < 0) || decide ((n : Int) ≤ t)) ∧ w' = w := by
  (refine Ok.enter Try.func93 rfl (by kernel_rfl) (Nat.le_of_ble_eq_true rfl) ?_; simp only [Try.f93, S7])
  simp (disch := first | omega | assumption | (simp only [O1, World.size_alloc, World.size_setCell, World.size_drew]; first | done | omega)) only [O1, D2, ↓H0, S0, ↓S1, ↓S2, ↓S3, ↓S4, S5, S5b, S5c, ↓S6, S6b, M0, E0, ty, tl, te, tc, i64_wrap, u64_wrap, iaV_sl, iaV_arr, faV_pa, nck_pa, heap_new, heap_old, heap_set, ↓reduceIte, Nat.reduceEqDiff, Nat.reduceLT, Nat.reduceAdd, Int.reduceLT, Int.reduceLE, decide_false, decide_true, dec_true, dec_false, true_and, and_true, true_imp_iff, Bool.not_true, Bool.not_false, Option.map_none, Int.reduceToNat, Int.toNat_zero, Int.toNat_one, lkV_false, lkV_true]
  by_cases h : t < 0
  · have d1 : decide (t < 0) = true := decide_eq_true h
    simp (disch := first | omega | assumption | (simp only [O1, World.size_alloc, World.size_setCell, World.size_drew]; first | done | omega)) only [O1, D2, ↓H0, S0, ↓S1, ↓S2, ↓S3, ↓S4, S5, S5b, S5c, ↓S6, S6b, M0, E0, ty, tl, te, tc, i64_wrap, u64_wrap, iaV_sl, iaV_arr, faV_pa, nck_pa, heap_new, heap_old, heap_set, ↓reduceIte, Nat.reduceEqDiff, Nat.reduceLT, Nat.reduceAdd, Int.reduceLT, Int.reduceLE, decide_false, decide_true, dec_true, dec_false, true_and, and_true, true_imp_iff, Bool.not_true, Bool.not_false, Option.map_none, Int.reduceToNat, Int.toNat_zero, Int.toNat_one, lkV_false, lkV_true, d1, hb]
    simp
  · have d1 : decide (t < 0) = false := decide_eq_false h
    simp (disch := first | omega | assumption | (simp only [O1, World.size_alloc, World.size_setCell, World.size_drew]; first | done | omega)) only [O1, D2, ↓H0, S0, ↓S1, ↓S2, ↓S3, ↓S4, S5, S5b, S5c, ↓S6, S6b, M0, E0, ty, tl, te, tc, i64_wrap, u64_wrap, iaV_sl, iaV_arr, faV_pa, nck_pa, heap_new, heap_old, heap_set, ↓reduceIte, Nat.reduceEqDiff, Nat.reduceLT, Nat.reduceAdd, Int.reduceLT, Int.reduceLE, decide_false, decide_true, dec_true, dec_false, true_and, and_true, true_imp_iff, Bool.not_true, Bool.not_false, Option.map_none, Int.reduceToNat, Int.toNat_zero, Int.toNat_one, lkV_false, lkV_true, d1, hb]
    simp
theorem make2_ok (s : Int) (B : Nat) (v : Value) (gl : List Bool) (w : World) (hB : w.heap[B]? = some (.cells #[v] 53 (0, 0))) (hg : Bools w v gl) (hs : s < gl.length) :
    Ok Try.prog 95 #[.int .i64 s, pa (some ⟨B, 0, none⟩) 0] w fun u w' => u = .bool (decide (0 ≤ s) && !(gl.getD s.toNat false)) ∧ w' = w := by
  obtain ⟨A, c, rfl, hc, hA⟩ := hg
  (refine Ok.enter Try.func95 rfl (by kernel_rfl) (Nat.le_of_ble_eq_true rfl) ?_; simp only [Try.f95, S7])
  simp (disch := first | omega | assumption | (simp only [O1, World.size_alloc, World.size_setCell, World.size_drew]; first | done | omega)) only [O1, D2, ↓H0, S0, ↓S1, ↓S2, ↓S3, ↓S4, S5, S5b, S5c, ↓S6, S6b, M0, E0, ty, tl, te, tc, i64_wrap, u64_wrap, iaV_sl, iaV_arr, faV_pa, nck_pa, heap_new, heap_old, heap_set, ↓reduceIte, Nat.reduceEqDiff, Nat.reduceLT, Nat.reduceAdd, Int.reduceLT, Int.reduceLE, decide_false, decide_true, dec_true, dec_false, true_and, and_true, true_imp_iff, Bool.not_true, Bool.not_false, Option.map_none, Int.reduceToNat, Int.toNat_zero, Int.toNat_one, lkV_false, lkV_true]
  refine Br_if (fun h => ?_) (fun h' => ?_) <;> (try simp (disch := first | omega | assumption | (simp only [O1, World.size_alloc, World.size_setCell, World.size_drew]; first | done | omega)) only [O1, D2, ↓H0, S0, ↓S1, ↓S2, ↓S3, ↓S4, S5, S5b, S5c, ↓S6, S6b, M0, E0, ty, tl, te, tc, i64_wrap, u64_wrap, iaV_sl, iaV_arr, faV_pa, nck_pa, heap_new, heap_old, heap_set, ↓reduceIte, Nat.reduceEqDiff, Nat.reduceLT, Nat.reduceAdd, Int.reduceLT, Int.reduceLE, decide_false, decide_true, dec_true, dec_false, true_and, and_true, true_imp_iff, Bool.not_true, Bool.not_false, Option.map_none, Int.reduceToNat, Int.toNat_zero, Int.toNat_one, lkV_false, lkV_true, hB])
  · have hsl : s.toNat < gl.length := by omega
    have h1 := hA s.toNat hsl
    have h2 := rd_isSome h1
    have hD : gl.getD s.toNat false = gl[s.toNat] := by simp [List.getD_eq_getElem?_getD, List.getElem?_eq_getElem hsl]
    rw [hD, decide_eq_true h]
    generalize gl[s.toNat] = y at *
    simp (disch := first | omega | assumption | (simp only [O1, World.size_alloc, World.size_setCell, World.size_drew]; first | done | omega)) only [O1, D2, ↓H0, S0, ↓S1, ↓S2, ↓S3, ↓S4, S5, S5b, S5c, ↓S6, S6b, M0, E0, ty, tl, te, tc, i64_wrap, u64_wrap, iaV_sl, iaV_arr, faV_pa, nck_pa, heap_new, heap_old, heap_set, ↓reduceIte, Nat.reduceEqDiff, Nat.reduceLT, Nat.reduceAdd, Int.reduceLT, Int.reduceLE, decide_false, decide_true, dec_true, dec_false, true_and, and_true, true_imp_iff, Bool.not_true, Bool.not_false, Option.map_none, Int.reduceToNat, Int.toNat_zero, Int.toNat_one, lkV_false, lkV_true, hB, h1]
    simp
  · simp
/-- The usable productions of a nonterminal, after so many. -/
def byUp (us : List Int → Bool) (ps : List (Int × List Int)) (a : Int) : Nat → List Int
  | 0 => []
  | i + 1 => byUp us ps a i ++ if (ps.getD i (0, [])).1 = a ∧ us (ps.getD i (0, [])).2 = true then [(i : Int)] else []
theorem byUp_mem {us : List Int → Bool} {ps : List (Int × List Int)} {a x : Int} : ∀ {m : Nat}, x ∈ byUp us ps a m ↔ ∃ i : Nat, x = i ∧ i < m ∧ (ps.getD i (0, [])).1 = a ∧ us (ps.getD i (0, [])).2 = true
  | 0 => by simp [byUp]
  | m + 1 => by
    rw [byUp, List.mem_append, byUp_mem]
    constructor
    · rintro (⟨i, h0, h1, h2⟩ | h)
      · exact ⟨i, h0, by omega, h2⟩
      · split at h
        · rename_i e; simp at h; exact ⟨m, h, by omega, e⟩
        · simp at h
    · rintro ⟨i, rfl, h1, h2⟩
      by_cases e : i = m
      · subst e; right; rw [if_pos h2]; simp
      · exact .inl ⟨i, rfl, by omega, h2⟩
theorem byUp_len {us : List Int → Bool} {ps : List (Int × List Int)} {a : Int} : ∀ {m : Nat}, (byUp us ps a m).length ≤ m
  | 0 => by simp [byUp]
  | m + 1 => by
    rw [byUp, List.length_append]
    have := byUp_len (us := us) (ps := ps) (a := a) (m := m)
    split <;> simp <;> omega
/-- A word that may have a chart. -/
def OkW (g : PG) (word : List Int) : Prop := SoundP g ∧ word.length ≤ 64 ∧ ∀ t ∈ word, 0 ≤ t ∧ t < g.terms.length
/-- Block Q is the chart of a word. -/
def ChartOk (w : World) (Q : Nat) (g : PG) (word : List Int) : Prop :=
  ∃ wE nv tv C c wA wc G NG b0 bs ln F sv Sb e, ∃ L : List (List Tri), Ctx wE w g Q nv tv C c (.slice wA word.length wc) G NG b0 bs ln F sv Sb e ∧
    (∀ i (h : i < g.prods.length), rd wE C (i * 2) = some (.int .i64 g.prods[i].1) ∧ ∃ r, rd wE C (i * 2 + 1) = some r ∧ Ints wE r g.prods[i].2) ∧ OkW g word ∧ Sb.length = L.length ∧ L.length ≤ word.length + 1 ∧
    (∀ (f b : Nat) (l : List Tri), Sb[f]? = some b → L[f]? = some l → SetFin w.heap.size w b l ∧ SetOk g.prods g.start word f l ∧ l.Nodup) ∧
    (∀ f, f < L.length → ∃ i d f', It g.prods g.start word f i d f') ∧ (L.length = word.length + 1 ∨ ∀ i d f', ¬ It g.prods g.start word L.length i d f')
set_option maxHeartbeats 4000000 in
theorem makeE_ok (pv wv : Value) (g : PG) (word : List Int) (w : World) (hg : RepPG w pv g) (hs : SmallP g) (hw : Ints w wv word) (hwl : word.length ≤ 1000000000) :
    Ok Try.prog 42 #[pv, wv] w fun v w' => ((¬ OkW g word ∧ v = .pointer none) ∨ (OkW g word ∧ ∃ Q, v = pa (some ⟨Q, 0, none⟩) 0 ∧ ChartOk w' Q g word)) ∧ Ext w w' := by
  have hg0 := hg
  have hw0 := hw
  obtain ⟨nv, tv, cv, rfl, hN, hT, hp⟩ := hg
  obtain ⟨A, a, rfl, ha, hA⟩ := hN
  obtain ⟨TA, tcap, rfl, htc, hTA⟩ := hT
  obtain ⟨C, c, rfl, hc, hC⟩ := hp
  obtain ⟨WA, wc, rfl, hwc, hWA⟩ := hw
  (refine Ok.enter Try.func42 rfl (by kernel_rfl) (Nat.le_of_ble_eq_true rfl) ?_; simp only [Try.f42, S7])
  simp (disch := first | omega | assumption | (simp only [O1, World.size_alloc, World.size_setCell, World.size_drew]; first | done | omega)) only [O1, D2, ↓H0, S0, ↓S1, ↓S2, ↓S3, ↓S4, S5, S5b, S5c, ↓S6, S6b, M0, E0, ty, tl, te, tc, i64_wrap, u64_wrap, iaV_sl, iaV_arr, faV_pa, nck_pa, heap_new, heap_old, heap_set, ↓reduceIte, Nat.reduceEqDiff, Nat.reduceLT, Nat.reduceAdd, Int.reduceLT, Int.reduceLE, decide_false, decide_true, dec_true, dec_false, true_and, and_true, true_imp_iff, Bool.not_true, Bool.not_false, Option.map_none, Int.reduceToNat, Int.toNat_zero, Int.toNat_one, lkV_false, lkV_true]
  obtain ⟨bx, hbx⟩ : ∃ bx, bx = #[Value.int .i64 g.start, .int .i64 g.rules, .slice A g.names.length a, .slice TA g.terms.length tcap, .slice C g.prods.length c] := ⟨_, rfl⟩
  have hx0 := (Ext.rfl' w).al (.cells bx 41)
  have hb0 := heap_new (w := w) (.cells bx 41) rfl
  rw [hbx] at hx0 hb0
  simp (disch := first | omega | assumption | (simp only [O1, World.size_alloc, World.size_setCell, World.size_drew]; first | done | omega)) only [O1, D2, ↓H0, S0, ↓S1, ↓S2, ↓S3, ↓S4, S5, S5b, S5c, ↓S6, S6b, M0, E0, ty, tl, te, tc, i64_wrap, u64_wrap, iaV_sl, iaV_arr, faV_pa, nck_pa, heap_new, heap_old, heap_set, ↓reduceIte, Nat.reduceEqDiff, Nat.reduceLT, Nat.reduceAdd, Int.reduceLT, Int.reduceLE, decide_false, decide_true, dec_true, dec_false, true_and, and_true, true_imp_iff, Bool.not_true, Bool.not_false, Option.map_none, Int.reduceToNat, Int.toNat_zero, Int.toNat_one, lkV_false, lkV_true, ldA5]
  refine (sound_ok _ g _ (hg0.ext hx0) hs).then ?_; rintro _ W ⟨⟨b, rfl, hb⟩, hx1⟩
  have hxW := hx0.tr hx1
  have hbW := hx1.hp hb0
  cases b with
  | false =>
    simp (disch := first | omega | assumption | (simp only [O1, World.size_alloc, World.size_setCell, World.size_drew]; first | done | omega)) only [O1, D2, ↓H0, S0, ↓S1, ↓S2, ↓S3, ↓S4, S5, S5b, S5c, ↓S6, S6b, M0, E0, ty, tl, te, tc, i64_wrap, u64_wrap, iaV_sl, iaV_arr, faV_pa, nck_pa, heap_new, heap_old, heap_set, ↓reduceIte, Nat.reduceEqDiff, Nat.reduceLT, Nat.reduceAdd, Int.reduceLT, Int.reduceLE, decide_false, decide_true, dec_true, dec_false, true_and, and_true, true_imp_iff, Bool.not_true, Bool.not_false, Option.map_none, Int.reduceToNat, Int.toNat_zero, Int.toNat_one, lkV_false, lkV_true]
    exact ⟨.inl fun h => by have := hb.2 h.1; simp at this, hxW⟩
  | true =>
    have hS := hb.1 rfl
    simp (disch := first | omega | assumption | (simp only [O1, World.size_alloc, World.size_setCell, World.size_drew]; first | done | omega)) only [O1, D2, ↓H0, S0, ↓S1, ↓S2, ↓S3, ↓S4, S5, S5b, S5c, ↓S6, S6b, M0, E0, ty, tl, te, tc, i64_wrap, u64_wrap, iaV_sl, iaV_arr, faV_pa, nck_pa, heap_new, heap_old, heap_set, ↓reduceIte, Nat.reduceEqDiff, Nat.reduceLT, Nat.reduceAdd, Int.reduceLT, Int.reduceLE, decide_false, decide_true, dec_true, dec_false, true_and, and_true, true_imp_iff, Bool.not_true, Bool.not_false, Option.map_none, Int.reduceToNat, Int.toNat_zero, Int.toNat_one, lkV_false, lkV_true]
    by_cases hl : word.length ≤ 64
    rotate_left
    · have d1 : decide ((64 : Int) < (word.length : Int)) = true := decide_eq_true (by omega)
      simp (disch := first | omega | assumption | (simp only [O1, World.size_alloc, World.size_setCell, World.size_drew]; first | done | omega)) only [O1, D2, ↓H0, S0, ↓S1, ↓S2, ↓S3, ↓S4, S5, S5b, S5c, ↓S6, S6b, M0, E0, ty, tl, te, tc, i64_wrap, u64_wrap, iaV_sl, iaV_arr, faV_pa, nck_pa, heap_new, heap_old, heap_set, ↓reduceIte, Nat.reduceEqDiff, Nat.reduceLT, Nat.reduceAdd, Int.reduceLT, Int.reduceLE, decide_false, decide_true, dec_true, dec_false, true_and, and_true, true_imp_iff, Bool.not_true, Bool.not_false, Option.map_none, Int.reduceToNat, Int.toNat_zero, Int.toNat_one, lkV_false, lkV_true, d1]
      exact ⟨.inl fun h => hl h.2.1, hxW⟩
    have d1 : decide ((64 : Int) < (word.length : Int)) = false := decide_eq_false (by omega)
    simp (disch := first | omega | assumption | (simp only [O1, World.size_alloc, World.size_setCell, World.size_drew]; first | done | omega)) only [O1, D2, ↓H0, S0, ↓S1, ↓S2, ↓S3, ↓S4, S5, S5b, S5c, ↓S6, S6b, M0, E0, ty, tl, te, tc, i64_wrap, u64_wrap, iaV_sl, iaV_arr, faV_pa, nck_pa, heap_new, heap_old, heap_set, ↓reduceIte, Nat.reduceEqDiff, Nat.reduceLT, Nat.reduceAdd, Int.reduceLT, Int.reduceLE, decide_false, decide_true, dec_true, dec_false, true_and, and_true, true_imp_iff, Bool.not_true, Bool.not_false, Option.map_none, Int.reduceToNat, Int.toNat_zero, Int.toNat_one, lkV_false, lkV_true, d1]
    refine (contains_on _ _ word (fun t => decide (t < 0) || decide ((g.terms.length : Int) ≤ t)) W (hw0.ext hxW) ⟨_, _, _, rfl, fun t ht => ?_⟩ (by omega)).then ?_
    · exact make1_ok t w.heap.size _ _ _ _ TA g.terms.length tcap W hbW
    rintro _ W1 ⟨rfl, rfl⟩
    cases hany : word.any (fun t => decide (t < 0) || decide ((g.terms.length : Int) ≤ t)) with
    | true =>
      simp (disch := first | omega | assumption | (simp only [O1, World.size_alloc, World.size_setCell, World.size_drew]; first | done | omega)) only [O1, D2, ↓H0, S0, ↓S1, ↓S2, ↓S3, ↓S4, S5, S5b, S5c, ↓S6, S6b, M0, E0, ty, tl, te, tc, i64_wrap, u64_wrap, iaV_sl, iaV_arr, faV_pa, nck_pa, heap_new, heap_old, heap_set, ↓reduceIte, Nat.reduceEqDiff, Nat.reduceLT, Nat.reduceAdd, Int.reduceLT, Int.reduceLE, decide_false, decide_true, dec_true, dec_false, true_and, and_true, true_imp_iff, Bool.not_true, Bool.not_false, Option.map_none, Int.reduceToNat, Int.toNat_zero, Int.toNat_one, lkV_false, lkV_true]
      refine ⟨.inl fun h => ?_, hxW⟩
      obtain ⟨t, ht, h1⟩ := List.any_eq_true.1 hany
      have := h.2.2 t ht
      simp at h1; omega
    | false =>
      have hok : OkW g word := ⟨hS, hl, fun t ht => by have := List.any_eq_false.1 hany t ht; simp at this; omega⟩
      simp (disch := first | omega | assumption | (simp only [O1, World.size_alloc, World.size_setCell, World.size_drew]; first | done | omega)) only [O1, D2, ↓H0, S0, ↓S1, ↓S2, ↓S3, ↓S4, S5, S5b, S5c, ↓S6, S6b, M0, E0, ty, tl, te, tc, i64_wrap, u64_wrap, iaV_sl, iaV_arr, faV_pa, nck_pa, heap_new, heap_old, heap_set, ↓reduceIte, Nat.reduceEqDiff, Nat.reduceLT, Nat.reduceAdd, Int.reduceLT, Int.reduceLE, decide_false, decide_true, dec_true, dec_false, true_and, and_true, true_imp_iff, Bool.not_true, Bool.not_false, Option.map_none, Int.reduceToNat, Int.toNat_zero, Int.toNat_one, lkV_false, lkV_true, hbW, ldA5]
      refine (generating2_ok _ g W1 (hg0.ext hxW) hs).then ?_
      rintro _ W2 ⟨h, hx2⟩
      rcases h with ⟨h, _⟩ | ⟨_, GG, gl, rfl, hGG, hgl, hGl⟩
      · exact absurd hS h
      have hxW2 := hxW.tr hx2
      have hbW2 := hx2.hp hbW
      have hin := hS.inR
      have hside := hS.sides
      have hn1 := hS.1.2.1
      have hn2 := hS.2.1.2.2.1
      have hst0 := hS.2.1.2.2.2
      have hx0s : w.heap.size < W2.heap.size := lt_heap hbW2
      have hgll : gl.length = g.names.length := hGl.1
      have hst := sto1 (P := Try.prog) (T := 53) (T' := 53) (by simp only [ty]) W2 (.slice none 0 0) (.slice (some ⟨GG, 0, none⟩) g.names.length g.names.length) rfl
      simp (disch := first | omega | assumption | (simp only [O1, World.size_alloc, World.size_setCell, World.size_drew]; first | done | omega)) only [O1, D2, ↓H0, S0, ↓S1, ↓S2, ↓S3, ↓S4, S5, S5b, S5c, ↓S6, S6b, M0, E0, ty, tl, te, tc, i64_wrap, u64_wrap, iaV_sl, iaV_arr, faV_pa, nck_pa, heap_new, heap_old, heap_set, ↓reduceIte, Nat.reduceEqDiff, Nat.reduceLT, Nat.reduceAdd, Int.reduceLT, Int.reduceLE, decide_false, decide_true, dec_true, dec_false, true_and, and_true, true_imp_iff, Bool.not_true, Bool.not_false, Option.map_none, Int.reduceToNat, Int.toNat_zero, Int.toNat_one, lkV_false, lkV_true, hst]
      have hx3 := (Ext.rfl' W2).al (.cells #[.slice (some ⟨GG, 0, none⟩) g.names.length g.names.length] 53)
      have hb5 := heap_new (w := W2) (.cells #[.slice (some ⟨GG, 0, none⟩) g.names.length g.names.length] 53) rfl
      generalize W2.alloc (.cells #[.slice (some ⟨GG, 0, none⟩) g.names.length g.names.length] 53) = W3 at *
      obtain ⟨B5, hB5⟩ : ∃ B5, B5 = W2.heap.size := ⟨_, rfl⟩
      rw [← hB5] at hb5 ⊢
      have hxW3 := hxW2.tr hx3
      have hbW3 := hx3.hp hbW2
      have hgl3 := hgl.ext hx3
      have hbd3 : W3.drew.heap[w.heap.size]? = _ := hbW3
      have hb5d : W3.drew.heap[B5]? = _ := hb5
      have hgld : Go.V.Own Value.bool 4 W3.drew GG gl := hgl3
      have hsl : g.start.toNat < gl.length := by omega
      have g1 := hgl3.rd g.start.toNat hsl
      have g2 := hgl3.cell g.start.toNat hsl
      have g3 := hgld.rd g.start.toNat hsl
      have g4 := hgld.cell g.start.toNat hsl
      have hgs := hGl.2 g.start.toNat (by omega)
      rw [Int.toNat_of_nonneg hst0.1, List.getElem?_eq_getElem hsl] at hgs
      simp only [Option.some.injEq] at hgs
      generalize gl[g.start.toNat] = gb at *
      refine Dr_rg ([]) (fun _ => true) [0, 1, 3, 4, 5, 7, 9, 10, 11, 12, 13, 14] [(2, [], [34]), (6, [], [30, 36]), (8, [2], [30, 34])] [15, 16, 17] [30, 34, 36] mixed (by kernel_rfl) ?_
      simp (disch := first | omega | assumption | (simp only [O1, World.size_alloc, World.size_setCell, World.size_drew]; first | done | omega)) only [↓D1, ↓D3, ↓D4, List.not_mem_nil, not_false_eq_true, Bool.false_eq_true, false_imp_iff, upto, O1, D2, ↓H0, S0, ↓S1, ↓S2, ↓S3, ↓S4, S5, S5b, S5c, ↓S6, S6b, M0, E0, ty, tl, te, tc, i64_wrap, u64_wrap, iaV_sl, iaV_arr, faV_pa, nck_pa, heap_new, heap_old, heap_set, ↓reduceIte, Nat.reduceEqDiff, Nat.reduceLT, Nat.reduceAdd, Int.reduceLT, Int.reduceLE, decide_false, decide_true, dec_true, dec_false, true_and, and_true, true_imp_iff, Bool.not_true, Bool.not_false, Option.map_none, Int.reduceToNat, Int.toNat_zero, Int.toNat_one, lkV_false, lkV_true, hbW3, hbd3, hb5, hb5d, g1, g2, g3, g4, ldA5]
      have hgW3 := hg0.ext hxW3
      refine ⟨rgA [(2, fun v X => ∃ wA wcap, v = .slice wA word.length wcap), (6, fun v X => ∃ G, v = .slice (some ⟨G, 0, none⟩) g.names.length g.names.length ∧ W3.heap.size ≤ G ∧ X.heap[G]? = some (.cells (List.replicate g.names.length (.slice none 0 0)).toArray 23 (0, 0))),
          (8, fun v X => ∃ NG nl, v = .slice (some ⟨NG, 0, none⟩) g.names.length g.names.length ∧ W3.heap.size ≤ NG ∧ Go.V.Own Value.bool 4 X NG nl ∧ Tells g.names.length (Gen false g.prods) nl)],
        rg_stab ⟨fun _ _ _ h hx => h, fun _ _ _ ⟨G, h1, h2, h3⟩ hx => ⟨G, h1, h2, hx.hp h3⟩, fun _ _ _ ⟨NG, nl, h1, h2, h3, h4⟩ hx => ⟨NG, nl, h1, h2, h3.ext hx, h4⟩, trivial⟩, ⟨?_, ?_, ?_, trivial⟩, ?_⟩
      · intro t1 X hX hp hf
        simp (disch := first | (simp only [List.mem_cons, List.not_mem_nil, or_false, not_or, Nat.reduceEqDiff, not_false_eq_true, and_self]; done) | omega | assumption | (simp only [O1, World.size_alloc, World.size_setCell, World.size_drew]; first | done | omega)) only [↓G1, rgA_cons, rgA_nil, eq_self, ↓D1, ↓D3, ↓D4, List.not_mem_nil, not_false_eq_true, Bool.false_eq_true, false_imp_iff, upto, O1, D2, ↓H0, S0, ↓S1, ↓S2, ↓S3, ↓S4, S5, S5b, S5c, ↓S6, S6b, M0, E0, ty, tl, te, tc, i64_wrap, u64_wrap, iaV_sl, iaV_arr, faV_pa, nck_pa, heap_new, heap_old, heap_set, ↓reduceIte, Nat.reduceEqDiff, Nat.reduceLT, Nat.reduceAdd, Int.reduceLT, Int.reduceLE, decide_false, decide_true, dec_true, dec_false, true_and, and_true, true_imp_iff, Bool.not_true, Bool.not_false, Option.map_none, Int.reduceToNat, Int.toNat_zero, Int.toNat_one, lkV_false, lkV_true, hf]
        refine (clone_ok _ word X (hw0.ext ((hxW3.dr).tr hX)) (by omega)).then ?_
        rintro u X2 ⟨h, hx⟩
        simp (disch := first | (simp only [List.mem_cons, List.not_mem_nil, or_false, not_or, Nat.reduceEqDiff, not_false_eq_true, and_self]; done) | omega | assumption | (simp only [O1, World.size_alloc, World.size_setCell, World.size_drew]; first | done | omega)) only [↓G1, rgA_cons, rgA_nil, eq_self, ↓D1, ↓D3, ↓D4, List.not_mem_nil, not_false_eq_true, Bool.false_eq_true, false_imp_iff, upto, O1, D2, ↓H0, S0, ↓S1, ↓S2, ↓S3, ↓S4, S5, S5b, S5c, ↓S6, S6b, M0, E0, ty, tl, te, tc, i64_wrap, u64_wrap, iaV_sl, iaV_arr, faV_pa, nck_pa, heap_new, heap_old, heap_set, ↓reduceIte, Nat.reduceEqDiff, Nat.reduceLT, Nat.reduceAdd, Int.reduceLT, Int.reduceLE, decide_false, decide_true, dec_true, dec_false, true_and, and_true, true_imp_iff, Bool.not_true, Bool.not_false, Option.map_none, Int.reduceToNat, Int.toNat_zero, Int.toNat_one, lkV_false, lkV_true]
        obtain ⟨UA, uc, hu, _, _⟩ := h.sq
        exact ⟨hx, UA, uc, hu⟩
      · intro t1 X hX hp hf
        simp (disch := first | (simp only [List.mem_cons, List.not_mem_nil, or_false, not_or, Nat.reduceEqDiff, not_false_eq_true, and_self]; done) | omega | assumption | (simp only [O1, World.size_alloc, World.size_setCell, World.size_drew]; first | done | omega)) only [↓G1, rgA_cons, rgA_nil, eq_self, ↓D1, ↓D3, ↓D4, List.not_mem_nil, not_false_eq_true, Bool.false_eq_true, false_imp_iff, upto, O1, D2, ↓H0, S0, ↓S1, ↓S2, ↓S3, ↓S4, S5, S5b, S5c, ↓S6, S6b, M0, E0, ty, tl, te, tc, i64_wrap, u64_wrap, iaV_sl, iaV_arr, faV_pa, nck_pa, heap_new, heap_old, heap_set, ↓reduceIte, Nat.reduceEqDiff, Nat.reduceLT, Nat.reduceAdd, Int.reduceLT, Int.reduceLE, decide_false, decide_true, dec_true, dec_false, true_and, and_true, true_imp_iff, Bool.not_true, Bool.not_false, Option.map_none, Int.reduceToNat, Int.toNat_zero, Int.toNat_one, lkV_false, lkV_true, hf]
        refine RunM_one sl44 rfl (by omega) (by omega) ?_
        simp (disch := first | (simp only [List.mem_cons, List.not_mem_nil, or_false, not_or, Nat.reduceEqDiff, not_false_eq_true, and_self]; done) | omega | assumption | (simp only [O1, World.size_alloc, World.size_setCell, World.size_drew]; first | done | omega)) only [↓G1, rgA_cons, rgA_nil, eq_self, ↓D1, ↓D3, ↓D4, List.not_mem_nil, not_false_eq_true, Bool.false_eq_true, false_imp_iff, upto, O1, D2, ↓H0, S0, ↓S1, ↓S2, ↓S3, ↓S4, S5, S5b, S5c, ↓S6, S6b, M0, E0, ty, tl, te, tc, i64_wrap, u64_wrap, iaV_sl, iaV_arr, faV_pa, nck_pa, heap_new, heap_old, heap_set, ↓reduceIte, Nat.reduceEqDiff, Nat.reduceLT, Nat.reduceAdd, Int.reduceLT, Int.reduceLE, decide_false, decide_true, dec_true, dec_false, true_and, and_true, true_imp_iff, Bool.not_true, Bool.not_false, Option.map_none, Int.reduceToNat, Int.toNat_zero, Int.toNat_one, lkV_false, lkV_true, hf]
        exact ⟨(Ext.rfl' X).al _, X.heap.size, rfl, hX.size, heap_new _ rfl⟩
      · intro t1 X hX hp hf
        simp (disch := first | (simp only [List.mem_cons, List.not_mem_nil, or_false, not_or, Nat.reduceEqDiff, not_false_eq_true, and_self]; done) | omega | assumption | (simp only [O1, World.size_alloc, World.size_setCell, World.size_drew]; first | done | omega)) only [↓G1, rgA_cons, rgA_nil, eq_self, ↓D1, ↓D3, ↓D4, List.not_mem_nil, not_false_eq_true, Bool.false_eq_true, false_imp_iff, upto, O1, D2, ↓H0, S0, ↓S1, ↓S2, ↓S3, ↓S4, S5, S5b, S5c, ↓S6, S6b, M0, E0, ty, tl, te, tc, i64_wrap, u64_wrap, iaV_sl, iaV_arr, faV_pa, nck_pa, heap_new, heap_old, heap_set, ↓reduceIte, Nat.reduceEqDiff, Nat.reduceLT, Nat.reduceAdd, Int.reduceLT, Int.reduceLE, decide_false, decide_true, dec_true, dec_false, true_and, and_true, true_imp_iff, Bool.not_true, Bool.not_false, Option.map_none, Int.reduceToNat, Int.toNat_zero, Int.toNat_one, lkV_false, lkV_true, hf]
        refine (nullable2_ok _ g X (hg0.ext ((hxW3.dr).tr hX)) hs).then ?_
        rintro u X2 ⟨h, hx⟩
        rcases h with ⟨h, _⟩ | ⟨_, NG, nl, h1, h2, h3, h4⟩
        · exact absurd hS h
        simp (disch := first | (simp only [List.mem_cons, List.not_mem_nil, or_false, not_or, Nat.reduceEqDiff, not_false_eq_true, and_self]; done) | omega | assumption | (simp only [O1, World.size_alloc, World.size_setCell, World.size_drew]; first | done | omega)) only [↓G1, rgA_cons, rgA_nil, eq_self, ↓D1, ↓D3, ↓D4, List.not_mem_nil, not_false_eq_true, Bool.false_eq_true, false_imp_iff, upto, O1, D2, ↓H0, S0, ↓S1, ↓S2, ↓S3, ↓S4, S5, S5b, S5c, ↓S6, S6b, M0, E0, ty, tl, te, tc, i64_wrap, u64_wrap, iaV_sl, iaV_arr, faV_pa, nck_pa, heap_new, heap_old, heap_set, ↓reduceIte, Nat.reduceEqDiff, Nat.reduceLT, Nat.reduceAdd, Int.reduceLT, Int.reduceLE, decide_false, decide_true, dec_true, dec_false, true_and, and_true, true_imp_iff, Bool.not_true, Bool.not_false, Option.map_none, Int.reduceToNat, Int.toNat_zero, Int.toNat_one, lkV_false, lkV_true]
        exact ⟨hx, NG, nl, h1, Nat.le_trans hX.size h2, h3, h4⟩
      · intro t1 X hX hp hf
        simp only [rgPre, D2, G0, ↓reduceIte, Nat.reduceEqDiff, Nat.reduceLT, Nat.reduceAdd, and_true, true_and, eq_self, rgA_cons, rgA_nil, List.map_cons, List.map_nil] at hp
        obtain ⟨⟨wA, wcap, e30⟩, ⟨G, e34, hGW, hG⟩, NG, nl, e36, hNGW, hnl, hTl⟩ := hp
        have hbX := hX.hp hbd3
        have hb5X := hX.hp hb5d
        simp (disch := first | (simp only [List.mem_cons, List.not_mem_nil, or_false, not_or, Nat.reduceEqDiff, not_false_eq_true, and_self]; done) | omega | assumption | (simp only [O1, World.size_alloc, World.size_setCell, World.size_drew]; first | done | omega)) only [↓G1, rgA_cons, rgA_nil, eq_self, ↓D1, ↓D3, ↓D4, List.not_mem_nil, not_false_eq_true, Bool.false_eq_true, false_imp_iff, upto, O1, D2, ↓H0, S0, ↓S1, ↓S2, ↓S3, ↓S4, S5, S5b, S5c, ↓S6, S6b, M0, E0, ty, tl, te, tc, i64_wrap, u64_wrap, iaV_sl, iaV_arr, faV_pa, nck_pa, heap_new, heap_old, heap_set, ↓reduceIte, Nat.reduceEqDiff, Nat.reduceLT, Nat.reduceAdd, Int.reduceLT, Int.reduceLE, decide_false, decide_true, dec_true, dec_false, true_and, and_true, true_imp_iff, Bool.not_true, Bool.not_false, Option.map_none, Int.reduceToNat, Int.toNat_zero, Int.toNat_one, lkV_false, lkV_true, hf, e30, e34, e36, bd130_0_1_2_3_5]
        have hxX : Ext w X := (hxW3.dr).tr hX
        have hwX := lt_heap hbX
        have hB5X := lt_heap hb5X
        obtain ⟨cb, hcb⟩ : ∃ cb, cb = #[Value.int .i64 g.start, .int .i64 g.rules, .slice A g.names.length a, .slice TA g.terms.length tcap, .slice C g.prods.length c, .slice wA word.length wcap, .slice (some ⟨G, 0, none⟩) g.names.length g.names.length, .slice (some ⟨NG, 0, none⟩) g.names.length g.names.length, .slice none 0 0, .bool !gb] := ⟨_, rfl⟩
        have hxY := (Ext.rfl' X).al (.cells cb 130)
        have hbQ := heap_new (w := X) (.cells cb 130) rfl
        rw [← hcb]
        generalize X.alloc (.cells cb 130) = Y at *
        obtain ⟨Q, hQ⟩ : ∃ Q, Q = X.heap.size := ⟨_, rfl⟩
        rw [← hQ] at hbQ ⊢
        have hbY := hxY.hp hbX
        have hb5Y := hxY.hp hb5X
        have hGY := hxY.hp hG
        have hnY := hnl.ext hxY
        have hglY := (hgld.ext hX).ext hxY
        have hxwY := hxX.tr hxY
        have hW : RowW w Y bx w.heap.size G G (List.replicate g.names.length []) := ⟨hxwY, hbx ▸ hbY, RowsO.new Y g.names.length hGY, rfl, by have := lt_heap hGY; omega, by have := hxW3.size; omega, by have := hxW3.size; omega⟩
        clear hG hGY
        have hD0 : ∀ i, (h : i < g.prods.length) → g.prods.getD i (0, []) = g.prods[i] := fun i h => by simp [List.getD_eq_getElem?_getD, List.getElem?_eq_getElem h]
        obtain ⟨us, hus⟩ : ∃ us : List Int → Bool, us = fun r => !(r.any fun s => decide (0 ≤ s) && !(gl.getD s.toNat false)) := ⟨_, rfl⟩
        simp (disch := first | (simp only [List.mem_cons, List.not_mem_nil, or_false, not_or, Nat.reduceEqDiff, not_false_eq_true, and_self]; done) | omega | assumption | (simp only [O1, World.size_alloc, World.size_setCell, World.size_drew]; first | done | omega)) only [↓G1, rgA_cons, rgA_nil, eq_self, ↓D1, ↓D3, ↓D4, List.not_mem_nil, not_false_eq_true, Bool.false_eq_true, false_imp_iff, upto, O1, D2, ↓H0, S0, ↓S1, ↓S2, ↓S3, ↓S4, S5, S5b, S5c, ↓S6, S6b, M0, E0, ty, tl, te, tc, i64_wrap, u64_wrap, iaV_sl, iaV_arr, faV_pa, nck_pa, heap_new, heap_old, heap_set, ↓reduceIte, Nat.reduceEqDiff, Nat.reduceLT, Nat.reduceAdd, Int.reduceLT, Int.reduceLE, decide_false, decide_true, dec_true, dec_false, true_and, and_true, true_imp_iff, Bool.not_true, Bool.not_false, Option.map_none, Int.reduceToNat, Int.toNat_zero, Int.toNat_one, lkV_false, lkV_true, hf, hbY]
        have hQl := lt_heap hbQ
        refine ⟨fun k t U => ∃ (i : Nat) (F : List (List Int)), k + i = g.prods.length ∧ RowW w U bx w.heap.size G G F ∧ F.length = g.names.length ∧ (∀ s : Nat, s < g.names.length → F[s]? = some (byUp us g.prods s i)) ∧
          U.heap[Q]? = some (.cells cb 130 (0, 0)) ∧ U.heap[B5]? = some (.cells #[.slice (some ⟨GG, 0, none⟩) g.names.length g.names.length] 53 (0, 0)) ∧ Go.V.Own Value.bool 4 U NG nl ∧ Go.V.Own Value.bool 4 U GG gl ∧
          t 1 = .slice WA word.length wc ∧ t 2 = pa (some ⟨w.heap.size, 0, none⟩) 0 ∧ t 5 = pa (some ⟨B5, 0, none⟩) 0 ∧ t 6 = pa (some ⟨Q, 0, none⟩) 0 ∧ t 46 = .slice C g.prods.length c ∧ t 47 = .int .i64 g.prods.length ∧ t 48 = .int .i64 i,
          ⟨g.prods.length, 0, _, by omega, hW, by simp, fun s hs => by simp [byUp, List.getElem?_replicate, hs], hbQ, hb5Y, hnY, hglY, ?_⟩, ?_⟩
        · simp (disch := first | (simp only [List.mem_cons, List.not_mem_nil, or_false, not_or, Nat.reduceEqDiff, not_false_eq_true, and_self]; done) | omega | assumption | (simp only [O1, World.size_alloc, World.size_setCell, World.size_drew]; first | done | omega)) only [↓G1, rgA_cons, rgA_nil, eq_self, ↓D1, ↓D3, ↓D4, List.not_mem_nil, not_false_eq_true, Bool.false_eq_true, false_imp_iff, upto, O1, D2, ↓H0, S0, ↓S1, ↓S2, ↓S3, ↓S4, S5, S5b, S5c, ↓S6, S6b, M0, E0, ty, tl, te, tc, i64_wrap, u64_wrap, iaV_sl, iaV_arr, faV_pa, nck_pa, heap_new, heap_old, heap_set, ↓reduceIte, Nat.reduceEqDiff, Nat.reduceLT, Nat.reduceAdd, Int.reduceLT, Int.reduceLE, decide_false, decide_true, dec_true, dec_false, true_and, and_true, true_imp_iff, Bool.not_true, Bool.not_false, Option.map_none, Int.reduceToNat, Int.toNat_zero, Int.toNat_one, lkV_false, lkV_true, hf] <;> first | rfl | exact ⟨rfl, rfl⟩ | skip
        clear hW hbQ hb5Y hnY hglY hf hbX hb5X hbY
        rintro k t U ⟨i, F, hk, hW, hFl, hF, hbQ, hb5U, hnU, hglU, f1, f2, f5, f6, f46, f47, f48⟩
        simp (disch := first | omega | assumption | (simp only [O1, World.size_alloc, World.size_setCell, World.size_drew]; first | done | omega)) only [O1, D2, ↓H0, S0, ↓S1, ↓S2, ↓S3, ↓S4, S5, S5b, S5c, ↓S6, S6b, M0, E0, ty, tl, te, tc, i64_wrap, u64_wrap, iaV_sl, iaV_arr, faV_pa, nck_pa, heap_new, heap_old, heap_set, ↓reduceIte, Nat.reduceEqDiff, Nat.reduceLT, Nat.reduceAdd, Int.reduceLT, Int.reduceLE, decide_false, decide_true, dec_true, dec_false, true_and, and_true, true_imp_iff, Bool.not_true, Bool.not_false, Option.map_none, Int.reduceToNat, Int.toNat_zero, Int.toNat_one, lkV_false, lkV_true, f1, f2, f5, f6, f46, f47, f48]
        refine Br_if (fun q => ?_) (fun q' => ?_) <;> (try simp (disch := first | omega | assumption | (simp only [O1, World.size_alloc, World.size_setCell, World.size_drew]; first | done | omega)) only [O1, D2, ↓H0, S0, ↓S1, ↓S2, ↓S3, ↓S4, S5, S5b, S5c, ↓S6, S6b, M0, E0, ty, tl, te, tc, i64_wrap, u64_wrap, iaV_sl, iaV_arr, faV_pa, nck_pa, heap_new, heap_old, heap_set, ↓reduceIte, Nat.reduceEqDiff, Nat.reduceLT, Nat.reduceAdd, Int.reduceLT, Int.reduceLE, decide_false, decide_true, dec_true, dec_false, true_and, and_true, true_imp_iff, Bool.not_true, Bool.not_false, Option.map_none, Int.reduceToNat, Int.toNat_zero, Int.toNat_one, lkV_false, lkV_true, f1, f2, f5, f6, f46, f47, f48])
        · have hi : i < g.prods.length := by omega
          obtain ⟨hl0, r, hr0, hR⟩ := hC i hi
          obtain ⟨D, d, rfl, hd, hD⟩ := hR
          have hl' := hW.ext.rd hl0
          have hr' := hW.ext.rd hr0
          have hAs := rd_isSome hl'
          have hmem : g.prods[i] ∈ g.prods := List.getElem_mem _
          have hgD := hD0 i hi
          generalize hp : g.prods[i] = p at *
          obtain ⟨⟨hp0, hp1⟩, hps⟩ := hin p hmem
          have hlen := hside p hmem
          have hU1 := (Ext.rfl' U).al (.cells #[.int .i64 p.1, .slice D p.2.length d] 35)
          have hW1 := hW.ext' hU1
          simp (disch := first | omega | assumption | (simp only [O1, World.size_alloc, World.size_setCell, World.size_drew]; first | done | omega)) only [O1, D2, ↓H0, S0, ↓S1, ↓S2, ↓S3, ↓S4, S5, S5b, S5c, ↓S6, S6b, M0, E0, ty, tl, te, tc, i64_wrap, u64_wrap, iaV_sl, iaV_arr, faV_pa, nck_pa, heap_new, heap_old, heap_set, ↓reduceIte, Nat.reduceEqDiff, Nat.reduceLT, Nat.reduceAdd, Int.reduceLT, Int.reduceLE, decide_false, decide_true, dec_true, dec_false, true_and, and_true, true_imp_iff, Bool.not_true, Bool.not_false, Option.map_none, Int.reduceToNat, Int.toNat_zero, Int.toNat_one, lkV_false, lkV_true, f1, f2, f5, f6, f46, f47, f48, hl', hr', ldA2, st35]
          have hbQ1 := hU1.hp hbQ
          have hb51 := hU1.hp hb5U
          have hn1U := hnU.ext hU1
          have hgl1 := hglU.ext hU1
          generalize hq : U.heap.size = q at *
          have hqb : (U.alloc (.cells #[.int .i64 p.1, .slice D p.2.length d] 35)).heap[q]? = some (.cells #[.int .i64 p.1, .slice D p.2.length d] 35 (0, 0)) := heap_new _ hq.symm
          generalize U.alloc (.cells #[.int .i64 p.1, .slice D p.2.length d] 35) = U1 at *
          clear hW hl' hr' hU1 hq hbQ hb5U hnU hglU
          have hglb : Bools U1 (.slice (some ⟨GG, 0, none⟩) g.names.length g.names.length) gl := by have := hgl1.sq; rw [hgll] at this; exact this
          refine (contains_on _ _ p.2 (fun s => decide (0 ≤ s) && !(gl.getD s.toNat false)) U1 ⟨D, d, rfl, hd, fun i hi => hW1.ext.rd (hD i hi)⟩ ⟨_, _, _, rfl, fun s hs => ?_⟩ (by omega)).then ?_
          · exact make2_ok s B5 _ gl U1 hb51 hglb (by rw [hgll]; exact hps s hs)
          rintro _ V1 ⟨rfl, rfl⟩
          have hue : p.2.any (fun s => decide (0 ≤ s) && !(gl.getD s.toNat false)) = !us p.2 := by rw [hus]; simp
          rw [hue]
          cases hu : us p.2 with
          | false =>
            simp (disch := first | omega | assumption | (simp only [O1, World.size_alloc, World.size_setCell, World.size_drew]; first | done | omega)) only [O1, D2, ↓H0, S0, ↓S1, ↓S2, ↓S3, ↓S4, S5, S5b, S5c, ↓S6, S6b, M0, E0, ty, tl, te, tc, i64_wrap, u64_wrap, iaV_sl, iaV_arr, faV_pa, nck_pa, heap_new, heap_old, heap_set, ↓reduceIte, Nat.reduceEqDiff, Nat.reduceLT, Nat.reduceAdd, Int.reduceLT, Int.reduceLE, decide_false, decide_true, dec_true, dec_false, true_and, and_true, true_imp_iff, Bool.not_true, Bool.not_false, Option.map_none, Int.reduceToNat, Int.toNat_zero, Int.toNat_one, lkV_false, lkV_true, f1, f2, f5, f6, f46, f47, f48]
            refine ⟨k - 1, by omega, i + 1, F, by omega, hW1, hFl, fun s hs => ?_, hbQ1, hb51, hn1U, hgl1, rfl⟩
            rw [hF s hs, byUp, hgD, hu]; simp
          | true =>
            simp (disch := first | omega | assumption | (simp only [O1, World.size_alloc, World.size_setCell, World.size_drew]; first | done | omega)) only [O1, D2, ↓H0, S0, ↓S1, ↓S2, ↓S3, ↓S4, S5, S5b, S5c, ↓S6, S6b, M0, E0, ty, tl, te, tc, i64_wrap, u64_wrap, iaV_sl, iaV_arr, faV_pa, nck_pa, heap_new, heap_old, heap_set, ↓reduceIte, Nat.reduceEqDiff, Nat.reduceLT, Nat.reduceAdd, Int.reduceLT, Int.reduceLE, decide_false, decide_true, dec_true, dec_false, true_and, and_true, true_imp_iff, Bool.not_true, Bool.not_false, Option.map_none, Int.reduceToNat, Int.toNat_zero, Int.toNat_one, lkV_false, lkV_true, f1, f2, f5, f6, f46, f47, f48]
            have hsF : p.1.toNat < F.length := by omega
            have hFx := hF p.1.toNat (by omega)
            rw [List.getElem?_eq_getElem hsF] at hFx
            simp only [Option.some.injEq] at hFx
            have hlF : F[p.1.toNat].length < 1000000000000 := by rw [hFx]; have := byUp_len (us := us) (ps := g.prods) (a := ((p.1.toNat : Nat) : Int)) (m := i); omega
            have hW' := hW1.ext' (Ext.rfl' V1).dr
            obtain ⟨u, hu1, hu1', hGu, hno, hpush⟩ := hW'.push2 p.1.toNat hsF hlF (i : Int)
            have hqd : V1.drew.heap[q]? = _ := hqb
            have hQd : V1.drew.heap[Q]? = _ := hbQ1
            have hqn := hno q _ _ _ (by decide) hqd
            have hQn := hno Q _ _ _ (by decide) hQd
            rw [hcb] at hbQ1 hQd
            refine Dr_plan u.ownBlock.toList (upto 18) [0, 1, 2, 3, 4, 5, 6, 7, 8, 9, 10, 11, 12, 13, 14, 15, 16, 17, 18] mixed (by kernel_rfl) ?_
            simp (disch := first | omega | assumption | (simp only [O1, World.size_alloc, World.size_setCell, World.size_drew]; first | done | omega)) only [↓D1, ↓D3, ↓D4, List.not_mem_nil, not_false_eq_true, Bool.false_eq_true, false_imp_iff, upto, O1, D2, ↓H0, S0, ↓S1, ↓S2, ↓S3, ↓S4, S5, S5b, S5c, ↓S6, S6b, M0, E0, ty, tl, te, tc, i64_wrap, u64_wrap, iaV_sl, iaV_arr, faV_pa, nck_pa, heap_new, heap_old, heap_set, ↓reduceIte, Nat.reduceEqDiff, Nat.reduceLT, Nat.reduceAdd, Int.reduceLT, Int.reduceLE, decide_false, decide_true, dec_true, dec_false, true_and, and_true, true_imp_iff, Bool.not_true, Bool.not_false, Option.map_none, Int.reduceToNat, Int.toNat_zero, Int.toNat_one, lkV_false, lkV_true, f1, f2, f5, f6, f46, f47, f48, hqb, hqd, hbQ1, hQd, hu1, hu1', hqn, hQn, hGu, bsl1 sl23]
            refine hpush _ _ fun v' Y2 hK hsz hxY2 hold hst hWn hkq => ?_
            have hq2 := (hkq q _ (by simp) (by simp) hqd).1
            have hQ2 := (hkq Q _ (by simp) (by simp) hQd)
            have h52 := (hkq B5 _ (by simp) (by simp) hb51).2
            have hn2' := (hkq NG _ (by simp) (by simp) hn1U).2
            have hg2' := (hkq GG _ (by simp) (by simp) hgl1).2
            simp (disch := first | omega | assumption | (simp only [O1, World.size_alloc, World.size_setCell, World.size_drew]; first | done | omega)) only [↓D1, ↓D3, ↓D4, List.not_mem_nil, not_false_eq_true, Bool.false_eq_true, false_imp_iff, upto, O1, D2, ↓H0, S0, ↓S1, ↓S2, ↓S3, ↓S4, S5, S5b, S5c, ↓S6, S6b, M0, E0, ty, tl, te, tc, i64_wrap, u64_wrap, iaV_sl, iaV_arr, faV_pa, nck_pa, heap_new, heap_old, heap_set, ↓reduceIte, Nat.reduceEqDiff, Nat.reduceLT, Nat.reduceAdd, Int.reduceLT, Int.reduceLE, decide_false, decide_true, dec_true, dec_false, true_and, and_true, true_imp_iff, Bool.not_true, Bool.not_false, Option.map_none, Int.reduceToNat, Int.toNat_zero, Int.toNat_one, lkV_false, lkV_true, f1, f2, f5, f6, f46, f47, f48, hK, hst, hq2, hQ2.1]
            refine ⟨k - 1, by omega, i + 1, _, by omega, hWn, by simpa using hFl, fun s hs => ?_, by rw [hcb]; exact hQ2.2, h52, hn2', hg2', rfl⟩
            rw [List.getElem?_set, byUp, hgD]
            by_cases e : p.1.toNat = s
            · subst e
              have e2 : ((p.1.toNat : Nat) : Int) = p.1 := by omega
              rw [if_pos rfl, if_pos hsF, hFx, e2]
              simp [hu]
            · have e2 : ¬ p.1 = (s : Int) := by omega
              rw [if_neg e, hF s hs]; simp [e2]
        · have hil : i = g.prods.length := by omega
          subst hil
          have husI : ∀ p ∈ g.prods, us p.2 = true ↔ Usable g.prods p.2 := by
            intro p hp
            rw [hus]
            simp only [Bool.not_eq_true', List.any_eq_false, Bool.and_eq_true, decide_eq_true_eq, Bool.not_eq_eq_eq_not, Bool.not_true, not_and, Bool.not_eq_false]
            refine ⟨fun h s hs h0 => ?_, fun h s hs h0 => ?_⟩
            · have h1 := h s hs h0
              have h2 := (hin p hp).2 s hs
              have h3 := (hGl.2 s.toNat (by omega)).1 (by rw [List.getD_eq_getElem?_getD] at h1; cases hq : gl[s.toNat]? with
                | none => rw [hq] at h1; simp at h1
                | some y => rw [hq] at h1; simpa using h1)
              rwa [Int.toNat_of_nonneg h0] at h3
            · have h2 := (hin p hp).2 s hs
              have h3 := (hGl.2 s.toNat (by omega)).2 (by rw [Int.toNat_of_nonneg h0]; exact h s hs h0)
              rw [List.getD_eq_getElem?_getD, h3]; rfl
          have hBy : ByOk g.prods g.names.length F := by
            refine ⟨hFl, fun s r hr => ?_⟩
            have hsl : s < g.names.length := by rw [← hFl]; exact (List.getElem?_eq_some_iff.1 hr).1
            rw [hF s hsl] at hr
            simp only [Option.some.injEq] at hr
            subst hr
            refine ⟨Nat.le_trans byUp_len hn2, fun j => ?_⟩
            rw [byUp_mem]
            constructor
            · rintro ⟨i, rfl, hi, h1, h2⟩
              rw [hD0 i hi] at h1 h2
              exact ⟨i, g.prods[i], rfl, List.getElem?_eq_getElem hi, h1, (husI _ (List.getElem_mem hi)).1 h2⟩
            · rintro ⟨j', q, rfl, hj, h1, h2⟩
              obtain ⟨hi, rfl⟩ := List.getElem?_eq_some_iff.1 hj
              exact ⟨j', rfl, hi, by rw [hD0 j' hi]; exact h1, by rw [hD0 j' hi]; exact (husI _ (List.getElem_mem hi)).2 h2⟩
          rw [hcb] at hbQ
          have hnll : nl.length = g.names.length := hTl.1
          have hC0 : Ctx w U g Q (.slice A g.names.length a) (.slice TA g.terms.length tcap) C c (.slice wA word.length wcap) G NG G w.heap.size nl F (.slice none 0 0) [] (!gb) := ⟨hW.ext, by rw [hFl, hnll]; exact hbQ, hW.rows, hnU, Row.nil _⟩
          clear hF hus husI
          simp (disch := first | omega | assumption | (simp only [O1, World.size_alloc, World.size_setCell, World.size_drew]; first | done | omega)) only [O1, D2, ↓H0, S0, ↓S1, ↓S2, ↓S3, ↓S4, S5, S5b, S5c, ↓S6, S6b, M0, E0, ty, tl, te, tc, i64_wrap, u64_wrap, iaV_sl, iaV_arr, faV_pa, nck_pa, heap_new, heap_old, heap_set, ↓reduceIte, Nat.reduceEqDiff, Nat.reduceLT, Nat.reduceAdd, Int.reduceLT, Int.reduceLE, decide_false, decide_true, dec_true, dec_false, true_and, and_true, true_imp_iff, Bool.not_true, Bool.not_false, Option.map_none, Int.reduceToNat, Int.toNat_zero, Int.toNat_one, lkV_false, lkV_true, f1, f2, f5, f6, f46, f47, f48, hbQ]
          have hlef : Lefts g.prods := fun p hp => (hin p hp).1.1
          cases gb with
          | false =>
            simp (disch := first | omega | assumption | (simp only [O1, World.size_alloc, World.size_setCell, World.size_drew]; first | done | omega)) only [O1, D2, ↓H0, S0, ↓S1, ↓S2, ↓S3, ↓S4, S5, S5b, S5c, ↓S6, S6b, M0, E0, ty, tl, te, tc, i64_wrap, u64_wrap, iaV_sl, iaV_arr, faV_pa, nck_pa, heap_new, heap_old, heap_set, ↓reduceIte, Nat.reduceEqDiff, Nat.reduceLT, Nat.reduceAdd, Int.reduceLT, Int.reduceLE, decide_false, decide_true, dec_true, dec_false, true_and, and_true, true_imp_iff, Bool.not_true, Bool.not_false, Option.map_none, Int.reduceToNat, Int.toNat_zero, Int.toNat_one, lkV_false, lkV_true, f1, f2, f5, f6, f46, f47, f48, hbQ]
            refine ⟨.inr ⟨hok, Q, rfl, w, _, _, C, c, wA, wcap, G, NG, G, w.heap.size, nl, F, _, [], _, [], hC0, hC, hok, rfl, by simp, by simp, by simp, .inr fun i d f' hI => ?_⟩, hW.ext⟩
            obtain ⟨v, hv⟩ := (it_viable hlef hst0.1 (Nat.zero_le _)).1 ⟨i, d, f', hI⟩
            have := hgs.2 (hv.gen _ (by simp) hst0.1)
            cases this
          | true =>
            have hgen := hgs.1 rfl
            have hQs := lt_heap hbQ
            obtain ⟨W0, hW0⟩ : ∃ W0, W0 = (U.alloc (.map #[] 0)).alloc (.cells #[.slice none 0 0, .map (some U.heap.size)] 135) := ⟨_, rfl⟩
            have hxU0 : Ext U W0 := by rw [hW0]; exact ((Ext.rfl' U).al _).al _
            have hS2 : SetR U.heap.size W0 (U.heap.size + 1) U.heap.size (.slice none 0 0) [] := by
              refine ⟨?_, Row3.nil W0, ?_, by omega, Nat.le_refl _⟩
              · rw [hW0]; exact heap_new _ (by simp)
              · have : MapF triV (U.alloc (.map #[] 0)) U.heap.size (fun _ => none) := MapF.new triV U
                have h2 := this.ext ((Ext.rfl' (U.alloc (.map #[] 0))).al (.cells #[.slice none 0 0, .map (some U.heap.size)] 135))
                rw [← hW0] at h2
                have e : memF [] = fun _ => none := by funext k; simp [memF]
                rw [e]; exact h2
            simp (disch := first | omega | assumption | (simp only [O1, World.size_alloc, World.size_setCell, World.size_drew]; first | done | omega)) only [O1, D2, ↓H0, S0, ↓S1, ↓S2, ↓S3, ↓S4, S5, S5b, S5c, ↓S6, S6b, M0, E0, ty, tl, te, tc, i64_wrap, u64_wrap, iaV_sl, iaV_arr, faV_pa, nck_pa, heap_new, heap_old, heap_set, ↓reduceIte, Nat.reduceEqDiff, Nat.reduceLT, Nat.reduceAdd, Int.reduceLT, Int.reduceLE, decide_false, decide_true, dec_true, dec_false, true_and, and_true, true_imp_iff, Bool.not_true, Bool.not_false, Option.map_none, Int.reduceToNat, Int.toNat_zero, Int.toNat_one, lkV_false, lkV_true, f1, f2, f5, f6, f46, f47, f48, hbQ, bd135_1]
            rw [← hW0]
            have hC1 := hC0.ext' hxU0
            have hbx1 := hxU0.hp (hbx ▸ hW.box)
            generalize hbase : U.heap.size = base at *
            have hwb : w.heap.size ≤ base := by have := hW.ext.size; omega
            clear hW hC0 hW0 hnU hglU hb5U
            have hsF : g.start.toNat < F.length := by omega
            obtain ⟨RA, rc, hr1, hr2, hr3⟩ := hC1.row hsF
            obtain ⟨hrl, hrm⟩ := hBy.2 g.start.toNat _ (List.getElem?_eq_getElem hsF)
            rw [Int.toNat_of_nonneg hst0.1] at hrm
            obtain ⟨r, hr⟩ : ∃ r, r = F[g.start.toNat] := ⟨_, rfl⟩
            have hrow : ∀ V, Ctx w V g Q (.slice A g.names.length a) (.slice TA g.terms.length tcap) C c (.slice wA word.length wcap) G NG G w.heap.size nl F (.slice none 0 0) [] (!true) → V.heap[G]? = W0.heap[G]? → ∀ i (h : i < r.length), rd V RA i = some (.int .i64 r[i]) := by
              intro V hV hG
              subst hr
              obtain ⟨RA', rc', g1, g2, g3⟩ := hV.row hsF
              rw [hG, hr1] at g1
              simp only [Option.some.injEq, Value.slice.injEq] at g1
              obtain ⟨rfl, _, rfl⟩ := g1
              exact g3
            rw [← hr] at hr1 hr2 hrl hrm
            clear hr hr3
            have hb1 := hC1.box
            have hb1d : W0.drew.heap[Q]? = _ := hb1
            have hbx1d : W0.drew.heap[w.heap.size]? = _ := hbx1
            have hr1d : cellO (W0.drew.heap[G]?) g.start.toNat = _ := hr1
            have hr2d := (Ext.rfl' W0).dr.rd hr2
            refine Dr_plan [] (fun _ => true) [0, 1, 2, 3, 4, 5, 6, 7, 8, 9] mixed (by kernel_rfl) ?_
            simp (disch := first | omega | assumption | (simp only [O1, World.size_alloc, World.size_setCell, World.size_drew]; first | done | omega)) only [↓D1, ↓D3, ↓D4, List.not_mem_nil, not_false_eq_true, Bool.false_eq_true, false_imp_iff, upto, O1, D2, ↓H0, S0, ↓S1, ↓S2, ↓S3, ↓S4, S5, S5b, S5c, ↓S6, S6b, M0, E0, ty, tl, te, tc, i64_wrap, u64_wrap, iaV_sl, iaV_arr, faV_pa, nck_pa, heap_new, heap_old, heap_set, ↓reduceIte, Nat.reduceEqDiff, Nat.reduceLT, Nat.reduceAdd, Int.reduceLT, Int.reduceLE, decide_false, decide_true, dec_true, dec_false, true_and, and_true, true_imp_iff, Bool.not_true, Bool.not_false, Option.map_none, Int.reduceToNat, Int.toNat_zero, Int.toNat_one, lkV_false, lkV_true, f1, f2, f5, f6, hb1, hb1d, hbx1, hbx1d, hr1, hr1d, hr2, hr2d]
            have hSd0 := hS2.ext (Ext.rfl' W0).dr
            have hCd0 := hC1.ext' (Ext.rfl' W0).dr
            refine ⟨fun k t V => ∃ (j : Nat) (lv2 : Value) (l2 : List Tri), k + j = r.length ∧ SetR base V (base + 1) base lv2 l2 ∧ SetG W0.drew V (base + 1) base (.slice none 0 0) lv2 ∧ (∀ x ∈ l2, ∃ i d f, x = tr i d f ∧ It g.prods g.start word 0 i d f) ∧ l2.Nodup ∧
              (∀ jx, jx < j → ∀ x, r[jx]? = some x → ∀ j', x = ((j' : Nat) : Int) → tr j' 0 0 ∈ l2) ∧
              t 1 = .slice WA word.length wc ∧ t 6 = pa (some ⟨Q, 0, none⟩) 0 ∧ t 9 = pa (some ⟨base + 1, 0, none⟩) 0 ∧ t 92 = .slice RA r.length rc ∧ t 93 = .int .i64 r.length ∧ t 94 = .int .i64 j,
              ⟨r.length, 0, _, [], rfl, hSd0, SetG.refl _ _ _ _, by simp, by simp, fun jx h => by omega, ?_⟩, ?_⟩
            · simp (disch := first | omega | assumption | (simp only [O1, World.size_alloc, World.size_setCell, World.size_drew]; first | done | omega)) only [O1, D2, ↓H0, S0, ↓S1, ↓S2, ↓S3, ↓S4, S5, S5b, S5c, ↓S6, S6b, M0, E0, ty, tl, te, tc, i64_wrap, u64_wrap, iaV_sl, iaV_arr, faV_pa, nck_pa, heap_new, heap_old, heap_set, ↓reduceIte, Nat.reduceEqDiff, Nat.reduceLT, Nat.reduceAdd, Int.reduceLT, Int.reduceLE, decide_false, decide_true, dec_true, dec_false, true_and, and_true, true_imp_iff, Bool.not_true, Bool.not_false, Option.map_none, Int.reduceToNat, Int.toNat_zero, Int.toNat_one, lkV_false, lkV_true, f1, f2, f5, f6] <;> rfl
            clear f1 f2 f5 f6 f46 f47 f48
            rintro k t V ⟨j, lv2, l2, hk2, hSV, hGV, hsn, hnd, hcj, f1, f6, f9, f92, f93, f94⟩
            have hCV := hCd0.set hSd0 hGV hwb
            have hGb : V.heap[G]? = W0.heap[G]? := by
              obtain ⟨vs, hq, _⟩ := hCd0.by_
              exact hGV.chg.block G (lt_heap hq) (hSd0.no hq (by decide) (by decide))
            have hrV := hrow V hCV hGb
            have hfew := items_few hlef hn2 hside hl hsn hnd
            simp (disch := first | omega | assumption | (simp only [O1, World.size_alloc, World.size_setCell, World.size_drew]; first | done | omega)) only [O1, D2, ↓H0, S0, ↓S1, ↓S2, ↓S3, ↓S4, S5, S5b, S5c, ↓S6, S6b, M0, E0, ty, tl, te, tc, i64_wrap, u64_wrap, iaV_sl, iaV_arr, faV_pa, nck_pa, heap_new, heap_old, heap_set, ↓reduceIte, Nat.reduceEqDiff, Nat.reduceLT, Nat.reduceAdd, Int.reduceLT, Int.reduceLE, decide_false, decide_true, dec_true, dec_false, true_and, and_true, true_imp_iff, Bool.not_true, Bool.not_false, Option.map_none, Int.reduceToNat, Int.toNat_zero, Int.toNat_one, lkV_false, lkV_true, f1, f6, f9, f92, f93, f94]
            refine Br_if (fun q2 => ?_) (fun q2' => ?_) <;> (try simp (disch := first | omega | assumption | (simp only [O1, World.size_alloc, World.size_setCell, World.size_drew]; first | done | omega)) only [O1, D2, ↓H0, S0, ↓S1, ↓S2, ↓S3, ↓S4, S5, S5b, S5c, ↓S6, S6b, M0, E0, ty, tl, te, tc, i64_wrap, u64_wrap, iaV_sl, iaV_arr, faV_pa, nck_pa, heap_new, heap_old, heap_set, ↓reduceIte, Nat.reduceEqDiff, Nat.reduceLT, Nat.reduceAdd, Int.reduceLT, Int.reduceLE, decide_false, decide_true, dec_true, dec_false, true_and, and_true, true_imp_iff, Bool.not_true, Bool.not_false, Option.map_none, Int.reduceToNat, Int.toNat_zero, Int.toNat_one, lkV_false, lkV_true, f1, f6, f9, f92, f93, f94])
            · have hj : j < r.length := by omega
              have c1 := hrV j hj
              have c1s := rd_isSome c1
              obtain ⟨j', q, hj', hq1, hq2, hq3⟩ := (hrm r[j]).1 (List.getElem_mem hj)
              rw [hj'] at c1
              simp (disch := first | omega | assumption | (simp only [O1, World.size_alloc, World.size_setCell, World.size_drew]; first | done | omega)) only [O1, D2, ↓H0, S0, ↓S1, ↓S2, ↓S3, ↓S4, S5, S5b, S5c, ↓S6, S6b, M0, E0, ty, tl, te, tc, i64_wrap, u64_wrap, iaV_sl, iaV_arr, faV_pa, nck_pa, heap_new, heap_old, heap_set, ↓reduceIte, Nat.reduceEqDiff, Nat.reduceLT, Nat.reduceAdd, Int.reduceLT, Int.reduceLE, decide_false, decide_true, dec_true, dec_false, true_and, and_true, true_imp_iff, Bool.not_true, Bool.not_false, Option.map_none, Int.reduceToNat, Int.toNat_zero, Int.toNat_one, lkV_false, lkV_true, f1, f6, f9, f92, f93, f94, c1, bd138_0]
              have hItn : It g.prods g.start word 0 j' 0 0 := .init hq1 hq2 hq3
              refine (add_ok base (base + 1) base lv2 l2 (tr j' 0 0) V hSV (by omega) (by have := (hSV.lt _ (.inl rfl)); omega)).then ?_
              rintro _ V4 ⟨lv4, hSV4, hGV4⟩
              simp (disch := first | omega | assumption | (simp only [O1, World.size_alloc, World.size_setCell, World.size_drew]; first | done | omega)) only [O1, D2, ↓H0, S0, ↓S1, ↓S2, ↓S3, ↓S4, S5, S5b, S5c, ↓S6, S6b, M0, E0, ty, tl, te, tc, i64_wrap, u64_wrap, iaV_sl, iaV_arr, faV_pa, nck_pa, heap_new, heap_old, heap_set, ↓reduceIte, Nat.reduceEqDiff, Nat.reduceLT, Nat.reduceAdd, Int.reduceLT, Int.reduceLE, decide_false, decide_true, dec_true, dec_false, true_and, and_true, true_imp_iff, Bool.not_true, Bool.not_false, Option.map_none, Int.reduceToNat, Int.toNat_zero, Int.toNat_one, lkV_false, lkV_true, f1, f6, f9, f92, f93, f94]
              refine ⟨k - 1, by omega, j + 1, lv4, _, by omega, hSV4, hGV.tr hGV4, fun x hx => ?_, addL_nodup hnd, fun jx hjx x hx jj hjj => ?_, rfl⟩
              · rcases mem_addL.1 hx with hx | rfl
                · exact hsn x hx
                · exact ⟨j', 0, 0, rfl, hItn⟩
              · by_cases e : jx = j
                · subst e
                  rw [List.getElem?_eq_getElem hj, hj'] at hx
                  simp only [Option.some.injEq] at hx
                  have : j' = jj := by omega
                  subst this
                  exact mem_addL.2 (.inr rfl)
                · exact mem_addL.2 (.inl (hcj jx (by omega) x hx jj hjj))
            · have hj : j = r.length := by omega
              subst hj
              have hB0 : Base g.prods g.start word 0 [] l2 := by
                refine ⟨fun _ i p h1 h2 h3 => ?_, fun k' h => by omega⟩
                obtain ⟨jx, hjx, he⟩ := List.mem_iff_getElem.1 ((hrm (i : Int)).2 ⟨i, p, rfl, h1, h2, h3⟩)
                exact hcj jx hjx _ (List.getElem?_eq_getElem hjx) i he
              have hI0 : ClI g.prods g.start word 0 [] l2 0 := ⟨hsn, hnd, Nat.zero_le _, fun i d f p h => by simp at h⟩
              have hne0 : ∃ i d f', It g.prods g.start word 0 i d f' := by
                obtain ⟨u, hu⟩ := gen_dv hlef hgen
                exact (it_viable hlef hst0.1 (Nat.zero_le _)).2 ⟨u, by simpa using hu⟩
              have hbV : base ≤ V.heap.size := by have := (hSV.lt _ (.inl rfl)); omega
              clear hrm hrow hrV hcj hsn hnd hfew hr1 hr1d hr2 hr2d hC1 hb1 hb1d hbx1 hbx1d hGb
              refine ⟨fun k t V => ∃ (i base S m : Nat) (sv lv : Value) (Sb : List Nat) (L : List (List Tri)) (l : List Tri), k + i = word.length + 1 ∧ i ≤ word.length ∧ Ctx w V g Q (.slice A g.names.length a) (.slice TA g.terms.length tcap) C c (.slice wA word.length wcap) G NG G w.heap.size nl F sv Sb false ∧ Sb.length = i ∧ L.length = i ∧
                (∀ (f b : Nat) (l : List Tri), Sb[f]? = some b → L[f]? = some l → SetFin base V b l ∧ SetOk g.prods g.start word f l ∧ l.Nodup) ∧ SetR base V S m lv l ∧ w.heap.size ≤ base ∧ ClI g.prods g.start word i L l 0 ∧ Base g.prods g.start word i L l ∧ (∀ f, f ≤ i → ∃ i d f', It g.prods g.start word f i d f') ∧
                t 1 = .slice WA word.length wc ∧ t 6 = pa (some ⟨Q, 0, none⟩) 0 ∧ t 9 = pa (some ⟨S, 0, none⟩) 0 ∧ t 12 = .int .i64 i,
                ⟨word.length + 1, 0, base, base + 1, base, _, lv2, [], [], l2, rfl, Nat.zero_le _, hCV, rfl, rfl, fun f b l h => by simp at h, hSV, hwb, hI0, hB0, fun f hf => (show f = 0 by omega) ▸ hne0, ?_⟩, ?_⟩
              · simp (disch := first | omega | assumption | (simp only [O1, World.size_alloc, World.size_setCell, World.size_drew]; first | done | omega)) only [O1, D2, ↓H0, S0, ↓S1, ↓S2, ↓S3, ↓S4, S5, S5b, S5c, ↓S6, S6b, M0, E0, ty, tl, te, tc, i64_wrap, u64_wrap, iaV_sl, iaV_arr, faV_pa, nck_pa, heap_new, heap_old, heap_set, ↓reduceIte, Nat.reduceEqDiff, Nat.reduceLT, Nat.reduceAdd, Int.reduceLT, Int.reduceLE, decide_false, decide_true, dec_true, dec_false, true_and, and_true, true_imp_iff, Bool.not_true, Bool.not_false, Option.map_none, Int.reduceToNat, Int.toNat_zero, Int.toNat_one, lkV_false, lkV_true, f1, f6, f9] <;> rfl
              clear f1 f6 f9 f92 f93 f94 hCV hSV hGV hI0 hB0 hne0 hwb hbV hk2 hSd0 hCd0 hS2 hxU0
              rintro k t V ⟨i, base, S, m, sv, lv, Sb, L, l, hk2, hiw, hCV, hSbl, hLl, hfin, hSV, hwb, hI, hB, hne, f1, f6, f9, f12⟩
              have hbox := hCV.box
              have hVs := (hSV.lt _ (.inl rfl)).2
              have hwQ : w.heap.size ≤ Q := by have := hxX.size; omega
              simp (disch := first | omega | assumption | (simp only [O1, World.size_alloc, World.size_setCell, World.size_drew]; first | done | omega)) only [O1, D2, ↓H0, S0, ↓S1, ↓S2, ↓S3, ↓S4, S5, S5b, S5c, ↓S6, S6b, M0, E0, ty, tl, te, tc, i64_wrap, u64_wrap, iaV_sl, iaV_arr, faV_pa, nck_pa, heap_new, heap_old, heap_set, ↓reduceIte, Nat.reduceEqDiff, Nat.reduceLT, Nat.reduceAdd, Int.reduceLT, Int.reduceLE, decide_false, decide_true, dec_true, dec_false, true_and, and_true, true_imp_iff, Bool.not_true, Bool.not_false, Option.map_none, Int.reduceToNat, Int.toNat_zero, Int.toNat_one, lkV_false, lkV_true, f1, f6, f9, f12, hbox, bsl1 sl128]
              refine RunA_row2 (enc := encP) (x := S) sl128 hCV.sts rfl (by omega) (by omega) (by have := hCV.ext.size; omega) ?_
              intro sv' Y hR' hg1 hsz hown hg2
              obtain ⟨hst, hCY, M, hcY, hMY⟩ := hCV.push hwQ (Nat.le_refl _) hR' hg1
              have hboxY : Y.heap[Q]? = _ := (hg1.block Q (lt_heap hbox) (fun e => hCV.sts.ne hbox (by decide) e.symm)).trans hbox
              simp (disch := first | omega | assumption | (simp only [O1, World.size_alloc, World.size_setCell, World.size_drew]; first | done | omega)) only [O1, D2, ↓H0, S0, ↓S1, ↓S2, ↓S3, ↓S4, S5, S5b, S5c, ↓S6, S6b, M0, E0, ty, tl, te, tc, i64_wrap, u64_wrap, iaV_sl, iaV_arr, faV_pa, nck_pa, heap_new, heap_old, heap_set, ↓reduceIte, Nat.reduceEqDiff, Nat.reduceLT, Nat.reduceAdd, Int.reduceLT, Int.reduceLE, decide_false, decide_true, dec_true, dec_false, true_and, and_true, true_imp_iff, Bool.not_true, Bool.not_false, Option.map_none, Int.reduceToNat, Int.toNat_zero, Int.toNat_one, lkV_false, lkV_true, f1, f6, f9, f12, hst]
              have hSY := hSV.chgT hcY fun k hk => by
                obtain ⟨cs, t, f, h1, h2⟩ := hMY k hk
                exact ⟨cs, t, f, h1, by rcases h2 with rfl | rfl <;> decide, by rcases h2 with rfl | rfl <;> decide⟩
              have hfinY : ∀ (f b : Nat) (l : List Tri), Sb[f]? = some b → L[f]? = some l → SetFin base (Y.setCell ⟨Q, 8, none⟩ sv') b l := fun f b l h1 h2 => (hfin f b l h1 h2).1.chg hcY fun k _ hk => by
                obtain ⟨cs, t, f, h1, h2⟩ := hMY k hk
                exact ⟨cs, t, f, h1, by rcases h2 with rfl | rfl <;> decide, by rcases h2 with rfl | rfl <;> decide⟩
              have hsY : base ≤ (Y.setCell ⟨Q, 8, none⟩ sv').heap.size := by have := hg1.size; have := (hSV.lt _ (.inl rfl)).1; simp; omega
              generalize Y.setCell ⟨Q, 8, none⟩ sv' = Z at *
              refine (closeE_ok w Z g Q _ _ C c _ G NG _ _ nl F sv' (Sb ++ [S]) false word base S m i lv l L hCY hC hS hTl hBy hl hiw hLl (by simp [hSbl]) (by rw [List.getElem?_append_right (by omega), hSbl, Nat.sub_self]; rfl) (fun f b lf h1 h2 => ?_) (fun f hf => ?_) hSY hwb hsY hI hB).then ?_
              · have hfl : f < L.length := (List.getElem?_eq_some_iff.1 h2).1
                rw [List.getElem?_append_left (by omega)] at h1
                exact hfinY f b lf h1 h2
              · have hfl : f < L.length := by omega
                have hfs : f < Sb.length := by omega
                have := hfin f _ _ (List.getElem?_eq_getElem hfs) (List.getElem?_eq_getElem hfl)
                exact ⟨_, List.getElem?_eq_getElem hfl, this.2⟩
              rintro _ Z2 ⟨lv', l', hS3, hG3, hok3, hnd3, hsub3⟩
              have hC3 := hCY.set hSY hG3 hwb
              have hfin3 : ∀ (f b : Nat) (lf : List Tri), (Sb ++ [S])[f]? = some b → (L ++ [l'])[f]? = some lf → SetFin Z2.heap.size Z2 b lf ∧ SetOk g.prods g.start word f lf ∧ lf.Nodup := by
                intro f b lf h1 h2
                by_cases e : f < i
                · rw [List.getElem?_append_left (by omega)] at h1 h2
                  have := hfin f b lf h1 h2
                  exact ⟨((hfinY f b lf h1 h2).set hSY (Nat.le_refl _) hG3).mono (by have := (hS3.lt _ (.inl rfl)); omega), this.2⟩
                · have e2 : f = i := by have := (List.getElem?_eq_some_iff.1 h2).1; simp at this; omega
                  subst e2
                  rw [List.getElem?_append_right (by omega), hSbl, Nat.sub_self] at h1
                  rw [List.getElem?_append_right (by omega), hLl, Nat.sub_self] at h2
                  simp at h1 h2
                  subst h1 h2
                  exact ⟨⟨base, m, lv', hS3, fun k hk => (hS3.lt k hk).2⟩, hok3, hnd3⟩
              clear hfin hfinY
              have hend : (L.length + 1 = word.length + 1 ∨ ∀ i d f', ¬ It g.prods g.start word (L.length + 1) i d f') → ∀ V, Ext Z2 V → ChartOk V Q g word := by
                intro hh V hx
                refine ⟨w, _, _, C, c, wA, wcap, G, NG, G, w.heap.size, nl, F, sv', Sb ++ [S], false, L ++ [l'], hC3.ext' hx, hC, hok, by simp [hSbl, hLl], by simp; omega, fun f b lf h1 h2 => ?_, fun f hf => hne f (by simp at hf; omega), by simpa using hh⟩
                have := hfin3 f b lf h1 h2
                exact ⟨(this.1.ext hx).mono hx.size, this.2⟩
              simp (disch := first | omega | assumption | (simp only [O1, World.size_alloc, World.size_setCell, World.size_drew]; first | done | omega)) only [O1, D2, ↓H0, S0, ↓S1, ↓S2, ↓S3, ↓S4, S5, S5b, S5c, ↓S6, S6b, M0, E0, ty, tl, te, tc, i64_wrap, u64_wrap, iaV_sl, iaV_arr, faV_pa, nck_pa, heap_new, heap_old, heap_set, ↓reduceIte, Nat.reduceEqDiff, Nat.reduceLT, Nat.reduceAdd, Int.reduceLT, Int.reduceLE, decide_false, decide_true, dec_true, dec_false, true_and, and_true, true_imp_iff, Bool.not_true, Bool.not_false, Option.map_none, Int.reduceToNat, Int.toNat_zero, Int.toNat_one, lkV_false, lkV_true, f1, f6, f9, f12]
              refine Br_if (fun q5 => ?_) (fun q5' => ?_) <;> (try simp (disch := first | omega | assumption | (simp only [O1, World.size_alloc, World.size_setCell, World.size_drew]; first | done | omega)) only [O1, D2, ↓H0, S0, ↓S1, ↓S2, ↓S3, ↓S4, S5, S5b, S5c, ↓S6, S6b, M0, E0, ty, tl, te, tc, i64_wrap, u64_wrap, iaV_sl, iaV_arr, faV_pa, nck_pa, heap_new, heap_old, heap_set, ↓reduceIte, Nat.reduceEqDiff, Nat.reduceLT, Nat.reduceAdd, Int.reduceLT, Int.reduceLE, decide_false, decide_true, dec_true, dec_false, true_and, and_true, true_imp_iff, Bool.not_true, Bool.not_false, Option.map_none, Int.reduceToNat, Int.toNat_zero, Int.toNat_one, lkV_false, lkV_true, f1, f6, f9, f12])
              · exact ⟨.inr ⟨hok, Q, rfl, hend (.inl (by omega)) _ (Ext.rfl' _)⟩, hC3.ext⟩
              · have hil : i < word.length := by omega
                have w1 := hC3.ext.rd (hWA i hil)
                have w1s := rd_isSome w1
                have hwi : word[i]? = some word[i] := List.getElem?_eq_getElem hil
                have htr := hok.2.2 _ (List.getElem_mem hil)
                generalize word[i] = tt at *
                have hnt := hS.2.1.1
                simp (disch := first | omega | assumption | (simp only [O1, World.size_alloc, World.size_setCell, World.size_drew]; first | done | omega)) only [O1, D2, ↓H0, S0, ↓S1, ↓S2, ↓S3, ↓S4, S5, S5b, S5c, ↓S6, S6b, M0, E0, ty, tl, te, tc, i64_wrap, u64_wrap, iaV_sl, iaV_arr, faV_pa, nck_pa, heap_new, heap_old, heap_set, ↓reduceIte, Nat.reduceEqDiff, Nat.reduceLT, Nat.reduceAdd, Int.reduceLT, Int.reduceLE, decide_false, decide_true, dec_true, dec_false, true_and, and_true, true_imp_iff, Bool.not_true, Bool.not_false, Option.map_none, Int.reduceToNat, Int.toNat_zero, Int.toNat_one, lkV_false, lkV_true, f1, f6, f9, f12, w1]
                refine (scanE_ok w Z2 g Q _ _ C c _ G NG _ _ nl F sv' (Sb ++ [S]) false word base S m i lv' l' L tt hC3 hC hS hl hwi htr.1 (by omega) hLl hS3 hok3 hnd3).then ?_
                rintro _ Z3 ⟨sb2, m2, lv2, l2, rfl, hS4, hx4, hI4, hB4⟩
                have hbox4 := hS4.box
                obtain ⟨OA, oc, rfl, _, _⟩ := hS4.row.tris
                simp (disch := first | omega | assumption | (simp only [O1, World.size_alloc, World.size_setCell, World.size_drew]; first | done | omega)) only [O1, D2, ↓H0, S0, ↓S1, ↓S2, ↓S3, ↓S4, S5, S5b, S5c, ↓S6, S6b, M0, E0, ty, tl, te, tc, i64_wrap, u64_wrap, iaV_sl, iaV_arr, faV_pa, nck_pa, heap_new, heap_old, heap_set, ↓reduceIte, Nat.reduceEqDiff, Nat.reduceLT, Nat.reduceAdd, Int.reduceLT, Int.reduceLE, decide_false, decide_true, dec_true, dec_false, true_and, and_true, true_imp_iff, Bool.not_true, Bool.not_false, Option.map_none, Int.reduceToNat, Int.toNat_zero, Int.toNat_one, lkV_false, lkV_true, f1, f6, f9, f12, hbox4]
                have hLs' : ∀ f, f < i + 1 → ∃ lf, (L ++ [l'])[f]? = some lf ∧ SetOk g.prods g.start word f lf := fun f hf => by
                  have h1 : f < (L ++ [l']).length := by simp; omega
                  have h2 : f < (Sb ++ [S]).length := by simp; omega
                  exact ⟨_, List.getElem?_eq_getElem h1, (hfin3 f _ _ (List.getElem?_eq_getElem h2) (List.getElem?_eq_getElem h1)).2.1⟩
                cases l2 with
                | nil =>
                  simp (disch := first | omega | assumption | (simp only [O1, World.size_alloc, World.size_setCell, World.size_drew]; first | done | omega)) only [O1, D2, ↓H0, S0, ↓S1, ↓S2, ↓S3, ↓S4, S5, S5b, S5c, ↓S6, S6b, M0, E0, ty, tl, te, tc, i64_wrap, u64_wrap, iaV_sl, iaV_arr, faV_pa, nck_pa, heap_new, heap_old, heap_set, ↓reduceIte, Nat.reduceEqDiff, Nat.reduceLT, Nat.reduceAdd, Int.reduceLT, Int.reduceLE, decide_false, decide_true, dec_true, dec_false, true_and, and_true, true_imp_iff, Bool.not_true, Bool.not_false, Option.map_none, Int.reduceToNat, Int.toNat_zero, Int.toNat_one, lkV_false, lkV_true, f1, f6, f9, f12, List.length_nil]
                  have hno := hI4.done hlef hB4 hLs'
                  exact ⟨.inr ⟨hok, Q, rfl, hend (.inr fun ii dd ff hI => by
                    rw [hLl] at hI
                    have := hno.iff.2 hI
                    simp at this) _ hx4⟩, hC3.ext.tr hx4⟩
                | cons x l2 =>
                  have d2 : decide ((((x :: l2).length : Nat) : Int) = 0) = false := decide_eq_false (by simp; omega)
                  simp (disch := first | omega | assumption | (simp only [O1, World.size_alloc, World.size_setCell, World.size_drew]; first | done | omega)) only [O1, D2, ↓H0, S0, ↓S1, ↓S2, ↓S3, ↓S4, S5, S5b, S5c, ↓S6, S6b, M0, E0, ty, tl, te, tc, i64_wrap, u64_wrap, iaV_sl, iaV_arr, faV_pa, nck_pa, heap_new, heap_old, heap_set, ↓reduceIte, Nat.reduceEqDiff, Nat.reduceLT, Nat.reduceAdd, Int.reduceLT, Int.reduceLE, decide_false, decide_true, dec_true, dec_false, true_and, and_true, true_imp_iff, Bool.not_true, Bool.not_false, Option.map_none, Int.reduceToNat, Int.toNat_zero, Int.toNat_one, lkV_false, lkV_true, f1, f6, f9, f12, d2]
                  refine ⟨k - 1, by omega, i + 1, Z2.heap.size, sb2, m2, sv', _, Sb ++ [S], L ++ [l'], x :: l2, by omega, by omega, hC3.ext' hx4, by simp [hSbl], by simp [hLl], fun f b lf h1 h2 => ?_, hS4, hC3.ext.size, hI4, hB4, fun f hf => ?_, rfl, rfl⟩
                  · have := hfin3 f b lf h1 h2
                    exact ⟨this.1.ext hx4, this.2⟩
                  · by_cases e : f ≤ i
                    · exact hne f e
                    · obtain rfl : f = i + 1 := by omega
                      obtain ⟨i', d', f', _, hI⟩ := hI4.snd x (by simp)
                      exact ⟨i', d', f', hI⟩
end Go.Proofs.Ytgioklmpnbnplaa
