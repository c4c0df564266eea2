/- The walks of a chart's Good, Next, Ends, Yes. Conditions: none. -/
import Derived.Test.YtgioklmpnbnplaaEm
set_option linter.unusedSimpArgs false
set_option linter.unusedVariables false
set_option maxRecDepth 100000
namespace Go.Proofs.Ytgioklmpnbnplaa
open Go.V Go.RowKit

/-- The value of a word's chart, or nil, where there is none. -/
def ChartV (w : World) (v : Value) (g : PG) (word : List Int) : Prop := (¬ OkW g word ∧ v = .pointer none) ∨ (OkW g word ∧ ∃ Q, v = pa (some ⟨Q, 0, none⟩) 0 ∧ ChartOk w Q g word)
theorem ChartOk.ext {w w' : World} {Q : Nat} {g : PG} {word : List Int} (h : ChartOk w Q g word) (hx : Ext w w') : ChartOk w' Q g word := by
  obtain ⟨wE, nv, tv, C, c, wA, wc, G, NG, b0, bs, ln, F, sv, Sb, e, L, h1, h2, h3, h4, h5, h6, h7, h8⟩ := h
  exact ⟨wE, nv, tv, C, c, wA, wc, G, NG, b0, bs, ln, F, sv, Sb, e, L, h1.ext' hx, h2, h3, h4, h5, fun f b l a b' => ⟨((h6 f b l a b').1.ext hx).mono hx.size, (h6 f b l a b').2⟩, h7, h8⟩
theorem ChartV.ext {w w' : World} {v : Value} {g : PG} {word : List Int} (h : ChartV w v g word) (hx : Ext w w') : ChartV w' v g word :=
  h.imp id fun ⟨h1, Q, h2, h3⟩ => ⟨h1, Q, h2, h3.ext hx⟩
/-- So many terminals are the beginning of a word. -/
def Begs (g : PG) (word : List Int) (k : Nat) : Prop := ∃ v, Dv g.prods [g.start] (word.take k ++ v)
/-- How many terminals are a beginning. -/
def GoodP (g : PG) (word : List Int) (n : Int) : Prop := (¬ OkW g word ∧ n = -1) ∨ (OkW g word ∧ -1 ≤ n ∧ n ≤ word.length ∧ ∀ k : Nat, k ≤ word.length → ((k : Int) ≤ n ↔ Begs g word k))
theorem OkW.lefts {g : PG} {word : List Int} (h : OkW g word) : Lefts g.prods := fun p hp => (h.1.inR p hp).1.1
theorem OkW.start {g : PG} {word : List Int} (h : OkW g word) : 0 ≤ g.start := h.1.2.1.2.2.2.1
theorem Begs.mono {g : PG} {word : List Int} {j k : Nat} (h : Begs g word k) (hj : j ≤ k) : Begs g word j := by
  obtain ⟨v, hv⟩ := h
  rw [take_split hj, List.append_assoc] at hv
  exact ⟨_, hv⟩
theorem good_of {g : PG} {word : List Int} (hok : OkW g word) {m : Nat} (h1 : m ≤ word.length + 1) (h2 : ∀ f, f < m → ∃ i d f', It g.prods g.start word f i d f') (h3 : m = word.length + 1 ∨ ∀ i d f', ¬ It g.prods g.start word m i d f') : GoodP g word ((m : Int) - 1) := by
  refine .inr ⟨hok, by omega, by omega, fun k hk => ⟨fun h => ?_, fun h => ?_⟩⟩
  · exact (it_viable hok.lefts hok.start hk).1 (h2 k (by omega))
  · rcases h3 with h3 | h3
    · omega
    · by_cases e : m ≤ k
      · obtain ⟨i, d, f', hI⟩ := (it_viable hok.lefts hok.start (by omega)).2 (h.mono e)
        exact absurd hI (h3 i d f')
      · omega
theorem goodE_ok (v : Value) (g : PG) (word : List Int) (w : World) (h : ChartV w v g word) :
    Ok Try.prog 46 #[v] w fun u w' => (∃ n, u = .int .i64 n ∧ GoodP g word n) ∧ w' = w := by
  (refine Ok.enter Try.func46 rfl (by kernel_rfl) (Nat.le_of_ble_eq_true rfl) ?_; simp only [Try.f46, S7])
  rcases h with ⟨h1, rfl⟩ | ⟨h1, Q, rfl, h2⟩
  · simp (disch := first | omega | assumption | (simp only [O1, World.size_alloc, World.size_setCell, World.size_drew]; first | done | omega)) only [O1, D2, ↓H0, S0, ↓S1, ↓S2, ↓S3, ↓S4, S5, S5b, S5c, ↓S6, S6b, M0, E0, ty, tl, te, tc, i64_wrap, u64_wrap, iaV_sl, iaV_arr, faV_pa, nck_pa, heap_new, heap_old, heap_set, ↓reduceIte, Nat.reduceEqDiff, Nat.reduceLT, Nat.reduceAdd, Int.reduceLT, Int.reduceLE, decide_false, decide_true, dec_true, dec_false, true_and, and_true, true_imp_iff, Bool.not_true, Bool.not_false, Option.map_none, Int.reduceToNat, Int.toNat_zero, Int.toNat_one, lkV_false, lkV_true, Option.isNone]
    exact ⟨_, rfl, .inl ⟨h1, rfl⟩⟩
  · obtain ⟨wE, nv, tv, C, c, wA, wc, G, NG, b0, bs, ln, F, sv, Sb, e, L, hC, hP, hok, hl, hlw, hfin, hne, hlast⟩ := h2
    obtain ⟨SA, sc, rfl, hsc, hSA⟩ := hC.sts.sq
    have hb := hC.box
    have h64 := hok.2.1
    simp (disch := first | omega | assumption | (simp only [O1, World.size_alloc, World.size_setCell, World.size_drew]; first | done | omega)) only [O1, D2, ↓H0, S0, ↓S1, ↓S2, ↓S3, ↓S4, S5, S5b, S5c, ↓S6, S6b, M0, E0, ty, tl, te, tc, i64_wrap, u64_wrap, iaV_sl, iaV_arr, faV_pa, nck_pa, heap_new, heap_old, heap_set, ↓reduceIte, Nat.reduceEqDiff, Nat.reduceLT, Nat.reduceAdd, Int.reduceLT, Int.reduceLE, decide_false, decide_true, dec_true, dec_false, true_and, and_true, true_imp_iff, Bool.not_true, Bool.not_false, Option.map_none, Int.reduceToNat, Int.toNat_zero, Int.toNat_one, lkV_false, lkV_true, Option.isNone, hb]
    rw [hl]
    exact ⟨_, rfl, good_of hok hlw hne hlast⟩
/-- A function value that answers a test of a row's items. -/
def TestsI (f : Value) (p : Tri → Bool) (l : List Tri) (w : World) : Prop := ∃ g b c, f = .func (.func g) b c ∧ ∀ W, Ext w W → ∀ x ∈ l, Ok Try.prog g (b ++ #[triV x] ++ c) W fun v w' => v = .bool (p x) ∧ Ext W w'
theorem iindex_ok (v f : Value) (l : List Tri) (p : Tri → Bool) (w : World) (hl : Tris w v l) (hf : TestsI f p l w) (hn : l.length ≤ 1000000000) :
    Ok Try.prog 139 #[v, f] w fun v w' => v = .int .i64 (match l.findIdx? p with | some i => (i : Int) | none => -1) ∧ Ext w w' := by
  obtain ⟨A, c, rfl, hc, hA⟩ := hl
  obtain ⟨g, fb, fc, rfl, hf⟩ := hf
  (refine Ok.enter Try.func139 rfl (by kernel_rfl) (Nat.le_of_ble_eq_true rfl) ?_; simp only [Try.f139, S7])
  simp (disch := first | omega | assumption | (simp only [O1, World.size_alloc, World.size_setCell, World.size_drew]; first | done | omega)) only [O1, D2, ↓H0, S0, ↓S1, ↓S2, ↓S3, ↓S4, S5, S5b, S5c, ↓S6, S6b, M0, E0, ty, tl, te, tc, i64_wrap, u64_wrap, iaV_sl, iaV_arr, faV_pa, nck_pa, heap_new, heap_old, heap_set, ↓reduceIte, Nat.reduceEqDiff, Nat.reduceLT, Nat.reduceAdd, Int.reduceLT, Int.reduceLE, decide_false, decide_true, dec_true, dec_false, true_and, and_true, true_imp_iff, Bool.not_true, Bool.not_false, Option.map_none, Int.reduceToNat, Int.toNat_zero, Int.toNat_one, lkV_false, lkV_true]
  refine ⟨fun k t W => ∃ i : Nat, k + i = l.length ∧ (∀ j (h : j < l.length), j < i → p l[j] = false) ∧ Ext w W ∧ t 0 = .slice A l.length c ∧ t 1 = .func (.func g) fb fc ∧ t 7 = .int .i64 l.length ∧ t 8 = .int .i64 i, ⟨l.length, 0, by omega, fun j _ h => by omega, Ext.rfl' w, ?_⟩, ?_⟩
  · simp (disch := first | omega | assumption | (simp only [O1, World.size_alloc, World.size_setCell, World.size_drew]; first | done | omega)) only [O1, D2, ↓H0, S0, ↓S1, ↓S2, ↓S3, ↓S4, S5, S5b, S5c, ↓S6, S6b, M0, E0, ty, tl, te, tc, i64_wrap, u64_wrap, iaV_sl, iaV_arr, faV_pa, nck_pa, heap_new, heap_old, heap_set, ↓reduceIte, Nat.reduceEqDiff, Nat.reduceLT, Nat.reduceAdd, Int.reduceLT, Int.reduceLE, decide_false, decide_true, dec_true, dec_false, true_and, and_true, true_imp_iff, Bool.not_true, Bool.not_false, Option.map_none, Int.reduceToNat, Int.toNat_zero, Int.toNat_one, lkV_false, lkV_true]; rfl
  rintro k t W ⟨i, hk, hno, hx, f0, f1, f7, f8⟩
  simp (disch := first | omega | assumption | (simp only [O1, World.size_alloc, World.size_setCell, World.size_drew]; first | done | omega)) only [O1, D2, ↓H0, S0, ↓S1, ↓S2, ↓S3, ↓S4, S5, S5b, S5c, ↓S6, S6b, M0, E0, ty, tl, te, tc, i64_wrap, u64_wrap, iaV_sl, iaV_arr, faV_pa, nck_pa, heap_new, heap_old, heap_set, ↓reduceIte, Nat.reduceEqDiff, Nat.reduceLT, Nat.reduceAdd, Int.reduceLT, Int.reduceLE, decide_false, decide_true, dec_true, dec_false, true_and, and_true, true_imp_iff, Bool.not_true, Bool.not_false, Option.map_none, Int.reduceToNat, Int.toNat_zero, Int.toNat_one, lkV_false, lkV_true, f0, f1, f7, f8]
  refine Br_if (fun h => ?_) (fun h' => ?_) <;> (try simp (disch := first | omega | assumption | (simp only [O1, World.size_alloc, World.size_setCell, World.size_drew]; first | done | omega)) only [O1, D2, ↓H0, S0, ↓S1, ↓S2, ↓S3, ↓S4, S5, S5b, S5c, ↓S6, S6b, M0, E0, ty, tl, te, tc, i64_wrap, u64_wrap, iaV_sl, iaV_arr, faV_pa, nck_pa, heap_new, heap_old, heap_set, ↓reduceIte, Nat.reduceEqDiff, Nat.reduceLT, Nat.reduceAdd, Int.reduceLT, Int.reduceLE, decide_false, decide_true, dec_true, dec_false, true_and, and_true, true_imp_iff, Bool.not_true, Bool.not_false, Option.map_none, Int.reduceToNat, Int.toNat_zero, Int.toNat_one, lkV_false, lkV_true, f0, f1, f7, f8])
  · have hi : i < l.length := by omega
    obtain ⟨a1, a2, a3⟩ := hA i hi
    have b1 := hx.rd a1
    have b2 := hx.rd a2
    have b3 := hx.rd a3
    have hAs := rd_isSome b1
    simp (disch := first | omega | assumption | (simp only [O1, World.size_alloc, World.size_setCell, World.size_drew]; first | done | omega)) only [O1, D2, ↓H0, S0, ↓S1, ↓S2, ↓S3, ↓S4, S5, S5b, S5c, ↓S6, S6b, M0, E0, ty, tl, te, tc, i64_wrap, u64_wrap, iaV_sl, iaV_arr, faV_pa, nck_pa, heap_new, heap_old, heap_set, ↓reduceIte, Nat.reduceEqDiff, Nat.reduceLT, Nat.reduceAdd, Int.reduceLT, Int.reduceLE, decide_false, decide_true, dec_true, dec_false, true_and, and_true, true_imp_iff, Bool.not_true, Bool.not_false, Option.map_none, Int.reduceToNat, Int.toNat_zero, Int.toNat_one, lkV_false, lkV_true, f0, f1, f7, f8, b1, b2, b3, ldA3, CallV_func]
    refine (hf W hx l[i] (List.getElem_mem _)).then ?_; rintro _ W2 ⟨rfl, hx2⟩
    cases hp : p l[i] with
    | true =>
      simp (disch := first | omega | assumption | (simp only [O1, World.size_alloc, World.size_setCell, World.size_drew]; first | done | omega)) only [O1, D2, ↓H0, S0, ↓S1, ↓S2, ↓S3, ↓S4, S5, S5b, S5c, ↓S6, S6b, M0, E0, ty, tl, te, tc, i64_wrap, u64_wrap, iaV_sl, iaV_arr, faV_pa, nck_pa, heap_new, heap_old, heap_set, ↓reduceIte, Nat.reduceEqDiff, Nat.reduceLT, Nat.reduceAdd, Int.reduceLT, Int.reduceLE, decide_false, decide_true, dec_true, dec_false, true_and, and_true, true_imp_iff, Bool.not_true, Bool.not_false, Option.map_none, Int.reduceToNat, Int.toNat_zero, Int.toNat_one, lkV_false, lkV_true, f0, f1, f7, f8]
      have : l.findIdx? p = some i := by
        rw [List.findIdx?_eq_some_iff_getElem]
        exact ⟨hi, hp, fun j hj => by simp [hno j (by omega) hj]⟩
      rw [this]
      exact ⟨rfl, hx.tr hx2⟩
    | false =>
      simp (disch := first | omega | assumption | (simp only [O1, World.size_alloc, World.size_setCell, World.size_drew]; first | done | omega)) only [O1, D2, ↓H0, S0, ↓S1, ↓S2, ↓S3, ↓S4, S5, S5b, S5c, ↓S6, S6b, M0, E0, ty, tl, te, tc, i64_wrap, u64_wrap, iaV_sl, iaV_arr, faV_pa, nck_pa, heap_new, heap_old, heap_set, ↓reduceIte, Nat.reduceEqDiff, Nat.reduceLT, Nat.reduceAdd, Int.reduceLT, Int.reduceLE, decide_false, decide_true, dec_true, dec_false, true_and, and_true, true_imp_iff, Bool.not_true, Bool.not_false, Option.map_none, Int.reduceToNat, Int.toNat_zero, Int.toNat_one, lkV_false, lkV_true, f0, f1, f7, f8]
      refine ⟨k - 1, by omega, i + 1, by omega, fun j hj hji => ?_, hx.tr hx2, rfl⟩
      by_cases e : j = i
      · subst e; exact hp
      · exact hno j hj (by omega)
  · have : l.findIdx? p = none := by
      rw [List.findIdx?_eq_none_iff]
      intro x hx
      obtain ⟨j, hj, rfl⟩ := List.mem_iff_getElem.1 hx
      exact hno j hj (by omega)
    rw [this]
    exact ⟨rfl, hx⟩
theorem icontains_ok (v f : Value) (l : List Tri) (p : Tri → Bool) (w : World) (hl : Tris w v l) (hf : TestsI f p l w) (hn : l.length ≤ 1000000000) :
    Ok Try.prog 100 #[v, f] w fun v w' => v = .bool (l.any p) ∧ Ext w w' := by
  (refine Ok.enter Try.func100 rfl (by kernel_rfl) (Nat.le_of_ble_eq_true rfl) ?_; simp only [Try.f100, S7])
  simp (disch := first | omega | assumption | (simp only [O1, World.size_alloc, World.size_setCell, World.size_drew]; first | done | omega)) only [O1, D2, ↓H0, S0, ↓S1, ↓S2, ↓S3, ↓S4, S5, S5b, S5c, ↓S6, S6b, M0, E0, ty, tl, te, tc, i64_wrap, u64_wrap, iaV_sl, iaV_arr, faV_pa, nck_pa, heap_new, heap_old, heap_set, ↓reduceIte, Nat.reduceEqDiff, Nat.reduceLT, Nat.reduceAdd, Int.reduceLT, Int.reduceLE, decide_false, decide_true, dec_true, dec_false, true_and, and_true, true_imp_iff, Bool.not_true, Bool.not_false, Option.map_none, Int.reduceToNat, Int.toNat_zero, Int.toNat_one, lkV_false, lkV_true]
  refine (iindex_ok v f l p w hl hf hn).then ?_; rintro _ W ⟨rfl, hx⟩
  cases hq : l.findIdx? p with
  | none =>
    simp (disch := first | omega | assumption | (simp only [O1, World.size_alloc, World.size_setCell, World.size_drew]; first | done | omega)) only [O1, D2, ↓H0, S0, ↓S1, ↓S2, ↓S3, ↓S4, S5, S5b, S5c, ↓S6, S6b, M0, E0, ty, tl, te, tc, i64_wrap, u64_wrap, iaV_sl, iaV_arr, faV_pa, nck_pa, heap_new, heap_old, heap_set, ↓reduceIte, Nat.reduceEqDiff, Nat.reduceLT, Nat.reduceAdd, Int.reduceLT, Int.reduceLE, decide_false, decide_true, dec_true, dec_false, true_and, and_true, true_imp_iff, Bool.not_true, Bool.not_false, Option.map_none, Int.reduceToNat, Int.toNat_zero, Int.toNat_one, lkV_false, lkV_true]
    have := List.findIdx?_eq_none_iff.1 hq
    refine ⟨?_, hx⟩
    congr 1
    rw [eq_comm, List.any_eq_false]
    intro x hx; simp [this x hx]
  | some i =>
    simp (disch := first | omega | assumption | (simp only [O1, World.size_alloc, World.size_setCell, World.size_drew]; first | done | omega)) only [O1, D2, ↓H0, S0, ↓S1, ↓S2, ↓S3, ↓S4, S5, S5b, S5c, ↓S6, S6b, M0, E0, ty, tl, te, tc, i64_wrap, u64_wrap, iaV_sl, iaV_arr, faV_pa, nck_pa, heap_new, heap_old, heap_set, ↓reduceIte, Nat.reduceEqDiff, Nat.reduceLT, Nat.reduceAdd, Int.reduceLT, Int.reduceLE, decide_false, decide_true, dec_true, dec_false, true_and, and_true, true_imp_iff, Bool.not_true, Bool.not_false, Option.map_none, Int.reduceToNat, Int.toNat_zero, Int.toNat_one, lkV_false, lkV_true]
    rw [List.findIdx?_eq_some_iff_getElem] at hq
    obtain ⟨hi, hp, _⟩ := hq
    refine ⟨?_, hx⟩
    congr 1
    rw [eq_comm, List.any_eq_true]
    exact ⟨_, List.getElem_mem _, hp⟩
/-- The item of a word that has ended. -/
def endB (g : PG) (x : Tri) : Bool := match g.prods[x.1.toNat]? with
  | some p => decide (x.2.1 = p.2.length) && decide (x.2.2 = 0) && decide (p.1 = g.start)
  | none => false
set_option maxHeartbeats 1000000 in
theorem ends1_ok (w : World) (Q B : Nat) (g : PG) (nv tv : Value) (C : Option Addr) (c : Nat) (wv bv lv sv : Value) (e : Bool) (i d f : Nat) (hQ : ChR w Q g nv tv C c wv bv lv sv e) (hB : w.heap[B]? = some (.cells #[pa (some ⟨Q, 0, none⟩) 0] 61 (0, 0))) (hi : i < g.prods.length) (hd : d ≤ g.prods[i].2.length) (hS : SoundP g) :
    Ok Try.prog 101 #[triV (tr i d f), pa (some ⟨B, 0, none⟩) 0] w fun u w' => u = .bool (endB g (tr i d f)) ∧ Ext w w' := by
  have e0 : (triV (tr i d f)).cells = #[.int .i64 i, .int .i64 d, .int .i64 f] := rfl
  have hpl := hS.2.1.2.2.1
  (refine Ok.enter Try.func101 rfl (by kernel_rfl) (Nat.le_of_ble_eq_true rfl) ?_; simp only [Try.f101, S7])
  simp (disch := first | omega | assumption | (simp only [O1, World.size_alloc, World.size_setCell, World.size_drew]; first | done | omega)) only [O1, D2, ↓H0, S0, ↓S1, ↓S2, ↓S3, ↓S4, S5, S5b, S5c, ↓S6, S6b, M0, E0, ty, tl, te, tc, i64_wrap, u64_wrap, iaV_sl, iaV_arr, faV_pa, nck_pa, heap_new, heap_old, heap_set, ↓reduceIte, Nat.reduceEqDiff, Nat.reduceLT, Nat.reduceAdd, Int.reduceLT, Int.reduceLE, decide_false, decide_true, dec_true, dec_false, true_and, and_true, true_imp_iff, Bool.not_true, Bool.not_false, Option.map_none, Int.reduceToNat, Int.toNat_zero, Int.toNat_one, lkV_false, lkV_true, e0]
  have hx1 := (Ext.rfl' w).al (.cells #[.int .i64 i, .int .i64 d, .int .i64 f] 138)
  have hxb := heap_new (w := w) (.cells #[.int .i64 i, .int .i64 d, .int .i64 f] 138) rfl
  have hQ1 := hQ.ext hx1
  have hB1 := hx1.hp hB
  simp (disch := first | omega | assumption | (simp only [O1, World.size_alloc, World.size_setCell, World.size_drew]; first | done | omega)) only [O1, D2, ↓H0, S0, ↓S1, ↓S2, ↓S3, ↓S4, S5, S5b, S5c, ↓S6, S6b, M0, E0, ty, tl, te, tc, i64_wrap, u64_wrap, iaV_sl, iaV_arr, faV_pa, nck_pa, heap_new, heap_old, heap_set, ↓reduceIte, Nat.reduceEqDiff, Nat.reduceLT, Nat.reduceAdd, Int.reduceLT, Int.reduceLE, decide_false, decide_true, dec_true, dec_false, true_and, and_true, true_imp_iff, Bool.not_true, Bool.not_false, Option.map_none, Int.reduceToNat, Int.toNat_zero, Int.toNat_one, lkV_false, lkV_true, hB1, hxb, ldA3, e0]
  generalize w.alloc (.cells #[.int .i64 i, .int .i64 d, .int .i64 f] 138) = W at *
  refine (next_ok Q g nv tv C c wv bv lv sv e i d f W hQ1 hi hd hS).then ?_
  rintro _ W2 ⟨rfl, hx2⟩
  have hx12 := hx1.tr hx2
  have hQ2 := hQ1.ext hx2
  have hB2 := hx2.hp hB1
  have hxb2 := hx2.hp hxb
  have hB2d : W2.drew.heap[B]? = _ := hB2
  have hxb2d : W2.drew.heap[w.heap.size]? = _ := hxb2
  have hQ2b := hQ2.box
  have hQ2d : W2.drew.heap[Q]? = _ := hQ2b
  obtain ⟨h1, _⟩ := hQ2.prods i hi
  have h1d := (Ext.rfl' W2).dr.rd h1
  have hAs := rd_isSome h1
  have hpe : g.prods[(tr i d f).1.toNat]? = some g.prods[i] := by simp [tr, hi]
  generalize hp : g.prods[i] = p at *
  cases hnx : p.2[d]? with
  | some s =>
    simp (disch := first | omega | assumption | (simp only [O1, World.size_alloc, World.size_setCell, World.size_drew]; first | done | omega)) only [O1, D2, ↓H0, S0, ↓S1, ↓S2, ↓S3, ↓S4, S5, S5b, S5c, ↓S6, S6b, M0, E0, ty, tl, te, tc, i64_wrap, u64_wrap, iaV_sl, iaV_arr, faV_pa, nck_pa, heap_new, heap_old, heap_set, ↓reduceIte, Nat.reduceEqDiff, Nat.reduceLT, Nat.reduceAdd, Int.reduceLT, Int.reduceLE, decide_false, decide_true, dec_true, dec_false, true_and, and_true, true_imp_iff, Bool.not_true, Bool.not_false, Option.map_none, Int.reduceToNat, Int.toNat_zero, Int.toNat_one, lkV_false, lkV_true, Option.isSome_some, Option.getD_some]
    refine Dr_plan [] (fun _ => true) [0, 1, 2, 3, 4, 5, 6, 7, 8, 9, 10, 11, 12, 13, 14, 15, 16, 17, 18, 19, 20, 21, 22, 23, 24, 25] mixed (by kernel_rfl) ?_
    simp (disch := first | omega | assumption | (simp only [O1, World.size_alloc, World.size_setCell, World.size_drew]; first | done | omega)) only [↓D1, ↓D3, ↓D4, List.not_mem_nil, not_false_eq_true, Bool.false_eq_true, false_imp_iff, upto, O1, D2, ↓H0, S0, ↓S1, ↓S2, ↓S3, ↓S4, S5, S5b, S5c, ↓S6, S6b, M0, E0, ty, tl, te, tc, i64_wrap, u64_wrap, iaV_sl, iaV_arr, faV_pa, nck_pa, heap_new, heap_old, heap_set, ↓reduceIte, Nat.reduceEqDiff, Nat.reduceLT, Nat.reduceAdd, Int.reduceLT, Int.reduceLE, decide_false, decide_true, dec_true, dec_false, true_and, and_true, true_imp_iff, Bool.not_true, Bool.not_false, Option.map_none, Int.reduceToNat, Int.toNat_zero, Int.toNat_one, lkV_false, lkV_true, hB2, hB2d, hxb2, hxb2d, hQ2b, hQ2d, h1, h1d]
    refine ⟨?_, hx12.dr⟩
    have := (List.getElem?_eq_some_iff.1 hnx).1
    simp only [endB, hpe]
    have d1 : ¬ ((tr i d f).2.1 = (p.2.length : Int)) := by simp only [tr]; omega
    simp [d1]
  | none =>
    have hdl : d = p.2.length := by have := List.getElem?_eq_none_iff.1 hnx; omega
    simp (disch := first | omega | assumption | (simp only [O1, World.size_alloc, World.size_setCell, World.size_drew]; first | done | omega)) only [O1, D2, ↓H0, S0, ↓S1, ↓S2, ↓S3, ↓S4, S5, S5b, S5c, ↓S6, S6b, M0, E0, ty, tl, te, tc, i64_wrap, u64_wrap, iaV_sl, iaV_arr, faV_pa, nck_pa, heap_new, heap_old, heap_set, ↓reduceIte, Nat.reduceEqDiff, Nat.reduceLT, Nat.reduceAdd, Int.reduceLT, Int.reduceLE, decide_false, decide_true, dec_true, dec_false, true_and, and_true, true_imp_iff, Bool.not_true, Bool.not_false, Option.map_none, Int.reduceToNat, Int.toNat_zero, Int.toNat_one, lkV_false, lkV_true, Option.isSome_none, Option.getD_none]
    refine Dr_plan [] (fun _ => true) [0, 1, 2, 3, 4, 5, 6, 7, 8, 9, 10, 11, 12, 13, 14, 15, 16, 17, 18, 19, 20, 21, 22, 23, 24, 25] mixed (by kernel_rfl) ?_
    simp (disch := first | omega | assumption | (simp only [O1, World.size_alloc, World.size_setCell, World.size_drew]; first | done | omega)) only [↓D1, ↓D3, ↓D4, List.not_mem_nil, not_false_eq_true, Bool.false_eq_true, false_imp_iff, upto, O1, D2, ↓H0, S0, ↓S1, ↓S2, ↓S3, ↓S4, S5, S5b, S5c, ↓S6, S6b, M0, E0, ty, tl, te, tc, i64_wrap, u64_wrap, iaV_sl, iaV_arr, faV_pa, nck_pa, heap_new, heap_old, heap_set, ↓reduceIte, Nat.reduceEqDiff, Nat.reduceLT, Nat.reduceAdd, Int.reduceLT, Int.reduceLE, decide_false, decide_true, dec_true, dec_false, true_and, and_true, true_imp_iff, Bool.not_true, Bool.not_false, Option.map_none, Int.reduceToNat, Int.toNat_zero, Int.toNat_one, lkV_false, lkV_true, hB2, hB2d, hxb2, hxb2d, hQ2b, hQ2d, h1, h1d]
    have d1 : ((tr i d f).2.1 = (p.2.length : Int)) := by simp only [tr]; omega
    by_cases hf : f = 0
    · subst hf
      simp (disch := first | omega | assumption | (simp only [O1, World.size_alloc, World.size_setCell, World.size_drew]; first | done | omega)) only [↓D1, ↓D3, ↓D4, List.not_mem_nil, not_false_eq_true, Bool.false_eq_true, false_imp_iff, upto, O1, D2, ↓H0, S0, ↓S1, ↓S2, ↓S3, ↓S4, S5, S5b, S5c, ↓S6, S6b, M0, E0, ty, tl, te, tc, i64_wrap, u64_wrap, iaV_sl, iaV_arr, faV_pa, nck_pa, heap_new, heap_old, heap_set, ↓reduceIte, Nat.reduceEqDiff, Nat.reduceLT, Nat.reduceAdd, Int.reduceLT, Int.reduceLE, decide_false, decide_true, dec_true, dec_false, true_and, and_true, true_imp_iff, Bool.not_true, Bool.not_false, Option.map_none, Int.reduceToNat, Int.toNat_zero, Int.toNat_one, lkV_false, lkV_true, hB2, hB2d, hxb2, hxb2d, hQ2b, hQ2d, h1, h1d]
      refine ⟨?_, hx12.dr⟩
      simp only [endB, hpe, d1]
      simp [tr]
    · have d2 : decide ((f : Int) = 0) = false := decide_eq_false (by omega)
      simp (disch := first | omega | assumption | (simp only [O1, World.size_alloc, World.size_setCell, World.size_drew]; first | done | omega)) only [↓D1, ↓D3, ↓D4, List.not_mem_nil, not_false_eq_true, Bool.false_eq_true, false_imp_iff, upto, O1, D2, ↓H0, S0, ↓S1, ↓S2, ↓S3, ↓S4, S5, S5b, S5c, ↓S6, S6b, M0, E0, ty, tl, te, tc, i64_wrap, u64_wrap, iaV_sl, iaV_arr, faV_pa, nck_pa, heap_new, heap_old, heap_set, ↓reduceIte, Nat.reduceEqDiff, Nat.reduceLT, Nat.reduceAdd, Int.reduceLT, Int.reduceLE, decide_false, decide_true, dec_true, dec_false, true_and, and_true, true_imp_iff, Bool.not_true, Bool.not_false, Option.map_none, Int.reduceToNat, Int.toNat_zero, Int.toNat_one, lkV_false, lkV_true, hB2, hB2d, hxb2, hxb2d, hQ2b, hQ2d, h1, h1d, d2]
      refine ⟨?_, hx12.dr⟩
      simp only [endB, hpe, d1]
      simp [tr, hf]
set_option maxHeartbeats 1000000 in
theorem endsE_ok (v : Value) (n : Int) (g : PG) (word : List Int) (w : World) (h : ChartV w v g word) :
    Ok Try.prog 44 #[v, .int .i64 n] w fun u w' => (∃ b : Bool, u = .bool b ∧ (b = true ↔ OkW g word ∧ 0 ≤ n ∧ n ≤ word.length ∧ Dv g.prods [g.start] (word.take n.toNat))) ∧ Ext w w' := by
  (refine Ok.enter Try.func44 rfl (by kernel_rfl) (Nat.le_of_ble_eq_true rfl) ?_; simp only [Try.f44, S7])
  have hone : v.oneCell' = true := by rcases h with ⟨_, rfl⟩ | ⟨_, Q, rfl, _⟩ <;> rfl
  simp (disch := first | omega | assumption | (simp only [O1, World.size_alloc, World.size_setCell, World.size_drew]; first | done | omega)) only [O1, D2, ↓H0, S0, ↓S1, ↓S2, ↓S3, ↓S4, S5, S5b, S5c, ↓S6, S6b, M0, E0, ty, tl, te, tc, i64_wrap, u64_wrap, iaV_sl, iaV_arr, faV_pa, nck_pa, heap_new, heap_old, heap_set, ↓reduceIte, Nat.reduceEqDiff, Nat.reduceLT, Nat.reduceAdd, Int.reduceLT, Int.reduceLE, decide_false, decide_true, dec_true, dec_false, true_and, and_true, true_imp_iff, Bool.not_true, Bool.not_false, Option.map_none, Int.reduceToNat, Int.toNat_zero, Int.toNat_one, lkV_false, lkV_true, hone]
  have hx1 := (Ext.rfl' w).al (.cells #[v] 61)
  have hxb := heap_new (w := w) (.cells #[v] 61) rfl
  have hv1 := h.ext hx1
  have hvc : v.cells = #[v] := by rcases h with ⟨_, rfl⟩ | ⟨_, Q, rfl, _⟩ <;> rfl
  by_cases hn : n < 0
  · have d1 : decide (n < 0) = true := decide_eq_true hn
    simp (disch := first | omega | assumption | (simp only [O1, World.size_alloc, World.size_setCell, World.size_drew]; first | done | omega)) only [O1, D2, ↓H0, S0, ↓S1, ↓S2, ↓S3, ↓S4, S5, S5b, S5c, ↓S6, S6b, M0, E0, ty, tl, te, tc, i64_wrap, u64_wrap, iaV_sl, iaV_arr, faV_pa, nck_pa, heap_new, heap_old, heap_set, ↓reduceIte, Nat.reduceEqDiff, Nat.reduceLT, Nat.reduceAdd, Int.reduceLT, Int.reduceLE, decide_false, decide_true, dec_true, dec_false, true_and, and_true, true_imp_iff, Bool.not_true, Bool.not_false, Option.map_none, Int.reduceToNat, Int.toNat_zero, Int.toNat_one, lkV_false, lkV_true, d1, hvc]
    exact ⟨⟨false, rfl, by simp; omega⟩, hx1⟩
  have d1 : decide (n < 0) = false := decide_eq_false hn
  simp (disch := first | omega | assumption | (simp only [O1, World.size_alloc, World.size_setCell, World.size_drew]; first | done | omega)) only [O1, D2, ↓H0, S0, ↓S1, ↓S2, ↓S3, ↓S4, S5, S5b, S5c, ↓S6, S6b, M0, E0, ty, tl, te, tc, i64_wrap, u64_wrap, iaV_sl, iaV_arr, faV_pa, nck_pa, heap_new, heap_old, heap_set, ↓reduceIte, Nat.reduceEqDiff, Nat.reduceLT, Nat.reduceAdd, Int.reduceLT, Int.reduceLE, decide_false, decide_true, dec_true, dec_false, true_and, and_true, true_imp_iff, Bool.not_true, Bool.not_false, Option.map_none, Int.reduceToNat, Int.toNat_zero, Int.toNat_one, lkV_false, lkV_true, d1, hvc, hxb]
  generalize w.alloc (.cells #[v] 61) = W at *
  refine (goodE_ok v g word W hv1).then ?_
  rintro _ W1 ⟨⟨m, rfl, hm⟩, rfl⟩
  simp (disch := first | omega | assumption | (simp only [O1, World.size_alloc, World.size_setCell, World.size_drew]; first | done | omega)) only [O1, D2, ↓H0, S0, ↓S1, ↓S2, ↓S3, ↓S4, S5, S5b, S5c, ↓S6, S6b, M0, E0, ty, tl, te, tc, i64_wrap, u64_wrap, iaV_sl, iaV_arr, faV_pa, nck_pa, heap_new, heap_old, heap_set, ↓reduceIte, Nat.reduceEqDiff, Nat.reduceLT, Nat.reduceAdd, Int.reduceLT, Int.reduceLE, decide_false, decide_true, dec_true, dec_false, true_and, and_true, true_imp_iff, Bool.not_true, Bool.not_false, Option.map_none, Int.reduceToNat, Int.toNat_zero, Int.toNat_one, lkV_false, lkV_true]
  by_cases hnm : m < n
  · have d2 : decide (m < n) = true := decide_eq_true hnm
    simp (disch := first | omega | assumption | (simp only [O1, World.size_alloc, World.size_setCell, World.size_drew]; first | done | omega)) only [O1, D2, ↓H0, S0, ↓S1, ↓S2, ↓S3, ↓S4, S5, S5b, S5c, ↓S6, S6b, M0, E0, ty, tl, te, tc, i64_wrap, u64_wrap, iaV_sl, iaV_arr, faV_pa, nck_pa, heap_new, heap_old, heap_set, ↓reduceIte, Nat.reduceEqDiff, Nat.reduceLT, Nat.reduceAdd, Int.reduceLT, Int.reduceLE, decide_false, decide_true, dec_true, dec_false, true_and, and_true, true_imp_iff, Bool.not_true, Bool.not_false, Option.map_none, Int.reduceToNat, Int.toNat_zero, Int.toNat_one, lkV_false, lkV_true, d2]
    refine ⟨⟨false, rfl, ?_⟩, hx1⟩
    simp only [Bool.false_eq_true, false_iff]
    rintro ⟨h1, h2, h3, h4⟩
    rcases hm with ⟨h5, _⟩ | ⟨_, h5, h6, h7⟩
    · exact h5 h1
    · have := (h7 n.toNat (by omega)).2 ⟨[], by simpa using h4⟩
      omega
  have d2 : decide (m < n) = false := decide_eq_false hnm
  rcases hm with ⟨h5, rfl⟩ | ⟨hok, h5, h6, h7⟩
  · omega
  rcases hv1 with ⟨h1, _⟩ | ⟨_, Q, rfl, hc⟩
  · exact absurd hok h1
  have hc0 := hc
  obtain ⟨wE, nv, tv, C, c, wA, wc, G, NG, b0, bs, ln, F, sv, Sb, e, L, hC, hP, _, hl, hlw, hfin, hne, hlast⟩ := hc
  obtain ⟨SA, sc, rfl, hsc, hSA⟩ := hC.sts.sq
  have hnL : n.toNat < L.length := by
    rcases hlast with h | h
    · omega
    · by_cases e2 : L.length ≤ n.toNat
      · have hb := ((h7 n.toNat (by omega)).1 (by omega)).mono e2
        obtain ⟨i, d, f', hI⟩ := (it_viable hok.lefts hok.start (by omega)).2 hb
        exact absurd hI (h i d f')
      · omega
  have hnS : n.toNat < Sb.length := by omega
  have q1 := hSA n.toNat hnS
  have q1s := rd_isSome q1
  obtain ⟨⟨base, mm, lv, hS, _⟩, hset, hnd⟩ := hfin n.toNat _ _ (List.getElem?_eq_getElem hnS) (List.getElem?_eq_getElem hnL)
  generalize Sb[n.toNat] = Sn at *
  generalize L[n.toNat] = Ln at *
  simp only [encP] at q1
  have hbx := hC.box
  have hsb := hS.box
  have hpl := hok.1.2.1.2.2.1
  have hfew := items_few hok.lefts hpl hok.1.sides hok.2.1 (fun x => (hset x).1) hnd
  simp (disch := first | omega | assumption | (simp only [O1, World.size_alloc, World.size_setCell, World.size_drew]; first | done | omega)) only [O1, D2, ↓H0, S0, ↓S1, ↓S2, ↓S3, ↓S4, S5, S5b, S5c, ↓S6, S6b, M0, E0, ty, tl, te, tc, i64_wrap, u64_wrap, iaV_sl, iaV_arr, faV_pa, nck_pa, heap_new, heap_old, heap_set, ↓reduceIte, Nat.reduceEqDiff, Nat.reduceLT, Nat.reduceAdd, Int.reduceLT, Int.reduceLE, decide_false, decide_true, dec_true, dec_false, true_and, and_true, true_imp_iff, Bool.not_true, Bool.not_false, Option.map_none, Int.reduceToNat, Int.toNat_zero, Int.toNat_one, lkV_false, lkV_true, d2, hxb, hbx, q1, hsb]
  refine (icontains_ok lv _ Ln (endB g) W1 hS.row.tris ⟨_, _, _, rfl, fun V hV x hx => ?_⟩ (by omega)).then ?_
  · obtain ⟨i, d, f, rfl, hI⟩ := (hset x).1 hx
    obtain ⟨p, hp⟩ := hI.snd hok.lefts
    obtain ⟨hi, hpe⟩ := List.getElem?_eq_some_iff.1 hp.at_
    exact ends1_ok V Q w.heap.size g nv tv C c _ _ _ _ e i d f ((hC.ext' hV).chr hP) (hV.hp hxb) hi (by rw [hpe]; exact hp.dl) hok.1
  rintro _ W2 ⟨rfl, hx2⟩
  simp (disch := first | omega | assumption | (simp only [O1, World.size_alloc, World.size_setCell, World.size_drew]; first | done | omega)) only [O1, D2, ↓H0, S0, ↓S1, ↓S2, ↓S3, ↓S4, S5, S5b, S5c, ↓S6, S6b, M0, E0, ty, tl, te, tc, i64_wrap, u64_wrap, iaV_sl, iaV_arr, faV_pa, nck_pa, heap_new, heap_old, heap_set, ↓reduceIte, Nat.reduceEqDiff, Nat.reduceLT, Nat.reduceAdd, Int.reduceLT, Int.reduceLE, decide_false, decide_true, dec_true, dec_false, true_and, and_true, true_imp_iff, Bool.not_true, Bool.not_false, Option.map_none, Int.reduceToNat, Int.toNat_zero, Int.toNat_one, lkV_false, lkV_true]
  refine ⟨⟨_, rfl, ?_⟩, hx1.tr hx2⟩
  have hkn : n.toNat ≤ word.length := by omega
  rw [List.any_eq_true, ← it_ends hok.lefts hok.start hkn]
  constructor
  · rintro ⟨x, hx, he⟩
    obtain ⟨i, d, f, rfl, hI⟩ := (hset x).1 hx
    obtain ⟨p, hp⟩ := hI.snd hok.lefts
    have hpi : g.prods[(tr i d f).1.toNat]? = some p := by simpa [tr] using hp.at_
    simp only [endB, hpi, Bool.and_eq_true, decide_eq_true_eq] at he
    obtain ⟨⟨he1, he2⟩, he3⟩ := he
    simp only [tr] at he1 he2
    have e1 : d = p.2.length := by omega
    have e2 : f = 0 := by omega
    subst e1 e2
    exact ⟨hok, by omega, by omega, i, p, hp.at_, he3, hI⟩
  · rintro ⟨_, _, _, i, p, hi, he, hI⟩
    refine ⟨tr i p.2.length 0, hset.iff.2 hI, ?_⟩
    have hpi : g.prods[(tr i p.2.length 0).1.toNat]? = some p := by simpa [tr] using hi
    simp only [endB, hpi, he]
    simp [tr]
theorem yesE_ok (v : Value) (g : PG) (word : List Int) (w : World) (h : ChartV w v g word) :
    Ok Try.prog 47 #[v] w fun u w' => (∃ b : Bool, u = .bool b ∧ (b = true ↔ OkW g word ∧ Dv g.prods [g.start] word)) ∧ Ext w w' := by
  (refine Ok.enter Try.func47 rfl (by kernel_rfl) (Nat.le_of_ble_eq_true rfl) ?_; simp only [Try.f47, S7])
  rcases h with ⟨h1, rfl⟩ | ⟨h1, Q, rfl, hc⟩
  · simp (disch := first | omega | assumption | (simp only [O1, World.size_alloc, World.size_setCell, World.size_drew]; first | done | omega)) only [O1, D2, ↓H0, S0, ↓S1, ↓S2, ↓S3, ↓S4, S5, S5b, S5c, ↓S6, S6b, M0, E0, ty, tl, te, tc, i64_wrap, u64_wrap, iaV_sl, iaV_arr, faV_pa, nck_pa, heap_new, heap_old, heap_set, ↓reduceIte, Nat.reduceEqDiff, Nat.reduceLT, Nat.reduceAdd, Int.reduceLT, Int.reduceLE, decide_false, decide_true, dec_true, dec_false, true_and, and_true, true_imp_iff, Bool.not_true, Bool.not_false, Option.map_none, Int.reduceToNat, Int.toNat_zero, Int.toNat_one, lkV_false, lkV_true, Option.isNone]
    exact ⟨⟨false, rfl, by simp [h1]⟩, Ext.rfl' w⟩
  · have hc0 := hc
    obtain ⟨wE, nv, tv, C, c, wA, wc, G, NG, b0, bs, ln, F, sv, Sb, e, L, hC, hP, _, hl, hlw, hfin, hne, hlast⟩ := hc
    have hb := hC.box
    simp (disch := first | omega | assumption | (simp only [O1, World.size_alloc, World.size_setCell, World.size_drew]; first | done | omega)) only [O1, D2, ↓H0, S0, ↓S1, ↓S2, ↓S3, ↓S4, S5, S5b, S5c, ↓S6, S6b, M0, E0, ty, tl, te, tc, i64_wrap, u64_wrap, iaV_sl, iaV_arr, faV_pa, nck_pa, heap_new, heap_old, heap_set, ↓reduceIte, Nat.reduceEqDiff, Nat.reduceLT, Nat.reduceAdd, Int.reduceLT, Int.reduceLE, decide_false, decide_true, dec_true, dec_false, true_and, and_true, true_imp_iff, Bool.not_true, Bool.not_false, Option.map_none, Int.reduceToNat, Int.toNat_zero, Int.toNat_one, lkV_false, lkV_true, Option.isNone, hb]
    refine (endsE_ok _ word.length g word w (.inr ⟨h1, Q, rfl, hc0⟩)).then ?_
    rintro _ W ⟨⟨b, rfl, hb⟩, hx⟩
    simp (disch := first | omega | assumption | (simp only [O1, World.size_alloc, World.size_setCell, World.size_drew]; first | done | omega)) only [O1, D2, ↓H0, S0, ↓S1, ↓S2, ↓S3, ↓S4, S5, S5b, S5c, ↓S6, S6b, M0, E0, ty, tl, te, tc, i64_wrap, u64_wrap, iaV_sl, iaV_arr, faV_pa, nck_pa, heap_new, heap_old, heap_set, ↓reduceIte, Nat.reduceEqDiff, Nat.reduceLT, Nat.reduceAdd, Int.reduceLT, Int.reduceLE, decide_false, decide_true, dec_true, dec_false, true_and, and_true, true_imp_iff, Bool.not_true, Bool.not_false, Option.map_none, Int.reduceToNat, Int.toNat_zero, Int.toNat_one, lkV_false, lkV_true]
    refine ⟨⟨b, rfl, ?_⟩, hx⟩
    rw [hb]
    simp
set_option maxHeartbeats 1000000 in
theorem nextE_ok (v : Value) (n : Int) (g : PG) (word : List Int) (w : World) (h : ChartV w v g word) :
    Ok Try.prog 48 #[v, .int .i64 n] w fun u w' => (∃ xs, Ints w' u xs ∧ xs.Pairwise (· < ·) ∧ ∀ x, x ∈ xs ↔ OkW g word ∧ 0 ≤ n ∧ n ≤ word.length ∧ 0 ≤ x ∧ ∃ y, Dv g.prods [g.start] (word.take n.toNat ++ x :: y)) ∧ Ext w w' := by
  (refine Ok.enter Try.func48 rfl (by kernel_rfl) (Nat.le_of_ble_eq_true rfl) ?_; simp only [Try.f48, S7])
  simp (disch := first | omega | assumption | (simp only [O1, World.size_alloc, World.size_setCell, World.size_drew]; first | done | omega)) only [O1, D2, ↓H0, S0, ↓S1, ↓S2, ↓S3, ↓S4, S5, S5b, S5c, ↓S6, S6b, M0, E0, ty, tl, te, tc, i64_wrap, u64_wrap, iaV_sl, iaV_arr, faV_pa, nck_pa, heap_new, heap_old, heap_set, ↓reduceIte, Nat.reduceEqDiff, Nat.reduceLT, Nat.reduceAdd, Int.reduceLT, Int.reduceLE, decide_false, decide_true, dec_true, dec_false, true_and, and_true, true_imp_iff, Bool.not_true, Bool.not_false, Option.map_none, Int.reduceToNat, Int.toNat_zero, Int.toNat_one, lkV_false, lkV_true]
  by_cases hn : n < 0
  · have d1 : decide (n < 0) = true := decide_eq_true hn
    simp (disch := first | omega | assumption | (simp only [O1, World.size_alloc, World.size_setCell, World.size_drew]; first | done | omega)) only [O1, D2, ↓H0, S0, ↓S1, ↓S2, ↓S3, ↓S4, S5, S5b, S5c, ↓S6, S6b, M0, E0, ty, tl, te, tc, i64_wrap, u64_wrap, iaV_sl, iaV_arr, faV_pa, nck_pa, heap_new, heap_old, heap_set, ↓reduceIte, Nat.reduceEqDiff, Nat.reduceLT, Nat.reduceAdd, Int.reduceLT, Int.reduceLE, decide_false, decide_true, dec_true, dec_false, true_and, and_true, true_imp_iff, Bool.not_true, Bool.not_false, Option.map_none, Int.reduceToNat, Int.toNat_zero, Int.toNat_one, lkV_false, lkV_true, d1]
    exact ⟨⟨[], Sq.nil _ _, by simp, fun x => by simp; omega⟩, Ext.rfl' w⟩
  have d1 : decide (n < 0) = false := decide_eq_false hn
  simp (disch := first | omega | assumption | (simp only [O1, World.size_alloc, World.size_setCell, World.size_drew]; first | done | omega)) only [O1, D2, ↓H0, S0, ↓S1, ↓S2, ↓S3, ↓S4, S5, S5b, S5c, ↓S6, S6b, M0, E0, ty, tl, te, tc, i64_wrap, u64_wrap, iaV_sl, iaV_arr, faV_pa, nck_pa, heap_new, heap_old, heap_set, ↓reduceIte, Nat.reduceEqDiff, Nat.reduceLT, Nat.reduceAdd, Int.reduceLT, Int.reduceLE, decide_false, decide_true, dec_true, dec_false, true_and, and_true, true_imp_iff, Bool.not_true, Bool.not_false, Option.map_none, Int.reduceToNat, Int.toNat_zero, Int.toNat_one, lkV_false, lkV_true, d1]
  refine (goodE_ok v g word w h).then ?_
  rintro _ W ⟨⟨m, rfl, hm⟩, rfl⟩
  simp (disch := first | omega | assumption | (simp only [O1, World.size_alloc, World.size_setCell, World.size_drew]; first | done | omega)) only [O1, D2, ↓H0, S0, ↓S1, ↓S2, ↓S3, ↓S4, S5, S5b, S5c, ↓S6, S6b, M0, E0, ty, tl, te, tc, i64_wrap, u64_wrap, iaV_sl, iaV_arr, faV_pa, nck_pa, heap_new, heap_old, heap_set, ↓reduceIte, Nat.reduceEqDiff, Nat.reduceLT, Nat.reduceAdd, Int.reduceLT, Int.reduceLE, decide_false, decide_true, dec_true, dec_false, true_and, and_true, true_imp_iff, Bool.not_true, Bool.not_false, Option.map_none, Int.reduceToNat, Int.toNat_zero, Int.toNat_one, lkV_false, lkV_true]
  by_cases hnm : m < n
  · have d2 : decide (m < n) = true := decide_eq_true hnm
    simp (disch := first | omega | assumption | (simp only [O1, World.size_alloc, World.size_setCell, World.size_drew]; first | done | omega)) only [O1, D2, ↓H0, S0, ↓S1, ↓S2, ↓S3, ↓S4, S5, S5b, S5c, ↓S6, S6b, M0, E0, ty, tl, te, tc, i64_wrap, u64_wrap, iaV_sl, iaV_arr, faV_pa, nck_pa, heap_new, heap_old, heap_set, ↓reduceIte, Nat.reduceEqDiff, Nat.reduceLT, Nat.reduceAdd, Int.reduceLT, Int.reduceLE, decide_false, decide_true, dec_true, dec_false, true_and, and_true, true_imp_iff, Bool.not_true, Bool.not_false, Option.map_none, Int.reduceToNat, Int.toNat_zero, Int.toNat_one, lkV_false, lkV_true, d2]
    refine ⟨⟨[], Sq.nil _ _, by simp, fun x => ?_⟩, Ext.rfl' _⟩
    simp only [List.not_mem_nil, false_iff]
    rintro ⟨h1, h2, h3, h4, y, hy⟩
    rcases hm with ⟨h5, _⟩ | ⟨_, h5, h6, h7⟩
    · exact h5 h1
    · have := (h7 n.toNat (by omega)).2 ⟨_, hy⟩
      omega
  have d2 : decide (m < n) = false := decide_eq_false hnm
  rcases hm with ⟨h5, rfl⟩ | ⟨hok, h5, h6, h7⟩
  · omega
  rcases h with ⟨h1, _⟩ | ⟨_, Q, rfl, hc⟩
  · exact absurd hok h1
  obtain ⟨wE, nv, tv, C, c, wA, wc, G, NG, b0, bs, ln, F, sv, Sb, e, L, hC, hP, _, hl, hlw, hfin, hne, hlast⟩ := hc
  obtain ⟨SA, sc, rfl, hsc, hSA⟩ := hC.sts.sq
  have hnL : n.toNat < L.length := by
    rcases hlast with h | h
    · omega
    · by_cases e2 : L.length ≤ n.toNat
      · have hb := ((h7 n.toNat (by omega)).1 (by omega)).mono e2
        obtain ⟨i, d, f', hI⟩ := (it_viable hok.lefts hok.start (by omega)).2 hb
        exact absurd hI (h i d f')
      · omega
  have hnS : n.toNat < Sb.length := by omega
  have q1 := hSA n.toNat hnS
  have q1s := rd_isSome q1
  obtain ⟨⟨base, mm, lv, hS, _⟩, hset, hnd⟩ := hfin n.toNat _ _ (List.getElem?_eq_getElem hnS) (List.getElem?_eq_getElem hnL)
  generalize Sb[n.toNat] = Sn at *
  generalize L[n.toNat] = Ln at *
  simp only [encP] at q1
  have hbx := hC.box
  have hsb := hS.box
  have hpl := hok.1.2.1.2.2.1
  have hfew := items_few hok.lefts hpl hok.1.sides hok.2.1 (fun x => (hset x).1) hnd
  simp (disch := first | omega | assumption | (simp only [O1, World.size_alloc, World.size_setCell, World.size_drew]; first | done | omega)) only [O1, D2, ↓H0, S0, ↓S1, ↓S2, ↓S3, ↓S4, S5, S5b, S5c, ↓S6, S6b, M0, E0, ty, tl, te, tc, i64_wrap, u64_wrap, iaV_sl, iaV_arr, faV_pa, nck_pa, heap_new, heap_old, heap_set, ↓reduceIte, Nat.reduceEqDiff, Nat.reduceLT, Nat.reduceAdd, Int.reduceLT, Int.reduceLE, decide_false, decide_true, dec_true, dec_false, true_and, and_true, true_imp_iff, Bool.not_true, Bool.not_false, Option.map_none, Int.reduceToNat, Int.toNat_zero, Int.toNat_one, lkV_false, lkV_true, d2]
  have hx1 := (Ext.rfl' W).al (.map #[] 0)
  have hmp : MapI (W.alloc (.map #[] 0)) W.heap.size (setF []) := by
    have : setF [] = fun _ => none := by funext k; simp [setF]
    rw [this]
    exact ⟨[], 0, ⟨heap_new _ rfl, by simp, by simp, by simp⟩, fun k => rfl⟩
  generalize W.alloc (.map #[] 0) = W0 at *
  obtain ⟨dm, hdm⟩ : ∃ dm, dm = W.heap.size := ⟨_, rfl⟩
  rw [← hdm] at hmp ⊢
  have hb1 := hx1.hp hbx
  have q2 := hx1.rd q1
  have hs1 := hx1.hp hsb
  have hrow := hS.row.tris
  obtain ⟨A, ac, rfl, hac, hA⟩ := hrow
  simp (disch := first | omega | assumption | (simp only [O1, World.size_alloc, World.size_setCell, World.size_drew]; first | done | omega)) only [O1, D2, ↓H0, S0, ↓S1, ↓S2, ↓S3, ↓S4, S5, S5b, S5c, ↓S6, S6b, M0, E0, ty, tl, te, tc, i64_wrap, u64_wrap, iaV_sl, iaV_arr, faV_pa, nck_pa, heap_new, heap_old, heap_set, ↓reduceIte, Nat.reduceEqDiff, Nat.reduceLT, Nat.reduceAdd, Int.reduceLT, Int.reduceLE, decide_false, decide_true, dec_true, dec_false, true_and, and_true, true_imp_iff, Bool.not_true, Bool.not_false, Option.map_none, Int.reduceToNat, Int.toNat_zero, Int.toNat_one, lkV_false, lkV_true, hb1, q2, hs1]
  refine ⟨fun k t V => ∃ (j : Nat) (acc : List Int), k + j = Ln.length ∧ Ext W V ∧ MapI V dm (setF acc) ∧ (∀ x, x ∈ acc ↔ 0 ≤ x ∧ ∃ i d f p, tr i d f ∈ Ln.take j ∧ g.prods[i]? = some p ∧ p.2[d]? = some (-1 - x)) ∧
    t 0 = pa (some ⟨Q, 0, none⟩) 0 ∧ t 5 = .map (some dm) ∧ t 28 = .slice A Ln.length ac ∧ t 29 = .int .i64 Ln.length ∧ t 30 = .int .i64 j,
    ⟨Ln.length, 0, [], rfl, hx1, hmp, fun x => by simp, ?_⟩, ?_⟩
  · simp (disch := first | omega | assumption | (simp only [O1, World.size_alloc, World.size_setCell, World.size_drew]; first | done | omega)) only [O1, D2, ↓H0, S0, ↓S1, ↓S2, ↓S3, ↓S4, S5, S5b, S5c, ↓S6, S6b, M0, E0, ty, tl, te, tc, i64_wrap, u64_wrap, iaV_sl, iaV_arr, faV_pa, nck_pa, heap_new, heap_old, heap_set, ↓reduceIte, Nat.reduceEqDiff, Nat.reduceLT, Nat.reduceAdd, Int.reduceLT, Int.reduceLE, decide_false, decide_true, dec_true, dec_false, true_and, and_true, true_imp_iff, Bool.not_true, Bool.not_false, Option.map_none, Int.reduceToNat, Int.toNat_zero, Int.toNat_one, lkV_false, lkV_true] <;> rfl
  clear hmp hx1 hb1 q2 hs1
  rintro k t V ⟨j, acc, hk, hxV, hmp, hacc, f0, f5, f28, f29, f30⟩
  have hCV := hC.ext' hxV
  simp (disch := first | omega | assumption | (simp only [O1, World.size_alloc, World.size_setCell, World.size_drew]; first | done | omega)) only [O1, D2, ↓H0, S0, ↓S1, ↓S2, ↓S3, ↓S4, S5, S5b, S5c, ↓S6, S6b, M0, E0, ty, tl, te, tc, i64_wrap, u64_wrap, iaV_sl, iaV_arr, faV_pa, nck_pa, heap_new, heap_old, heap_set, ↓reduceIte, Nat.reduceEqDiff, Nat.reduceLT, Nat.reduceAdd, Int.reduceLT, Int.reduceLE, decide_false, decide_true, dec_true, dec_false, true_and, and_true, true_imp_iff, Bool.not_true, Bool.not_false, Option.map_none, Int.reduceToNat, Int.toNat_zero, Int.toNat_one, lkV_false, lkV_true, f0, f5, f28, f29, f30]
  refine Br_if (fun q3 => ?_) (fun q3' => ?_) <;> (try simp (disch := first | omega | assumption | (simp only [O1, World.size_alloc, World.size_setCell, World.size_drew]; first | done | omega)) only [O1, D2, ↓H0, S0, ↓S1, ↓S2, ↓S3, ↓S4, S5, S5b, S5c, ↓S6, S6b, M0, E0, ty, tl, te, tc, i64_wrap, u64_wrap, iaV_sl, iaV_arr, faV_pa, nck_pa, heap_new, heap_old, heap_set, ↓reduceIte, Nat.reduceEqDiff, Nat.reduceLT, Nat.reduceAdd, Int.reduceLT, Int.reduceLE, decide_false, decide_true, dec_true, dec_false, true_and, and_true, true_imp_iff, Bool.not_true, Bool.not_false, Option.map_none, Int.reduceToNat, Int.toNat_zero, Int.toNat_one, lkV_false, lkV_true, f0, f5, f28, f29, f30])
  · have hj : j < Ln.length := by omega
    obtain ⟨i, d, f, hx, hI⟩ := (hset _).1 (List.getElem_mem hj)
    obtain ⟨p, hp⟩ := hI.snd hok.lefts
    obtain ⟨hi, hpe⟩ := List.getElem?_eq_some_iff.1 hp.at_
    obtain ⟨a1, a2, a3⟩ := hA j hj
    rw [hx] at a1 a2 a3
    simp only [tr] at a1 a2 a3
    have b1 := hxV.rd a1
    have b2 := hxV.rd a2
    have b3 := hxV.rd a3
    have hAs := rd_isSome b1
    have htk : Ln.take (j + 1) = Ln.take j ++ [tr i d f] := by rw [List.take_succ_eq_append_getElem hj, hx]
    simp (disch := first | omega | assumption | (simp only [O1, World.size_alloc, World.size_setCell, World.size_drew]; first | done | omega)) only [O1, D2, ↓H0, S0, ↓S1, ↓S2, ↓S3, ↓S4, S5, S5b, S5c, ↓S6, S6b, M0, E0, ty, tl, te, tc, i64_wrap, u64_wrap, iaV_sl, iaV_arr, faV_pa, nck_pa, heap_new, heap_old, heap_set, ↓reduceIte, Nat.reduceEqDiff, Nat.reduceLT, Nat.reduceAdd, Int.reduceLT, Int.reduceLE, decide_false, decide_true, dec_true, dec_false, true_and, and_true, true_imp_iff, Bool.not_true, Bool.not_false, Option.map_none, Int.reduceToNat, Int.toNat_zero, Int.toNat_one, lkV_false, lkV_true, f0, f5, f28, f29, f30, b1, b2, b3, ldA3, st138]
    have hy1 := (Ext.rfl' V).al (.cells #[.int .i64 i, .int .i64 d, .int .i64 f] 138)
    generalize V.alloc (.cells #[.int .i64 i, .int .i64 d, .int .i64 f] 138) = V1 at *
    refine (next_ok Q g nv tv C c _ _ _ _ e i d f V1 ((hCV.ext' hy1).chr hP) hi (by rw [hpe]; exact hp.dl) hok.1).then ?_
    rintro _ V2 ⟨rfl, hy2⟩
    have hy12 := hy1.tr hy2
    have hmp2 := hmp.ext hy12
    rw [hpe]
    have hadd : ∀ (acc' : List Int), (∀ x, x ∈ acc' ↔ x ∈ acc ∨ (0 ≤ x ∧ p.2[d]? = some (-1 - x))) → ∀ x, x ∈ acc' ↔ 0 ≤ x ∧ ∃ i d f p, tr i d f ∈ Ln.take (j + 1) ∧ g.prods[i]? = some p ∧ p.2[d]? = some (-1 - x) := by
      intro acc' h x
      rw [h, hacc, htk]
      constructor
      · rintro (⟨h0, i', d', f', p', h1, h2, h3⟩ | ⟨h0, h1⟩)
        · exact ⟨h0, i', d', f', p', List.mem_append_left _ h1, h2, h3⟩
        · exact ⟨h0, i, d, f, p, by simp, hp.at_, h1⟩
      · rintro ⟨h0, i', d', f', p', h1, h2, h3⟩
        rcases List.mem_append.1 h1 with h1 | h1
        · exact .inl ⟨h0, i', d', f', p', h1, h2, h3⟩
        · simp only [List.mem_singleton] at h1
          obtain ⟨rfl, rfl, rfl⟩ := tr_inj h1
          have := hp.at_
          rw [this] at h2; cases h2
          exact .inr ⟨h0, h3⟩
    cases hnx : p.2[d]? with
    | none =>
      simp (disch := first | omega | assumption | (simp only [O1, World.size_alloc, World.size_setCell, World.size_drew]; first | done | omega)) only [O1, D2, ↓H0, S0, ↓S1, ↓S2, ↓S3, ↓S4, S5, S5b, S5c, ↓S6, S6b, M0, E0, ty, tl, te, tc, i64_wrap, u64_wrap, iaV_sl, iaV_arr, faV_pa, nck_pa, heap_new, heap_old, heap_set, ↓reduceIte, Nat.reduceEqDiff, Nat.reduceLT, Nat.reduceAdd, Int.reduceLT, Int.reduceLE, decide_false, decide_true, dec_true, dec_false, true_and, and_true, true_imp_iff, Bool.not_true, Bool.not_false, Option.map_none, Int.reduceToNat, Int.toNat_zero, Int.toNat_one, lkV_false, lkV_true, f0, f5, f28, f29, f30, Option.isSome_none, Option.getD_none]
      exact ⟨k - 1, by omega, j + 1, acc, by omega, hxV.tr hy12, hmp2, hadd acc fun x => by simp [hnx], rfl⟩
    | some s =>
      have hsl := hok.1.low p (List.mem_of_getElem? hp.at_) s (List.mem_of_getElem? hnx)
      simp (disch := first | omega | assumption | (simp only [O1, World.size_alloc, World.size_setCell, World.size_drew]; first | done | omega)) only [O1, D2, ↓H0, S0, ↓S1, ↓S2, ↓S3, ↓S4, S5, S5b, S5c, ↓S6, S6b, M0, E0, ty, tl, te, tc, i64_wrap, u64_wrap, iaV_sl, iaV_arr, faV_pa, nck_pa, heap_new, heap_old, heap_set, ↓reduceIte, Nat.reduceEqDiff, Nat.reduceLT, Nat.reduceAdd, Int.reduceLT, Int.reduceLE, decide_false, decide_true, dec_true, dec_false, true_and, and_true, true_imp_iff, Bool.not_true, Bool.not_false, Option.map_none, Int.reduceToNat, Int.toNat_zero, Int.toNat_one, lkV_false, lkV_true, f0, f5, f28, f29, f30, Option.isSome_some, Option.getD_some]
      refine Br_if (fun q4 => ?_) (fun q4' => ?_) <;> (try simp (disch := first | omega | assumption | (simp only [O1, World.size_alloc, World.size_setCell, World.size_drew]; first | done | omega)) only [O1, D2, ↓H0, S0, ↓S1, ↓S2, ↓S3, ↓S4, S5, S5b, S5c, ↓S6, S6b, M0, E0, ty, tl, te, tc, i64_wrap, u64_wrap, iaV_sl, iaV_arr, faV_pa, nck_pa, heap_new, heap_old, heap_set, ↓reduceIte, Nat.reduceEqDiff, Nat.reduceLT, Nat.reduceAdd, Int.reduceLT, Int.reduceLE, decide_false, decide_true, dec_true, dec_false, true_and, and_true, true_imp_iff, Bool.not_true, Bool.not_false, Option.map_none, Int.reduceToNat, Int.toNat_zero, Int.toNat_one, lkV_false, lkV_true, f0, f5, f28, f29, f30])
      · refine RunU_map mp145 kInt hmp2 _ _ ?_
        intro V3 hm3 hg3 hs3
        rw [← setF_push] at hm3
        simp (disch := first | omega | assumption | (simp only [O1, World.size_alloc, World.size_setCell, World.size_drew]; first | done | omega)) only [O1, D2, ↓H0, S0, ↓S1, ↓S2, ↓S3, ↓S4, S5, S5b, S5c, ↓S6, S6b, M0, E0, ty, tl, te, tc, i64_wrap, u64_wrap, iaV_sl, iaV_arr, faV_pa, nck_pa, heap_new, heap_old, heap_set, ↓reduceIte, Nat.reduceEqDiff, Nat.reduceLT, Nat.reduceAdd, Int.reduceLT, Int.reduceLE, decide_false, decide_true, dec_true, dec_false, true_and, and_true, true_imp_iff, Bool.not_true, Bool.not_false, Option.map_none, Int.reduceToNat, Int.toNat_zero, Int.toNat_one, lkV_false, lkV_true, f0, f5, f28, f29, f30]
        refine ⟨k - 1, by omega, j + 1, _, by omega, (hxV.tr hy12).grown' hg3 fun k hk => by (simp only [Option.some.injEq] at hk; omega), hm3, hadd _ fun x => ?_, rfl⟩
        have hw : IntKind.i64.wrap (-1 - s) = -1 - s := i64_wrap (by omega) (by omega)
        simp only [hw, List.mem_append, List.mem_singleton, hnx, Option.some.injEq]
        constructor
        · rintro (h | h)
          · exact .inl h
          · exact .inr ⟨by omega, by omega⟩
        · rintro (h | ⟨h0, h⟩)
          · exact .inl h
          · exact .inr (by omega)
      · exact ⟨k - 1, by omega, j + 1, acc, by omega, hxV.tr hy12, hmp2, hadd acc fun x => by
          constructor
          · exact .inl
          · rintro (h | ⟨h0, h⟩)
            · exact h
            · rw [hnx] at h; simp only [Option.some.injEq] at h; omega, rfl⟩
  · have hj : Ln.take j = Ln := List.take_of_length_le (by omega)
    rw [hj] at hacc
    refine (keys_ok dm V).then ?_
    rintro _ X4 ⟨rfl, rfl⟩
    have hx4 := (Ext.rfl' V).al (.cells #[.map (some dm)] 145)
    have hB4n := heap_new (w := V) (.cells #[.map (some dm)] 145) rfl
    generalize V.alloc (.cells #[.map (some dm)] 145) = X5 at hx4 hB4n ⊢
    simp (disch := first | omega | assumption | (simp only [O1, World.size_alloc, World.size_setCell, World.size_drew]; first | done | omega)) only [O1, D2, ↓H0, S0, ↓S1, ↓S2, ↓S3, ↓S4, S5, S5b, S5c, ↓S6, S6b, M0, E0, ty, tl, te, tc, i64_wrap, u64_wrap, iaV_sl, iaV_arr, faV_pa, nck_pa, heap_new, heap_old, heap_set, ↓reduceIte, Nat.reduceEqDiff, Nat.reduceLT, Nat.reduceAdd, Int.reduceLT, Int.reduceLE, decide_false, decide_true, dec_true, dec_false, true_and, and_true, true_imp_iff, Bool.not_true, Bool.not_false, Option.map_none, Int.reduceToNat, Int.toNat_zero, Int.toNat_one, lkV_false, lkV_true, f0, f5, f28, f29, f30]
    have h256 := hok.1.2.1.1
    refine (sorted_ok V.heap.size dm _ 256 X5 hB4n (hmp.ext hx4) (fun xs hnd hk => nodup_len 256 xs hnd fun x hx => ?_) (by omega)).then ?_
    · obtain ⟨v, hv⟩ := hk x hx
      have hxa : x ∈ acc := by
        unfold setF at hv
        split at hv
        · assumption
        · cases hv
      obtain ⟨h0, i, d, f, p, h1, h2, h3⟩ := (hacc x).1 hxa
      have := (hok.1.low p (List.mem_of_getElem? h2) _ (List.mem_of_getElem? h3)).1
      omega
    rintro sv X6 ⟨⟨xs, hpw, hmx, hRx⟩, hx6⟩
    simp (disch := first | omega | assumption | (simp only [O1, World.size_alloc, World.size_setCell, World.size_drew]; first | done | omega)) only [O1, D2, ↓H0, S0, ↓S1, ↓S2, ↓S3, ↓S4, S5, S5b, S5c, ↓S6, S6b, M0, E0, ty, tl, te, tc, i64_wrap, u64_wrap, iaV_sl, iaV_arr, faV_pa, nck_pa, heap_new, heap_old, heap_set, ↓reduceIte, Nat.reduceEqDiff, Nat.reduceLT, Nat.reduceAdd, Int.reduceLT, Int.reduceLE, decide_false, decide_true, dec_true, dec_false, true_and, and_true, true_imp_iff, Bool.not_true, Bool.not_false, Option.map_none, Int.reduceToNat, Int.toNat_zero, Int.toNat_one, lkV_false, lkV_true]
    refine ⟨⟨xs, hRx.sq, hpw, fun x => ?_⟩, (hxV.tr hx4).tr hx6⟩
    have hkn : n.toNat ≤ word.length := by omega
    have hma : (∃ v, setF acc x = some v) ↔ x ∈ acc := by
      unfold setF
      constructor
      · rintro ⟨v, hv⟩
        split at hv
        · assumption
        · cases hv
      · intro h; exact ⟨_, if_pos h⟩
    rw [hmx, hma, hacc]
    constructor
    · rintro ⟨h0, i, d, f, p, h1, h2, h3⟩
      exact ⟨hok, by omega, by omega, h0, (it_next hok.lefts hok.start hkn h0).1 ⟨i, d, f, p, hset.iff.1 h1, h2, h3⟩⟩
    · rintro ⟨_, _, _, h0, hy⟩
      obtain ⟨i, d, f, p, h1, h2, h3⟩ := (it_next hok.lefts hok.start hkn h0).2 hy
      exact ⟨h0, i, d, f, p, hset.iff.2 h1, h2, h3⟩
end Go.Proofs.Ytgioklmpnbnplaa
