/- The walk of facts.Loops. Conditions: none. -/
import Derived.Test.YtgioklmpnbnplaaClo
import Derived.Test.YtgioklmpnbnplaaSpr
set_option linter.unusedSimpArgs false
set_option linter.unusedVariables false
set_option maxRecDepth 100000
namespace Go.Proofs.Ytgioklmpnbnplaa
open Go.V

/-- How many symbols cannot be empty. -/
def firmB (nl : List Bool) (s : Int) : Bool := decide (s < 0) || !(nl.getD s.toNat false)
def firmN (nl : List Bool) (r : List Int) : Nat := r.countP (firmB nl)
def goesB (nl : List Bool) (f : Nat) (s : Int) : Bool := decide (0 ≤ s) && (decide (f = 0) || (decide (f = 1) && !(nl.getD s.toNat false)))
def goesL (nl : List Bool) (r : List Int) : List Int := r.filter (goesB nl (firmN nl r))
/-- The rows of steps, after so many productions. -/
def lpUp (nl : List Bool) (ps : List (Int × List Int)) (a : Int) : Nat → List Int
  | 0 => []
  | i + 1 => lpUp nl ps a i ++ if (ps.getD i (0, [])).1 = a then goesL nl (ps.getD i (0, [])).2 else []
theorem lpUp_len {nl : List Bool} {ps : List (Int × List Int)} {a : Int} {m : Nat} (h : ∀ p ∈ ps, p.2.length ≤ 16) : (lpUp nl ps a m).length ≤ 16 * m := by
  induction m with
  | zero => simp [lpUp]
  | succ m ih =>
    rw [lpUp, List.length_append]
    have : (goesL nl (ps.getD m (0, [])).2).length ≤ 16 := by
      refine Nat.le_trans (List.length_filter_le _ _) ?_
      rw [List.getD_eq_getElem?_getD]
      cases hq : ps[m]? with
      | none => simp
      | some p => exact h p (List.mem_of_getElem? hq)
    split
    · omega
    · simp; omega
theorem lpUp_mem {nl : List Bool} {ps : List (Int × List Int)} {a b : Int} : ∀ {m : Nat}, b ∈ lpUp nl ps a m ↔ ∃ i, i < m ∧ (ps.getD i (0, [])).1 = a ∧ b ∈ goesL nl (ps.getD i (0, [])).2
  | 0 => by simp [lpUp]
  | m + 1 => by
    rw [lpUp, List.mem_append, lpUp_mem]
    constructor
    · rintro (⟨i, h1, h2⟩ | h)
      · exact ⟨i, by omega, h2⟩
      · split at h
        · rename_i e; exact ⟨m, by omega, e, h⟩
        · simp at h
    · rintro ⟨i, h1, h2, h3⟩
      by_cases e : i = m
      · subst e; right; rw [if_pos h2]; exact h3
      · exact .inl ⟨i, by omega, h2, h3⟩
/-- One nonterminal derives another one beside nothing. -/
def StepP (ps : List (Int × List Int)) (a b : Int) : Prop := ∃ p ∈ ps, p.1 = a ∧ ∃ k, ∃ h : k < p.2.length, p.2[k] = b ∧ 0 ≤ b ∧ ∀ j (hj : j < p.2.length), j ≠ k → 0 ≤ p.2[j] ∧ Gen false ps p.2[j]
theorem firm_one {q : Int → Bool} : ∀ (r : List Int), (∃ k, ∃ h : k < r.length, ∀ j (hj : j < r.length), j ≠ k → q r[j] = false) ↔ r ≠ [] ∧ r.countP q ≤ 1
  | [] => by simp
  | x :: r => by
    rw [List.countP_cons]
    constructor
    · rintro ⟨k, hk, h⟩
      refine ⟨by simp, ?_⟩
      cases k with
      | zero =>
        have : r.countP q = 0 := List.countP_eq_zero.2 fun y hy => by
          obtain ⟨j, hj, rfl⟩ := List.mem_iff_getElem.1 hy
          have := h (j + 1) (by simpa using hj) (by omega)
          simpa using this
        split <;> omega
      | succ k =>
        have h0 := h 0 (by simp) (by omega)
        simp only [List.getElem_cons_zero] at h0
        have := ((firm_one r).1 ⟨k, by simpa using hk, fun j hj hne => by have := h (j + 1) (by simpa using hj) (by omega); simpa using this⟩).2
        simp [h0]; exact this
    · rintro ⟨_, h⟩
      by_cases hx : q x = true
      · simp only [hx, if_true] at h
        have h0 : r.countP q = 0 := by omega
        refine ⟨0, by simp, fun j hj hne => ?_⟩
        cases j with
        | zero => exact absurd rfl hne
        | succ j =>
          have hj' : j < r.length := by simpa using hj
          have := List.countP_eq_zero.1 h0 r[j] (List.getElem_mem _)
          simpa using this
      · have hx' : q x = false := by simpa using hx
        cases r with
        | nil => exact ⟨0, by simp, fun j hj hne => by simp at hj; omega⟩
        | cons y r =>
          simp only [hx', Bool.false_eq_true, if_false] at h
          obtain ⟨k, hk, hh⟩ := (firm_one (y :: r)).2 ⟨by simp, by omega⟩
          refine ⟨k + 1, by simpa using hk, fun j hj hne => ?_⟩
          cases j with
          | zero => simpa using hx'
          | succ j => have := hh j (by simpa using hj) (by omega); simpa using this
theorem goes_iff {nl : List Bool} {n : Nat} {ps : List (Int × List Int)} (hT : Tells n (Gen false ps) nl) {r : List Int} (hr : ∀ s ∈ r, s < n) {b : Int} :
    b ∈ goesL nl r ↔ ∃ k, ∃ h : k < r.length, r[k] = b ∧ 0 ≤ b ∧ ∀ j (hj : j < r.length), j ≠ k → 0 ≤ r[j] ∧ Gen false ps r[j] := by
  have hfirm : ∀ s ∈ r, firmB nl s = false ↔ 0 ≤ s ∧ Gen false ps s := by
    intro s hs
    have hsn := hr s hs
    unfold firmB
    by_cases h0 : 0 ≤ s
    · have h1 := hT.2 s.toNat (by omega)
      rw [Int.toNat_of_nonneg h0] at h1
      have hl : s.toNat < nl.length := by rw [hT.1]; omega
      rw [List.getD_eq_getElem?_getD]
      rw [List.getElem?_eq_getElem hl] at h1 ⊢
      simp only [Option.some.injEq] at h1
      have h2 : ¬ s < 0 := by omega
      simp [h2, h0, h1]
    · have h2 : s < 0 := by omega
      simp [h2, h0]
  unfold goesL goesB firmN
  rw [List.mem_filter]
  constructor
  · rintro ⟨hb, hc⟩
    simp only [Bool.and_eq_true, decide_eq_true_eq, Bool.or_eq_true] at hc
    obtain ⟨h0, hc⟩ := hc
    obtain ⟨k, hk, rfl⟩ := List.mem_iff_getElem.1 hb
    refine ⟨k, hk, rfl, h0, fun j hj hne => (hfirm _ (List.getElem_mem _)).1 ?_⟩
    rcases hc with hc | ⟨hc, hn⟩
    · have := List.countP_eq_zero.1 hc r[j] (List.getElem_mem _)
      simpa using this
    · obtain ⟨k', hk', hh⟩ := (firm_one (q := firmB nl) r).2 ⟨List.ne_nil_of_length_pos (by omega), by omega⟩
      have hkf : firmB nl r[k] = true := by unfold firmB; simp only [hn, Bool.or_true]
      have : k = k' := Classical.byContradiction fun hne' => by have := hh k hk hne'; rw [hkf] at this; cases this
      subst this
      exact hh j hj hne
  · rintro ⟨k, hk, rfl, h0, hh⟩
    refine ⟨List.getElem_mem _, ?_⟩
    have h1 := ((firm_one (q := firmB nl) r).1 ⟨k, hk, fun j hj hne => (hfirm _ (List.getElem_mem _)).2 (hh j hj hne)⟩).2
    simp only [Bool.and_eq_true, decide_eq_true_eq, Bool.or_eq_true]
    refine ⟨h0, ?_⟩
    by_cases hz : r.countP (firmB nl) = 0
    · exact .inl hz
    · right
      refine ⟨by omega, ?_⟩
      -- the one that is firm is at k
      have : firmB nl r[k] = true := by
        cases hq : firmB nl r[k] with
        | true => rfl
        | false =>
          exfalso; apply hz
          refine List.countP_eq_zero.2 fun x hx => ?_
          obtain ⟨j, hj, rfl⟩ := List.mem_iff_getElem.1 hx
          by_cases e : j = k
          · subst e; simp [hq]
          · simp [(hfirm _ (List.getElem_mem _)).2 (hh j hj e)]
      have h2 : ¬ r[k] < 0 := by omega
      simpa [firmB, h2] using this
theorem lp_iff {nl : List Bool} {n : Nat} {ps : List (Int × List Int)} (hT : Tells n (Gen false ps) nl) (hr : InR n ps) {a b : Int} : b ∈ lpUp nl ps a ps.length ↔ StepP ps a b := by
  rw [lpUp_mem]
  constructor
  · rintro ⟨i, hi, h1, h2⟩
    have hD : ps.getD i (0, []) = ps[i] := by simp [List.getD_eq_getElem?_getD, List.getElem?_eq_getElem hi]
    rw [hD] at h1 h2
    exact ⟨ps[i], List.getElem_mem _, h1, (goes_iff hT (hr _ (List.getElem_mem _)).2).1 h2⟩
  · rintro ⟨p, hp, h1, h2⟩
    obtain ⟨i, hi, rfl⟩ := List.mem_iff_getElem.1 hp
    have hD : ps.getD i (0, []) = ps[i] := by simp [List.getD_eq_getElem?_getD, List.getElem?_eq_getElem hi]
    exact ⟨i, hi, by rw [hD]; exact h1, by rw [hD]; exact (goes_iff hT (hr _ (List.getElem_mem _)).2).2 h2⟩
inductive Tg (S : Int → Int → Prop) (a : Int) : Int → Prop
  | one {b : Int} (h : S a b) : Tg S a b
  | more {b c : Int} (h : Tg S a b) (h2 : S b c) : Tg S a c
theorem reach_tg {S : Int → Int → Prop} {a : Int} {row : List Int} (hr : ∀ b, b ∈ row ↔ S a b) {x : Int} : Reach S row x ↔ Tg S a x := by
  constructor
  · intro h
    induction h with
    | base h => exact .one ((hr _).1 h)
    | step h h2 ih => exact .more ih h2
  · intro h
    induction h with
    | one h => exact .base ((hr _).2 h)
    | more h h2 ih => exact .step ih h2
/-- A row of rows of the call's own beside the grammar's box. -/
structure RowW (w U : World) (bx : Array Value) (B0 G base : Nat) (F : List (List Int)) : Prop where
  ext : Ext w U
  box : U.heap[B0]? = some (.cells bx 41 (0, 0))
  rows : RowsO IV base 3 23 U G F
  gb : G = base
  le : base ≤ U.heap.size
  gw : w.heap.size ≤ G
  bw : w.heap.size ≤ base
theorem RowW.ext' {w U V : World} {bx : Array Value} {B0 G base : Nat} {F : List (List Int)} (h : RowW w U bx B0 G base F) (hx : Ext U V) : RowW w V bx B0 G base F :=
  ⟨h.ext.tr hx, hx.hp h.box, h.rows.ext hx, h.gb, Nat.le_trans h.le hx.size, h.gw, h.bw⟩
theorem RowW.push {w U : World} {bx : Array Value} {B0 G base : Nat} {F : List (List Int)} (h : RowW w U bx B0 G base F) (s : Nat) (hs : s < F.length) (hl : F[s].length < 1000000000000) (x : Int) :
    ∃ u, rd U (some ⟨G, 0, none⟩) s = some u ∧ cellO (U.heap[G]?) s = some u ∧ G ∉ u.ownBlock.toList ∧ (∀ (q T : Nat) (cs : Array Value) (f : Nat × Nat), T ≠ 3 → U.heap[q]? = some (.cells cs T f) → q ∉ u.ownBlock.toList) ∧
      ∀ (rt : TypeId) (K : KV), (∀ v' Y, Keep u.ownBlock.toList (U.alloc (.cells #[IV x] 3)) Y → U.heap.size < Y.heap.size → Ext w Y → (∀ b, b < G → Y.heap[b]? = U.heap[b]?) → stoT Try.prog 23 Y (pa (some ⟨G, 0, none⟩) s) v' = some (Y.setCell ⟨G, s, none⟩ v') → RowW w (Y.setCell ⟨G, s, none⟩ v') bx B0 G base (F.set s (F[s] ++ [x])) →
          (∀ (q T : Nat) (cs : Array Value) (f : Nat × Nat), T ≠ 3 → T ≠ 23 → U.heap[q]? = some (.cells cs T f) → Y.heap[q]? = some (.cells cs T f) ∧ (Y.setCell ⟨G, s, none⟩ v').heap[q]? = some (.cells cs T f)) → K.out v' Y) →
        @RunA Try.prog #[23, 23] rt #[u, .slice (some ⟨U.heap.size, 0, none⟩) 1 1] (U.alloc (.cells #[IV x] 3)) K := by
  obtain ⟨u, hu, hRu, hug, hput⟩ := h.rows.at (by decide) s hs
  have hu' := hu
  rw [rd_own, Nat.zero_add] at hu'
  have hno : ∀ (q T : Nat) (cs : Array Value) (f : Nat × Nat), T ≠ 3 → U.heap[q]? = some (.cells cs T f) → u.ownBlock ≠ some q := fun q T cs f hT hq => hRu.ne hq hT
  refine ⟨u, hu, hu', by simpa [Option.mem_toList] using hug, fun q T cs f hT hq => by simpa [Option.mem_toList] using hno q T cs f hT hq, fun rt K hK => ?_⟩
  refine RunA_row2 (enc := IV) (x := x) sl23 hRu rfl hl (by omega) h.le ?_
  intro v' Y hR' hg2 hsz hv hg3
  obtain ⟨cs, hY, hcs, hO2, hone⟩ := hput v' Y _ hR' hg2 hv
  have hst := sto_own (P := Try.prog) (T := 23) (w := Y) (g := G) (o := 0) (k := s) (x := v') (by simp only [ty]) hY (by simpa using hcs) hone
  rw [Nat.zero_add] at hst
  have keepq : ∀ (q T : Nat) (cs : Array Value) (f : Nat × Nat), T ≠ 3 → T ≠ 23 → U.heap[q]? = some (.cells cs T f) → Y.heap[q]? = some (.cells cs T f) ∧ (Y.setCell ⟨G, s, none⟩ v').heap[q]? = some (.cells cs T f) := by
    intro q T cs f hT hT2 hq
    have h1 : Y.heap[q]? = some (.cells cs T f) := (hg2.block q (lt_heap hq) (fun e => hno q T cs f hT hq e.symm)).trans hq
    exact ⟨h1, (heap_set _ (h.rows.ne hq hT2)).trans h1⟩
  have hxY : Ext w Y := h.ext.grown' hg2 (fun k hk => by have := (hRu.lt k hk).1; have := h.bw; omega)
  have hle := h.le
  exact hK v' Y (Keep.of_grown hg3 fun g hg => by simp [Option.mem_toList, hg]) hsz hxY (fun b hb => hg2.block b (by have := h.rows.lt; omega) fun e => by have := (hRu.lt b e.symm).1; have := h.gb; omega) hst ⟨hxY.st h.gw _, (keepq _ _ _ _ (by decide) (by decide) h.box).2, hO2, h.gb, by simp; omega, h.gw, h.bw⟩ keepq
set_option maxHeartbeats 4000000 in
theorem loops_ok (v : Value) (g : PG) (w : World) (hg : RepPG w v g) (hs : SmallP g) :
    Ok Try.prog 54 #[v] w fun v w' => ((¬ SoundP g ∧ v = .slice none 0 0) ∨ (SoundP g ∧ ∃ l, Bools w' v l ∧ Tells g.names.length (fun a => Tg (StepP g.prods) a a) l)) ∧ Ext w w' := by
  have hg0 := hg
  obtain ⟨nv, tv, pv, rfl, hN, hT, hp⟩ := hg
  obtain ⟨A, a, rfl, ha, hA⟩ := hN
  obtain ⟨C, c, rfl, hc, hC⟩ := hp
  (refine Ok.enter Try.func54 rfl (by kernel_rfl) (Nat.le_of_ble_eq_true rfl) ?_; simp only [Try.f54, S7])
  simp (disch := first | omega | assumption | (simp only [O1, World.size_alloc, World.size_setCell, World.size_drew]; first | done | omega)) only [O1, D2, ↓H0, S0, ↓S1, ↓S2, ↓S3, ↓S4, S5, S5b, S5c, ↓S6, S6b, M0, E0, ty, tl, te, tc, i64_wrap, u64_wrap, iaV_sl, iaV_arr, faV_pa, nck_pa, heap_new, heap_old, heap_set, ↓reduceIte, Nat.reduceEqDiff, Nat.reduceLT, Nat.reduceAdd, Int.reduceLT, Int.reduceLE, decide_false, decide_true, dec_true, dec_false, true_and, and_true, true_imp_iff, Bool.not_true, Bool.not_false, Option.map_none, Int.reduceToNat, Int.toNat_zero, Int.toNat_one, lkV_false, lkV_true]
  obtain ⟨bx, hbx⟩ : ∃ bx, bx = #[Value.int .i64 g.start, .int .i64 g.rules, .slice A g.names.length a, tv, .slice C g.prods.length c] := ⟨_, rfl⟩
  have hx0 := (Ext.rfl' w).al (.cells bx 41)
  have hb0 := heap_new (w := w) (.cells bx 41) rfl
  rw [hbx] at hx0 hb0
  simp (disch := first | omega | assumption | (simp only [O1, World.size_alloc, World.size_setCell, World.size_drew]; first | done | omega)) only [O1, D2, ↓H0, S0, ↓S1, ↓S2, ↓S3, ↓S4, S5, S5b, S5c, ↓S6, S6b, M0, E0, ty, tl, te, tc, i64_wrap, u64_wrap, iaV_sl, iaV_arr, faV_pa, nck_pa, heap_new, heap_old, heap_set, ↓reduceIte, Nat.reduceEqDiff, Nat.reduceLT, Nat.reduceAdd, Int.reduceLT, Int.reduceLE, decide_false, decide_true, dec_true, dec_false, true_and, and_true, true_imp_iff, Bool.not_true, Bool.not_false, Option.map_none, Int.reduceToNat, Int.toNat_zero, Int.toNat_one, lkV_false, lkV_true, ldA5]
  refine (sound_ok _ g _ (hg0.ext hx0) hs).then ?_; rintro _ W ⟨⟨b, rfl, hb⟩, hx1⟩
  have hxW := hx0.tr hx1
  have hbW := hx1.hp hb0
  cases b with
  | false =>
    simp (disch := first | omega | assumption | (simp only [O1, World.size_alloc, World.size_setCell, World.size_drew]; first | done | omega)) only [O1, D2, ↓H0, S0, ↓S1, ↓S2, ↓S3, ↓S4, S5, S5b, S5c, ↓S6, S6b, M0, E0, ty, tl, te, tc, i64_wrap, u64_wrap, iaV_sl, iaV_arr, faV_pa, nck_pa, heap_new, heap_old, heap_set, ↓reduceIte, Nat.reduceEqDiff, Nat.reduceLT, Nat.reduceAdd, Int.reduceLT, Int.reduceLE, decide_false, decide_true, dec_true, dec_false, true_and, and_true, true_imp_iff, Bool.not_true, Bool.not_false, Option.map_none, Int.reduceToNat, Int.toNat_zero, Int.toNat_one, lkV_false, lkV_true]
    exact ⟨.inl fun h => by have := hb.2 h; simp at this, hxW⟩
  | true =>
    have hS := hb.1 rfl
    have hin := hS.inR
    have hside := hS.sides
    have hn1 := hS.1.2.1
    have hn2 := hS.2.1.2.2.1
    have hx0s : w.heap.size < W.heap.size := lt_heap hbW
    simp (disch := first | omega | assumption | (simp only [O1, World.size_alloc, World.size_setCell, World.size_drew]; first | done | omega)) only [O1, D2, ↓H0, S0, ↓S1, ↓S2, ↓S3, ↓S4, S5, S5b, S5c, ↓S6, S6b, M0, E0, ty, tl, te, tc, i64_wrap, u64_wrap, iaV_sl, iaV_arr, faV_pa, nck_pa, heap_new, heap_old, heap_set, ↓reduceIte, Nat.reduceEqDiff, Nat.reduceLT, Nat.reduceAdd, Int.reduceLT, Int.reduceLE, decide_false, decide_true, dec_true, dec_false, true_and, and_true, true_imp_iff, Bool.not_true, Bool.not_false, Option.map_none, Int.reduceToNat, Int.toNat_zero, Int.toNat_one, lkV_false, lkV_true, hbW, ldA5]
    refine (nullable_ok _ g _ (hg0.ext hxW) hs).then ?_; rintro _ W1 ⟨hnl, hx2⟩
    rcases hnl with ⟨h, _⟩ | ⟨_, nl, hnl, hTl⟩
    · exact absurd hS h
    obtain ⟨NA, nc, rfl, hnc, hNA⟩ := hnl
    rw [hTl.1]
    have hbW1 := hx2.hp hbW
    have hxW1 := hxW.tr hx2
    have hxs1 := hx2.size
    simp (disch := first | omega | assumption | (simp only [O1, World.size_alloc, World.size_setCell, World.size_drew]; first | done | omega)) only [O1, D2, ↓H0, S0, ↓S1, ↓S2, ↓S3, ↓S4, S5, S5b, S5c, ↓S6, S6b, M0, E0, ty, tl, te, tc, i64_wrap, u64_wrap, iaV_sl, iaV_arr, faV_pa, nck_pa, heap_new, heap_old, heap_set, ↓reduceIte, Nat.reduceEqDiff, Nat.reduceLT, Nat.reduceAdd, Int.reduceLT, Int.reduceLE, decide_false, decide_true, dec_true, dec_false, true_and, and_true, true_imp_iff, Bool.not_true, Bool.not_false, Option.map_none, Int.reduceToNat, Int.toNat_zero, Int.toNat_one, lkV_false, lkV_true, hbW1]
    refine RunM_one sl44 rfl (by omega) (by omega) ?_
    have hO := RowsO.new (enc := IV) (base := W1.heap.size) (e := 3) (T := 23) (g := W1.heap.size) (W1.alloc (.cells (List.replicate g.names.length (.slice none 0 0)).toArray 23)) g.names.length (heap_new _ rfl)
    have hxn := (Ext.rfl' W1).al (.cells (List.replicate g.names.length (.slice none 0 0)).toArray 23)
    have hW0 : RowW w (W1.alloc (.cells (List.replicate g.names.length (.slice none 0 0)).toArray 23)) bx w.heap.size W1.heap.size W1.heap.size (List.replicate g.names.length []) :=
      ⟨hxW1.tr hxn, hbx ▸ hxn.hp hbW1, hO, rfl, by simp, by omega, by omega⟩
    have hN1 : ∀ {U : World}, Ext W1 U → ∀ i (hi : i < nl.length), rd U NA i = some (.bool nl[i]) := fun h i hi => h.rd (hNA i hi)
    have hGN := hxn
    simp (disch := first | omega | assumption | (simp only [O1, World.size_alloc, World.size_setCell, World.size_drew]; first | done | omega)) only [O1, D2, ↓H0, S0, ↓S1, ↓S2, ↓S3, ↓S4, S5, S5b, S5c, ↓S6, S6b, M0, E0, ty, tl, te, tc, i64_wrap, u64_wrap, iaV_sl, iaV_arr, faV_pa, nck_pa, heap_new, heap_old, heap_set, ↓reduceIte, Nat.reduceEqDiff, Nat.reduceLT, Nat.reduceAdd, Int.reduceLT, Int.reduceLE, decide_false, decide_true, dec_true, dec_false, true_and, and_true, true_imp_iff, Bool.not_true, Bool.not_false, Option.map_none, Int.reduceToNat, Int.toNat_zero, Int.toNat_one, lkV_false, lkV_true, hbW1]
    generalize hG : W1.heap.size = G at hW0 ⊢
    generalize W1.alloc (.cells (List.replicate g.names.length (.slice none 0 0)).toArray 23) = U0 at hW0 hGN ⊢
    clear hO hxn
    have hD0 : ∀ i, (h : i < g.prods.length) → g.prods.getD i (0, []) = g.prods[i] := fun i h => by simp [List.getD_eq_getElem?_getD, List.getElem?_eq_getElem h]
    refine ⟨fun k t U => ∃ (i : Nat) (F : List (List Int)), k + i = g.prods.length ∧ RowW w U bx w.heap.size G G F ∧ Ext W1 U ∧ F.length = g.names.length ∧ (∀ s : Nat, s < g.names.length → F[s]? = some (lpUp nl g.prods s i)) ∧
      t 1 = pa (some ⟨w.heap.size, 0, none⟩) 0 ∧ t 3 = .slice NA g.names.length nc ∧ t 4 = .slice (some ⟨G, 0, none⟩) g.names.length g.names.length ∧ t 24 = .slice C g.prods.length c ∧ t 25 = .int .i64 g.prods.length ∧ t 26 = .int .i64 i, ⟨g.prods.length, 0, _, by omega, hW0, hGN, by simp, fun s hs => by simp [lpUp, List.getElem?_replicate, hs], ?_⟩, ?_⟩
    · simp (disch := first | omega | assumption | (simp only [O1, World.size_alloc, World.size_setCell, World.size_drew]; first | done | omega)) only [O1, D2, ↓H0, S0, ↓S1, ↓S2, ↓S3, ↓S4, S5, S5b, S5c, ↓S6, S6b, M0, E0, ty, tl, te, tc, i64_wrap, u64_wrap, iaV_sl, iaV_arr, faV_pa, nck_pa, heap_new, heap_old, heap_set, ↓reduceIte, Nat.reduceEqDiff, Nat.reduceLT, Nat.reduceAdd, Int.reduceLT, Int.reduceLE, decide_false, decide_true, dec_true, dec_false, true_and, and_true, true_imp_iff, Bool.not_true, Bool.not_false, Option.map_none, Int.reduceToNat, Int.toNat_zero, Int.toNat_one, lkV_false, lkV_true] <;> rfl
    clear hW0 hGN
    rintro k t U ⟨i, F, hk, hW, hxU, hFl, hF, f1, f3, f4, f24, f25, f26⟩
    simp (disch := first | omega | assumption | (simp only [O1, World.size_alloc, World.size_setCell, World.size_drew]; first | done | omega)) only [O1, D2, ↓H0, S0, ↓S1, ↓S2, ↓S3, ↓S4, S5, S5b, S5c, ↓S6, S6b, M0, E0, ty, tl, te, tc, i64_wrap, u64_wrap, iaV_sl, iaV_arr, faV_pa, nck_pa, heap_new, heap_old, heap_set, ↓reduceIte, Nat.reduceEqDiff, Nat.reduceLT, Nat.reduceAdd, Int.reduceLT, Int.reduceLE, decide_false, decide_true, dec_true, dec_false, true_and, and_true, true_imp_iff, Bool.not_true, Bool.not_false, Option.map_none, Int.reduceToNat, Int.toNat_zero, Int.toNat_one, lkV_false, lkV_true, f1, f3, f4, f24, f25, f26]
    refine Br_if (fun h => ?_) (fun h' => ?_) <;> (try simp (disch := first | omega | assumption | (simp only [O1, World.size_alloc, World.size_setCell, World.size_drew]; first | done | omega)) only [O1, D2, ↓H0, S0, ↓S1, ↓S2, ↓S3, ↓S4, S5, S5b, S5c, ↓S6, S6b, M0, E0, ty, tl, te, tc, i64_wrap, u64_wrap, iaV_sl, iaV_arr, faV_pa, nck_pa, heap_new, heap_old, heap_set, ↓reduceIte, Nat.reduceEqDiff, Nat.reduceLT, Nat.reduceAdd, Int.reduceLT, Int.reduceLE, decide_false, decide_true, dec_true, dec_false, true_and, and_true, true_imp_iff, Bool.not_true, Bool.not_false, Option.map_none, Int.reduceToNat, Int.toNat_zero, Int.toNat_one, lkV_false, lkV_true, f1, f3, f4, f24, f25, f26])
    · have hi : i < g.prods.length := by omega
      obtain ⟨hl, r, hr, hR⟩ := hC i hi
      obtain ⟨D, d, rfl, hd, hD⟩ := hR
      have hl' := hW.ext.rd hl
      have hr' := hW.ext.rd hr
      have hAs := rd_isSome hl
      have hmem : g.prods[i] ∈ g.prods := List.getElem_mem _
      have hgD := hD0 i hi
      generalize hp : g.prods[i] = p at *
      obtain ⟨⟨hp0, hp1⟩, hps⟩ := hin p hmem
      have hlen := hside p hmem
      have hU1 := (Ext.rfl' U).al (.cells #[.int .i64 p.1, .slice D p.2.length d] 35)
      have hW1 := hW.ext' hU1
      have hxU1 := hxU.tr hU1
      simp (disch := first | omega | assumption | (simp only [O1, World.size_alloc, World.size_setCell, World.size_drew]; first | done | omega)) only [O1, D2, ↓H0, S0, ↓S1, ↓S2, ↓S3, ↓S4, S5, S5b, S5c, ↓S6, S6b, M0, E0, ty, tl, te, tc, i64_wrap, u64_wrap, iaV_sl, iaV_arr, faV_pa, nck_pa, heap_new, heap_old, heap_set, ↓reduceIte, Nat.reduceEqDiff, Nat.reduceLT, Nat.reduceAdd, Int.reduceLT, Int.reduceLE, decide_false, decide_true, dec_true, dec_false, true_and, and_true, true_imp_iff, Bool.not_true, Bool.not_false, Option.map_none, Int.reduceToNat, Int.toNat_zero, Int.toNat_one, lkV_false, lkV_true, f1, f3, f4, f24, f25, f26, hl', hr', ldA2, st35]
      generalize hq : U.heap.size = q at *
      have hqb : (U.alloc (.cells #[.int .i64 p.1, .slice D p.2.length d] 35)).heap[q]? = some (.cells #[.int .i64 p.1, .slice D p.2.length d] 35 (0, 0)) := heap_new _ hq.symm
      generalize U.alloc (.cells #[.int .i64 p.1, .slice D p.2.length d] 35) = U1 at hW1 hxU1 hqb ⊢
      refine ⟨fun k2 t V => ∃ j : Nat, k2 + j = p.2.length ∧ V = U1 ∧ t 1 = pa (some ⟨w.heap.size, 0, none⟩) 0 ∧ t 3 = .slice NA g.names.length nc ∧ t 4 = .slice (some ⟨G, 0, none⟩) g.names.length g.names.length ∧ t 24 = .slice C g.prods.length c ∧ t 25 = .int .i64 g.prods.length ∧ t 26 = .int .i64 i ∧
        t 6 = pa (some ⟨q, 0, none⟩) 0 ∧ t 7 = .int .i64 (firmN nl (p.2.take j) : Nat) ∧ t 31 = .slice D p.2.length d ∧ t 32 = .int .i64 p.2.length ∧ t 33 = .int .i64 j, ⟨p.2.length, 0, by omega, rfl, ?_⟩, ?_⟩
      · simp (disch := first | omega | assumption | (simp only [O1, World.size_alloc, World.size_setCell, World.size_drew]; first | done | omega)) only [O1, D2, ↓H0, S0, ↓S1, ↓S2, ↓S3, ↓S4, S5, S5b, S5c, ↓S6, S6b, M0, E0, ty, tl, te, tc, i64_wrap, u64_wrap, iaV_sl, iaV_arr, faV_pa, nck_pa, heap_new, heap_old, heap_set, ↓reduceIte, Nat.reduceEqDiff, Nat.reduceLT, Nat.reduceAdd, Int.reduceLT, Int.reduceLE, decide_false, decide_true, dec_true, dec_false, true_and, and_true, true_imp_iff, Bool.not_true, Bool.not_false, Option.map_none, Int.reduceToNat, Int.toNat_zero, Int.toNat_one, lkV_false, lkV_true, f1, f3, f4, f24, f25, f26]
        exact ⟨rfl, rfl⟩
      clear hU1 hl' hr' hq f1 f3 f4 f24 f25 f26
      rintro k2 t V ⟨j, hk2, rfl, f1, f3, f4, f24, f25, f26, f6, f7, f31, f32, f33⟩
      simp (disch := first | omega | assumption | (simp only [O1, World.size_alloc, World.size_setCell, World.size_drew]; first | done | omega)) only [O1, D2, ↓H0, S0, ↓S1, ↓S2, ↓S3, ↓S4, S5, S5b, S5c, ↓S6, S6b, M0, E0, ty, tl, te, tc, i64_wrap, u64_wrap, iaV_sl, iaV_arr, faV_pa, nck_pa, heap_new, heap_old, heap_set, ↓reduceIte, Nat.reduceEqDiff, Nat.reduceLT, Nat.reduceAdd, Int.reduceLT, Int.reduceLE, decide_false, decide_true, dec_true, dec_false, true_and, and_true, true_imp_iff, Bool.not_true, Bool.not_false, Option.map_none, Int.reduceToNat, Int.toNat_zero, Int.toNat_one, lkV_false, lkV_true, f1, f3, f4, f24, f25, f26, f6, f7, f31, f32, f33]
      refine Br_if (fun h2 => ?_) (fun h2' => ?_) <;> (try simp (disch := first | omega | assumption | (simp only [O1, World.size_alloc, World.size_setCell, World.size_drew]; first | done | omega)) only [O1, D2, ↓H0, S0, ↓S1, ↓S2, ↓S3, ↓S4, S5, S5b, S5c, ↓S6, S6b, M0, E0, ty, tl, te, tc, i64_wrap, u64_wrap, iaV_sl, iaV_arr, faV_pa, nck_pa, heap_new, heap_old, heap_set, ↓reduceIte, Nat.reduceEqDiff, Nat.reduceLT, Nat.reduceAdd, Int.reduceLT, Int.reduceLE, decide_false, decide_true, dec_true, dec_false, true_and, and_true, true_imp_iff, Bool.not_true, Bool.not_false, Option.map_none, Int.reduceToNat, Int.toNat_zero, Int.toNat_one, lkV_false, lkV_true, f1, f3, f4, f24, f25, f26, f6, f7, f31, f32, f33])
      · have hj : j < p.2.length := by omega
        have hs := hW1.ext.rd (hD j hj)
        have hDs := rd_isSome hs
        have htk : p.2.take (j + 1) = p.2.take j ++ [p.2[j]] := List.take_succ_eq_append_getElem hj
        have hfm : firmN nl (p.2.take (j + 1)) = firmN nl (p.2.take j) + (if firmB nl p.2[j] = true then 1 else 0) := by
          rw [htk]; unfold firmN; rw [List.countP_append, List.countP_cons, List.countP_nil]; omega
        have hxm : p.2[j] ∈ p.2 := List.getElem_mem _
        generalize hse : p.2[j] = x at *
        have hxn := hps x hxm
        have hfb : firmN nl (p.2.take j) ≤ 16 := Nat.le_trans List.countP_le_length (by rw [List.length_take]; omega)
        simp (disch := first | omega | assumption | (simp only [O1, World.size_alloc, World.size_setCell, World.size_drew]; first | done | omega)) only [O1, D2, ↓H0, S0, ↓S1, ↓S2, ↓S3, ↓S4, S5, S5b, S5c, ↓S6, S6b, M0, E0, ty, tl, te, tc, i64_wrap, u64_wrap, iaV_sl, iaV_arr, faV_pa, nck_pa, heap_new, heap_old, heap_set, ↓reduceIte, Nat.reduceEqDiff, Nat.reduceLT, Nat.reduceAdd, Int.reduceLT, Int.reduceLE, decide_false, decide_true, dec_true, dec_false, true_and, and_true, true_imp_iff, Bool.not_true, Bool.not_false, Option.map_none, Int.reduceToNat, Int.toNat_zero, Int.toNat_one, lkV_false, lkV_true, f1, f3, f4, f24, f25, f26, f6, f7, f31, f32, f33, hs]
        refine Br_if (fun h3 => ?_) (fun h3 => ?_) <;> (try simp (disch := first | omega | assumption | (simp only [O1, World.size_alloc, World.size_setCell, World.size_drew]; first | done | omega)) only [O1, D2, ↓H0, S0, ↓S1, ↓S2, ↓S3, ↓S4, S5, S5b, S5c, ↓S6, S6b, M0, E0, ty, tl, te, tc, i64_wrap, u64_wrap, iaV_sl, iaV_arr, faV_pa, nck_pa, heap_new, heap_old, heap_set, ↓reduceIte, Nat.reduceEqDiff, Nat.reduceLT, Nat.reduceAdd, Int.reduceLT, Int.reduceLE, decide_false, decide_true, dec_true, dec_false, true_and, and_true, true_imp_iff, Bool.not_true, Bool.not_false, Option.map_none, Int.reduceToNat, Int.toNat_zero, Int.toNat_one, lkV_false, lkV_true, f1, f3, f4, f24, f25, f26, f6, f7, f31, f32, f33])
        · have hfx : firmB nl x = true := by simp [firmB, h3]
          rw [if_pos hfx] at hfm
          refine ⟨k2 - 1, by omega, j + 1, by omega, ?_, rfl⟩
          rw [hfm]
        · have hxl : x.toNat < nl.length := by rw [hTl.1]; omega
          have hrn := hN1 hxU1 x.toNat hxl
          have hNs := rd_isSome hrn
          have hfx : firmB nl x = !nl[x.toNat] := by
            have h4 : ¬ x < 0 := h3
            simp [firmB, h4, List.getD_eq_getElem?_getD, List.getElem?_eq_getElem hxl]
          generalize nl[x.toNat] = y at *
          simp (disch := first | omega | assumption | (simp only [O1, World.size_alloc, World.size_setCell, World.size_drew]; first | done | omega)) only [O1, D2, ↓H0, S0, ↓S1, ↓S2, ↓S3, ↓S4, S5, S5b, S5c, ↓S6, S6b, M0, E0, ty, tl, te, tc, i64_wrap, u64_wrap, iaV_sl, iaV_arr, faV_pa, nck_pa, heap_new, heap_old, heap_set, ↓reduceIte, Nat.reduceEqDiff, Nat.reduceLT, Nat.reduceAdd, Int.reduceLT, Int.reduceLE, decide_false, decide_true, dec_true, dec_false, true_and, and_true, true_imp_iff, Bool.not_true, Bool.not_false, Option.map_none, Int.reduceToNat, Int.toNat_zero, Int.toNat_one, lkV_false, lkV_true, f1, f3, f4, f24, f25, f26, f6, f7, f31, f32, f33, hrn]
          cases y with
          | true =>
            simp (disch := first | omega | assumption | (simp only [O1, World.size_alloc, World.size_setCell, World.size_drew]; first | done | omega)) only [O1, D2, ↓H0, S0, ↓S1, ↓S2, ↓S3, ↓S4, S5, S5b, S5c, ↓S6, S6b, M0, E0, ty, tl, te, tc, i64_wrap, u64_wrap, iaV_sl, iaV_arr, faV_pa, nck_pa, heap_new, heap_old, heap_set, ↓reduceIte, Nat.reduceEqDiff, Nat.reduceLT, Nat.reduceAdd, Int.reduceLT, Int.reduceLE, decide_false, decide_true, dec_true, dec_false, true_and, and_true, true_imp_iff, Bool.not_true, Bool.not_false, Option.map_none, Int.reduceToNat, Int.toNat_zero, Int.toNat_one, lkV_false, lkV_true, f1, f3, f4, f24, f25, f26, f6, f7, f31, f32, f33, hrn]
            refine ⟨k2 - 1, by omega, j + 1, by omega, ?_, rfl⟩
            rw [hfm, hfx]; rfl
          | false =>
            simp (disch := first | omega | assumption | (simp only [O1, World.size_alloc, World.size_setCell, World.size_drew]; first | done | omega)) only [O1, D2, ↓H0, S0, ↓S1, ↓S2, ↓S3, ↓S4, S5, S5b, S5c, ↓S6, S6b, M0, E0, ty, tl, te, tc, i64_wrap, u64_wrap, iaV_sl, iaV_arr, faV_pa, nck_pa, heap_new, heap_old, heap_set, ↓reduceIte, Nat.reduceEqDiff, Nat.reduceLT, Nat.reduceAdd, Int.reduceLT, Int.reduceLE, decide_false, decide_true, dec_true, dec_false, true_and, and_true, true_imp_iff, Bool.not_true, Bool.not_false, Option.map_none, Int.reduceToNat, Int.toNat_zero, Int.toNat_one, lkV_false, lkV_true, f1, f3, f4, f24, f25, f26, f6, f7, f31, f32, f33, hrn]
            refine ⟨k2 - 1, by omega, j + 1, by omega, ?_, rfl⟩
            rw [hfm, hfx]; rfl
      · have hj : p.2.take j = p.2 := List.take_of_length_le (by omega)
        rw [hj] at f7
        have hU1' := hqb
        simp (disch := first | omega | assumption | (simp only [O1, World.size_alloc, World.size_setCell, World.size_drew]; first | done | omega)) only [O1, D2, ↓H0, S0, ↓S1, ↓S2, ↓S3, ↓S4, S5, S5b, S5c, ↓S6, S6b, M0, E0, ty, tl, te, tc, i64_wrap, u64_wrap, iaV_sl, iaV_arr, faV_pa, nck_pa, heap_new, heap_old, heap_set, ↓reduceIte, Nat.reduceEqDiff, Nat.reduceLT, Nat.reduceAdd, Int.reduceLT, Int.reduceLE, decide_false, decide_true, dec_true, dec_false, true_and, and_true, true_imp_iff, Bool.not_true, Bool.not_false, Option.map_none, Int.reduceToNat, Int.toNat_zero, Int.toNat_one, lkV_false, lkV_true, f1, f3, f4, f24, f25, f26, f6, f7, f31, f32, f33, hqb]
        obtain ⟨f, hf⟩ : ∃ f, f = firmN nl p.2 := ⟨_, rfl⟩
        have hfb : f ≤ 16 := by rw [hf]; exact Nat.le_trans List.countP_le_length hlen
        rw [← hf] at f7
        refine ⟨fun k3 t Y => ∃ (j : Nat) (F2 : List (List Int)), k3 + j = p.2.length ∧ RowW w Y bx w.heap.size G G F2 ∧ Ext W1 Y ∧ F2.length = g.names.length ∧ (∀ s : Nat, s < g.names.length → F2[s]? = some (lpUp nl g.prods s i ++ if p.1 = (s : Int) then (p.2.take j).filter (goesB nl f) else [])) ∧
          Y.heap[q]? = some (.cells #[.int .i64 p.1, .slice D p.2.length d] 35 (0, 0)) ∧ t 1 = pa (some ⟨w.heap.size, 0, none⟩) 0 ∧ t 3 = .slice NA g.names.length nc ∧ t 4 = .slice (some ⟨G, 0, none⟩) g.names.length g.names.length ∧ t 24 = .slice C g.prods.length c ∧ t 25 = .int .i64 g.prods.length ∧ t 26 = .int .i64 i ∧
          t 6 = pa (some ⟨q, 0, none⟩) 0 ∧ t 7 = .int .i64 f ∧ t 50 = .slice D p.2.length d ∧ t 51 = .int .i64 p.2.length ∧ t 52 = .int .i64 j, ⟨p.2.length, 0, F, by omega, hW1, hxU1, hFl, fun s hs => by rw [hF s hs]; simp, hqb, ?_⟩, ?_⟩
        · simp (disch := first | omega | assumption | (simp only [O1, World.size_alloc, World.size_setCell, World.size_drew]; first | done | omega)) only [O1, D2, ↓H0, S0, ↓S1, ↓S2, ↓S3, ↓S4, S5, S5b, S5c, ↓S6, S6b, M0, E0, ty, tl, te, tc, i64_wrap, u64_wrap, iaV_sl, iaV_arr, faV_pa, nck_pa, heap_new, heap_old, heap_set, ↓reduceIte, Nat.reduceEqDiff, Nat.reduceLT, Nat.reduceAdd, Int.reduceLT, Int.reduceLE, decide_false, decide_true, dec_true, dec_false, true_and, and_true, true_imp_iff, Bool.not_true, Bool.not_false, Option.map_none, Int.reduceToNat, Int.toNat_zero, Int.toNat_one, lkV_false, lkV_true, f1, f3, f4, f24, f25, f26, f6, f7] <;> rfl
        clear hW1 hxU1 hFl hF hqb hW f1 f3 f4 f24 f25 f26 f6 f7 f31 f32 f33 hU1' hj
        rintro k3 t Y ⟨j, F2, hk3, hW, hxY, hFl, hF, hqb, f1, f3, f4, f24, f25, f26, f6, f7, f50, f51, f52⟩
        simp (disch := first | omega | assumption | (simp only [O1, World.size_alloc, World.size_setCell, World.size_drew]; first | done | omega)) only [O1, D2, ↓H0, S0, ↓S1, ↓S2, ↓S3, ↓S4, S5, S5b, S5c, ↓S6, S6b, M0, E0, ty, tl, te, tc, i64_wrap, u64_wrap, iaV_sl, iaV_arr, faV_pa, nck_pa, heap_new, heap_old, heap_set, ↓reduceIte, Nat.reduceEqDiff, Nat.reduceLT, Nat.reduceAdd, Int.reduceLT, Int.reduceLE, decide_false, decide_true, dec_true, dec_false, true_and, and_true, true_imp_iff, Bool.not_true, Bool.not_false, Option.map_none, Int.reduceToNat, Int.toNat_zero, Int.toNat_one, lkV_false, lkV_true, f1, f3, f4, f24, f25, f26, f6, f7, f50, f51, f52]
        refine Br_if (fun h2 => ?_) (fun h2' => ?_) <;> (try simp (disch := first | omega | assumption | (simp only [O1, World.size_alloc, World.size_setCell, World.size_drew]; first | done | omega)) only [O1, D2, ↓H0, S0, ↓S1, ↓S2, ↓S3, ↓S4, S5, S5b, S5c, ↓S6, S6b, M0, E0, ty, tl, te, tc, i64_wrap, u64_wrap, iaV_sl, iaV_arr, faV_pa, nck_pa, heap_new, heap_old, heap_set, ↓reduceIte, Nat.reduceEqDiff, Nat.reduceLT, Nat.reduceAdd, Int.reduceLT, Int.reduceLE, decide_false, decide_true, dec_true, dec_false, true_and, and_true, true_imp_iff, Bool.not_true, Bool.not_false, Option.map_none, Int.reduceToNat, Int.toNat_zero, Int.toNat_one, lkV_false, lkV_true, f1, f3, f4, f24, f25, f26, f6, f7, f50, f51, f52])
        · have hj : j < p.2.length := by omega
          have hs := hW.ext.rd (hD j hj)
          have hDs := rd_isSome hs
          have htk : p.2.take (j + 1) = p.2.take j ++ [p.2[j]] := List.take_succ_eq_append_getElem hj
          have hxm : p.2[j] ∈ p.2 := List.getElem_mem _
          generalize hse : p.2[j] = x at *
          have hxn := hps x hxm
          have hskip : goesB nl f x = false → ∀ s : Nat, s < g.names.length → F2[s]? = some (lpUp nl g.prods s i ++ if p.1 = (s : Int) then (p.2.take (j + 1)).filter (goesB nl f) else []) := fun h s hs => by
            rw [hF s hs, htk, List.filter_append]; simp [h]
          simp (disch := first | omega | assumption | (simp only [O1, World.size_alloc, World.size_setCell, World.size_drew]; first | done | omega)) only [O1, D2, ↓H0, S0, ↓S1, ↓S2, ↓S3, ↓S4, S5, S5b, S5c, ↓S6, S6b, M0, E0, ty, tl, te, tc, i64_wrap, u64_wrap, iaV_sl, iaV_arr, faV_pa, nck_pa, heap_new, heap_old, heap_set, ↓reduceIte, Nat.reduceEqDiff, Nat.reduceLT, Nat.reduceAdd, Int.reduceLT, Int.reduceLE, decide_false, decide_true, dec_true, dec_false, true_and, and_true, true_imp_iff, Bool.not_true, Bool.not_false, Option.map_none, Int.reduceToNat, Int.toNat_zero, Int.toNat_one, lkV_false, lkV_true, f1, f3, f4, f24, f25, f26, f6, f7, f50, f51, f52, hs]
          (refine' joinDr (fun t' W' => W' = Y ∧ goesB nl f x = true ∧ t' 1 = pa (some ⟨w.heap.size, 0, none⟩) 0 ∧ t' 3 = .slice NA g.names.length nc ∧ t' 4 = .slice (some ⟨G, 0, none⟩) g.names.length g.names.length ∧ t' 24 = .slice C g.prods.length c ∧ t' 25 = .int .i64 g.prods.length ∧ t' 26 = .int .i64 i ∧ t' 6 = pa (some ⟨q, 0, none⟩) 0 ∧ t' 7 = .int .i64 f ∧ t' 50 = .slice D p.2.length d ∧ t' 51 = .int .i64 p.2.length ∧ t' 52 = .int .i64 j ∧ t' 11 = .int .i64 x) (fun key => ?_) ?_; rotate_left 4)
          · refine Br_if (fun h3 => ?_) (fun h3 => ?_) <;> (try simp (disch := first | omega | assumption | (simp only [O1, World.size_alloc, World.size_setCell, World.size_drew]; first | done | omega)) only [O1, D2, ↓H0, S0, ↓S1, ↓S2, ↓S3, ↓S4, S5, S5b, S5c, ↓S6, S6b, M0, E0, ty, tl, te, tc, i64_wrap, u64_wrap, iaV_sl, iaV_arr, faV_pa, nck_pa, heap_new, heap_old, heap_set, ↓reduceIte, Nat.reduceEqDiff, Nat.reduceLT, Nat.reduceAdd, Int.reduceLT, Int.reduceLE, decide_false, decide_true, dec_true, dec_false, true_and, and_true, true_imp_iff, Bool.not_true, Bool.not_false, Option.map_none, Int.reduceToNat, Int.toNat_zero, Int.toNat_one, lkV_false, lkV_true, f1, f3, f4, f24, f25, f26, f6, f7, f50, f51, f52])
            · have hxl : x.toNat < nl.length := by rw [hTl.1]; omega
              have hrn := hN1 hxY x.toNat hxl
              have hNs := rd_isSome hrn
              have hgy : nl.getD x.toNat false = nl[x.toNat] := by simp [List.getD_eq_getElem?_getD, List.getElem?_eq_getElem hxl]
              generalize nl[x.toNat] = y at *
              refine Br_if (fun h4 => ?_) (fun h4 => ?_) <;> (try simp (disch := first | omega | assumption | (simp only [O1, World.size_alloc, World.size_setCell, World.size_drew]; first | done | omega)) only [O1, D2, ↓H0, S0, ↓S1, ↓S2, ↓S3, ↓S4, S5, S5b, S5c, ↓S6, S6b, M0, E0, ty, tl, te, tc, i64_wrap, u64_wrap, iaV_sl, iaV_arr, faV_pa, nck_pa, heap_new, heap_old, heap_set, ↓reduceIte, Nat.reduceEqDiff, Nat.reduceLT, Nat.reduceAdd, Int.reduceLT, Int.reduceLE, decide_false, decide_true, dec_true, dec_false, true_and, and_true, true_imp_iff, Bool.not_true, Bool.not_false, Option.map_none, Int.reduceToNat, Int.toNat_zero, Int.toNat_one, lkV_false, lkV_true, f1, f3, f4, f24, f25, f26, f6, f7, f50, f51, f52])
              · refine key _ _ ⟨rfl, by simp [goesB, h3]; left; omega, ?_⟩
                simp (disch := first | omega | assumption | (simp only [O1, World.size_alloc, World.size_setCell, World.size_drew]; first | done | omega)) only [O1, D2, ↓H0, S0, ↓S1, ↓S2, ↓S3, ↓S4, S5, S5b, S5c, ↓S6, S6b, M0, E0, ty, tl, te, tc, i64_wrap, u64_wrap, iaV_sl, iaV_arr, faV_pa, nck_pa, heap_new, heap_old, heap_set, ↓reduceIte, Nat.reduceEqDiff, Nat.reduceLT, Nat.reduceAdd, Int.reduceLT, Int.reduceLE, decide_false, decide_true, dec_true, dec_false, true_and, and_true, true_imp_iff, Bool.not_true, Bool.not_false, Option.map_none, Int.reduceToNat, Int.toNat_zero, Int.toNat_one, lkV_false, lkV_true, f1, f3, f4, f24, f25, f26, f6, f7, f50, f51, f52]
              · refine Br_if (fun h5 => ?_) (fun h5 => ?_) <;> (try simp (disch := first | omega | assumption | (simp only [O1, World.size_alloc, World.size_setCell, World.size_drew]; first | done | omega)) only [O1, D2, ↓H0, S0, ↓S1, ↓S2, ↓S3, ↓S4, S5, S5b, S5c, ↓S6, S6b, M0, E0, ty, tl, te, tc, i64_wrap, u64_wrap, iaV_sl, iaV_arr, faV_pa, nck_pa, heap_new, heap_old, heap_set, ↓reduceIte, Nat.reduceEqDiff, Nat.reduceLT, Nat.reduceAdd, Int.reduceLT, Int.reduceLE, decide_false, decide_true, dec_true, dec_false, true_and, and_true, true_imp_iff, Bool.not_true, Bool.not_false, Option.map_none, Int.reduceToNat, Int.toNat_zero, Int.toNat_one, lkV_false, lkV_true, f1, f3, f4, f24, f25, f26, f6, f7, f50, f51, f52, hrn])
                · cases y with
                  | true =>
                    simp (disch := first | omega | assumption | (simp only [O1, World.size_alloc, World.size_setCell, World.size_drew]; first | done | omega)) only [O1, D2, ↓H0, S0, ↓S1, ↓S2, ↓S3, ↓S4, S5, S5b, S5c, ↓S6, S6b, M0, E0, ty, tl, te, tc, i64_wrap, u64_wrap, iaV_sl, iaV_arr, faV_pa, nck_pa, heap_new, heap_old, heap_set, ↓reduceIte, Nat.reduceEqDiff, Nat.reduceLT, Nat.reduceAdd, Int.reduceLT, Int.reduceLE, decide_false, decide_true, dec_true, dec_false, true_and, and_true, true_imp_iff, Bool.not_true, Bool.not_false, Option.map_none, Int.reduceToNat, Int.toNat_zero, Int.toNat_one, lkV_false, lkV_true, f1, f3, f4, f24, f25, f26, f6, f7, f50, f51, f52]
                    exact ⟨k3 - 1, by omega, j + 1, F2, by omega, hW, hxY, hFl, hskip (by simp only [goesB, hgy, Bool.not_true, Bool.and_false, Bool.or_false, Bool.and_eq_false_iff, decide_eq_false_iff_not]; omega), hqb, rfl⟩
                  | false =>
                    simp (disch := first | omega | assumption | (simp only [O1, World.size_alloc, World.size_setCell, World.size_drew]; first | done | omega)) only [O1, D2, ↓H0, S0, ↓S1, ↓S2, ↓S3, ↓S4, S5, S5b, S5c, ↓S6, S6b, M0, E0, ty, tl, te, tc, i64_wrap, u64_wrap, iaV_sl, iaV_arr, faV_pa, nck_pa, heap_new, heap_old, heap_set, ↓reduceIte, Nat.reduceEqDiff, Nat.reduceLT, Nat.reduceAdd, Int.reduceLT, Int.reduceLE, decide_false, decide_true, dec_true, dec_false, true_and, and_true, true_imp_iff, Bool.not_true, Bool.not_false, Option.map_none, Int.reduceToNat, Int.toNat_zero, Int.toNat_one, lkV_false, lkV_true, f1, f3, f4, f24, f25, f26, f6, f7, f50, f51, f52]
                    refine key _ _ ⟨rfl, by simp only [goesB, hgy, Bool.not_false, Bool.and_true, Bool.and_eq_true, Bool.or_eq_true, decide_eq_true_eq]; omega, ?_⟩
                    simp (disch := first | omega | assumption | (simp only [O1, World.size_alloc, World.size_setCell, World.size_drew]; first | done | omega)) only [O1, D2, ↓H0, S0, ↓S1, ↓S2, ↓S3, ↓S4, S5, S5b, S5c, ↓S6, S6b, M0, E0, ty, tl, te, tc, i64_wrap, u64_wrap, iaV_sl, iaV_arr, faV_pa, nck_pa, heap_new, heap_old, heap_set, ↓reduceIte, Nat.reduceEqDiff, Nat.reduceLT, Nat.reduceAdd, Int.reduceLT, Int.reduceLE, decide_false, decide_true, dec_true, dec_false, true_and, and_true, true_imp_iff, Bool.not_true, Bool.not_false, Option.map_none, Int.reduceToNat, Int.toNat_zero, Int.toNat_one, lkV_false, lkV_true, f1, f3, f4, f24, f25, f26, f6, f7, f50, f51, f52]
                · exact ⟨k3 - 1, by omega, j + 1, F2, by omega, hW, hxY, hFl, hskip (by simp [goesB]; omega), hqb, rfl⟩
            · exact ⟨k3 - 1, by omega, j + 1, F2, by omega, hW, hxY, hFl, hskip (by simp [goesB]; omega), hqb, rfl⟩
          · rintro t Y' ⟨rfl, hgo, f1, f3, f4, f24, f25, f26, f6, f7, f50, f51, f52, f11⟩
            have hW' := hW.ext' (Ext.rfl' Y').dr
            have hsF : p.1.toNat < F2.length := by omega
            have hFx := hF p.1.toNat (by omega)
            rw [List.getElem?_eq_getElem hsF] at hFx
            simp only [Option.some.injEq] at hFx
            have hlF : F2[p.1.toNat].length < 1000000000000 := by
              rw [hFx, List.length_append]
              have h1 := lpUp_len (nl := nl) (a := ((p.1.toNat : Nat) : Int)) (m := i) hside
              have h2 : (if p.1 = ((p.1.toNat : Nat) : Int) then (p.2.take j).filter (goesB nl f) else []).length ≤ 16 := by
                split
                · exact Nat.le_trans (List.length_filter_le _ _) (by rw [List.length_take]; omega)
                · simp
              omega
            obtain ⟨u, hu, hu', hGu, hno, hpush⟩ := hW'.push p.1.toNat hsF hlF x
            have hqb' : Y'.drew.heap[q]? = some (.cells #[.int .i64 p.1, .slice D p.2.length d] 35 (0, 0)) := hqb
            have hqn := hno q _ _ _ (by decide) hqb'
            refine Dr_plan u.ownBlock.toList (upto 11) [0, 1, 2, 3, 4, 5, 6, 7, 8, 9, 10, 11, 12] mixed (by kernel_rfl) ?_
            simp (disch := first | omega | assumption | (simp only [O1, World.size_alloc, World.size_setCell, World.size_drew]; first | done | omega)) only [↓D1, ↓D3, ↓D4, List.not_mem_nil, not_false_eq_true, Bool.false_eq_true, false_imp_iff, upto, O1, D2, ↓H0, S0, ↓S1, ↓S2, ↓S3, ↓S4, S5, S5b, S5c, ↓S6, S6b, M0, E0, ty, tl, te, tc, i64_wrap, u64_wrap, iaV_sl, iaV_arr, faV_pa, nck_pa, heap_new, heap_old, heap_set, ↓reduceIte, Nat.reduceEqDiff, Nat.reduceLT, Nat.reduceAdd, Int.reduceLT, Int.reduceLE, decide_false, decide_true, dec_true, dec_false, true_and, and_true, true_imp_iff, Bool.not_true, Bool.not_false, Option.map_none, Int.reduceToNat, Int.toNat_zero, Int.toNat_one, lkV_false, lkV_true, f1, f3, f4, f24, f25, f26, f6, f7, f50, f51, f52, f11, hqb, hqb', hu, hu', hqn, hGu, bsl1 sl23]
            refine hpush _ _ fun v' Y2 hK hsz hxY2 hold hst hWn hkq => ?_
            have hq2 := (hkq q _ _ _ (by decide) (by decide) hqb').1
            have hq3 := (hkq q _ _ _ (by decide) (by decide) hqb').2
            simp (disch := first | omega | assumption | (simp only [O1, World.size_alloc, World.size_setCell, World.size_drew]; first | done | omega)) only [↓D1, ↓D3, ↓D4, List.not_mem_nil, not_false_eq_true, Bool.false_eq_true, false_imp_iff, upto, O1, D2, ↓H0, S0, ↓S1, ↓S2, ↓S3, ↓S4, S5, S5b, S5c, ↓S6, S6b, M0, E0, ty, tl, te, tc, i64_wrap, u64_wrap, iaV_sl, iaV_arr, faV_pa, nck_pa, heap_new, heap_old, heap_set, ↓reduceIte, Nat.reduceEqDiff, Nat.reduceLT, Nat.reduceAdd, Int.reduceLT, Int.reduceLE, decide_false, decide_true, dec_true, dec_false, true_and, and_true, true_imp_iff, Bool.not_true, Bool.not_false, Option.map_none, Int.reduceToNat, Int.toNat_zero, Int.toNat_one, lkV_false, lkV_true, f1, f3, f4, f24, f25, f26, f6, f7, f50, f51, f52, f11, hK, hst]
            have hxn : Ext W1 (Y2.setCell ⟨G, p.1.toNat, none⟩ v') := by
              refine ⟨hWn.ext.os.trans hxW1.os.symm, hWn.ext.tape.trans hxW1.tape.symm, hWn.ext.output.trans hxW1.output.symm, ?_, fun b hb => ?_⟩
              · have := hxY.size; have h2 : Y'.drew.heap.size = Y'.heap.size := rfl; simp; omega
              · rw [heap_set _ (by omega), hold b (by omega)]; exact hxY.block b hb
            refine ⟨k3 - 1, by omega, j + 1, _, by omega, hWn, hxn, by simpa using hFl, fun s hs => ?_, hq3, rfl⟩
            rw [List.getElem?_set, htk, List.filter_append]
            by_cases e : p.1.toNat = s
            · subst e
              have e2 : ((p.1.toNat : Nat) : Int) = p.1 := by omega
              rw [if_pos rfl, if_pos hsF, hFx, e2]
              simp [hgo]
            · have e2 : ¬ p.1 = (s : Int) := by omega
              rw [if_neg e, hF s hs]; simp [e2]
        · have hj : p.2.take j = p.2 := List.take_of_length_le (by omega)
          refine ⟨k - 1, by omega, i + 1, F2, by omega, hW, hxY, hFl, fun s hs => ?_, rfl⟩
          rw [hF s hs, lpUp, hgD, hj, hf]; rfl
    · have hil : i = g.prods.length := by omega
      subst hil
      have hbU := hbx ▸ hW.box
      have hIR := hW.rows.rows
      rw [hFl] at hIR
      have hFs : ∀ s : Nat, s < g.names.length → ∀ r, F[s]? = some r → ∀ b, b ∈ r ↔ StepP g.prods s b := fun s hs r hr b => by
        rw [hF s hs] at hr; cases hr; exact lp_iff hTl hin
      have hSx : ∀ a b, Sx F a b ↔ StepP g.prods a b := by
        intro a b
        constructor
        · rintro ⟨h0, hb⟩
          rw [List.getD_eq_getElem?_getD] at hb
          cases hq : F[a.toNat]? with
          | none => rw [hq] at hb; simp at hb
          | some r =>
            rw [hq] at hb
            have hlt : a.toNat < g.names.length := by rw [← hFl]; exact (List.getElem?_eq_some_iff.1 hq).1
            have := (hFs a.toNat hlt r hq b).1 hb
            rwa [Int.toNat_of_nonneg h0] at this
        · intro h
          obtain ⟨p, hp, rfl, _⟩ := id h
          obtain ⟨⟨hp0, hp1⟩, _⟩ := hin p hp
          refine ⟨hp0, ?_⟩
          have hlt : p.1.toNat < g.names.length := by omega
          rw [List.getD_eq_getElem?_getD, hF _ hlt]
          exact (lp_iff hTl hin).2 (by rwa [Int.toNat_of_nonneg hp0])
      have hSeq : Sx F = StepP g.prods := by funext a b; exact propext (hSx a b)
      have hrl : ∀ r ∈ F, r.length ≤ 4096 ∧ ∀ b ∈ r, 0 ≤ b ∧ b < g.names.length := by
        intro r hr
        obtain ⟨s, hs, rfl⟩ := List.mem_iff_getElem.1 hr
        have h1 := hF s (by omega)
        rw [List.getElem?_eq_getElem hs] at h1
        simp only [Option.some.injEq] at h1
        refine ⟨?_, fun b hb => ?_⟩
        · rw [h1]; have := lpUp_len (nl := nl) (a := (s : Int)) (m := g.prods.length) hside; omega
        · obtain ⟨p, hp, _, k, hk, rfl, h0, _⟩ := (hFs s (by omega) _ (List.getElem?_eq_getElem hs) b).1 hb
          exact ⟨h0, (hin p hp).2 _ (List.getElem_mem _)⟩
      simp (disch := first | omega | assumption | (simp only [O1, World.size_alloc, World.size_setCell, World.size_drew]; first | done | omega)) only [O1, D2, ↓H0, S0, ↓S1, ↓S2, ↓S3, ↓S4, S5, S5b, S5c, ↓S6, S6b, M0, E0, ty, tl, te, tc, i64_wrap, u64_wrap, iaV_sl, iaV_arr, faV_pa, nck_pa, heap_new, heap_old, heap_set, ↓reduceIte, Nat.reduceEqDiff, Nat.reduceLT, Nat.reduceAdd, Int.reduceLT, Int.reduceLE, decide_false, decide_true, dec_true, dec_false, true_and, and_true, true_imp_iff, Bool.not_true, Bool.not_false, Option.map_none, Int.reduceToNat, Int.toNat_zero, Int.toNat_one, lkV_false, lkV_true, f1, f3, f4, f24, f25, f26, hbU]
      refine RunM_own (enc := Value.bool) (z := false) sl53 rfl (by omega) (by omega) ?_
      intro V hVs hxV hOV
      generalize hO : U.heap.size = O at *
      simp (disch := first | omega | assumption | (simp only [O1, World.size_alloc, World.size_setCell, World.size_drew]; first | done | omega)) only [O1, D2, ↓H0, S0, ↓S1, ↓S2, ↓S3, ↓S4, S5, S5b, S5c, ↓S6, S6b, M0, E0, ty, tl, te, tc, i64_wrap, u64_wrap, iaV_sl, iaV_arr, faV_pa, nck_pa, heap_new, heap_old, heap_set, ↓reduceIte, Nat.reduceEqDiff, Nat.reduceLT, Nat.reduceAdd, Int.reduceLT, Int.reduceLE, decide_false, decide_true, dec_true, dec_false, true_and, and_true, true_imp_iff, Bool.not_true, Bool.not_false, Option.map_none, Int.reduceToNat, Int.toNat_zero, Int.toNat_one, lkV_false, lkV_true, f1, f3, f4, sl]
      refine ⟨fun k t X => ∃ (m : Nat) (l : List Bool), k + m = g.names.length ∧ Ext U X ∧ Own .bool 4 X O l ∧ l.length = g.names.length ∧ (∀ s : Nat, s < m → (l[s]? = some true ↔ Tg (StepP g.prods) s s)) ∧
        t 4 = .slice (some ⟨G, 0, none⟩) g.names.length g.names.length ∧ t 12 = .slice (some ⟨O, 0, none⟩) g.names.length g.names.length ∧ t 92 = .int .i64 g.names.length ∧ t 93 = .int .i64 m, ⟨g.names.length, 0, _, by omega, hxV, hOV, by simp, fun s hs => by omega, ?_⟩, ?_⟩
      · simp (disch := first | omega | assumption | (simp only [O1, World.size_alloc, World.size_setCell, World.size_drew]; first | done | omega)) only [O1, D2, ↓H0, S0, ↓S1, ↓S2, ↓S3, ↓S4, S5, S5b, S5c, ↓S6, S6b, M0, E0, ty, tl, te, tc, i64_wrap, u64_wrap, iaV_sl, iaV_arr, faV_pa, nck_pa, heap_new, heap_old, heap_set, ↓reduceIte, Nat.reduceEqDiff, Nat.reduceLT, Nat.reduceAdd, Int.reduceLT, Int.reduceLE, decide_false, decide_true, dec_true, dec_false, true_and, and_true, true_imp_iff, Bool.not_true, Bool.not_false, Option.map_none, Int.reduceToNat, Int.toNat_zero, Int.toNat_one, lkV_false, lkV_true, f1, f3, f4] <;> rfl
      clear hxV hOV hVs f1 f3 f4 f24 f25 f26
      rintro k t X ⟨m, l, hk, hxX, hOX, hll, hlm, f4, f12, f92, f93⟩
      simp (disch := first | omega | assumption | (simp only [O1, World.size_alloc, World.size_setCell, World.size_drew]; first | done | omega)) only [O1, D2, ↓H0, S0, ↓S1, ↓S2, ↓S3, ↓S4, S5, S5b, S5c, ↓S6, S6b, M0, E0, ty, tl, te, tc, i64_wrap, u64_wrap, iaV_sl, iaV_arr, faV_pa, nck_pa, heap_new, heap_old, heap_set, ↓reduceIte, Nat.reduceEqDiff, Nat.reduceLT, Nat.reduceAdd, Int.reduceLT, Int.reduceLE, decide_false, decide_true, dec_true, dec_false, true_and, and_true, true_imp_iff, Bool.not_true, Bool.not_false, Option.map_none, Int.reduceToNat, Int.toNat_zero, Int.toNat_one, lkV_false, lkV_true, f4, f12, f92, f93]
      refine Br_if (fun h2 => ?_) (fun h2' => ?_) <;> (try simp (disch := first | omega | assumption | (simp only [O1, World.size_alloc, World.size_setCell, World.size_drew]; first | done | omega)) only [O1, D2, ↓H0, S0, ↓S1, ↓S2, ↓S3, ↓S4, S5, S5b, S5c, ↓S6, S6b, M0, E0, ty, tl, te, tc, i64_wrap, u64_wrap, iaV_sl, iaV_arr, faV_pa, nck_pa, heap_new, heap_old, heap_set, ↓reduceIte, Nat.reduceEqDiff, Nat.reduceLT, Nat.reduceAdd, Int.reduceLT, Int.reduceLE, decide_false, decide_true, dec_true, dec_false, true_and, and_true, true_imp_iff, Bool.not_true, Bool.not_false, Option.map_none, Int.reduceToNat, Int.toNat_zero, Int.toNat_one, lkV_false, lkV_true, f4, f12, f92, f93])
      · have hm : m < g.names.length := by omega
        have hIX := hIR.ext hxX
        have hIX0 := hIX
        obtain ⟨A2, c2, hA2, hc2, hrows⟩ := hIX
        simp only [sl, Value.slice.injEq] at hA2
        obtain ⟨rfl, _, rfl⟩ := hA2
        obtain ⟨r, hr1, hr2⟩ := hrows m (by omega)
        have hr1' := hr1
        rw [rd_own, Nat.zero_add] at hr1'
        simp (disch := first | omega | assumption | (simp only [O1, World.size_alloc, World.size_setCell, World.size_drew]; first | done | omega)) only [O1, D2, ↓H0, S0, ↓S1, ↓S2, ↓S3, ↓S4, S5, S5b, S5c, ↓S6, S6b, M0, E0, ty, tl, te, tc, i64_wrap, u64_wrap, iaV_sl, iaV_arr, faV_pa, nck_pa, heap_new, heap_old, heap_set, ↓reduceIte, Nat.reduceEqDiff, Nat.reduceLT, Nat.reduceAdd, Int.reduceLT, Int.reduceLE, decide_false, decide_true, dec_true, dec_false, true_and, and_true, true_imp_iff, Bool.not_true, Bool.not_false, Option.map_none, Int.reduceToNat, Int.toNat_zero, Int.toNat_one, lkV_false, lkV_true, f4, f12, f92, f93, hr1, hr1']
        refine (spread_ok _ r F F[m] 4096 X (by rw [sl, ← hFl] at hIX0; rw [← hFl]; exact hIX0) hr2 (by omega) (by omega) (fun r hr => (hrl r hr).1) (by have := (hrl F[m] (List.getElem_mem _)).1; omega) (fun r hr b hb => by rw [hFl]; exact (hrl r hr).2 b hb) (fun b hb => by rw [hFl]; exact (hrl _ (List.getElem_mem _)).2 b hb)).then ?_
        rintro _ Y ⟨⟨G2, l2, rfl, hO2, hT2⟩, hxY⟩
        simp only [hFl] at hT2 ⊢
        have hml2 : m < l2.length := by rw [hT2.1]; exact hm
        have hrd2 := hO2.rd m hml2
        have hce2 := hO2.cell m hml2
        have hOY := hOX.ext hxY
        have hst := hOY.sto (P := Try.prog) (t := 4) (by simp only [ty]) m (by omega) l2[m] rfl
        have hT3 := hT2.2 m hm
        rw [List.getElem?_eq_getElem hml2, hSeq, reach_tg (hFs m hm _ (List.getElem?_eq_getElem _))] at hT3
        simp (disch := first | omega | assumption | (simp only [O1, World.size_alloc, World.size_setCell, World.size_drew]; first | done | omega)) only [O1, D2, ↓H0, S0, ↓S1, ↓S2, ↓S3, ↓S4, S5, S5b, S5c, ↓S6, S6b, M0, E0, ty, tl, te, tc, i64_wrap, u64_wrap, iaV_sl, iaV_arr, faV_pa, nck_pa, heap_new, heap_old, heap_set, ↓reduceIte, Nat.reduceEqDiff, Nat.reduceLT, Nat.reduceAdd, Int.reduceLT, Int.reduceLE, decide_false, decide_true, dec_true, dec_false, true_and, and_true, true_imp_iff, Bool.not_true, Bool.not_false, Option.map_none, Int.reduceToNat, Int.toNat_zero, Int.toNat_one, lkV_false, lkV_true, f4, f12, f92, f93, hrd2, hce2, hst]
        have hOw : O ≥ U.heap.size := by omega
        refine ⟨k - 1, by omega, m + 1, _, by omega, (hxX.tr hxY).st hOw _, hOY.set _ _, by simpa using hll, fun s hs => ?_, rfl⟩
        rw [List.getElem?_set]
        by_cases e : m = s
        · subst e; rw [if_pos rfl, if_pos (by omega)]; exact hT3
        · rw [if_neg e]; exact hlm s (by omega)
      · have hsq := hOX.sq
        rw [hll] at hsq
        have hxe := hW.ext.tr hxX
        exact ⟨.inr ⟨hS, l, hsq, hll, fun s hs => hlm s (by omega)⟩, hxe⟩
end Go.Proofs.Ytgioklmpnbnplaa
