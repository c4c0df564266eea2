/- The walk of facts.Loops; The walks of facts.Reachable and of the reference's; The reference's least lengths and empty words; rows of truths compared; The walk of the reference's Reachable; The walks of the reference's Step and Loops; The walk of the reference's Loops; RowW.push once more, with all kept that is no row of numbers. Conditions: none. -/
import Derived.Test.YtgioklmpnbnplaaFa1
import Derived.Test.YtgioklmpnbnplaaKr2
set_option linter.unusedSimpArgs false
set_option linter.unusedVariables false
set_option maxRecDepth 100000
namespace Go.Proofs.Ytgioklmpnbnplaa
open Go.V

/-- How many symbols cannot be empty. -/
def firmB (nl : List Bool) (s : Int) : Bool := decide (s < 0) || !(nl.getD s.toNat false)
def firmN (nl : List Bool) (r : List Int) : Nat := r.countP (firmB nl)
def goesB (nl : List Bool) (f : Nat) (s : Int) : Bool := decide (0 ≤ s) && (decide (f = 0) || (decide (f = 1) && !(nl.getD s.toNat false)))
def goesL (nl : List Bool) (r : List Int) : List Int := r.filter (goesB nl (firmN nl r))
/-- The rows of steps, after so many productions. -/
def lpUp (nl : List Bool) (ps : List (Int × List Int)) (a : Int) : Nat → List Int
  | 0 => []
  | i + 1 => lpUp nl ps a i ++ if (ps.getD i (0, [])).1 = a then goesL nl (ps.getD i (0, [])).2 else []
theorem lpUp_len {nl : List Bool} {ps : List (Int × List Int)} {a : Int} {m : Nat} (h : ∀ p ∈ ps, p.2.length ≤ 16) : (lpUp nl ps a m).length ≤ 16 * m := by
  induction m with
  | zero => simp [lpUp]
  | succ m ih =>
    rw [lpUp, List.length_append]
    have : (goesL nl (ps.getD m (0, [])).2).length ≤ 16 := by
      refine Nat.le_trans (List.length_filter_le _ _) ?_
      rw [List.getD_eq_getElem?_getD]
      cases hq : ps[m]? with
      | none => simp
      | some p => exact h p (List.mem_of_getElem? hq)
    split
    · omega
    · simp; omega
theorem lpUp_mem {nl : List Bool} {ps : List (Int × List Int)} {a b : Int} : ∀ {m : Nat}, b ∈ lpUp nl ps a m ↔ ∃ i, i < m ∧ (ps.getD i (0, [])).1 = a ∧ b ∈ goesL nl (ps.getD i (0, [])).2
  | 0 => by simp [lpUp]
  | m + 1 => by
    rw [lpUp, List.mem_append, lpUp_mem]
    constructor
    · rintro (⟨i, h1, h2⟩ | h)
      · exact ⟨i, by omega, h2⟩
      · split at h
        · rename_i e; exact ⟨m, by omega, e, h⟩
        · simp at h
    · rintro ⟨i, h1, h2, h3⟩
      by_cases e : i = m
      · subst e; right; rw [if_pos h2]; exact h3
      · exact .inl ⟨i, by omega, h2, h3⟩
/-- One nonterminal derives another one beside nothing. -/
def StepP (ps : List (Int × List Int)) (a b : Int) : Prop := ∃ p ∈ ps, p.1 = a ∧ ∃ k, ∃ h : k < p.2.length, p.2[k] = b ∧ 0 ≤ b ∧ ∀ j (hj : j < p.2.length), j ≠ k → 0 ≤ p.2[j] ∧ Gen false ps p.2[j]
theorem firm_one {q : Int → Bool} : ∀ (r : List Int), (∃ k, ∃ h : k < r.length, ∀ j (hj : j < r.length), j ≠ k → q r[j] = false) ↔ r ≠ [] ∧ r.countP q ≤ 1
  | [] => by simp
  | x :: r => by
    rw [List.countP_cons]
    constructor
    · rintro ⟨k, hk, h⟩
      refine ⟨by simp, ?_⟩
      cases k with
      | zero =>
        have : r.countP q = 0 := List.countP_eq_zero.2 fun y hy => by
          obtain ⟨j, hj, rfl⟩ := List.mem_iff_getElem.1 hy
          have := h (j + 1) (by simpa using hj) (by omega)
          simpa using this
        split <;> omega
      | succ k =>
        have h0 := h 0 (by simp) (by omega)
        simp only [List.getElem_cons_zero] at h0
        have := ((firm_one r).1 ⟨k, by simpa using hk, fun j hj hne => by have := h (j + 1) (by simpa using hj) (by omega); simpa using this⟩).2
        simp [h0]; exact this
    · rintro ⟨_, h⟩
      by_cases hx : q x = true
      · simp only [hx, if_true] at h
        have h0 : r.countP q = 0 := by omega
        refine ⟨0, by simp, fun j hj hne => ?_⟩
        cases j with
        | zero => exact absurd rfl hne
        | succ j =>
          have hj' : j < r.length := by simpa using hj
          have := List.countP_eq_zero.1 h0 r[j] (List.getElem_mem _)
          simpa using this
      · have hx' : q x = false := by simpa using hx
        cases r with
        | nil => exact ⟨0, by simp, fun j hj hne => by simp at hj; omega⟩
        | cons y r =>
          simp only [hx', Bool.false_eq_true, if_false] at h
          obtain ⟨k, hk, hh⟩ := (firm_one (y :: r)).2 ⟨by simp, by omega⟩
          refine ⟨k + 1, by simpa using hk, fun j hj hne => ?_⟩
          cases j with
          | zero => simpa using hx'
          | succ j => have := hh j (by simpa using hj) (by omega); simpa using this
theorem goes_iff {nl : List Bool} {n : Nat} {ps : List (Int × List Int)} (hT : Tells n (Gen false ps) nl) {r : List Int} (hr : ∀ s ∈ r, s < n) {b : Int} :
    b ∈ goesL nl r ↔ ∃ k, ∃ h : k < r.length, r[k] = b ∧ 0 ≤ b ∧ ∀ j (hj : j < r.length), j ≠ k → 0 ≤ r[j] ∧ Gen false ps r[j] := by
  have hfirm : ∀ s ∈ r, firmB nl s = false ↔ 0 ≤ s ∧ Gen false ps s := by
    intro s hs
    have hsn := hr s hs
    unfold firmB
    by_cases h0 : 0 ≤ s
    · have h1 := hT.2 s.toNat (by omega)
      rw [Int.toNat_of_nonneg h0] at h1
      have hl : s.toNat < nl.length := by rw [hT.1]; omega
      rw [List.getD_eq_getElem?_getD]
      rw [List.getElem?_eq_getElem hl] at h1 ⊢
      simp only [Option.some.injEq] at h1
      have h2 : ¬ s < 0 := by omega
      simp [h2, h0, h1]
    · have h2 : s < 0 := by omega
      simp [h2, h0]
  unfold goesL goesB firmN
  rw [List.mem_filter]
  constructor
  · rintro ⟨hb, hc⟩
    simp only [Bool.and_eq_true, decide_eq_true_eq, Bool.or_eq_true] at hc
    obtain ⟨h0, hc⟩ := hc
    obtain ⟨k, hk, rfl⟩ := List.mem_iff_getElem.1 hb
    refine ⟨k, hk, rfl, h0, fun j hj hne => (hfirm _ (List.getElem_mem _)).1 ?_⟩
    rcases hc with hc | ⟨hc, hn⟩
    · have := List.countP_eq_zero.1 hc r[j] (List.getElem_mem _)
      simpa using this
    · obtain ⟨k', hk', hh⟩ := (firm_one (q := firmB nl) r).2 ⟨List.ne_nil_of_length_pos (by omega), by omega⟩
      have hkf : firmB nl r[k] = true := by unfold firmB; simp only [hn, Bool.or_true]
      have : k = k' := Classical.byContradiction fun hne' => by have := hh k hk hne'; rw [hkf] at this; cases this
      subst this
      exact hh j hj hne
  · rintro ⟨k, hk, rfl, h0, hh⟩
    refine ⟨List.getElem_mem _, ?_⟩
    have h1 := ((firm_one (q := firmB nl) r).1 ⟨k, hk, fun j hj hne => (hfirm _ (List.getElem_mem _)).2 (hh j hj hne)⟩).2
    simp only [Bool.and_eq_true, decide_eq_true_eq, Bool.or_eq_true]
    refine ⟨h0, ?_⟩
    by_cases hz : r.countP (firmB nl) = 0
    · exact .inl hz
    · right
      refine ⟨by omega, ?_⟩
      -- the one that is firm is at k
      have : firmB nl r[k] = true := by
        cases hq : firmB nl r[k] with
        | true => rfl
        | false =>
          exfalso; apply hz
          refine List.countP_eq_zero.2 fun x hx => ?_
          obtain ⟨j, hj, rfl⟩ := List.mem_iff_getElem.1 hx
          by_cases e : j = k
          · subst e; simp [hq]
          · simp [(hfirm _ (List.getElem_mem _)).2 (hh j hj e)]
      have h2 : ¬ r[k] < 0 := by omega
      simpa [firmB, h2] using this
theorem lp_iff {nl : List Bool} {n : Nat} {ps : List (Int × List Int)} (hT : Tells n (Gen false ps) nl) (hr : InR n ps) {a b : Int} : b ∈ lpUp nl ps a ps.length ↔ StepP ps a b := by
  rw [lpUp_mem]
  constructor
  · rintro ⟨i, hi, h1, h2⟩
    have hD : ps.getD i (0, []) = ps[i] := by simp [List.getD_eq_getElem?_getD, List.getElem?_eq_getElem hi]
    rw [hD] at h1 h2
    exact ⟨ps[i], List.getElem_mem _, h1, (goes_iff hT (hr _ (List.getElem_mem _)).2).1 h2⟩
  · rintro ⟨p, hp, h1, h2⟩
    obtain ⟨i, hi, rfl⟩ := List.mem_iff_getElem.1 hp
    have hD : ps.getD i (0, []) = ps[i] := by simp [List.getD_eq_getElem?_getD, List.getElem?_eq_getElem hi]
    exact ⟨i, hi, by rw [hD]; exact h1, by rw [hD]; exact (goes_iff hT (hr _ (List.getElem_mem _)).2).2 h2⟩
inductive Tg (S : Int → Int → Prop) (a : Int) : Int → Prop
  | one {b : Int} (h : S a b) : Tg S a b
  | more {b c : Int} (h : Tg S a b) (h2 : S b c) : Tg S a c
theorem reach_tg {S : Int → Int → Prop} {a : Int} {row : List Int} (hr : ∀ b, b ∈ row ↔ S a b) {x : Int} : Reach S row x ↔ Tg S a x := by
  constructor
  · intro h
    induction h with
    | base h => exact .one ((hr _).1 h)
    | step h h2 ih => exact .more ih h2
  · intro h
    induction h with
    | one h => exact .base ((hr _).2 h)
    | more h h2 ih => exact .step ih h2
/-- A row of rows of the call's own beside the grammar's box. -/
structure RowW (w U : World) (bx : Array Value) (B0 G base : Nat) (F : List (List Int)) : Prop where
  ext : Ext w U
  box : U.heap[B0]? = some (.cells bx 41 (0, 0))
  rows : RowsO IV base 3 23 U G F
  gb : G = base
  le : base ≤ U.heap.size
  gw : w.heap.size ≤ G
  bw : w.heap.size ≤ base
theorem RowW.ext' {w U V : World} {bx : Array Value} {B0 G base : Nat} {F : List (List Int)} (h : RowW w U bx B0 G base F) (hx : Ext U V) : RowW w V bx B0 G base F :=
  ⟨h.ext.tr hx, hx.hp h.box, h.rows.ext hx, h.gb, Nat.le_trans h.le hx.size, h.gw, h.bw⟩
theorem RowW.push {w U : World} {bx : Array Value} {B0 G base : Nat} {F : List (List Int)} (h : RowW w U bx B0 G base F) (s : Nat) (hs : s < F.length) (hl : F[s].length < 1000000000000) (x : Int) :
    ∃ u, rd U (some ⟨G, 0, none⟩) s = some u ∧ cellO (U.heap[G]?) s = some u ∧ G ∉ u.ownBlock.toList ∧ (∀ (q T : Nat) (cs : Array Value) (f : Nat × Nat), T ≠ 3 → U.heap[q]? = some (.cells cs T f) → q ∉ u.ownBlock.toList) ∧
      ∀ (rt : TypeId) (K : KV), (∀ v' Y, Keep u.ownBlock.toList (U.alloc (.cells #[IV x] 3)) Y → U.heap.size < Y.heap.size → Ext w Y → (∀ b, b < G → Y.heap[b]? = U.heap[b]?) → stoT Try.prog 23 Y (pa (some ⟨G, 0, none⟩) s) v' = some (Y.setCell ⟨G, s, none⟩ v') → RowW w (Y.setCell ⟨G, s, none⟩ v') bx B0 G base (F.set s (F[s] ++ [x])) →
          (∀ (q T : Nat) (cs : Array Value) (f : Nat × Nat), T ≠ 3 → T ≠ 23 → U.heap[q]? = some (.cells cs T f) → Y.heap[q]? = some (.cells cs T f) ∧ (Y.setCell ⟨G, s, none⟩ v').heap[q]? = some (.cells cs T f)) → K.out v' Y) →
        @RunA Try.prog #[23, 23] rt #[u, .slice (some ⟨U.heap.size, 0, none⟩) 1 1] (U.alloc (.cells #[IV x] 3)) K := by
  obtain ⟨u, hu, hRu, hug, hput⟩ := h.rows.at (by decide) s hs
  have hu' := hu
  rw [rd_own, Nat.zero_add] at hu'
  have hno : ∀ (q T : Nat) (cs : Array Value) (f : Nat × Nat), T ≠ 3 → U.heap[q]? = some (.cells cs T f) → u.ownBlock ≠ some q := fun q T cs f hT hq => hRu.ne hq hT
  refine ⟨u, hu, hu', by simpa [Option.mem_toList] using hug, fun q T cs f hT hq => by simpa [Option.mem_toList] using hno q T cs f hT hq, fun rt K hK => ?_⟩
  refine RunA_row2 (enc := IV) (x := x) sl23 hRu rfl hl (by omega) h.le ?_
  intro v' Y hR' hg2 hsz hv hg3
  obtain ⟨cs, hY, hcs, hO2, hone⟩ := hput v' Y _ hR' hg2 hv
  have hst := sto_own (P := Try.prog) (T := 23) (w := Y) (g := G) (o := 0) (k := s) (x := v') (by simp only [ty]) hY (by simpa using hcs) hone
  rw [Nat.zero_add] at hst
  have keepq : ∀ (q T : Nat) (cs : Array Value) (f : Nat × Nat), T ≠ 3 → T ≠ 23 → U.heap[q]? = some (.cells cs T f) → Y.heap[q]? = some (.cells cs T f) ∧ (Y.setCell ⟨G, s, none⟩ v').heap[q]? = some (.cells cs T f) := by
    intro q T cs f hT hT2 hq
    have h1 : Y.heap[q]? = some (.cells cs T f) := (hg2.block q (lt_heap hq) (fun e => hno q T cs f hT hq e.symm)).trans hq
    exact ⟨h1, (heap_set _ (h.rows.ne hq hT2)).trans h1⟩
  have hxY : Ext w Y := h.ext.grown' hg2 (fun k hk => by have := (hRu.lt k hk).1; have := h.bw; omega)
  have hle := h.le
  exact hK v' Y (Keep.of_grown hg3 fun g hg => by simp [Option.mem_toList, hg]) hsz hxY (fun b hb => hg2.block b (by have := h.rows.lt; omega) fun e => by have := (hRu.lt b e.symm).1; have := h.gb; omega) hst ⟨hxY.st h.gw _, (keepq _ _ _ _ (by decide) (by decide) h.box).2, hO2, h.gb, by simp; omega, h.gw, h.bw⟩ keepq
set_option maxHeartbeats 4000000 in
theorem loops_ok (v : Value) (g : PG) (w : World) (hg : RepPG w v g) (hs : SmallP g) :
    Ok Try.prog 54 #[v] w fun v w' => ((¬ SoundP g ∧ v = .slice none 0 0) ∨ (SoundP g ∧ ∃ l, Bools w' v l ∧ Tells g.names.length (fun a => Tg (StepP g.prods) a a) l)) ∧ Ext w w' := by
  have hg0 := hg
  obtain ⟨nv, tv, pv, rfl, hN, hT, hp⟩ := hg
  obtain ⟨A, a, rfl, ha, hA⟩ := hN
  obtain ⟨C, c, rfl, hc, hC⟩ := hp
  (refine Ok.enter Try.func54 rfl (by kernel_rfl) (Nat.le_of_ble_eq_true rfl) ?_; simp only [Try.f54, S7])
  simp (disch := first | omega | assumption | (simp only [O1, World.size_alloc, World.size_setCell, World.size_drew]; first | done | omega)) only [O1, D2, ↓H0, S0, ↓S1, ↓S2, ↓S3, ↓S4, S5, S5b, S5c, ↓S6, S6b, M0, E0, ty, tl, te, tc, i64_wrap, u64_wrap, iaV_sl, iaV_arr, faV_pa, nck_pa, heap_new, heap_old, heap_set, ↓reduceIte, Nat.reduceEqDiff, Nat.reduceLT, Nat.reduceAdd, Int.reduceLT, Int.reduceLE, decide_false, decide_true, dec_true, dec_false, true_and, and_true, true_imp_iff, Bool.not_true, Bool.not_false, Option.map_none, Int.reduceToNat, Int.toNat_zero, Int.toNat_one, lkV_false, lkV_true]
  obtain ⟨bx, hbx⟩ : ∃ bx, bx = #[Value.int .i64 g.start, .int .i64 g.rules, .slice A g.names.length a, tv, .slice C g.prods.length c] := ⟨_, rfl⟩
  have hx0 := (Ext.rfl' w).al (.cells bx 41)
  have hb0 := heap_new (w := w) (.cells bx 41) rfl
  rw [hbx] at hx0 hb0
  simp (disch := first | omega | assumption | (simp only [O1, World.size_alloc, World.size_setCell, World.size_drew]; first | done | omega)) only [O1, D2, ↓H0, S0, ↓S1, ↓S2, ↓S3, ↓S4, S5, S5b, S5c, ↓S6, S6b, M0, E0, ty, tl, te, tc, i64_wrap, u64_wrap, iaV_sl, iaV_arr, faV_pa, nck_pa, heap_new, heap_old, heap_set, ↓reduceIte, Nat.reduceEqDiff, Nat.reduceLT, Nat.reduceAdd, Int.reduceLT, Int.reduceLE, decide_false, decide_true, dec_true, dec_false, true_and, and_true, true_imp_iff, Bool.not_true, Bool.not_false, Option.map_none, Int.reduceToNat, Int.toNat_zero, Int.toNat_one, lkV_false, lkV_true, ldA5]
  refine (sound_ok _ g _ (hg0.ext hx0) hs).then ?_; rintro _ W ⟨⟨b, rfl, hb⟩, hx1⟩
  have hxW := hx0.tr hx1
  have hbW := hx1.hp hb0
  cases b with
  | false =>
    simp (disch := first | omega | assumption | (simp only [O1, World.size_alloc, World.size_setCell, World.size_drew]; first | done | omega)) only [O1, D2, ↓H0, S0, ↓S1, ↓S2, ↓S3, ↓S4, S5, S5b, S5c, ↓S6, S6b, M0, E0, ty, tl, te, tc, i64_wrap, u64_wrap, iaV_sl, iaV_arr, faV_pa, nck_pa, heap_new, heap_old, heap_set, ↓reduceIte, Nat.reduceEqDiff, Nat.reduceLT, Nat.reduceAdd, Int.reduceLT, Int.reduceLE, decide_false, decide_true, dec_true, dec_false, true_and, and_true, true_imp_iff, Bool.not_true, Bool.not_false, Option.map_none, Int.reduceToNat, Int.toNat_zero, Int.toNat_one, lkV_false, lkV_true]
    exact ⟨.inl fun h => by have := hb.2 h; simp at this, hxW⟩
  | true =>
    have hS := hb.1 rfl
    have hin := hS.inR
    have hside := hS.sides
    have hn1 := hS.1.2.1
    have hn2 := hS.2.1.2.2.1
    have hx0s : w.heap.size < W.heap.size := lt_heap hbW
    simp (disch := first | omega | assumption | (simp only [O1, World.size_alloc, World.size_setCell, World.size_drew]; first | done | omega)) only [O1, D2, ↓H0, S0, ↓S1, ↓S2, ↓S3, ↓S4, S5, S5b, S5c, ↓S6, S6b, M0, E0, ty, tl, te, tc, i64_wrap, u64_wrap, iaV_sl, iaV_arr, faV_pa, nck_pa, heap_new, heap_old, heap_set, ↓reduceIte, Nat.reduceEqDiff, Nat.reduceLT, Nat.reduceAdd, Int.reduceLT, Int.reduceLE, decide_false, decide_true, dec_true, dec_false, true_and, and_true, true_imp_iff, Bool.not_true, Bool.not_false, Option.map_none, Int.reduceToNat, Int.toNat_zero, Int.toNat_one, lkV_false, lkV_true, hbW, ldA5]
    refine (nullable_ok _ g _ (hg0.ext hxW) hs).then ?_; rintro _ W1 ⟨hnl, hx2⟩
    rcases hnl with ⟨h, _⟩ | ⟨_, nl, hnl, hTl⟩
    · exact absurd hS h
    obtain ⟨NA, nc, rfl, hnc, hNA⟩ := hnl
    rw [hTl.1]
    have hbW1 := hx2.hp hbW
    have hxW1 := hxW.tr hx2
    have hxs1 := hx2.size
    simp (disch := first | omega | assumption | (simp only [O1, World.size_alloc, World.size_setCell, World.size_drew]; first | done | omega)) only [O1, D2, ↓H0, S0, ↓S1, ↓S2, ↓S3, ↓S4, S5, S5b, S5c, ↓S6, S6b, M0, E0, ty, tl, te, tc, i64_wrap, u64_wrap, iaV_sl, iaV_arr, faV_pa, nck_pa, heap_new, heap_old, heap_set, ↓reduceIte, Nat.reduceEqDiff, Nat.reduceLT, Nat.reduceAdd, Int.reduceLT, Int.reduceLE, decide_false, decide_true, dec_true, dec_false, true_and, and_true, true_imp_iff, Bool.not_true, Bool.not_false, Option.map_none, Int.reduceToNat, Int.toNat_zero, Int.toNat_one, lkV_false, lkV_true, hbW1]
    refine RunM_one sl44 rfl (by omega) (by omega) ?_
    have hO := RowsO.new (enc := IV) (base := W1.heap.size) (e := 3) (T := 23) (g := W1.heap.size) (W1.alloc (.cells (List.replicate g.names.length (.slice none 0 0)).toArray 23)) g.names.length (heap_new _ rfl)
    have hxn := (Ext.rfl' W1).al (.cells (List.replicate g.names.length (.slice none 0 0)).toArray 23)
    have hW0 : RowW w (W1.alloc (.cells (List.replicate g.names.length (.slice none 0 0)).toArray 23)) bx w.heap.size W1.heap.size W1.heap.size (List.replicate g.names.length []) :=
      ⟨hxW1.tr hxn, hbx ▸ hxn.hp hbW1, hO, rfl, by simp, by omega, by omega⟩
    have hN1 : ∀ {U : World}, Ext W1 U → ∀ i (hi : i < nl.length), rd U NA i = some (.bool nl[i]) := fun h i hi => h.rd (hNA i hi)
    have hGN := hxn
    simp (disch := first | omega | assumption | (simp only [O1, World.size_alloc, World.size_setCell, World.size_drew]; first | done | omega)) only [O1, D2, ↓H0, S0, ↓S1, ↓S2, ↓S3, ↓S4, S5, S5b, S5c, ↓S6, S6b, M0, E0, ty, tl, te, tc, i64_wrap, u64_wrap, iaV_sl, iaV_arr, faV_pa, nck_pa, heap_new, heap_old, heap_set, ↓reduceIte, Nat.reduceEqDiff, Nat.reduceLT, Nat.reduceAdd, Int.reduceLT, Int.reduceLE, decide_false, decide_true, dec_true, dec_false, true_and, and_true, true_imp_iff, Bool.not_true, Bool.not_false, Option.map_none, Int.reduceToNat, Int.toNat_zero, Int.toNat_one, lkV_false, lkV_true, hbW1]
    generalize hG : W1.heap.size = G at hW0 ⊢
    generalize W1.alloc (.cells (List.replicate g.names.length (.slice none 0 0)).toArray 23) = U0 at hW0 hGN ⊢
    clear hO hxn
    have hD0 : ∀ i, (h : i < g.prods.length) → g.prods.getD i (0, []) = g.prods[i] := fun i h => by simp [List.getD_eq_getElem?_getD, List.getElem?_eq_getElem h]
    refine ⟨fun k t U => ∃ (i : Nat) (F : List (List Int)), k + i = g.prods.length ∧ RowW w U bx w.heap.size G G F ∧ Ext W1 U ∧ F.length = g.names.length ∧ (∀ s : Nat, s < g.names.length → F[s]? = some (lpUp nl g.prods s i)) ∧
      t 1 = pa (some ⟨w.heap.size, 0, none⟩) 0 ∧ t 3 = .slice NA g.names.length nc ∧ t 4 = .slice (some ⟨G, 0, none⟩) g.names.length g.names.length ∧ t 24 = .slice C g.prods.length c ∧ t 25 = .int .i64 g.prods.length ∧ t 26 = .int .i64 i, ⟨g.prods.length, 0, _, by omega, hW0, hGN, by simp, fun s hs => by simp [lpUp, List.getElem?_replicate, hs], ?_⟩, ?_⟩
    · simp (disch := first | omega | assumption | (simp only [O1, World.size_alloc, World.size_setCell, World.size_drew]; first | done | omega)) only [O1, D2, ↓H0, S0, ↓S1, ↓S2, ↓S3, ↓S4, S5, S5b, S5c, ↓S6, S6b, M0, E0, ty, tl, te, tc, i64_wrap, u64_wrap, iaV_sl, iaV_arr, faV_pa, nck_pa, heap_new, heap_old, heap_set, ↓reduceIte, Nat.reduceEqDiff, Nat.reduceLT, Nat.reduceAdd, Int.reduceLT, Int.reduceLE, decide_false, decide_true, dec_true, dec_false, true_and, and_true, true_imp_iff, Bool.not_true, Bool.not_false, Option.map_none, Int.reduceToNat, Int.toNat_zero, Int.toNat_one, lkV_false, lkV_true] <;> rfl
    clear hW0 hGN
    rintro k t U ⟨i, F, hk, hW, hxU, hFl, hF, f1, f3, f4, f24, f25, f26⟩
    simp (disch := first | omega | assumption | (simp only [O1, World.size_alloc, World.size_setCell, World.size_drew]; first | done | omega)) only [O1, D2, ↓H0, S0, ↓S1, ↓S2, ↓S3, ↓S4, S5, S5b, S5c, ↓S6, S6b, M0, E0, ty, tl, te, tc, i64_wrap, u64_wrap, iaV_sl, iaV_arr, faV_pa, nck_pa, heap_new, heap_old, heap_set, ↓reduceIte, Nat.reduceEqDiff, Nat.reduceLT, Nat.reduceAdd, Int.reduceLT, Int.reduceLE, decide_false, decide_true, dec_true, dec_false, true_and, and_true, true_imp_iff, Bool.not_true, Bool.not_false, Option.map_none, Int.reduceToNat, Int.toNat_zero, Int.toNat_one, lkV_false, lkV_true, f1, f3, f4, f24, f25, f26]
    refine Br_if (fun h => ?_) (fun h' => ?_) <;> (try simp (disch := first | omega | assumption | (simp only [O1, World.size_alloc, World.size_setCell, World.size_drew]; first | done | omega)) only [O1, D2, ↓H0, S0, ↓S1, ↓S2, ↓S3, ↓S4, S5, S5b, S5c, ↓S6, S6b, M0, E0, ty, tl, te, tc, i64_wrap, u64_wrap, iaV_sl, iaV_arr, faV_pa, nck_pa, heap_new, heap_old, heap_set, ↓reduceIte, Nat.reduceEqDiff, Nat.reduceLT, Nat.reduceAdd, Int.reduceLT, Int.reduceLE, decide_false, decide_true, dec_true, dec_false, true_and, and_true, true_imp_iff, Bool.not_true, Bool.not_false, Option.map_none, Int.reduceToNat, Int.toNat_zero, Int.toNat_one, lkV_false, lkV_true, f1, f3, f4, f24, f25, f26])
    · have hi : i < g.prods.length := by omega
      obtain ⟨hl, r, hr, hR⟩ := hC i hi
      obtain ⟨D, d, rfl, hd, hD⟩ := hR
      have hl' := hW.ext.rd hl
      have hr' := hW.ext.rd hr
      have hAs := rd_isSome hl
      have hmem : g.prods[i] ∈ g.prods := List.getElem_mem _
      have hgD := hD0 i hi
      generalize hp : g.prods[i] = p at *
      obtain ⟨⟨hp0, hp1⟩, hps⟩ := hin p hmem
      have hlen := hside p hmem
      have hU1 := (Ext.rfl' U).al (.cells #[.int .i64 p.1, .slice D p.2.length d] 35)
      have hW1 := hW.ext' hU1
      have hxU1 := hxU.tr hU1
      simp (disch := first | omega | assumption | (simp only [O1, World.size_alloc, World.size_setCell, World.size_drew]; first | done | omega)) only [O1, D2, ↓H0, S0, ↓S1, ↓S2, ↓S3, ↓S4, S5, S5b, S5c, ↓S6, S6b, M0, E0, ty, tl, te, tc, i64_wrap, u64_wrap, iaV_sl, iaV_arr, faV_pa, nck_pa, heap_new, heap_old, heap_set, ↓reduceIte, Nat.reduceEqDiff, Nat.reduceLT, Nat.reduceAdd, Int.reduceLT, Int.reduceLE, decide_false, decide_true, dec_true, dec_false, true_and, and_true, true_imp_iff, Bool.not_true, Bool.not_false, Option.map_none, Int.reduceToNat, Int.toNat_zero, Int.toNat_one, lkV_false, lkV_true, f1, f3, f4, f24, f25, f26, hl', hr', ldA2, st35]
      generalize hq : U.heap.size = q at *
      have hqb : (U.alloc (.cells #[.int .i64 p.1, .slice D p.2.length d] 35)).heap[q]? = some (.cells #[.int .i64 p.1, .slice D p.2.length d] 35 (0, 0)) := heap_new _ hq.symm
      generalize U.alloc (.cells #[.int .i64 p.1, .slice D p.2.length d] 35) = U1 at hW1 hxU1 hqb ⊢
      refine ⟨fun k2 t V => ∃ j : Nat, k2 + j = p.2.length ∧ V = U1 ∧ t 1 = pa (some ⟨w.heap.size, 0, none⟩) 0 ∧ t 3 = .slice NA g.names.length nc ∧ t 4 = .slice (some ⟨G, 0, none⟩) g.names.length g.names.length ∧ t 24 = .slice C g.prods.length c ∧ t 25 = .int .i64 g.prods.length ∧ t 26 = .int .i64 i ∧
        t 6 = pa (some ⟨q, 0, none⟩) 0 ∧ t 7 = .int .i64 (firmN nl (p.2.take j) : Nat) ∧ t 31 = .slice D p.2.length d ∧ t 32 = .int .i64 p.2.length ∧ t 33 = .int .i64 j, ⟨p.2.length, 0, by omega, rfl, ?_⟩, ?_⟩
      · simp (disch := first | omega | assumption | (simp only [O1, World.size_alloc, World.size_setCell, World.size_drew]; first | done | omega)) only [O1, D2, ↓H0, S0, ↓S1, ↓S2, ↓S3, ↓S4, S5, S5b, S5c, ↓S6, S6b, M0, E0, ty, tl, te, tc, i64_wrap, u64_wrap, iaV_sl, iaV_arr, faV_pa, nck_pa, heap_new, heap_old, heap_set, ↓reduceIte, Nat.reduceEqDiff, Nat.reduceLT, Nat.reduceAdd, Int.reduceLT, Int.reduceLE, decide_false, decide_true, dec_true, dec_false, true_and, and_true, true_imp_iff, Bool.not_true, Bool.not_false, Option.map_none, Int.reduceToNat, Int.toNat_zero, Int.toNat_one, lkV_false, lkV_true, f1, f3, f4, f24, f25, f26]
        exact ⟨rfl, rfl⟩
      clear hU1 hl' hr' hq f1 f3 f4 f24 f25 f26
      rintro k2 t V ⟨j, hk2, rfl, f1, f3, f4, f24, f25, f26, f6, f7, f31, f32, f33⟩
      simp (disch := first | omega | assumption | (simp only [O1, World.size_alloc, World.size_setCell, World.size_drew]; first | done | omega)) only [O1, D2, ↓H0, S0, ↓S1, ↓S2, ↓S3, ↓S4, S5, S5b, S5c, ↓S6, S6b, M0, E0, ty, tl, te, tc, i64_wrap, u64_wrap, iaV_sl, iaV_arr, faV_pa, nck_pa, heap_new, heap_old, heap_set, ↓reduceIte, Nat.reduceEqDiff, Nat.reduceLT, Nat.reduceAdd, Int.reduceLT, Int.reduceLE, decide_false, decide_true, dec_true, dec_false, true_and, and_true, true_imp_iff, Bool.not_true, Bool.not_false, Option.map_none, Int.reduceToNat, Int.toNat_zero, Int.toNat_one, lkV_false, lkV_true, f1, f3, f4, f24, f25, f26, f6, f7, f31, f32, f33]
      refine Br_if (fun h2 => ?_) (fun h2' => ?_) <;> (try simp (disch := first | omega | assumption | (simp only [O1, World.size_alloc, World.size_setCell, World.size_drew]; first | done | omega)) only [O1, D2, ↓H0, S0, ↓S1, ↓S2, ↓S3, ↓S4, S5, S5b, S5c, ↓S6, S6b, M0, E0, ty, tl, te, tc, i64_wrap, u64_wrap, iaV_sl, iaV_arr, faV_pa, nck_pa, heap_new, heap_old, heap_set, ↓reduceIte, Nat.reduceEqDiff, Nat.reduceLT, Nat.reduceAdd, Int.reduceLT, Int.reduceLE, decide_false, decide_true, dec_true, dec_false, true_and, and_true, true_imp_iff, Bool.not_true, Bool.not_false, Option.map_none, Int.reduceToNat, Int.toNat_zero, Int.toNat_one, lkV_false, lkV_true, f1, f3, f4, f24, f25, f26, f6, f7, f31, f32, f33])
      · have hj : j < p.2.length := by omega
        have hs := hW1.ext.rd (hD j hj)
        have hDs := rd_isSome hs
        have htk : p.2.take (j + 1) = p.2.take j ++ [p.2[j]] := List.take_succ_eq_append_getElem hj
        have hfm : firmN nl (p.2.take (j + 1)) = firmN nl (p.2.take j) + (if firmB nl p.2[j] = true then 1 else 0) := by
          rw [htk]; unfold firmN; rw [List.countP_append, List.countP_cons, List.countP_nil]; omega
        have hxm : p.2[j] ∈ p.2 := List.getElem_mem _
        generalize hse : p.2[j] = x at *
        have hxn := hps x hxm
        have hfb : firmN nl (p.2.take j) ≤ 16 := Nat.le_trans List.countP_le_length (by rw [List.length_take]; omega)
        simp (disch := first | omega | assumption | (simp only [O1, World.size_alloc, World.size_setCell, World.size_drew]; first | done | omega)) only [O1, D2, ↓H0, S0, ↓S1, ↓S2, ↓S3, ↓S4, S5, S5b, S5c, ↓S6, S6b, M0, E0, ty, tl, te, tc, i64_wrap, u64_wrap, iaV_sl, iaV_arr, faV_pa, nck_pa, heap_new, heap_old, heap_set, ↓reduceIte, Nat.reduceEqDiff, Nat.reduceLT, Nat.reduceAdd, Int.reduceLT, Int.reduceLE, decide_false, decide_true, dec_true, dec_false, true_and, and_true, true_imp_iff, Bool.not_true, Bool.not_false, Option.map_none, Int.reduceToNat, Int.toNat_zero, Int.toNat_one, lkV_false, lkV_true, f1, f3, f4, f24, f25, f26, f6, f7, f31, f32, f33, hs]
        refine Br_if (fun h3 => ?_) (fun h3 => ?_) <;> (try simp (disch := first | omega | assumption | (simp only [O1, World.size_alloc, World.size_setCell, World.size_drew]; first | done | omega)) only [O1, D2, ↓H0, S0, ↓S1, ↓S2, ↓S3, ↓S4, S5, S5b, S5c, ↓S6, S6b, M0, E0, ty, tl, te, tc, i64_wrap, u64_wrap, iaV_sl, iaV_arr, faV_pa, nck_pa, heap_new, heap_old, heap_set, ↓reduceIte, Nat.reduceEqDiff, Nat.reduceLT, Nat.reduceAdd, Int.reduceLT, Int.reduceLE, decide_false, decide_true, dec_true, dec_false, true_and, and_true, true_imp_iff, Bool.not_true, Bool.not_false, Option.map_none, Int.reduceToNat, Int.toNat_zero, Int.toNat_one, lkV_false, lkV_true, f1, f3, f4, f24, f25, f26, f6, f7, f31, f32, f33])
        · have hfx : firmB nl x = true := by simp [firmB, h3]
          rw [if_pos hfx] at hfm
          refine ⟨k2 - 1, by omega, j + 1, by omega, ?_, rfl⟩
          rw [hfm]
        · have hxl : x.toNat < nl.length := by rw [hTl.1]; omega
          have hrn := hN1 hxU1 x.toNat hxl
          have hNs := rd_isSome hrn
          have hfx : firmB nl x = !nl[x.toNat] := by
            have h4 : ¬ x < 0 := h3
            simp [firmB, h4, List.getD_eq_getElem?_getD, List.getElem?_eq_getElem hxl]
          generalize nl[x.toNat] = y at *
          simp (disch := first | omega | assumption | (simp only [O1, World.size_alloc, World.size_setCell, World.size_drew]; first | done | omega)) only [O1, D2, ↓H0, S0, ↓S1, ↓S2, ↓S3, ↓S4, S5, S5b, S5c, ↓S6, S6b, M0, E0, ty, tl, te, tc, i64_wrap, u64_wrap, iaV_sl, iaV_arr, faV_pa, nck_pa, heap_new, heap_old, heap_set, ↓reduceIte, Nat.reduceEqDiff, Nat.reduceLT, Nat.reduceAdd, Int.reduceLT, Int.reduceLE, decide_false, decide_true, dec_true, dec_false, true_and, and_true, true_imp_iff, Bool.not_true, Bool.not_false, Option.map_none, Int.reduceToNat, Int.toNat_zero, Int.toNat_one, lkV_false, lkV_true, f1, f3, f4, f24, f25, f26, f6, f7, f31, f32, f33, hrn]
          cases y with
          | true =>
            simp (disch := first | omega | assumption | (simp only [O1, World.size_alloc, World.size_setCell, World.size_drew]; first | done | omega)) only [O1, D2, ↓H0, S0, ↓S1, ↓S2, ↓S3, ↓S4, S5, S5b, S5c, ↓S6, S6b, M0, E0, ty, tl, te, tc, i64_wrap, u64_wrap, iaV_sl, iaV_arr, faV_pa, nck_pa, heap_new, heap_old, heap_set, ↓reduceIte, Nat.reduceEqDiff, Nat.reduceLT, Nat.reduceAdd, Int.reduceLT, Int.reduceLE, decide_false, decide_true, dec_true, dec_false, true_and, and_true, true_imp_iff, Bool.not_true, Bool.not_false, Option.map_none, Int.reduceToNat, Int.toNat_zero, Int.toNat_one, lkV_false, lkV_true, f1, f3, f4, f24, f25, f26, f6, f7, f31, f32, f33, hrn]
            refine ⟨k2 - 1, by omega, j + 1, by omega, ?_, rfl⟩
            rw [hfm, hfx]; rfl
          | false =>
            simp (disch := first | omega | assumption | (simp only [O1, World.size_alloc, World.size_setCell, World.size_drew]; first | done | omega)) only [O1, D2, ↓H0, S0, ↓S1, ↓S2, ↓S3, ↓S4, S5, S5b, S5c, ↓S6, S6b, M0, E0, ty, tl, te, tc, i64_wrap, u64_wrap, iaV_sl, iaV_arr, faV_pa, nck_pa, heap_new, heap_old, heap_set, ↓reduceIte, Nat.reduceEqDiff, Nat.reduceLT, Nat.reduceAdd, Int.reduceLT, Int.reduceLE, decide_false, decide_true, dec_true, dec_false, true_and, and_true, true_imp_iff, Bool.not_true, Bool.not_false, Option.map_none, Int.reduceToNat, Int.toNat_zero, Int.toNat_one, lkV_false, lkV_true, f1, f3, f4, f24, f25, f26, f6, f7, f31, f32, f33, hrn]
            refine ⟨k2 - 1, by omega, j + 1, by omega, ?_, rfl⟩
            rw [hfm, hfx]; rfl
      · have hj : p.2.take j = p.2 := List.take_of_length_le (by omega)
        rw [hj] at f7
        have hU1' := hqb
        simp (disch := first | omega | assumption | (simp only [O1, World.size_alloc, World.size_setCell, World.size_drew]; first | done | omega)) only [O1, D2, ↓H0, S0, ↓S1, ↓S2, ↓S3, ↓S4, S5, S5b, S5c, ↓S6, S6b, M0, E0, ty, tl, te, tc, i64_wrap, u64_wrap, iaV_sl, iaV_arr, faV_pa, nck_pa, heap_new, heap_old, heap_set, ↓reduceIte, Nat.reduceEqDiff, Nat.reduceLT, Nat.reduceAdd, Int.reduceLT, Int.reduceLE, decide_false, decide_true, dec_true, dec_false, true_and, and_true, true_imp_iff, Bool.not_true, Bool.not_false, Option.map_none, Int.reduceToNat, Int.toNat_zero, Int.toNat_one, lkV_false, lkV_true, f1, f3, f4, f24, f25, f26, f6, f7, f31, f32, f33, hqb]
        obtain ⟨f, hf⟩ : ∃ f, f = firmN nl p.2 := ⟨_, rfl⟩
        have hfb : f ≤ 16 := by rw [hf]; exact Nat.le_trans List.countP_le_length hlen
        rw [← hf] at f7
        refine ⟨fun k3 t Y => ∃ (j : Nat) (F2 : List (List Int)), k3 + j = p.2.length ∧ RowW w Y bx w.heap.size G G F2 ∧ Ext W1 Y ∧ F2.length = g.names.length ∧ (∀ s : Nat, s < g.names.length → F2[s]? = some (lpUp nl g.prods s i ++ if p.1 = (s : Int) then (p.2.take j).filter (goesB nl f) else [])) ∧
          Y.heap[q]? = some (.cells #[.int .i64 p.1, .slice D p.2.length d] 35 (0, 0)) ∧ t 1 = pa (some ⟨w.heap.size, 0, none⟩) 0 ∧ t 3 = .slice NA g.names.length nc ∧ t 4 = .slice (some ⟨G, 0, none⟩) g.names.length g.names.length ∧ t 24 = .slice C g.prods.length c ∧ t 25 = .int .i64 g.prods.length ∧ t 26 = .int .i64 i ∧
          t 6 = pa (some ⟨q, 0, none⟩) 0 ∧ t 7 = .int .i64 f ∧ t 50 = .slice D p.2.length d ∧ t 51 = .int .i64 p.2.length ∧ t 52 = .int .i64 j, ⟨p.2.length, 0, F, by omega, hW1, hxU1, hFl, fun s hs => by rw [hF s hs]; simp, hqb, ?_⟩, ?_⟩
        · simp (disch := first | omega | assumption | (simp only [O1, World.size_alloc, World.size_setCell, World.size_drew]; first | done | omega)) only [O1, D2, ↓H0, S0, ↓S1, ↓S2, ↓S3, ↓S4, S5, S5b, S5c, ↓S6, S6b, M0, E0, ty, tl, te, tc, i64_wrap, u64_wrap, iaV_sl, iaV_arr, faV_pa, nck_pa, heap_new, heap_old, heap_set, ↓reduceIte, Nat.reduceEqDiff, Nat.reduceLT, Nat.reduceAdd, Int.reduceLT, Int.reduceLE, decide_false, decide_true, dec_true, dec_false, true_and, and_true, true_imp_iff, Bool.not_true, Bool.not_false, Option.map_none, Int.reduceToNat, Int.toNat_zero, Int.toNat_one, lkV_false, lkV_true, f1, f3, f4, f24, f25, f26, f6, f7] <;> rfl
        clear hW1 hxU1 hFl hF hqb hW f1 f3 f4 f24 f25 f26 f6 f7 f31 f32 f33 hU1' hj
        rintro k3 t Y ⟨j, F2, hk3, hW, hxY, hFl, hF, hqb, f1, f3, f4, f24, f25, f26, f6, f7, f50, f51, f52⟩
        simp (disch := first | omega | assumption | (simp only [O1, World.size_alloc, World.size_setCell, World.size_drew]; first | done | omega)) only [O1, D2, ↓H0, S0, ↓S1, ↓S2, ↓S3, ↓S4, S5, S5b, S5c, ↓S6, S6b, M0, E0, ty, tl, te, tc, i64_wrap, u64_wrap, iaV_sl, iaV_arr, faV_pa, nck_pa, heap_new, heap_old, heap_set, ↓reduceIte, Nat.reduceEqDiff, Nat.reduceLT, Nat.reduceAdd, Int.reduceLT, Int.reduceLE, decide_false, decide_true, dec_true, dec_false, true_and, and_true, true_imp_iff, Bool.not_true, Bool.not_false, Option.map_none, Int.reduceToNat, Int.toNat_zero, Int.toNat_one, lkV_false, lkV_true, f1, f3, f4, f24, f25, f26, f6, f7, f50, f51, f52]
        refine Br_if (fun h2 => ?_) (fun h2' => ?_) <;> (try simp (disch := first | omega | assumption | (simp only [O1, World.size_alloc, World.size_setCell, World.size_drew]; first | done | omega)) only [O1, D2, ↓H0, S0, ↓S1, ↓S2, ↓S3, ↓S4, S5, S5b, S5c, ↓S6, S6b, M0, E0, ty, tl, te, tc, i64_wrap, u64_wrap, iaV_sl, iaV_arr, faV_pa, nck_pa, heap_new, heap_old, heap_set, ↓reduceIte, Nat.reduceEqDiff, Nat.reduceLT, Nat.reduceAdd, Int.reduceLT, Int.reduceLE, decide_false, decide_true, dec_true, dec_false, true_and, and_true, true_imp_iff, Bool.not_true, Bool.not_false, Option.map_none, Int.reduceToNat, Int.toNat_zero, Int.toNat_one, lkV_false, lkV_true, f1, f3, f4, f24, f25, f26, f6, f7, f50, f51, f52])
        · have hj : j < p.2.length := by omega
          have hs := hW.ext.rd (hD j hj)
          have hDs := rd_isSome hs
          have htk : p.2.take (j + 1) = p.2.take j ++ [p.2[j]] := List.take_succ_eq_append_getElem hj
          have hxm : p.2[j] ∈ p.2 := List.getElem_mem _
          generalize hse : p.2[j] = x at *
          have hxn := hps x hxm
          have hskip : goesB nl f x = false → ∀ s : Nat, s < g.names.length → F2[s]? = some (lpUp nl g.prods s i ++ if p.1 = (s : Int) then (p.2.take (j + 1)).filter (goesB nl f) else []) := fun h s hs => by
            rw [hF s hs, htk, List.filter_append]; simp [h]
          simp (disch := first | omega | assumption | (simp only [O1, World.size_alloc, World.size_setCell, World.size_drew]; first | done | omega)) only [O1, D2, ↓H0, S0, ↓S1, ↓S2, ↓S3, ↓S4, S5, S5b, S5c, ↓S6, S6b, M0, E0, ty, tl, te, tc, i64_wrap, u64_wrap, iaV_sl, iaV_arr, faV_pa, nck_pa, heap_new, heap_old, heap_set, ↓reduceIte, Nat.reduceEqDiff, Nat.reduceLT, Nat.reduceAdd, Int.reduceLT, Int.reduceLE, decide_false, decide_true, dec_true, dec_false, true_and, and_true, true_imp_iff, Bool.not_true, Bool.not_false, Option.map_none, Int.reduceToNat, Int.toNat_zero, Int.toNat_one, lkV_false, lkV_true, f1, f3, f4, f24, f25, f26, f6, f7, f50, f51, f52, hs]
          (refine' joinDr (fun t' W' => W' = Y ∧ goesB nl f x = true ∧ t' 1 = pa (some ⟨w.heap.size, 0, none⟩) 0 ∧ t' 3 = .slice NA g.names.length nc ∧ t' 4 = .slice (some ⟨G, 0, none⟩) g.names.length g.names.length ∧ t' 24 = .slice C g.prods.length c ∧ t' 25 = .int .i64 g.prods.length ∧ t' 26 = .int .i64 i ∧ t' 6 = pa (some ⟨q, 0, none⟩) 0 ∧ t' 7 = .int .i64 f ∧ t' 50 = .slice D p.2.length d ∧ t' 51 = .int .i64 p.2.length ∧ t' 52 = .int .i64 j ∧ t' 11 = .int .i64 x) (fun key => ?_) ?_; rotate_left 4)
          · refine Br_if (fun h3 => ?_) (fun h3 => ?_) <;> (try simp (disch := first | omega | assumption | (simp only [O1, World.size_alloc, World.size_setCell, World.size_drew]; first | done | omega)) only [O1, D2, ↓H0, S0, ↓S1, ↓S2, ↓S3, ↓S4, S5, S5b, S5c, ↓S6, S6b, M0, E0, ty, tl, te, tc, i64_wrap, u64_wrap, iaV_sl, iaV_arr, faV_pa, nck_pa, heap_new, heap_old, heap_set, ↓reduceIte, Nat.reduceEqDiff, Nat.reduceLT, Nat.reduceAdd, Int.reduceLT, Int.reduceLE, decide_false, decide_true, dec_true, dec_false, true_and, and_true, true_imp_iff, Bool.not_true, Bool.not_false, Option.map_none, Int.reduceToNat, Int.toNat_zero, Int.toNat_one, lkV_false, lkV_true, f1, f3, f4, f24, f25, f26, f6, f7, f50, f51, f52])
            · have hxl : x.toNat < nl.length := by rw [hTl.1]; omega
              have hrn := hN1 hxY x.toNat hxl
              have hNs := rd_isSome hrn
              have hgy : nl.getD x.toNat false = nl[x.toNat] := by simp [List.getD_eq_getElem?_getD, List.getElem?_eq_getElem hxl]
              generalize nl[x.toNat] = y at *
              refine Br_if (fun h4 => ?_) (fun h4 => ?_) <;> (try simp (disch := first | omega | assumption | (simp only [O1, World.size_alloc, World.size_setCell, World.size_drew]; first | done | omega)) only [O1, D2, ↓H0, S0, ↓S1, ↓S2, ↓S3, ↓S4, S5, S5b, S5c, ↓S6, S6b, M0, E0, ty, tl, te, tc, i64_wrap, u64_wrap, iaV_sl, iaV_arr, faV_pa, nck_pa, heap_new, heap_old, heap_set, ↓reduceIte, Nat.reduceEqDiff, Nat.reduceLT, Nat.reduceAdd, Int.reduceLT, Int.reduceLE, decide_false, decide_true, dec_true, dec_false, true_and, and_true, true_imp_iff, Bool.not_true, Bool.not_false, Option.map_none, Int.reduceToNat, Int.toNat_zero, Int.toNat_one, lkV_false, lkV_true, f1, f3, f4, f24, f25, f26, f6, f7, f50, f51, f52])
              · refine key _ _ ⟨rfl, by simp [goesB, h3]; left; omega, ?_⟩
                simp (disch := first | omega | assumption | (simp only [O1, World.size_alloc, World.size_setCell, World.size_drew]; first | done | omega)) only [O1, D2, ↓H0, S0, ↓S1, ↓S2, ↓S3, ↓S4, S5, S5b, S5c, ↓S6, S6b, M0, E0, ty, tl, te, tc, i64_wrap, u64_wrap, iaV_sl, iaV_arr, faV_pa, nck_pa, heap_new, heap_old, heap_set, ↓reduceIte, Nat.reduceEqDiff, Nat.reduceLT, Nat.reduceAdd, Int.reduceLT, Int.reduceLE, decide_false, decide_true, dec_true, dec_false, true_and, and_true, true_imp_iff, Bool.not_true, Bool.not_false, Option.map_none, Int.reduceToNat, Int.toNat_zero, Int.toNat_one, lkV_false, lkV_true, f1, f3, f4, f24, f25, f26, f6, f7, f50, f51, f52]
              · refine Br_if (fun h5 => ?_) (fun h5 => ?_) <;> (try simp (disch := first | omega | assumption | (simp only [O1, World.size_alloc, World.size_setCell, World.size_drew]; first | done | omega)) only [O1, D2, ↓H0, S0, ↓S1, ↓S2, ↓S3, ↓S4, S5, S5b, S5c, ↓S6, S6b, M0, E0, ty, tl, te, tc, i64_wrap, u64_wrap, iaV_sl, iaV_arr, faV_pa, nck_pa, heap_new, heap_old, heap_set, ↓reduceIte, Nat.reduceEqDiff, Nat.reduceLT, Nat.reduceAdd, Int.reduceLT, Int.reduceLE, decide_false, decide_true, dec_true, dec_false, true_and, and_true, true_imp_iff, Bool.not_true, Bool.not_false, Option.map_none, Int.reduceToNat, Int.toNat_zero, Int.toNat_one, lkV_false, lkV_true, f1, f3, f4, f24, f25, f26, f6, f7, f50, f51, f52, hrn])
                · cases y with
                  | true =>
                    simp (disch := first | omega | assumption | (simp only [O1, World.size_alloc, World.size_setCell, World.size_drew]; first | done | omega)) only [O1, D2, ↓H0, S0, ↓S1, ↓S2, ↓S3, ↓S4, S5, S5b, S5c, ↓S6, S6b, M0, E0, ty, tl, te, tc, i64_wrap, u64_wrap, iaV_sl, iaV_arr, faV_pa, nck_pa, heap_new, heap_old, heap_set, ↓reduceIte, Nat.reduceEqDiff, Nat.reduceLT, Nat.reduceAdd, Int.reduceLT, Int.reduceLE, decide_false, decide_true, dec_true, dec_false, true_and, and_true, true_imp_iff, Bool.not_true, Bool.not_false, Option.map_none, Int.reduceToNat, Int.toNat_zero, Int.toNat_one, lkV_false, lkV_true, f1, f3, f4, f24, f25, f26, f6, f7, f50, f51, f52]
                    exact ⟨k3 - 1, by omega, j + 1, F2, by omega, hW, hxY, hFl, hskip (by simp only [goesB, hgy, Bool.not_true, Bool.and_false, Bool.or_false, Bool.and_eq_false_iff, decide_eq_false_iff_not]; omega), hqb, rfl⟩
                  | false =>
                    simp (disch := first | omega | assumption | (simp only [O1, World.size_alloc, World.size_setCell, World.size_drew]; first | done | omega)) only [O1, D2, ↓H0, S0, ↓S1, ↓S2, ↓S3, ↓S4, S5, S5b, S5c, ↓S6, S6b, M0, E0, ty, tl, te, tc, i64_wrap, u64_wrap, iaV_sl, iaV_arr, faV_pa, nck_pa, heap_new, heap_old, heap_set, ↓reduceIte, Nat.reduceEqDiff, Nat.reduceLT, Nat.reduceAdd, Int.reduceLT, Int.reduceLE, decide_false, decide_true, dec_true, dec_false, true_and, and_true, true_imp_iff, Bool.not_true, Bool.not_false, Option.map_none, Int.reduceToNat, Int.toNat_zero, Int.toNat_one, lkV_false, lkV_true, f1, f3, f4, f24, f25, f26, f6, f7, f50, f51, f52]
                    refine key _ _ ⟨rfl, by simp only [goesB, hgy, Bool.not_false, Bool.and_true, Bool.and_eq_true, Bool.or_eq_true, decide_eq_true_eq]; omega, ?_⟩
                    simp (disch := first | omega | assumption | (simp only [O1, World.size_alloc, World.size_setCell, World.size_drew]; first | done | omega)) only [O1, D2, ↓H0, S0, ↓S1, ↓S2, ↓S3, ↓S4, S5, S5b, S5c, ↓S6, S6b, M0, E0, ty, tl, te, tc, i64_wrap, u64_wrap, iaV_sl, iaV_arr, faV_pa, nck_pa, heap_new, heap_old, heap_set, ↓reduceIte, Nat.reduceEqDiff, Nat.reduceLT, Nat.reduceAdd, Int.reduceLT, Int.reduceLE, decide_false, decide_true, dec_true, dec_false, true_and, and_true, true_imp_iff, Bool.not_true, Bool.not_false, Option.map_none, Int.reduceToNat, Int.toNat_zero, Int.toNat_one, lkV_false, lkV_true, f1, f3, f4, f24, f25, f26, f6, f7, f50, f51, f52]
                · exact ⟨k3 - 1, by omega, j + 1, F2, by omega, hW, hxY, hFl, hskip (by simp [goesB]; omega), hqb, rfl⟩
            · exact ⟨k3 - 1, by omega, j + 1, F2, by omega, hW, hxY, hFl, hskip (by simp [goesB]; omega), hqb, rfl⟩
          · rintro t Y' ⟨rfl, hgo, f1, f3, f4, f24, f25, f26, f6, f7, f50, f51, f52, f11⟩
            have hW' := hW.ext' (Ext.rfl' Y').dr
            have hsF : p.1.toNat < F2.length := by omega
            have hFx := hF p.1.toNat (by omega)
            rw [List.getElem?_eq_getElem hsF] at hFx
            simp only [Option.some.injEq] at hFx
            have hlF : F2[p.1.toNat].length < 1000000000000 := by
              rw [hFx, List.length_append]
              have h1 := lpUp_len (nl := nl) (a := ((p.1.toNat : Nat) : Int)) (m := i) hside
              have h2 : (if p.1 = ((p.1.toNat : Nat) : Int) then (p.2.take j).filter (goesB nl f) else []).length ≤ 16 := by
                split
                · exact Nat.le_trans (List.length_filter_le _ _) (by rw [List.length_take]; omega)
                · simp
              omega
            obtain ⟨u, hu, hu', hGu, hno, hpush⟩ := hW'.push p.1.toNat hsF hlF x
            have hqb' : Y'.drew.heap[q]? = some (.cells #[.int .i64 p.1, .slice D p.2.length d] 35 (0, 0)) := hqb
            have hqn := hno q _ _ _ (by decide) hqb'
            refine Dr_plan u.ownBlock.toList (upto 11) [0, 1, 2, 3, 4, 5, 6, 7, 8, 9, 10, 11, 12] mixed (by kernel_rfl) ?_
            simp (disch := first | omega | assumption | (simp only [O1, World.size_alloc, World.size_setCell, World.size_drew]; first | done | omega)) only [↓D1, ↓D3, ↓D4, List.not_mem_nil, not_false_eq_true, Bool.false_eq_true, false_imp_iff, upto, O1, D2, ↓H0, S0, ↓S1, ↓S2, ↓S3, ↓S4, S5, S5b, S5c, ↓S6, S6b, M0, E0, ty, tl, te, tc, i64_wrap, u64_wrap, iaV_sl, iaV_arr, faV_pa, nck_pa, heap_new, heap_old, heap_set, ↓reduceIte, Nat.reduceEqDiff, Nat.reduceLT, Nat.reduceAdd, Int.reduceLT, Int.reduceLE, decide_false, decide_true, dec_true, dec_false, true_and, and_true, true_imp_iff, Bool.not_true, Bool.not_false, Option.map_none, Int.reduceToNat, Int.toNat_zero, Int.toNat_one, lkV_false, lkV_true, f1, f3, f4, f24, f25, f26, f6, f7, f50, f51, f52, f11, hqb, hqb', hu, hu', hqn, hGu, bsl1 sl23]
            refine hpush _ _ fun v' Y2 hK hsz hxY2 hold hst hWn hkq => ?_
            have hq2 := (hkq q _ _ _ (by decide) (by decide) hqb').1
            have hq3 := (hkq q _ _ _ (by decide) (by decide) hqb').2
            simp (disch := first | omega | assumption | (simp only [O1, World.size_alloc, World.size_setCell, World.size_drew]; first | done | omega)) only [↓D1, ↓D3, ↓D4, List.not_mem_nil, not_false_eq_true, Bool.false_eq_true, false_imp_iff, upto, O1, D2, ↓H0, S0, ↓S1, ↓S2, ↓S3, ↓S4, S5, S5b, S5c, ↓S6, S6b, M0, E0, ty, tl, te, tc, i64_wrap, u64_wrap, iaV_sl, iaV_arr, faV_pa, nck_pa, heap_new, heap_old, heap_set, ↓reduceIte, Nat.reduceEqDiff, Nat.reduceLT, Nat.reduceAdd, Int.reduceLT, Int.reduceLE, decide_false, decide_true, dec_true, dec_false, true_and, and_true, true_imp_iff, Bool.not_true, Bool.not_false, Option.map_none, Int.reduceToNat, Int.toNat_zero, Int.toNat_one, lkV_false, lkV_true, f1, f3, f4, f24, f25, f26, f6, f7, f50, f51, f52, f11, hK, hst]
            have hxn : Ext W1 (Y2.setCell ⟨G, p.1.toNat, none⟩ v') := by
              refine ⟨hWn.ext.os.trans hxW1.os.symm, hWn.ext.tape.trans hxW1.tape.symm, hWn.ext.output.trans hxW1.output.symm, ?_, fun b hb => ?_⟩
              · have := hxY.size; have h2 : Y'.drew.heap.size = Y'.heap.size := rfl; simp; omega
              · rw [heap_set _ (by omega), hold b (by omega)]; exact hxY.block b hb
            refine ⟨k3 - 1, by omega, j + 1, _, by omega, hWn, hxn, by simpa using hFl, fun s hs => ?_, hq3, rfl⟩
            rw [List.getElem?_set, htk, List.filter_append]
            by_cases e : p.1.toNat = s
            · subst e
              have e2 : ((p.1.toNat : Nat) : Int) = p.1 := by omega
              rw [if_pos rfl, if_pos hsF, hFx, e2]
              simp [hgo]
            · have e2 : ¬ p.1 = (s : Int) := by omega
              rw [if_neg e, hF s hs]; simp [e2]
        · have hj : p.2.take j = p.2 := List.take_of_length_le (by omega)
          refine ⟨k - 1, by omega, i + 1, F2, by omega, hW, hxY, hFl, fun s hs => ?_, rfl⟩
          rw [hF s hs, lpUp, hgD, hj, hf]; rfl
    · have hil : i = g.prods.length := by omega
      subst hil
      have hbU := hbx ▸ hW.box
      have hIR := hW.rows.rows
      rw [hFl] at hIR
      have hFs : ∀ s : Nat, s < g.names.length → ∀ r, F[s]? = some r → ∀ b, b ∈ r ↔ StepP g.prods s b := fun s hs r hr b => by
        rw [hF s hs] at hr; cases hr; exact lp_iff hTl hin
      have hSx : ∀ a b, Sx F a b ↔ StepP g.prods a b := by
        intro a b
        constructor
        · rintro ⟨h0, hb⟩
          rw [List.getD_eq_getElem?_getD] at hb
          cases hq : F[a.toNat]? with
          | none => rw [hq] at hb; simp at hb
          | some r =>
            rw [hq] at hb
            have hlt : a.toNat < g.names.length := by rw [← hFl]; exact (List.getElem?_eq_some_iff.1 hq).1
            have := (hFs a.toNat hlt r hq b).1 hb
            rwa [Int.toNat_of_nonneg h0] at this
        · intro h
          obtain ⟨p, hp, rfl, _⟩ := id h
          obtain ⟨⟨hp0, hp1⟩, _⟩ := hin p hp
          refine ⟨hp0, ?_⟩
          have hlt : p.1.toNat < g.names.length := by omega
          rw [List.getD_eq_getElem?_getD, hF _ hlt]
          exact (lp_iff hTl hin).2 (by rwa [Int.toNat_of_nonneg hp0])
      have hSeq : Sx F = StepP g.prods := by funext a b; exact propext (hSx a b)
      have hrl : ∀ r ∈ F, r.length ≤ 4096 ∧ ∀ b ∈ r, 0 ≤ b ∧ b < g.names.length := by
        intro r hr
        obtain ⟨s, hs, rfl⟩ := List.mem_iff_getElem.1 hr
        have h1 := hF s (by omega)
        rw [List.getElem?_eq_getElem hs] at h1
        simp only [Option.some.injEq] at h1
        refine ⟨?_, fun b hb => ?_⟩
        · rw [h1]; have := lpUp_len (nl := nl) (a := (s : Int)) (m := g.prods.length) hside; omega
        · obtain ⟨p, hp, _, k, hk, rfl, h0, _⟩ := (hFs s (by omega) _ (List.getElem?_eq_getElem hs) b).1 hb
          exact ⟨h0, (hin p hp).2 _ (List.getElem_mem _)⟩
      simp (disch := first | omega | assumption | (simp only [O1, World.size_alloc, World.size_setCell, World.size_drew]; first | done | omega)) only [O1, D2, ↓H0, S0, ↓S1, ↓S2, ↓S3, ↓S4, S5, S5b, S5c, ↓S6, S6b, M0, E0, ty, tl, te, tc, i64_wrap, u64_wrap, iaV_sl, iaV_arr, faV_pa, nck_pa, heap_new, heap_old, heap_set, ↓reduceIte, Nat.reduceEqDiff, Nat.reduceLT, Nat.reduceAdd, Int.reduceLT, Int.reduceLE, decide_false, decide_true, dec_true, dec_false, true_and, and_true, true_imp_iff, Bool.not_true, Bool.not_false, Option.map_none, Int.reduceToNat, Int.toNat_zero, Int.toNat_one, lkV_false, lkV_true, f1, f3, f4, f24, f25, f26, hbU]
      refine RunM_own (enc := Value.bool) (z := false) sl53 rfl (by omega) (by omega) ?_
      intro V hVs hxV hOV
      generalize hO : U.heap.size = O at *
      simp (disch := first | omega | assumption | (simp only [O1, World.size_alloc, World.size_setCell, World.size_drew]; first | done | omega)) only [O1, D2, ↓H0, S0, ↓S1, ↓S2, ↓S3, ↓S4, S5, S5b, S5c, ↓S6, S6b, M0, E0, ty, tl, te, tc, i64_wrap, u64_wrap, iaV_sl, iaV_arr, faV_pa, nck_pa, heap_new, heap_old, heap_set, ↓reduceIte, Nat.reduceEqDiff, Nat.reduceLT, Nat.reduceAdd, Int.reduceLT, Int.reduceLE, decide_false, decide_true, dec_true, dec_false, true_and, and_true, true_imp_iff, Bool.not_true, Bool.not_false, Option.map_none, Int.reduceToNat, Int.toNat_zero, Int.toNat_one, lkV_false, lkV_true, f1, f3, f4, sl]
      refine ⟨fun k t X => ∃ (m : Nat) (l : List Bool), k + m = g.names.length ∧ Ext U X ∧ Own .bool 4 X O l ∧ l.length = g.names.length ∧ (∀ s : Nat, s < m → (l[s]? = some true ↔ Tg (StepP g.prods) s s)) ∧
        t 4 = .slice (some ⟨G, 0, none⟩) g.names.length g.names.length ∧ t 12 = .slice (some ⟨O, 0, none⟩) g.names.length g.names.length ∧ t 92 = .int .i64 g.names.length ∧ t 93 = .int .i64 m, ⟨g.names.length, 0, _, by omega, hxV, hOV, by simp, fun s hs => by omega, ?_⟩, ?_⟩
      · simp (disch := first | omega | assumption | (simp only [O1, World.size_alloc, World.size_setCell, World.size_drew]; first | done | omega)) only [O1, D2, ↓H0, S0, ↓S1, ↓S2, ↓S3, ↓S4, S5, S5b, S5c, ↓S6, S6b, M0, E0, ty, tl, te, tc, i64_wrap, u64_wrap, iaV_sl, iaV_arr, faV_pa, nck_pa, heap_new, heap_old, heap_set, ↓reduceIte, Nat.reduceEqDiff, Nat.reduceLT, Nat.reduceAdd, Int.reduceLT, Int.reduceLE, decide_false, decide_true, dec_true, dec_false, true_and, and_true, true_imp_iff, Bool.not_true, Bool.not_false, Option.map_none, Int.reduceToNat, Int.toNat_zero, Int.toNat_one, lkV_false, lkV_true, f1, f3, f4] <;> rfl
      clear hxV hOV hVs f1 f3 f4 f24 f25 f26
      rintro k t X ⟨m, l, hk, hxX, hOX, hll, hlm, f4, f12, f92, f93⟩
      simp (disch := first | omega | assumption | (simp only [O1, World.size_alloc, World.size_setCell, World.size_drew]; first | done | omega)) only [O1, D2, ↓H0, S0, ↓S1, ↓S2, ↓S3, ↓S4, S5, S5b, S5c, ↓S6, S6b, M0, E0, ty, tl, te, tc, i64_wrap, u64_wrap, iaV_sl, iaV_arr, faV_pa, nck_pa, heap_new, heap_old, heap_set, ↓reduceIte, Nat.reduceEqDiff, Nat.reduceLT, Nat.reduceAdd, Int.reduceLT, Int.reduceLE, decide_false, decide_true, dec_true, dec_false, true_and, and_true, true_imp_iff, Bool.not_true, Bool.not_false, Option.map_none, Int.reduceToNat, Int.toNat_zero, Int.toNat_one, lkV_false, lkV_true, f4, f12, f92, f93]
      refine Br_if (fun h2 => ?_) (fun h2' => ?_) <;> (try simp (disch := first | omega | assumption | (simp only [O1, World.size_alloc, World.size_setCell, World.size_drew]; first | done | omega)) only [O1, D2, ↓H0, S0, ↓S1, ↓S2, ↓S3, ↓S4, S5, S5b, S5c, ↓S6, S6b, M0, E0, ty, tl, te, tc, i64_wrap, u64_wrap, iaV_sl, iaV_arr, faV_pa, nck_pa, heap_new, heap_old, heap_set, ↓reduceIte, Nat.reduceEqDiff, Nat.reduceLT, Nat.reduceAdd, Int.reduceLT, Int.reduceLE, decide_false, decide_true, dec_true, dec_false, true_and, and_true, true_imp_iff, Bool.not_true, Bool.not_false, Option.map_none, Int.reduceToNat, Int.toNat_zero, Int.toNat_one, lkV_false, lkV_true, f4, f12, f92, f93])
      · have hm : m < g.names.length := by omega
        have hIX := hIR.ext hxX
        have hIX0 := hIX
        obtain ⟨A2, c2, hA2, hc2, hrows⟩ := hIX
        simp only [sl, Value.slice.injEq] at hA2
        obtain ⟨rfl, _, rfl⟩ := hA2
        obtain ⟨r, hr1, hr2⟩ := hrows m (by omega)
        have hr1' := hr1
        rw [rd_own, Nat.zero_add] at hr1'
        simp (disch := first | omega | assumption | (simp only [O1, World.size_alloc, World.size_setCell, World.size_drew]; first | done | omega)) only [O1, D2, ↓H0, S0, ↓S1, ↓S2, ↓S3, ↓S4, S5, S5b, S5c, ↓S6, S6b, M0, E0, ty, tl, te, tc, i64_wrap, u64_wrap, iaV_sl, iaV_arr, faV_pa, nck_pa, heap_new, heap_old, heap_set, ↓reduceIte, Nat.reduceEqDiff, Nat.reduceLT, Nat.reduceAdd, Int.reduceLT, Int.reduceLE, decide_false, decide_true, dec_true, dec_false, true_and, and_true, true_imp_iff, Bool.not_true, Bool.not_false, Option.map_none, Int.reduceToNat, Int.toNat_zero, Int.toNat_one, lkV_false, lkV_true, f4, f12, f92, f93, hr1, hr1']
        refine (spread_ok _ r F F[m] 4096 X (by rw [sl, ← hFl] at hIX0; rw [← hFl]; exact hIX0) hr2 (by omega) (by omega) (fun r hr => (hrl r hr).1) (by have := (hrl F[m] (List.getElem_mem _)).1; omega) (fun r hr b hb => by rw [hFl]; exact (hrl r hr).2 b hb) (fun b hb => by rw [hFl]; exact (hrl _ (List.getElem_mem _)).2 b hb)).then ?_
        rintro _ Y ⟨⟨G2, l2, rfl, hO2, hT2⟩, hxY⟩
        simp only [hFl] at hT2 ⊢
        have hml2 : m < l2.length := by rw [hT2.1]; exact hm
        have hrd2 := hO2.rd m hml2
        have hce2 := hO2.cell m hml2
        have hOY := hOX.ext hxY
        have hst := hOY.sto (P := Try.prog) (t := 4) (by simp only [ty]) m (by omega) l2[m] rfl
        have hT3 := hT2.2 m hm
        rw [List.getElem?_eq_getElem hml2, hSeq, reach_tg (hFs m hm _ (List.getElem?_eq_getElem _))] at hT3
        simp (disch := first | omega | assumption | (simp only [O1, World.size_alloc, World.size_setCell, World.size_drew]; first | done | omega)) only [O1, D2, ↓H0, S0, ↓S1, ↓S2, ↓S3, ↓S4, S5, S5b, S5c, ↓S6, S6b, M0, E0, ty, tl, te, tc, i64_wrap, u64_wrap, iaV_sl, iaV_arr, faV_pa, nck_pa, heap_new, heap_old, heap_set, ↓reduceIte, Nat.reduceEqDiff, Nat.reduceLT, Nat.reduceAdd, Int.reduceLT, Int.reduceLE, decide_false, decide_true, dec_true, dec_false, true_and, and_true, true_imp_iff, Bool.not_true, Bool.not_false, Option.map_none, Int.reduceToNat, Int.toNat_zero, Int.toNat_one, lkV_false, lkV_true, f4, f12, f92, f93, hrd2, hce2, hst]
        have hOw : O ≥ U.heap.size := by omega
        refine ⟨k - 1, by omega, m + 1, _, by omega, (hxX.tr hxY).st hOw _, hOY.set _ _, by simpa using hll, fun s hs => ?_, rfl⟩
        rw [List.getElem?_set]
        by_cases e : m = s
        · subst e; rw [if_pos rfl, if_pos (by omega)]; exact hT3
        · rw [if_neg e]; exact hlm s (by omega)
      · have hsq := hOX.sq
        rw [hll] at hsq
        have hxe := hW.ext.tr hxX
        exact ⟨.inr ⟨hS, l, hsq, hll, fun s hs => hlm s (by omega)⟩, hxe⟩
end Go.Proofs.Ytgioklmpnbnplaa
namespace Go.Proofs.Ytgioklmpnbnplaa
open Go.V

/-- One nonterminal stands on the right of another one. -/
def EdP (ps : List (Int × List Int)) (a b : Int) : Prop := ∃ p ∈ ps, p.1 = a ∧ b ∈ p.2 ∧ 0 ≤ b
def ntB (s : Int) : Bool := decide (0 ≤ s)
/-- The rows of steps, after so many productions. -/
def edUp (ps : List (Int × List Int)) (a : Int) : Nat → List Int
  | 0 => []
  | i + 1 => edUp ps a i ++ if (ps.getD i (0, [])).1 = a then (ps.getD i (0, [])).2.filter ntB else []
theorem edUp_len {ps : List (Int × List Int)} {a : Int} {m : Nat} (h : ∀ p ∈ ps, p.2.length ≤ 16) : (edUp ps a m).length ≤ 16 * m := by
  induction m with
  | zero => simp [edUp]
  | succ m ih =>
    rw [edUp, List.length_append]
    have : ((ps.getD m (0, [])).2.filter ntB).length ≤ 16 := by
      refine Nat.le_trans (List.length_filter_le _ _) ?_
      rw [List.getD_eq_getElem?_getD]
      cases hq : ps[m]? with
      | none => simp
      | some p => exact h p (List.mem_of_getElem? hq)
    split
    · omega
    · simp; omega
theorem edUp_mem {ps : List (Int × List Int)} {a b : Int} : ∀ {m : Nat}, b ∈ edUp ps a m ↔ ∃ i, i < m ∧ (ps.getD i (0, [])).1 = a ∧ b ∈ (ps.getD i (0, [])).2.filter ntB
  | 0 => by simp [edUp]
  | m + 1 => by
    rw [edUp, List.mem_append, edUp_mem]
    constructor
    · rintro (⟨i, h1, h2⟩ | h)
      · exact ⟨i, by omega, h2⟩
      · split at h
        · rename_i e; exact ⟨m, by omega, e, h⟩
        · simp at h
    · rintro ⟨i, h1, h2, h3⟩
      by_cases e : i = m
      · subst e; right; rw [if_pos h2]; exact h3
      · exact .inl ⟨i, by omega, h2, h3⟩
theorem ed_iff {ps : List (Int × List Int)} {a b : Int} : b ∈ edUp ps a ps.length ↔ EdP ps a b := by
  rw [edUp_mem]
  constructor
  · rintro ⟨i, hi, h1, h2⟩
    have hD : ps.getD i (0, []) = ps[i] := by simp [List.getD_eq_getElem?_getD, List.getElem?_eq_getElem hi]
    rw [hD] at h1 h2
    rw [List.mem_filter] at h2
    exact ⟨ps[i], List.getElem_mem _, h1, h2.1, by simpa [ntB] using h2.2⟩
  · rintro ⟨p, hp, h1, h2, h3⟩
    obtain ⟨i, hi, rfl⟩ := List.mem_iff_getElem.1 hp
    have hD : ps.getD i (0, []) = ps[i] := by simp [List.getD_eq_getElem?_getD, List.getElem?_eq_getElem hi]
    exact ⟨i, hi, by rw [hD]; exact h1, by rw [hD, List.mem_filter]; exact ⟨h2, by simpa [ntB] using h3⟩⟩
set_option maxHeartbeats 4000000 in
theorem reachable_ok (v : Value) (g : PG) (w : World) (hg : RepPG w v g) (hs : SmallP g) :
    Ok Try.prog 52 #[v] w fun v w' => ((¬ SoundP g ∧ v = .slice none 0 0) ∨ (SoundP g ∧ ∃ l, Bools w' v l ∧ Tells g.names.length (Reach (EdP g.prods) [g.start]) l)) ∧ Ext w w' := by
  have hg0 := hg
  obtain ⟨nv, tv, pv, rfl, hN, hT, hp⟩ := hg
  obtain ⟨A, a, rfl, ha, hA⟩ := hN
  obtain ⟨C, c, rfl, hc, hC⟩ := hp
  (refine Ok.enter Try.func52 rfl (by kernel_rfl) (Nat.le_of_ble_eq_true rfl) ?_; simp only [Try.f52, S7])
  simp (disch := first | omega | assumption | (simp only [O1, World.size_alloc, World.size_setCell, World.size_drew]; first | done | omega)) only [O1, D2, ↓H0, S0, ↓S1, ↓S2, ↓S3, ↓S4, S5, S5b, S5c, ↓S6, S6b, M0, E0, ty, tl, te, tc, i64_wrap, u64_wrap, iaV_sl, iaV_arr, faV_pa, nck_pa, heap_new, heap_old, heap_set, ↓reduceIte, Nat.reduceEqDiff, Nat.reduceLT, Nat.reduceAdd, Int.reduceLT, Int.reduceLE, decide_false, decide_true, dec_true, dec_false, true_and, and_true, true_imp_iff, Bool.not_true, Bool.not_false, Option.map_none, Int.reduceToNat, Int.toNat_zero, Int.toNat_one, lkV_false, lkV_true]
  obtain ⟨bx, hbx⟩ : ∃ bx, bx = #[Value.int .i64 g.start, .int .i64 g.rules, .slice A g.names.length a, tv, .slice C g.prods.length c] := ⟨_, rfl⟩
  have hx0 := (Ext.rfl' w).al (.cells bx 41)
  have hb0 := heap_new (w := w) (.cells bx 41) rfl
  rw [hbx] at hx0 hb0
  simp (disch := first | omega | assumption | (simp only [O1, World.size_alloc, World.size_setCell, World.size_drew]; first | done | omega)) only [O1, D2, ↓H0, S0, ↓S1, ↓S2, ↓S3, ↓S4, S5, S5b, S5c, ↓S6, S6b, M0, E0, ty, tl, te, tc, i64_wrap, u64_wrap, iaV_sl, iaV_arr, faV_pa, nck_pa, heap_new, heap_old, heap_set, ↓reduceIte, Nat.reduceEqDiff, Nat.reduceLT, Nat.reduceAdd, Int.reduceLT, Int.reduceLE, decide_false, decide_true, dec_true, dec_false, true_and, and_true, true_imp_iff, Bool.not_true, Bool.not_false, Option.map_none, Int.reduceToNat, Int.toNat_zero, Int.toNat_one, lkV_false, lkV_true, ldA5]
  refine (sound_ok _ g _ (hg0.ext hx0) hs).then ?_; rintro _ W1 ⟨⟨b, rfl, hb⟩, hx1⟩
  have hxW1 := hx0.tr hx1
  have hbW1 := hx1.hp hb0
  cases b with
  | false =>
    simp (disch := first | omega | assumption | (simp only [O1, World.size_alloc, World.size_setCell, World.size_drew]; first | done | omega)) only [O1, D2, ↓H0, S0, ↓S1, ↓S2, ↓S3, ↓S4, S5, S5b, S5c, ↓S6, S6b, M0, E0, ty, tl, te, tc, i64_wrap, u64_wrap, iaV_sl, iaV_arr, faV_pa, nck_pa, heap_new, heap_old, heap_set, ↓reduceIte, Nat.reduceEqDiff, Nat.reduceLT, Nat.reduceAdd, Int.reduceLT, Int.reduceLE, decide_false, decide_true, dec_true, dec_false, true_and, and_true, true_imp_iff, Bool.not_true, Bool.not_false, Option.map_none, Int.reduceToNat, Int.toNat_zero, Int.toNat_one, lkV_false, lkV_true]
    exact ⟨.inl fun h => by have := hb.2 h; simp at this, hxW1⟩
  | true =>
    have hS := hb.1 rfl
    have hin := hS.inR
    have hside := hS.sides
    have hn1 := hS.1.2.1
    have hn2 := hS.2.1.2.2.1
    have hx0s : w.heap.size < W1.heap.size := lt_heap hbW1
    have hxs1 := hxW1.size
    simp (disch := first | omega | assumption | (simp only [O1, World.size_alloc, World.size_setCell, World.size_drew]; first | done | omega)) only [O1, D2, ↓H0, S0, ↓S1, ↓S2, ↓S3, ↓S4, S5, S5b, S5c, ↓S6, S6b, M0, E0, ty, tl, te, tc, i64_wrap, u64_wrap, iaV_sl, iaV_arr, faV_pa, nck_pa, heap_new, heap_old, heap_set, ↓reduceIte, Nat.reduceEqDiff, Nat.reduceLT, Nat.reduceAdd, Int.reduceLT, Int.reduceLE, decide_false, decide_true, dec_true, dec_false, true_and, and_true, true_imp_iff, Bool.not_true, Bool.not_false, Option.map_none, Int.reduceToNat, Int.toNat_zero, Int.toNat_one, lkV_false, lkV_true, hbW1]
    refine RunM_one sl44 rfl (by omega) (by omega) ?_
    have hO := RowsO.new (enc := IV) (base := W1.heap.size) (e := 3) (T := 23) (g := W1.heap.size) (W1.alloc (.cells (List.replicate g.names.length (.slice none 0 0)).toArray 23)) g.names.length (heap_new _ rfl)
    have hxn := (Ext.rfl' W1).al (.cells (List.replicate g.names.length (.slice none 0 0)).toArray 23)
    have hW0 : RowW w (W1.alloc (.cells (List.replicate g.names.length (.slice none 0 0)).toArray 23)) bx w.heap.size W1.heap.size W1.heap.size (List.replicate g.names.length []) :=
      ⟨hxW1.tr hxn, hbx ▸ hxn.hp hbW1, hO, rfl, by simp, by omega, by omega⟩
    simp (disch := first | omega | assumption | (simp only [O1, World.size_alloc, World.size_setCell, World.size_drew]; first | done | omega)) only [O1, D2, ↓H0, S0, ↓S1, ↓S2, ↓S3, ↓S4, S5, S5b, S5c, ↓S6, S6b, M0, E0, ty, tl, te, tc, i64_wrap, u64_wrap, iaV_sl, iaV_arr, faV_pa, nck_pa, heap_new, heap_old, heap_set, ↓reduceIte, Nat.reduceEqDiff, Nat.reduceLT, Nat.reduceAdd, Int.reduceLT, Int.reduceLE, decide_false, decide_true, dec_true, dec_false, true_and, and_true, true_imp_iff, Bool.not_true, Bool.not_false, Option.map_none, Int.reduceToNat, Int.toNat_zero, Int.toNat_one, lkV_false, lkV_true, hbW1]
    generalize hG : W1.heap.size = G at hW0 ⊢
    generalize W1.alloc (.cells (List.replicate g.names.length (.slice none 0 0)).toArray 23) = U0 at hW0 ⊢
    clear hO hxn
    have hD0 : ∀ i, (h : i < g.prods.length) → g.prods.getD i (0, []) = g.prods[i] := fun i h => by simp [List.getD_eq_getElem?_getD, List.getElem?_eq_getElem h]
    refine ⟨fun k t U => ∃ (i : Nat) (F : List (List Int)), k + i = g.prods.length ∧ RowW w U bx w.heap.size G G F ∧ F.length = g.names.length ∧ (∀ s : Nat, s < g.names.length → F[s]? = some (edUp g.prods s i)) ∧
      t 1 = pa (some ⟨w.heap.size, 0, none⟩) 0 ∧ t 3 = .slice (some ⟨G, 0, none⟩) g.names.length g.names.length ∧ t 16 = .slice C g.prods.length c ∧ t 17 = .int .i64 g.prods.length ∧ t 18 = .int .i64 i, ⟨g.prods.length, 0, _, by omega, hW0, by simp, fun s hs => by simp [edUp, List.getElem?_replicate, hs], ?_⟩, ?_⟩
    · simp (disch := first | omega | assumption | (simp only [O1, World.size_alloc, World.size_setCell, World.size_drew]; first | done | omega)) only [O1, D2, ↓H0, S0, ↓S1, ↓S2, ↓S3, ↓S4, S5, S5b, S5c, ↓S6, S6b, M0, E0, ty, tl, te, tc, i64_wrap, u64_wrap, iaV_sl, iaV_arr, faV_pa, nck_pa, heap_new, heap_old, heap_set, ↓reduceIte, Nat.reduceEqDiff, Nat.reduceLT, Nat.reduceAdd, Int.reduceLT, Int.reduceLE, decide_false, decide_true, dec_true, dec_false, true_and, and_true, true_imp_iff, Bool.not_true, Bool.not_false, Option.map_none, Int.reduceToNat, Int.toNat_zero, Int.toNat_one, lkV_false, lkV_true] <;> rfl
    clear hW0
    rintro k t U ⟨i, F, hk, hW, hFl, hF, f1, f3, f16, f17, f18⟩
    simp (disch := first | omega | assumption | (simp only [O1, World.size_alloc, World.size_setCell, World.size_drew]; first | done | omega)) only [O1, D2, ↓H0, S0, ↓S1, ↓S2, ↓S3, ↓S4, S5, S5b, S5c, ↓S6, S6b, M0, E0, ty, tl, te, tc, i64_wrap, u64_wrap, iaV_sl, iaV_arr, faV_pa, nck_pa, heap_new, heap_old, heap_set, ↓reduceIte, Nat.reduceEqDiff, Nat.reduceLT, Nat.reduceAdd, Int.reduceLT, Int.reduceLE, decide_false, decide_true, dec_true, dec_false, true_and, and_true, true_imp_iff, Bool.not_true, Bool.not_false, Option.map_none, Int.reduceToNat, Int.toNat_zero, Int.toNat_one, lkV_false, lkV_true, f1, f3, f16, f17, f18]
    refine Br_if (fun h => ?_) (fun h' => ?_) <;> (try simp (disch := first | omega | assumption | (simp only [O1, World.size_alloc, World.size_setCell, World.size_drew]; first | done | omega)) only [O1, D2, ↓H0, S0, ↓S1, ↓S2, ↓S3, ↓S4, S5, S5b, S5c, ↓S6, S6b, M0, E0, ty, tl, te, tc, i64_wrap, u64_wrap, iaV_sl, iaV_arr, faV_pa, nck_pa, heap_new, heap_old, heap_set, ↓reduceIte, Nat.reduceEqDiff, Nat.reduceLT, Nat.reduceAdd, Int.reduceLT, Int.reduceLE, decide_false, decide_true, dec_true, dec_false, true_and, and_true, true_imp_iff, Bool.not_true, Bool.not_false, Option.map_none, Int.reduceToNat, Int.toNat_zero, Int.toNat_one, lkV_false, lkV_true, f1, f3, f16, f17, f18])
    · have hi : i < g.prods.length := by omega
      obtain ⟨hl, r, hr, hR⟩ := hC i hi
      obtain ⟨D, d, rfl, hd, hD⟩ := hR
      have hl' := hW.ext.rd hl
      have hr' := hW.ext.rd hr
      have hAs := rd_isSome hl
      have hmem : g.prods[i] ∈ g.prods := List.getElem_mem _
      have hgD := hD0 i hi
      generalize hp : g.prods[i] = p at *
      obtain ⟨⟨hp0, hp1⟩, hps⟩ := hin p hmem
      have hlen := hside p hmem
      have hU1 := (Ext.rfl' U).al (.cells #[.int .i64 p.1, .slice D p.2.length d] 35)
      have hW1 := hW.ext' hU1
      simp (disch := first | omega | assumption | (simp only [O1, World.size_alloc, World.size_setCell, World.size_drew]; first | done | omega)) only [O1, D2, ↓H0, S0, ↓S1, ↓S2, ↓S3, ↓S4, S5, S5b, S5c, ↓S6, S6b, M0, E0, ty, tl, te, tc, i64_wrap, u64_wrap, iaV_sl, iaV_arr, faV_pa, nck_pa, heap_new, heap_old, heap_set, ↓reduceIte, Nat.reduceEqDiff, Nat.reduceLT, Nat.reduceAdd, Int.reduceLT, Int.reduceLE, decide_false, decide_true, dec_true, dec_false, true_and, and_true, true_imp_iff, Bool.not_true, Bool.not_false, Option.map_none, Int.reduceToNat, Int.toNat_zero, Int.toNat_one, lkV_false, lkV_true, f1, f3, f16, f17, f18, hl', hr', ldA2, st35]
      generalize hq : U.heap.size = q at *
      have hqb : (U.alloc (.cells #[.int .i64 p.1, .slice D p.2.length d] 35)).heap[q]? = some (.cells #[.int .i64 p.1, .slice D p.2.length d] 35 (0, 0)) := heap_new _ hq.symm
      generalize U.alloc (.cells #[.int .i64 p.1, .slice D p.2.length d] 35) = U1 at hW1 hqb ⊢
      refine ⟨fun k3 t Y => ∃ (j : Nat) (F2 : List (List Int)), k3 + j = p.2.length ∧ RowW w Y bx w.heap.size G G F2 ∧ F2.length = g.names.length ∧ (∀ s : Nat, s < g.names.length → F2[s]? = some (edUp g.prods s i ++ if p.1 = (s : Int) then (p.2.take j).filter ntB else [])) ∧
        Y.heap[q]? = some (.cells #[.int .i64 p.1, .slice D p.2.length d] 35 (0, 0)) ∧ t 1 = pa (some ⟨w.heap.size, 0, none⟩) 0 ∧ t 3 = .slice (some ⟨G, 0, none⟩) g.names.length g.names.length ∧ t 16 = .slice C g.prods.length c ∧ t 17 = .int .i64 g.prods.length ∧ t 18 = .int .i64 i ∧
        t 5 = pa (some ⟨q, 0, none⟩) 0 ∧ t 23 = .slice D p.2.length d ∧ t 24 = .int .i64 p.2.length ∧ t 25 = .int .i64 j, ⟨p.2.length, 0, F, by omega, hW1, hFl, fun s hs => by rw [hF s hs]; simp, hqb, ?_⟩, ?_⟩
      · simp (disch := first | omega | assumption | (simp only [O1, World.size_alloc, World.size_setCell, World.size_drew]; first | done | omega)) only [O1, D2, ↓H0, S0, ↓S1, ↓S2, ↓S3, ↓S4, S5, S5b, S5c, ↓S6, S6b, M0, E0, ty, tl, te, tc, i64_wrap, u64_wrap, iaV_sl, iaV_arr, faV_pa, nck_pa, heap_new, heap_old, heap_set, ↓reduceIte, Nat.reduceEqDiff, Nat.reduceLT, Nat.reduceAdd, Int.reduceLT, Int.reduceLE, decide_false, decide_true, dec_true, dec_false, true_and, and_true, true_imp_iff, Bool.not_true, Bool.not_false, Option.map_none, Int.reduceToNat, Int.toNat_zero, Int.toNat_one, lkV_false, lkV_true, f1, f3, f16, f17, f18] <;> rfl
      clear hW1 hFl hF hqb hW f1 f3 f16 f17 f18 hl' hr' hU1 hq
      rintro k3 t Y ⟨j, F2, hk3, hW, hFl, hF, hqb, f1, f3, f16, f17, f18, f5, f23, f24, f25⟩
      simp (disch := first | omega | assumption | (simp only [O1, World.size_alloc, World.size_setCell, World.size_drew]; first | done | omega)) only [O1, D2, ↓H0, S0, ↓S1, ↓S2, ↓S3, ↓S4, S5, S5b, S5c, ↓S6, S6b, M0, E0, ty, tl, te, tc, i64_wrap, u64_wrap, iaV_sl, iaV_arr, faV_pa, nck_pa, heap_new, heap_old, heap_set, ↓reduceIte, Nat.reduceEqDiff, Nat.reduceLT, Nat.reduceAdd, Int.reduceLT, Int.reduceLE, decide_false, decide_true, dec_true, dec_false, true_and, and_true, true_imp_iff, Bool.not_true, Bool.not_false, Option.map_none, Int.reduceToNat, Int.toNat_zero, Int.toNat_one, lkV_false, lkV_true, f1, f3, f16, f17, f18, f5, f23, f24, f25]
      refine Br_if (fun h2 => ?_) (fun h2' => ?_) <;> (try simp (disch := first | omega | assumption | (simp only [O1, World.size_alloc, World.size_setCell, World.size_drew]; first | done | omega)) only [O1, D2, ↓H0, S0, ↓S1, ↓S2, ↓S3, ↓S4, S5, S5b, S5c, ↓S6, S6b, M0, E0, ty, tl, te, tc, i64_wrap, u64_wrap, iaV_sl, iaV_arr, faV_pa, nck_pa, heap_new, heap_old, heap_set, ↓reduceIte, Nat.reduceEqDiff, Nat.reduceLT, Nat.reduceAdd, Int.reduceLT, Int.reduceLE, decide_false, decide_true, dec_true, dec_false, true_and, and_true, true_imp_iff, Bool.not_true, Bool.not_false, Option.map_none, Int.reduceToNat, Int.toNat_zero, Int.toNat_one, lkV_false, lkV_true, f1, f3, f16, f17, f18, f5, f23, f24, f25])
      · have hj : j < p.2.length := by omega
        have hs := hW.ext.rd (hD j hj)
        have hDs := rd_isSome hs
        have htk : p.2.take (j + 1) = p.2.take j ++ [p.2[j]] := List.take_succ_eq_append_getElem hj
        have hxm : p.2[j] ∈ p.2 := List.getElem_mem _
        generalize hse : p.2[j] = x at *
        have hxn := hps x hxm
        simp (disch := first | omega | assumption | (simp only [O1, World.size_alloc, World.size_setCell, World.size_drew]; first | done | omega)) only [O1, D2, ↓H0, S0, ↓S1, ↓S2, ↓S3, ↓S4, S5, S5b, S5c, ↓S6, S6b, M0, E0, ty, tl, te, tc, i64_wrap, u64_wrap, iaV_sl, iaV_arr, faV_pa, nck_pa, heap_new, heap_old, heap_set, ↓reduceIte, Nat.reduceEqDiff, Nat.reduceLT, Nat.reduceAdd, Int.reduceLT, Int.reduceLE, decide_false, decide_true, dec_true, dec_false, true_and, and_true, true_imp_iff, Bool.not_true, Bool.not_false, Option.map_none, Int.reduceToNat, Int.toNat_zero, Int.toNat_one, lkV_false, lkV_true, f1, f3, f16, f17, f18, f5, f23, f24, f25, hs]
        refine Br_if (fun h3 => ?_) (fun h3' => ?_) <;> (try simp (disch := first | omega | assumption | (simp only [O1, World.size_alloc, World.size_setCell, World.size_drew]; first | done | omega)) only [O1, D2, ↓H0, S0, ↓S1, ↓S2, ↓S3, ↓S4, S5, S5b, S5c, ↓S6, S6b, M0, E0, ty, tl, te, tc, i64_wrap, u64_wrap, iaV_sl, iaV_arr, faV_pa, nck_pa, heap_new, heap_old, heap_set, ↓reduceIte, Nat.reduceEqDiff, Nat.reduceLT, Nat.reduceAdd, Int.reduceLT, Int.reduceLE, decide_false, decide_true, dec_true, dec_false, true_and, and_true, true_imp_iff, Bool.not_true, Bool.not_false, Option.map_none, Int.reduceToNat, Int.toNat_zero, Int.toNat_one, lkV_false, lkV_true, f1, f3, f16, f17, f18, f5, f23, f24, f25])
        · have hgo : ntB x = true := by simp [ntB, h3]
          have hW' := hW.ext' (Ext.rfl' Y).dr
          have hsF : p.1.toNat < F2.length := by omega
          have hFx := hF p.1.toNat (by omega)
          rw [List.getElem?_eq_getElem hsF] at hFx
          simp only [Option.some.injEq] at hFx
          have hlF : F2[p.1.toNat].length < 1000000000000 := by
            rw [hFx, List.length_append]
            have h1 := edUp_len (a := ((p.1.toNat : Nat) : Int)) (m := i) hside
            have h2 : (if p.1 = ((p.1.toNat : Nat) : Int) then (p.2.take j).filter ntB else []).length ≤ 16 := by
              split
              · exact Nat.le_trans (List.length_filter_le _ _) (by rw [List.length_take]; omega)
              · simp
            omega
          obtain ⟨u, hu, hu', hGu, hno, hpush⟩ := hW'.push p.1.toNat hsF hlF x
          have hqb' : Y.drew.heap[q]? = some (.cells #[.int .i64 p.1, .slice D p.2.length d] 35 (0, 0)) := hqb
          have hqn := hno q _ _ _ (by decide) hqb'
          refine Dr_plan u.ownBlock.toList (upto 12) [0, 1, 2, 3, 4, 5, 6, 7, 8, 9, 10, 11, 12] mixed (by kernel_rfl) ?_
          simp (disch := first | omega | assumption | (simp only [O1, World.size_alloc, World.size_setCell, World.size_drew]; first | done | omega)) only [↓D1, ↓D3, ↓D4, List.not_mem_nil, not_false_eq_true, Bool.false_eq_true, false_imp_iff, upto, O1, D2, ↓H0, S0, ↓S1, ↓S2, ↓S3, ↓S4, S5, S5b, S5c, ↓S6, S6b, M0, E0, ty, tl, te, tc, i64_wrap, u64_wrap, iaV_sl, iaV_arr, faV_pa, nck_pa, heap_new, heap_old, heap_set, ↓reduceIte, Nat.reduceEqDiff, Nat.reduceLT, Nat.reduceAdd, Int.reduceLT, Int.reduceLE, decide_false, decide_true, dec_true, dec_false, true_and, and_true, true_imp_iff, Bool.not_true, Bool.not_false, Option.map_none, Int.reduceToNat, Int.toNat_zero, Int.toNat_one, lkV_false, lkV_true, f1, f3, f16, f17, f18, f5, f23, f24, f25, hqb, hqb', hu, hu', hqn, hGu, bsl1 sl23]
          refine hpush _ _ fun v' Y2 hK hsz hxY2 hold hst hWn hkq => ?_
          have hq2 := (hkq q _ _ _ (by decide) (by decide) hqb').1
          have hq3 := (hkq q _ _ _ (by decide) (by decide) hqb').2
          simp (disch := first | omega | assumption | (simp only [O1, World.size_alloc, World.size_setCell, World.size_drew]; first | done | omega)) only [↓D1, ↓D3, ↓D4, List.not_mem_nil, not_false_eq_true, Bool.false_eq_true, false_imp_iff, upto, O1, D2, ↓H0, S0, ↓S1, ↓S2, ↓S3, ↓S4, S5, S5b, S5c, ↓S6, S6b, M0, E0, ty, tl, te, tc, i64_wrap, u64_wrap, iaV_sl, iaV_arr, faV_pa, nck_pa, heap_new, heap_old, heap_set, ↓reduceIte, Nat.reduceEqDiff, Nat.reduceLT, Nat.reduceAdd, Int.reduceLT, Int.reduceLE, decide_false, decide_true, dec_true, dec_false, true_and, and_true, true_imp_iff, Bool.not_true, Bool.not_false, Option.map_none, Int.reduceToNat, Int.toNat_zero, Int.toNat_one, lkV_false, lkV_true, f1, f3, f16, f17, f18, f5, f23, f24, f25, hK, hst]
          refine ⟨k3 - 1, by omega, j + 1, _, by omega, hWn, by simpa using hFl, fun s hs => ?_, hq3, rfl⟩
          rw [List.getElem?_set, htk, List.filter_append]
          by_cases e : p.1.toNat = s
          · subst e
            have e2 : ((p.1.toNat : Nat) : Int) = p.1 := by omega
            rw [if_pos rfl, if_pos hsF, hFx, e2]
            simp [hgo]
          · have e2 : ¬ p.1 = (s : Int) := by omega
            rw [if_neg e, hF s hs]; simp [e2]
        · refine ⟨k3 - 1, by omega, j + 1, F2, by omega, hW, hFl, fun s hs => ?_, hqb, rfl⟩
          have hgo : ntB x = false := by simp [ntB]; omega
          rw [hF s hs, htk, List.filter_append]; simp [hgo]
      · have hj : p.2.take j = p.2 := List.take_of_length_le (by omega)
        refine ⟨k - 1, by omega, i + 1, F2, by omega, hW, hFl, fun s hs => ?_, rfl⟩
        rw [hF s hs, edUp, hgD, hj]
    · have hil : i = g.prods.length := by omega
      subst hil
      have hbU := hbx ▸ hW.box
      have hIR := hW.rows.rows
      rw [hFl] at hIR
      have hFs : ∀ s : Nat, s < g.names.length → ∀ r, F[s]? = some r → ∀ b, b ∈ r ↔ EdP g.prods s b := fun s hs r hr b => by
        rw [hF s hs] at hr; cases hr; exact ed_iff
      have hSx : ∀ a b, Sx F a b ↔ EdP g.prods a b := by
        intro a b
        constructor
        · rintro ⟨h0, hb⟩
          rw [List.getD_eq_getElem?_getD] at hb
          cases hq : F[a.toNat]? with
          | none => rw [hq] at hb; simp at hb
          | some r =>
            rw [hq] at hb
            have hlt : a.toNat < g.names.length := by rw [← hFl]; exact (List.getElem?_eq_some_iff.1 hq).1
            have := (hFs a.toNat hlt r hq b).1 hb
            rwa [Int.toNat_of_nonneg h0] at this
        · intro h
          obtain ⟨p, hp, rfl, _⟩ := id h
          obtain ⟨⟨hp0, hp1⟩, _⟩ := hin p hp
          refine ⟨hp0, ?_⟩
          have hlt : p.1.toNat < g.names.length := by omega
          rw [List.getD_eq_getElem?_getD, hF _ hlt]
          exact ed_iff.2 (by rwa [Int.toNat_of_nonneg hp0])
      have hSeq : Sx F = EdP g.prods := by funext a b; exact propext (hSx a b)
      have hrl : ∀ r ∈ F, r.length ≤ 4096 ∧ ∀ b ∈ r, 0 ≤ b ∧ b < g.names.length := by
        intro r hr
        obtain ⟨s, hs, rfl⟩ := List.mem_iff_getElem.1 hr
        have h1 := hF s (by omega)
        rw [List.getElem?_eq_getElem hs] at h1
        simp only [Option.some.injEq] at h1
        refine ⟨?_, fun b hb => ?_⟩
        · rw [h1]; have := edUp_len (a := (s : Int)) (m := g.prods.length) hside; omega
        · obtain ⟨p, hp, _, hm, h0⟩ := (hFs s (by omega) _ (List.getElem?_eq_getElem hs) b).1 hb
          exact ⟨h0, (hin p hp).2 _ hm⟩
      have hxU := hW.ext
      have hst0 := hS.2.1.2.2.2
      simp (disch := first | omega | assumption | (simp only [O1, World.size_alloc, World.size_setCell, World.size_drew]; first | done | omega)) only [O1, D2, ↓H0, S0, ↓S1, ↓S2, ↓S3, ↓S4, S5, S5b, S5c, ↓S6, S6b, M0, E0, ty, tl, te, tc, i64_wrap, u64_wrap, iaV_sl, iaV_arr, faV_pa, nck_pa, heap_new, heap_old, heap_set, ↓reduceIte, Nat.reduceEqDiff, Nat.reduceLT, Nat.reduceAdd, Int.reduceLT, Int.reduceLE, decide_false, decide_true, dec_true, dec_false, true_and, and_true, true_imp_iff, Bool.not_true, Bool.not_false, Option.map_none, Int.reduceToNat, Int.toNat_zero, Int.toNat_one, lkV_false, lkV_true, f1, f3, f16, f17, f18, hbU, bsl1 sl23]
      have hxa := (Ext.rfl' U).al (.cells #[IV g.start] 3)
      have hIA := hIR.ext hxa
      refine (spread_ok _ _ F [g.start] 4096 (U.alloc (.cells #[IV g.start] 3)) (by rw [sl] at hIA; exact hIA) ⟨some ⟨U.heap.size, 0, none⟩, 1, rfl, Nat.le_refl _, fun i hi => ?_⟩ (by omega) (by omega) (fun r hr => (hrl r hr).1) (by simp) (fun r hr b hb => by rw [hFl]; exact (hrl r hr).2 b hb) (fun b hb => by simp at hb; subst hb; rw [hFl]; exact ⟨hst0.1, hst0.2⟩)).then ?_
      · have hi0 : i = 0 := by simpa using hi
        subst hi0
        rw [rd_own, heap_new _ rfl]; rfl
      rintro _ Y ⟨⟨G2, l2, rfl, hO2, hT2⟩, hxY⟩
      have hxw := (hxU.tr hxa).tr hxY
      simp (disch := first | omega | assumption | (simp only [O1, World.size_alloc, World.size_setCell, World.size_drew]; first | done | omega)) only [O1, D2, ↓H0, S0, ↓S1, ↓S2, ↓S3, ↓S4, S5, S5b, S5c, ↓S6, S6b, M0, E0, ty, tl, te, tc, i64_wrap, u64_wrap, iaV_sl, iaV_arr, faV_pa, nck_pa, heap_new, heap_old, heap_set, ↓reduceIte, Nat.reduceEqDiff, Nat.reduceLT, Nat.reduceAdd, Int.reduceLT, Int.reduceLE, decide_false, decide_true, dec_true, dec_false, true_and, and_true, true_imp_iff, Bool.not_true, Bool.not_false, Option.map_none, Int.reduceToNat, Int.toNat_zero, Int.toNat_one, lkV_false, lkV_true, f1, f3, f16, f17, f18]
      rw [hSeq, hFl] at hT2
      have hsq := hO2.sq
      rw [hT2.1] at hsq
      rw [hFl]
      exact ⟨.inr ⟨hS, l2, hsq, hT2⟩, hxw⟩
end Go.Proofs.Ytgioklmpnbnplaa
namespace Go.Proofs.Ytgioklmpnbnplaa
open Go.V

theorem bools_ok (xv yv : Value) (x y : List Bool) (w : World) (hx : Bools w xv x) (hy : Bools w yv y) (hn : x.length ≤ 1000000) :
    Ok Try.prog 36 #[xv, yv] w fun v w' => v = .bool (decide (x = y)) ∧ Ext w w' := by
  obtain ⟨A, a, rfl, ha, hA⟩ := hx
  obtain ⟨B, b, rfl, hb, hB⟩ := hy
  (refine Ok.enter Try.func36 rfl (by kernel_rfl) (Nat.le_of_ble_eq_true rfl) ?_; simp only [Try.f36, S7])
  simp (disch := first | omega | assumption | (simp only [O1, World.size_alloc, World.size_setCell, World.size_drew]; first | done | omega)) only [O1, D2, ↓H0, S0, ↓S1, ↓S2, ↓S3, ↓S4, S5, S5b, S5c, ↓S6, S6b, M0, E0, ty, tl, te, tc, i64_wrap, u64_wrap, iaV_sl, iaV_arr, faV_pa, nck_pa, heap_new, heap_old, heap_set, ↓reduceIte, Nat.reduceEqDiff, Nat.reduceLT, Nat.reduceAdd, Int.reduceLT, Int.reduceLE, decide_false, decide_true, dec_true, dec_false, true_and, and_true, true_imp_iff, Bool.not_true, Bool.not_false, Option.map_none, Int.reduceToNat, Int.toNat_zero, Int.toNat_one, lkV_false, lkV_true]
  refine Br_if (fun h => ?_) (fun h' => ?_) <;> (try simp (disch := first | omega | assumption | (simp only [O1, World.size_alloc, World.size_setCell, World.size_drew]; first | done | omega)) only [O1, D2, ↓H0, S0, ↓S1, ↓S2, ↓S3, ↓S4, S5, S5b, S5c, ↓S6, S6b, M0, E0, ty, tl, te, tc, i64_wrap, u64_wrap, iaV_sl, iaV_arr, faV_pa, nck_pa, heap_new, heap_old, heap_set, ↓reduceIte, Nat.reduceEqDiff, Nat.reduceLT, Nat.reduceAdd, Int.reduceLT, Int.reduceLE, decide_false, decide_true, dec_true, dec_false, true_and, and_true, true_imp_iff, Bool.not_true, Bool.not_false, Option.map_none, Int.reduceToNat, Int.toNat_zero, Int.toNat_one, lkV_false, lkV_true])
  · have hl : x.length = y.length := by omega
    refine ⟨fun k t W => ∃ i : Nat, k + i = x.length ∧ x.take i = y.take i ∧ Ext w W ∧ t 0 = .slice A x.length a ∧ t 1 = .slice B y.length b ∧ t 5 = .int .i64 i, ⟨x.length, 0, by omega, rfl, Ext.rfl' w, ?_⟩, ?_⟩
    · simp (disch := first | omega | assumption | (simp only [O1, World.size_alloc, World.size_setCell, World.size_drew]; first | done | omega)) only [O1, D2, ↓H0, S0, ↓S1, ↓S2, ↓S3, ↓S4, S5, S5b, S5c, ↓S6, S6b, M0, E0, ty, tl, te, tc, i64_wrap, u64_wrap, iaV_sl, iaV_arr, faV_pa, nck_pa, heap_new, heap_old, heap_set, ↓reduceIte, Nat.reduceEqDiff, Nat.reduceLT, Nat.reduceAdd, Int.reduceLT, Int.reduceLE, decide_false, decide_true, dec_true, dec_false, true_and, and_true, true_imp_iff, Bool.not_true, Bool.not_false, Option.map_none, Int.reduceToNat, Int.toNat_zero, Int.toNat_one, lkV_false, lkV_true] <;> rfl
    rintro k t W ⟨i, hk, he, hW, f0, f1, f5⟩
    simp (disch := first | omega | assumption | (simp only [O1, World.size_alloc, World.size_setCell, World.size_drew]; first | done | omega)) only [O1, D2, ↓H0, S0, ↓S1, ↓S2, ↓S3, ↓S4, S5, S5b, S5c, ↓S6, S6b, M0, E0, ty, tl, te, tc, i64_wrap, u64_wrap, iaV_sl, iaV_arr, faV_pa, nck_pa, heap_new, heap_old, heap_set, ↓reduceIte, Nat.reduceEqDiff, Nat.reduceLT, Nat.reduceAdd, Int.reduceLT, Int.reduceLE, decide_false, decide_true, dec_true, dec_false, true_and, and_true, true_imp_iff, Bool.not_true, Bool.not_false, Option.map_none, Int.reduceToNat, Int.toNat_zero, Int.toNat_one, lkV_false, lkV_true, f0, f1, f5]
    refine Br_if (fun h1 => ?_) (fun h1' => ?_) <;> (try simp (disch := first | omega | assumption | (simp only [O1, World.size_alloc, World.size_setCell, World.size_drew]; first | done | omega)) only [O1, D2, ↓H0, S0, ↓S1, ↓S2, ↓S3, ↓S4, S5, S5b, S5c, ↓S6, S6b, M0, E0, ty, tl, te, tc, i64_wrap, u64_wrap, iaV_sl, iaV_arr, faV_pa, nck_pa, heap_new, heap_old, heap_set, ↓reduceIte, Nat.reduceEqDiff, Nat.reduceLT, Nat.reduceAdd, Int.reduceLT, Int.reduceLE, decide_false, decide_true, dec_true, dec_false, true_and, and_true, true_imp_iff, Bool.not_true, Bool.not_false, Option.map_none, Int.reduceToNat, Int.toNat_zero, Int.toNat_one, lkV_false, lkV_true, f0, f1, f5])
    · have hi : i < x.length := by omega
      have hi2 : i < y.length := by omega
      have q1 := (hW.dr).rd (hA i hi)
      have q2 := (hW.dr).rd (hB i hi2)
      have s1 := rd_isSome q1
      have s2 := rd_isSome q2
      have tx : x.take (i + 1) = x.take i ++ [x[i]] := List.take_succ_eq_append_getElem hi
      have ty' : y.take (i + 1) = y.take i ++ [y[i]] := List.take_succ_eq_append_getElem hi2
      have ne : x[i] ≠ y[i] → x ≠ y := fun h e => by subst e; exact h rfl
      generalize x[i] = p at *
      generalize y[i] = q at *
      have d1 : decide (true = false) = false := rfl
      have d2 : decide (false = true) = false := rfl
      refine Dr_plan [] (fun _ => true) [0, 1, 2, 3, 4, 5, 6, 7, 8] mixed (by kernel_rfl) ?_
      cases p <;> cases q
      · simp (disch := first | omega | assumption | (simp only [O1, World.size_alloc, World.size_setCell, World.size_drew]; first | done | omega)) only [↓D1, ↓D3, ↓D4, List.not_mem_nil, not_false_eq_true, Bool.false_eq_true, false_imp_iff, upto, O1, D2, ↓H0, S0, ↓S1, ↓S2, ↓S3, ↓S4, S5, S5b, S5c, ↓S6, S6b, M0, E0, ty, tl, te, tc, i64_wrap, u64_wrap, iaV_sl, iaV_arr, faV_pa, nck_pa, heap_new, heap_old, heap_set, ↓reduceIte, Nat.reduceEqDiff, Nat.reduceLT, Nat.reduceAdd, Int.reduceLT, Int.reduceLE, decide_false, decide_true, dec_true, dec_false, true_and, and_true, true_imp_iff, Bool.not_true, Bool.not_false, Option.map_none, Int.reduceToNat, Int.toNat_zero, Int.toNat_one, lkV_false, lkV_true, f0, f1, f5, q1, q2, d1, d2]
        refine ⟨k - 1, by omega, i + 1, by omega, by rw [tx, ty', he], hW.dr, rfl⟩
      · simp (disch := first | omega | assumption | (simp only [O1, World.size_alloc, World.size_setCell, World.size_drew]; first | done | omega)) only [↓D1, ↓D3, ↓D4, List.not_mem_nil, not_false_eq_true, Bool.false_eq_true, false_imp_iff, upto, O1, D2, ↓H0, S0, ↓S1, ↓S2, ↓S3, ↓S4, S5, S5b, S5c, ↓S6, S6b, M0, E0, ty, tl, te, tc, i64_wrap, u64_wrap, iaV_sl, iaV_arr, faV_pa, nck_pa, heap_new, heap_old, heap_set, ↓reduceIte, Nat.reduceEqDiff, Nat.reduceLT, Nat.reduceAdd, Int.reduceLT, Int.reduceLE, decide_false, decide_true, dec_true, dec_false, true_and, and_true, true_imp_iff, Bool.not_true, Bool.not_false, Option.map_none, Int.reduceToNat, Int.toNat_zero, Int.toNat_one, lkV_false, lkV_true, f0, f1, f5, q1, q2, d1, d2]
        rw [decide_eq_false (ne (by simp))]
        exact ⟨rfl, hW.dr⟩
      · simp (disch := first | omega | assumption | (simp only [O1, World.size_alloc, World.size_setCell, World.size_drew]; first | done | omega)) only [↓D1, ↓D3, ↓D4, List.not_mem_nil, not_false_eq_true, Bool.false_eq_true, false_imp_iff, upto, O1, D2, ↓H0, S0, ↓S1, ↓S2, ↓S3, ↓S4, S5, S5b, S5c, ↓S6, S6b, M0, E0, ty, tl, te, tc, i64_wrap, u64_wrap, iaV_sl, iaV_arr, faV_pa, nck_pa, heap_new, heap_old, heap_set, ↓reduceIte, Nat.reduceEqDiff, Nat.reduceLT, Nat.reduceAdd, Int.reduceLT, Int.reduceLE, decide_false, decide_true, dec_true, dec_false, true_and, and_true, true_imp_iff, Bool.not_true, Bool.not_false, Option.map_none, Int.reduceToNat, Int.toNat_zero, Int.toNat_one, lkV_false, lkV_true, f0, f1, f5, q1, q2, d1, d2]
        rw [decide_eq_false (ne (by simp))]
        exact ⟨rfl, hW.dr⟩
      · simp (disch := first | omega | assumption | (simp only [O1, World.size_alloc, World.size_setCell, World.size_drew]; first | done | omega)) only [↓D1, ↓D3, ↓D4, List.not_mem_nil, not_false_eq_true, Bool.false_eq_true, false_imp_iff, upto, O1, D2, ↓H0, S0, ↓S1, ↓S2, ↓S3, ↓S4, S5, S5b, S5c, ↓S6, S6b, M0, E0, ty, tl, te, tc, i64_wrap, u64_wrap, iaV_sl, iaV_arr, faV_pa, nck_pa, heap_new, heap_old, heap_set, ↓reduceIte, Nat.reduceEqDiff, Nat.reduceLT, Nat.reduceAdd, Int.reduceLT, Int.reduceLE, decide_false, decide_true, dec_true, dec_false, true_and, and_true, true_imp_iff, Bool.not_true, Bool.not_false, Option.map_none, Int.reduceToNat, Int.toNat_zero, Int.toNat_one, lkV_false, lkV_true, f0, f1, f5, q1, q2, d1, d2]
        refine ⟨k - 1, by omega, i + 1, by omega, by rw [tx, ty', he], hW.dr, rfl⟩
    · have e : x = y := by
        have e1 : x.take i = x := List.take_of_length_le (by omega)
        have e2 : y.take i = y := List.take_of_length_le (by omega)
        rw [e1, e2] at he; exact he
      rw [decide_eq_true e]
      exact ⟨rfl, hW⟩
  · have : x ≠ y := fun e => h' (by rw [e])
    rw [decide_eq_false this]
    exact ⟨rfl, Ext.rfl' w⟩
set_option maxHeartbeats 4000000 in
theorem rshort_ok (v : Value) (g : PG) (w : World) (hg : RepPG w v g) (hS : SoundP g) (hs : SmallP g) :
    Ok Try.prog 34 #[v] w fun v w' => (∃ l, Ints w' v l ∧ Short g.names.length g.prods l) ∧ Ext w w' := by
  obtain ⟨nv, tv, pv, rfl, hN, hT, hp⟩ := hg
  obtain ⟨A, a, rfl, ha, hA⟩ := hN
  obtain ⟨C, c, rfl, hc, hC⟩ := hp
  obtain ⟨s1, s2, s3, s4⟩ := hs
  have hin := hS.inR
  (refine Ok.enter Try.func34 rfl (by kernel_rfl) (Nat.le_of_ble_eq_true rfl) ?_; simp only [Try.f34, S7])
  simp (disch := first | omega | assumption | (simp only [O1, World.size_alloc, World.size_setCell, World.size_drew]; first | done | omega)) only [O1, D2, ↓H0, S0, ↓S1, ↓S2, ↓S3, ↓S4, S5, S5b, S5c, ↓S6, S6b, M0, E0, ty, tl, te, tc, i64_wrap, u64_wrap, iaV_sl, iaV_arr, faV_pa, nck_pa, heap_new, heap_old, heap_set, ↓reduceIte, Nat.reduceEqDiff, Nat.reduceLT, Nat.reduceAdd, Int.reduceLT, Int.reduceLE, decide_false, decide_true, dec_true, dec_false, true_and, and_true, true_imp_iff, Bool.not_true, Bool.not_false, Option.map_none, Int.reduceToNat, Int.toNat_zero, Int.toNat_one, lkV_false, lkV_true]
  have hx0 := (Ext.rfl' w).al (.cells #[.int .i64 g.start, .int .i64 g.rules, .slice A g.names.length a, tv, .slice C g.prods.length c] 49)
  have hb0 := heap_new (w := w) (.cells #[.int .i64 g.start, .int .i64 g.rules, .slice A g.names.length a, tv, .slice C g.prods.length c] 49) rfl
  refine RunM_own (enc := Value.int .i64) (z := 0) sl23 rfl (by omega) (by omega) ?_
  intro W hWs hx1 hO
  obtain ⟨G, hG⟩ : ∃ G, G = w.heap.size + 1 := ⟨_, rfl⟩
  simp only [World.size_alloc] at hO hWs
  rw [← hG] at hO hWs
  have hb1 := hx1.hp hb0
  have hxW := hx0.tr hx1
  clear hx0 hb0 hx1
  rw [World.size_alloc, ← hG]
  simp (disch := first | omega | assumption | (simp only [O1, World.size_alloc, World.size_setCell, World.size_drew]; first | done | omega)) only [O1, D2, ↓H0, S0, ↓S1, ↓S2, ↓S3, ↓S4, S5, S5b, S5c, ↓S6, S6b, M0, E0, ty, tl, te, tc, i64_wrap, u64_wrap, iaV_sl, iaV_arr, faV_pa, nck_pa, heap_new, heap_old, heap_set, ↓reduceIte, Nat.reduceEqDiff, Nat.reduceLT, Nat.reduceAdd, Int.reduceLT, Int.reduceLE, decide_false, decide_true, dec_true, dec_false, true_and, and_true, true_imp_iff, Bool.not_true, Bool.not_false, Option.map_none, Int.reduceToNat, Int.toNat_zero, Int.toNat_one, lkV_false, lkV_true, sl]
  refine ⟨fun k t U => ∃ i : Nat, k + i = g.names.length ∧ Ext w U ∧ Own (.int .i64) 3 U G (List.replicate i (-1) ++ List.replicate (g.names.length - i) 0) ∧ U.heap[w.heap.size]? = some (.cells #[.int .i64 g.start, .int .i64 g.rules, .slice A g.names.length a, tv, .slice C g.prods.length c] 49 (0, 0)) ∧
    t 1 = pa (some ⟨w.heap.size, 0, none⟩) 0 ∧ t 3 = .slice (some ⟨G, 0, none⟩) g.names.length g.names.length ∧ t 4 = .int .i64 i, ⟨g.names.length, 0, by omega, hxW, by simpa using hO, hb1, ?_⟩, ?_⟩
  · simp (disch := first | omega | assumption | (simp only [O1, World.size_alloc, World.size_setCell, World.size_drew]; first | done | omega)) only [O1, D2, ↓H0, S0, ↓S1, ↓S2, ↓S3, ↓S4, S5, S5b, S5c, ↓S6, S6b, M0, E0, ty, tl, te, tc, i64_wrap, u64_wrap, iaV_sl, iaV_arr, faV_pa, nck_pa, heap_new, heap_old, heap_set, ↓reduceIte, Nat.reduceEqDiff, Nat.reduceLT, Nat.reduceAdd, Int.reduceLT, Int.reduceLE, decide_false, decide_true, dec_true, dec_false, true_and, and_true, true_imp_iff, Bool.not_true, Bool.not_false, Option.map_none, Int.reduceToNat, Int.toNat_zero, Int.toNat_one, lkV_false, lkV_true] <;> rfl
  clear hO hb1 hxW hWs
  rintro k t U ⟨i, hk, hx, hO, hbx, f1, f3, f4⟩
  simp (disch := first | omega | assumption | (simp only [O1, World.size_alloc, World.size_setCell, World.size_drew]; first | done | omega)) only [O1, D2, ↓H0, S0, ↓S1, ↓S2, ↓S3, ↓S4, S5, S5b, S5c, ↓S6, S6b, M0, E0, ty, tl, te, tc, i64_wrap, u64_wrap, iaV_sl, iaV_arr, faV_pa, nck_pa, heap_new, heap_old, heap_set, ↓reduceIte, Nat.reduceEqDiff, Nat.reduceLT, Nat.reduceAdd, Int.reduceLT, Int.reduceLE, decide_false, decide_true, dec_true, dec_false, true_and, and_true, true_imp_iff, Bool.not_true, Bool.not_false, Option.map_none, Int.reduceToNat, Int.toNat_zero, Int.toNat_one, lkV_false, lkV_true, f1, f3, f4]
  refine Br_if (fun h => ?_) (fun h' => ?_) <;> (try simp (disch := first | omega | assumption | (simp only [O1, World.size_alloc, World.size_setCell, World.size_drew]; first | done | omega)) only [O1, D2, ↓H0, S0, ↓S1, ↓S2, ↓S3, ↓S4, S5, S5b, S5c, ↓S6, S6b, M0, E0, ty, tl, te, tc, i64_wrap, u64_wrap, iaV_sl, iaV_arr, faV_pa, nck_pa, heap_new, heap_old, heap_set, ↓reduceIte, Nat.reduceEqDiff, Nat.reduceLT, Nat.reduceAdd, Int.reduceLT, Int.reduceLE, decide_false, decide_true, dec_true, dec_false, true_and, and_true, true_imp_iff, Bool.not_true, Bool.not_false, Option.map_none, Int.reduceToNat, Int.toNat_zero, Int.toNat_one, lkV_false, lkV_true, f1, f3, f4])
  · have hst := hO.sto (P := Try.prog) (t := 3) (by simp only [ty]) i (by simp; omega) (-1 : Int) rfl
    simp (disch := first | omega | assumption | (simp only [O1, World.size_alloc, World.size_setCell, World.size_drew]; first | done | omega)) only [O1, D2, ↓H0, S0, ↓S1, ↓S2, ↓S3, ↓S4, S5, S5b, S5c, ↓S6, S6b, M0, E0, ty, tl, te, tc, i64_wrap, u64_wrap, iaV_sl, iaV_arr, faV_pa, nck_pa, heap_new, heap_old, heap_set, ↓reduceIte, Nat.reduceEqDiff, Nat.reduceLT, Nat.reduceAdd, Int.reduceLT, Int.reduceLE, decide_false, decide_true, dec_true, dec_false, true_and, and_true, true_imp_iff, Bool.not_true, Bool.not_false, Option.map_none, Int.reduceToNat, Int.toNat_zero, Int.toNat_one, lkV_false, lkV_true, f1, f3, f4, hst]
    have hO2 := hO.set i (-1 : Int)
    have e : (List.replicate i (-1 : Int) ++ List.replicate (g.names.length - i) 0).set i (-1) = List.replicate (i + 1) (-1) ++ List.replicate (g.names.length - (i + 1)) 0 := by
      rw [List.set_append_right _ _ (by simp), List.length_replicate, Nat.sub_self, show g.names.length - i = (g.names.length - (i + 1)) + 1 by omega, List.replicate_succ, List.set_cons_zero, List.replicate_succ', List.append_assoc]; rfl
    rw [e] at hO2
    have hGU := hO.lt
    exact ⟨k - 1, by omega, i + 1, by omega, hx.st (by omega) _, hO2, hbx, rfl⟩
  have hin' : i = g.names.length := by omega
  subst hin'
  rw [Nat.sub_self, List.replicate_zero, List.append_nil] at hO
  refine ⟨fun k t U => ∃ (l : List Int) (m : Bool), k = 2 * left l + (if m then 1 else 0) ∧ ShortI g.names.length g.prods l ∧ (m = false → ∀ p ∈ g.prods, ClosedAt l p) ∧ Ext w U ∧ Own (.int .i64) 3 U G l ∧ U.heap[w.heap.size]? = some (.cells #[.int .i64 g.start, .int .i64 g.rules, .slice A g.names.length a, tv, .slice C g.prods.length c] 49 (0, 0)) ∧
    t 1 = pa (some ⟨w.heap.size, 0, none⟩) 0 ∧ t 3 = .slice (some ⟨G, 0, none⟩) g.names.length g.names.length ∧ t 5 = .bool m, ⟨_, List.replicate g.names.length (-1), true, rfl, ShortI.start _ _, by simp, hx, hO, hbx, ?_⟩, ?_⟩
  · simp (disch := first | omega | assumption | (simp only [O1, World.size_alloc, World.size_setCell, World.size_drew]; first | done | omega)) only [O1, D2, ↓H0, S0, ↓S1, ↓S2, ↓S3, ↓S4, S5, S5b, S5c, ↓S6, S6b, M0, E0, ty, tl, te, tc, i64_wrap, u64_wrap, iaV_sl, iaV_arr, faV_pa, nck_pa, heap_new, heap_old, heap_set, ↓reduceIte, Nat.reduceEqDiff, Nat.reduceLT, Nat.reduceAdd, Int.reduceLT, Int.reduceLE, decide_false, decide_true, dec_true, dec_false, true_and, and_true, true_imp_iff, Bool.not_true, Bool.not_false, Option.map_none, Int.reduceToNat, Int.toNat_zero, Int.toNat_one, lkV_false, lkV_true, f1, f3] <;> rfl
  clear hO hbx hx f1 f3 f4
  rintro k t U ⟨l, m, rfl, hI, hcl, hx, hO, hbx, f1, f3, f5⟩
  simp (disch := first | omega | assumption | (simp only [O1, World.size_alloc, World.size_setCell, World.size_drew]; first | done | omega)) only [O1, D2, ↓H0, S0, ↓S1, ↓S2, ↓S3, ↓S4, S5, S5b, S5c, ↓S6, S6b, M0, E0, ty, tl, te, tc, i64_wrap, u64_wrap, iaV_sl, iaV_arr, faV_pa, nck_pa, heap_new, heap_old, heap_set, ↓reduceIte, Nat.reduceEqDiff, Nat.reduceLT, Nat.reduceAdd, Int.reduceLT, Int.reduceLE, decide_false, decide_true, dec_true, dec_false, true_and, and_true, true_imp_iff, Bool.not_true, Bool.not_false, Option.map_none, Int.reduceToNat, Int.toNat_zero, Int.toNat_one, lkV_false, lkV_true, f1, f3, f5]
  cases m with
  | false =>
    simp (disch := first | omega | assumption | (simp only [O1, World.size_alloc, World.size_setCell, World.size_drew]; first | done | omega)) only [O1, D2, ↓H0, S0, ↓S1, ↓S2, ↓S3, ↓S4, S5, S5b, S5c, ↓S6, S6b, M0, E0, ty, tl, te, tc, i64_wrap, u64_wrap, iaV_sl, iaV_arr, faV_pa, nck_pa, heap_new, heap_old, heap_set, ↓reduceIte, Nat.reduceEqDiff, Nat.reduceLT, Nat.reduceAdd, Int.reduceLT, Int.reduceLE, decide_false, decide_true, dec_true, dec_false, true_and, and_true, true_imp_iff, Bool.not_true, Bool.not_false, Option.map_none, Int.reduceToNat, Int.toNat_zero, Int.toNat_one, lkV_false, lkV_true, f1, f3, f5]
    have := hO.sq
    rw [hI.1] at this
    exact ⟨⟨l, this, hI.done hin (hcl rfl)⟩, hx⟩
  | true =>
    simp (disch := first | omega | assumption | (simp only [O1, World.size_alloc, World.size_setCell, World.size_drew]; first | done | omega)) only [O1, D2, ↓H0, S0, ↓S1, ↓S2, ↓S3, ↓S4, S5, S5b, S5c, ↓S6, S6b, M0, E0, ty, tl, te, tc, i64_wrap, u64_wrap, iaV_sl, iaV_arr, faV_pa, nck_pa, heap_new, heap_old, heap_set, ↓reduceIte, Nat.reduceEqDiff, Nat.reduceLT, Nat.reduceAdd, Int.reduceLT, Int.reduceLE, decide_false, decide_true, dec_true, dec_false, true_and, and_true, true_imp_iff, Bool.not_true, Bool.not_false, Option.map_none, Int.reduceToNat, Int.toNat_zero, Int.toNat_one, lkV_false, lkV_true, f1, f3, f5]
    refine ⟨fun k2 t U => ∃ (j : Nat) (l2 : List Int) (m : Bool), k2 + j = g.prods.length ∧ (m = true → left l2 < left l) ∧ left l2 ≤ left l ∧ ShortI g.names.length g.prods l2 ∧ (m = false → ∀ i (h : i < g.prods.length), i < j → ClosedAt l2 g.prods[i]) ∧ Ext w U ∧ Own (.int .i64) 3 U G l2 ∧ U.heap[w.heap.size]? = some (.cells #[.int .i64 g.start, .int .i64 g.rules, .slice A g.names.length a, tv, .slice C g.prods.length c] 49 (0, 0)) ∧
      t 1 = pa (some ⟨w.heap.size, 0, none⟩) 0 ∧ t 3 = .slice (some ⟨G, 0, none⟩) g.names.length g.names.length ∧ t 5 = .bool m ∧ t 6 = .int .i64 j,
      ⟨g.prods.length, 0, l, false, by omega, by simp, Nat.le_refl _, hI, fun _ i _ h => by omega, hx, hO, hbx, ?_⟩, ?_⟩
    · simp (disch := first | omega | assumption | (simp only [O1, World.size_alloc, World.size_setCell, World.size_drew]; first | done | omega)) only [O1, D2, ↓H0, S0, ↓S1, ↓S2, ↓S3, ↓S4, S5, S5b, S5c, ↓S6, S6b, M0, E0, ty, tl, te, tc, i64_wrap, u64_wrap, iaV_sl, iaV_arr, faV_pa, nck_pa, heap_new, heap_old, heap_set, ↓reduceIte, Nat.reduceEqDiff, Nat.reduceLT, Nat.reduceAdd, Int.reduceLT, Int.reduceLE, decide_false, decide_true, dec_true, dec_false, true_and, and_true, true_imp_iff, Bool.not_true, Bool.not_false, Option.map_none, Int.reduceToNat, Int.toNat_zero, Int.toNat_one, lkV_false, lkV_true, f1, f3, f5] <;> rfl
    clear hI hcl hx hO hbx f1 f3 f5
    rintro k2 t U ⟨j, l2, m, hk2, hm1, hm2, hI, hcl, hx, hO, hbx, f1, f3, f5, f6⟩
    simp (disch := first | omega | assumption | (simp only [O1, World.size_alloc, World.size_setCell, World.size_drew]; first | done | omega)) only [O1, D2, ↓H0, S0, ↓S1, ↓S2, ↓S3, ↓S4, S5, S5b, S5c, ↓S6, S6b, M0, E0, ty, tl, te, tc, i64_wrap, u64_wrap, iaV_sl, iaV_arr, faV_pa, nck_pa, heap_new, heap_old, heap_set, ↓reduceIte, Nat.reduceEqDiff, Nat.reduceLT, Nat.reduceAdd, Int.reduceLT, Int.reduceLE, decide_false, decide_true, dec_true, dec_false, true_and, and_true, true_imp_iff, Bool.not_true, Bool.not_false, Option.map_none, Int.reduceToNat, Int.toNat_zero, Int.toNat_one, lkV_false, lkV_true, f1, f3, f5, f6, hbx]
    refine Br_if (fun h => ?_) (fun h' => ?_) <;> (try simp (disch := first | omega | assumption | (simp only [O1, World.size_alloc, World.size_setCell, World.size_drew]; first | done | omega)) only [O1, D2, ↓H0, S0, ↓S1, ↓S2, ↓S3, ↓S4, S5, S5b, S5c, ↓S6, S6b, M0, E0, ty, tl, te, tc, i64_wrap, u64_wrap, iaV_sl, iaV_arr, faV_pa, nck_pa, heap_new, heap_old, heap_set, ↓reduceIte, Nat.reduceEqDiff, Nat.reduceLT, Nat.reduceAdd, Int.reduceLT, Int.reduceLE, decide_false, decide_true, dec_true, dec_false, true_and, and_true, true_imp_iff, Bool.not_true, Bool.not_false, Option.map_none, Int.reduceToNat, Int.toNat_zero, Int.toNat_one, lkV_false, lkV_true, f1, f3, f5, f6, hbx])
    · have hj : j < g.prods.length := by omega
      obtain ⟨hl, r, hr, hR⟩ := hC j hj
      obtain ⟨D, d, rfl, hd, hD⟩ := hR
      have hl' := hx.rd hl
      have hr' := hx.rd hr
      have hAs := rd_isSome hl
      have hmem : g.prods[j] ∈ g.prods := List.getElem_mem _
      generalize hp : g.prods[j] = p at *
      obtain ⟨⟨hp0, hp1⟩, hps⟩ := hin p hmem
      have hlen := s4 p hmem
      simp (disch := first | omega | assumption | (simp only [O1, World.size_alloc, World.size_setCell, World.size_drew]; first | done | omega)) only [O1, D2, ↓H0, S0, ↓S1, ↓S2, ↓S3, ↓S4, S5, S5b, S5c, ↓S6, S6b, M0, E0, ty, tl, te, tc, i64_wrap, u64_wrap, iaV_sl, iaV_arr, faV_pa, nck_pa, heap_new, heap_old, heap_set, ↓reduceIte, Nat.reduceEqDiff, Nat.reduceLT, Nat.reduceAdd, Int.reduceLT, Int.reduceLE, decide_false, decide_true, dec_true, dec_false, true_and, and_true, true_imp_iff, Bool.not_true, Bool.not_false, Option.map_none, Int.reduceToNat, Int.toNat_zero, Int.toNat_one, lkV_false, lkV_true, f1, f3, f5, f6, hbx, hl', hr']
      refine ⟨fun k3 t V => ∃ (i : Nat) (x : Int), k3 + i = p.2.length ∧ V = U ∧ ((x = -1 ∧ ¬ Known l2 p.2) ∨ (x = (costOf (natAt l2) (p.2.take i) : Nat) ∧ Known l2 (p.2.take i))) ∧
        t 1 = pa (some ⟨w.heap.size, 0, none⟩) 0 ∧ t 3 = .slice (some ⟨G, 0, none⟩) g.names.length g.names.length ∧ t 5 = .bool m ∧ t 6 = .int .i64 j ∧ t 7 = .int .i64 x ∧ t 8 = .slice D p.2.length d ∧ t 9 = .int .i64 i,
        ⟨p.2.length, 0, 0, by omega, rfl, .inr ⟨rfl, fun s hs => by simp at hs⟩, ?_⟩, ?_⟩
      · simp (disch := first | omega | assumption | (simp only [O1, World.size_alloc, World.size_setCell, World.size_drew]; first | done | omega)) only [O1, D2, ↓H0, S0, ↓S1, ↓S2, ↓S3, ↓S4, S5, S5b, S5c, ↓S6, S6b, M0, E0, ty, tl, te, tc, i64_wrap, u64_wrap, iaV_sl, iaV_arr, faV_pa, nck_pa, heap_new, heap_old, heap_set, ↓reduceIte, Nat.reduceEqDiff, Nat.reduceLT, Nat.reduceAdd, Int.reduceLT, Int.reduceLE, decide_false, decide_true, dec_true, dec_false, true_and, and_true, true_imp_iff, Bool.not_true, Bool.not_false, Option.map_none, Int.reduceToNat, Int.toNat_zero, Int.toNat_one, lkV_false, lkV_true, f1, f3, f5, f6] <;> rfl
      clear f1 f3 f5 f6
      rintro k3 t U' ⟨i, x, hk3, rfl, hK, f1, f3, f5, f6, f7, f8, f9⟩
      have stay : ClosedAt l2 p → m = false → ∀ i (h : i < g.prods.length), i < j + 1 → ClosedAt l2 g.prods[i] := fun hc hm i hi hij => by
        by_cases e : i = j
        · subst e; rw [hp]; exact hc
        · exact hcl hm i hi (by omega)
      rcases hK with ⟨rfl, hnK⟩ | ⟨rfl, hK⟩
      · simp (disch := first | omega | assumption | (simp only [O1, World.size_alloc, World.size_setCell, World.size_drew]; first | done | omega)) only [O1, D2, ↓H0, S0, ↓S1, ↓S2, ↓S3, ↓S4, S5, S5b, S5c, ↓S6, S6b, M0, E0, ty, tl, te, tc, i64_wrap, u64_wrap, iaV_sl, iaV_arr, faV_pa, nck_pa, heap_new, heap_old, heap_set, ↓reduceIte, Nat.reduceEqDiff, Nat.reduceLT, Nat.reduceAdd, Int.reduceLT, Int.reduceLE, decide_false, decide_true, dec_true, dec_false, true_and, and_true, true_imp_iff, Bool.not_true, Bool.not_false, Option.map_none, Int.reduceToNat, Int.toNat_zero, Int.toNat_one, lkV_false, lkV_true, f1, f3, f5, f6, f7, f8, f9, hbx, hl', hr']
        refine Br_if (fun q => ?_) (fun q' => ?_) <;> (try simp (disch := first | omega | assumption | (simp only [O1, World.size_alloc, World.size_setCell, World.size_drew]; first | done | omega)) only [O1, D2, ↓H0, S0, ↓S1, ↓S2, ↓S3, ↓S4, S5, S5b, S5c, ↓S6, S6b, M0, E0, ty, tl, te, tc, i64_wrap, u64_wrap, iaV_sl, iaV_arr, faV_pa, nck_pa, heap_new, heap_old, heap_set, ↓reduceIte, Nat.reduceEqDiff, Nat.reduceLT, Nat.reduceAdd, Int.reduceLT, Int.reduceLE, decide_false, decide_true, dec_true, dec_false, true_and, and_true, true_imp_iff, Bool.not_true, Bool.not_false, Option.map_none, Int.reduceToNat, Int.toNat_zero, Int.toNat_one, lkV_false, lkV_true, f1, f3, f5, f6, f7, f8, f9, hbx, hl', hr'])
        · exact ⟨k2 - 1, by omega, j + 1, l2, m, by omega, hm1, hm2, hI, stay fun h => absurd h hnK, hx, hO, rfl, rfl⟩
        · exact ⟨k2 - 1, by omega, j + 1, l2, m, by omega, hm1, hm2, hI, stay fun h => absurd h hnK, hx, hO, rfl, rfl⟩
      · have hcle := costOf_le (natAt l2) (p.2.take i)
        have hge : (0 : Int) ≤ ((costOf (natAt l2) (p.2.take i) : Nat) : Int) := by omega
        simp (disch := first | omega | assumption | (simp only [O1, World.size_alloc, World.size_setCell, World.size_drew]; first | done | omega)) only [O1, D2, ↓H0, S0, ↓S1, ↓S2, ↓S3, ↓S4, S5, S5b, S5c, ↓S6, S6b, M0, E0, ty, tl, te, tc, i64_wrap, u64_wrap, iaV_sl, iaV_arr, faV_pa, nck_pa, heap_new, heap_old, heap_set, ↓reduceIte, Nat.reduceEqDiff, Nat.reduceLT, Nat.reduceAdd, Int.reduceLT, Int.reduceLE, decide_false, decide_true, dec_true, dec_false, true_and, and_true, true_imp_iff, Bool.not_true, Bool.not_false, Option.map_none, Int.reduceToNat, Int.toNat_zero, Int.toNat_one, lkV_false, lkV_true, f1, f3, f5, f6, f7, f8, f9, hbx, hl', hr']
        refine Br_if (fun q => ?_) (fun q' => ?_) <;> (try simp (disch := first | omega | assumption | (simp only [O1, World.size_alloc, World.size_setCell, World.size_drew]; first | done | omega)) only [O1, D2, ↓H0, S0, ↓S1, ↓S2, ↓S3, ↓S4, S5, S5b, S5c, ↓S6, S6b, M0, E0, ty, tl, te, tc, i64_wrap, u64_wrap, iaV_sl, iaV_arr, faV_pa, nck_pa, heap_new, heap_old, heap_set, ↓reduceIte, Nat.reduceEqDiff, Nat.reduceLT, Nat.reduceAdd, Int.reduceLT, Int.reduceLE, decide_false, decide_true, dec_true, dec_false, true_and, and_true, true_imp_iff, Bool.not_true, Bool.not_false, Option.map_none, Int.reduceToNat, Int.toNat_zero, Int.toNat_one, lkV_false, lkV_true, f1, f3, f5, f6, f7, f8, f9, hbx, hl', hr'])
        · skip
          · have hi : i < p.2.length := by omega
            have hs := hx.rd (hD i hi)
            have hDs := rd_isSome hs
            have htk : p.2.take (i + 1) = p.2.take i ++ [p.2[i]] := List.take_succ_eq_append_getElem hi
            have hmem2 : p.2[i] ∈ p.2 := List.getElem_mem _
            generalize hse : p.2[i] = s at *
            have hsn := hps s hmem2
            have hstep : Known l2 (p.2.take (i + 1)) ↔ (0 ≤ s → 0 ≤ l2.getD s.toNat (-1)) := by
              rw [htk]
              constructor
              · intro h; exact h s (by simp)
              · intro h x hx
                simp only [List.mem_append, List.mem_singleton] at hx
                rcases hx with hx | rfl
                · exact hK x hx
                · exact h
            have hsno : costOf (natAt l2) (p.2.take (i + 1)) = costN (natAt l2) (costOf (natAt l2) (p.2.take i)) s := by rw [htk, costOf_snoc]
            simp (disch := first | omega | assumption | (simp only [O1, World.size_alloc, World.size_setCell, World.size_drew]; first | done | omega)) only [O1, D2, ↓H0, S0, ↓S1, ↓S2, ↓S3, ↓S4, S5, S5b, S5c, ↓S6, S6b, M0, E0, ty, tl, te, tc, i64_wrap, u64_wrap, iaV_sl, iaV_arr, faV_pa, nck_pa, heap_new, heap_old, heap_set, ↓reduceIte, Nat.reduceEqDiff, Nat.reduceLT, Nat.reduceAdd, Int.reduceLT, Int.reduceLE, decide_false, decide_true, dec_true, dec_false, true_and, and_true, true_imp_iff, Bool.not_true, Bool.not_false, Option.map_none, Int.reduceToNat, Int.toNat_zero, Int.toNat_one, lkV_false, lkV_true, f1, f3, f5, f6, f7, f8, f9, hbx, hl', hr', hs]
            refine Br_if (fun h1 => ?_) (fun h1' => ?_) <;> (try simp (disch := first | omega | assumption | (simp only [O1, World.size_alloc, World.size_setCell, World.size_drew]; first | done | omega)) only [O1, D2, ↓H0, S0, ↓S1, ↓S2, ↓S3, ↓S4, S5, S5b, S5c, ↓S6, S6b, M0, E0, ty, tl, te, tc, i64_wrap, u64_wrap, iaV_sl, iaV_arr, faV_pa, nck_pa, heap_new, heap_old, heap_set, ↓reduceIte, Nat.reduceEqDiff, Nat.reduceLT, Nat.reduceAdd, Int.reduceLT, Int.reduceLE, decide_false, decide_true, dec_true, dec_false, true_and, and_true, true_imp_iff, Bool.not_true, Bool.not_false, Option.map_none, Int.reduceToNat, Int.toNat_zero, Int.toNat_one, lkV_false, lkV_true, f1, f3, f5, f6, f7, f8, f9, hbx, hl', hr', hs])
            · have hcn := costN_neg (natAt l2) (costOf (natAt l2) (p.2.take i)) s (by omega)
              rw [← hsno] at hcn
              have e1 : ((costOf (natAt l2) (p.2.take i) : Nat) : Int) + 1 = ((costOf (natAt l2) (p.2.take i) + 1 : Nat) : Int) := by omega
              refine Br_if (fun h2 => ?_) (fun h2' => ?_) <;> (try simp (disch := first | omega | assumption | (simp only [O1, World.size_alloc, World.size_setCell, World.size_drew]; first | done | omega)) only [O1, D2, ↓H0, S0, ↓S1, ↓S2, ↓S3, ↓S4, S5, S5b, S5c, ↓S6, S6b, M0, E0, ty, tl, te, tc, i64_wrap, u64_wrap, iaV_sl, iaV_arr, faV_pa, nck_pa, heap_new, heap_old, heap_set, ↓reduceIte, Nat.reduceEqDiff, Nat.reduceLT, Nat.reduceAdd, Int.reduceLT, Int.reduceLE, decide_false, decide_true, dec_true, dec_false, true_and, and_true, true_imp_iff, Bool.not_true, Bool.not_false, Option.map_none, Int.reduceToNat, Int.toNat_zero, Int.toNat_one, lkV_false, lkV_true, f1, f3, f5, f6, f7, f8, f9, hbx, hl', hr'])
              · rw [if_pos (by omega)] at hcn
                exact ⟨k3 - 1, by omega, i + 1, _, by omega, .inr ⟨rfl, hstep.2 (by omega)⟩, by rw [hcn], rfl⟩
              · rw [if_neg (by omega)] at hcn
                exact ⟨k3 - 1, by omega, i + 1, _, by omega, .inr ⟨rfl, hstep.2 (by omega)⟩, by rw [hcn], rfl⟩
            · have hsl : s.toNat < l2.length := by rw [hI.1]; omega
              have hrdS := hO.rd s.toNat hsl
              have hceS := hO.cell s.toNat hsl
              have hbd := hI.bounds l2[s.toNat] (List.getElem_mem _)
              have hgD : l2.getD s.toNat (-1) = l2[s.toNat] := by simp [List.getD_eq_getElem?_getD, List.getElem?_eq_getElem hsl]
              have hnat : natAt l2 s = l2[s.toNat].toNat := by unfold natAt; rw [hgD]
              generalize l2[s.toNat] = y at *
              simp (disch := first | omega | assumption | (simp only [O1, World.size_alloc, World.size_setCell, World.size_drew]; first | done | omega)) only [O1, D2, ↓H0, S0, ↓S1, ↓S2, ↓S3, ↓S4, S5, S5b, S5c, ↓S6, S6b, M0, E0, ty, tl, te, tc, i64_wrap, u64_wrap, iaV_sl, iaV_arr, faV_pa, nck_pa, heap_new, heap_old, heap_set, ↓reduceIte, Nat.reduceEqDiff, Nat.reduceLT, Nat.reduceAdd, Int.reduceLT, Int.reduceLE, decide_false, decide_true, dec_true, dec_false, true_and, and_true, true_imp_iff, Bool.not_true, Bool.not_false, Option.map_none, Int.reduceToNat, Int.toNat_zero, Int.toNat_one, lkV_false, lkV_true, f1, f3, f5, f6, f7, f8, f9, hbx, hl', hr', hs, hrdS, hceS]
              refine Br_if (fun h2 => ?_) (fun h2' => ?_) <;> (try simp (disch := first | omega | assumption | (simp only [O1, World.size_alloc, World.size_setCell, World.size_drew]; first | done | omega)) only [O1, D2, ↓H0, S0, ↓S1, ↓S2, ↓S3, ↓S4, S5, S5b, S5c, ↓S6, S6b, M0, E0, ty, tl, te, tc, i64_wrap, u64_wrap, iaV_sl, iaV_arr, faV_pa, nck_pa, heap_new, heap_old, heap_set, ↓reduceIte, Nat.reduceEqDiff, Nat.reduceLT, Nat.reduceAdd, Int.reduceLT, Int.reduceLE, decide_false, decide_true, dec_true, dec_false, true_and, and_true, true_imp_iff, Bool.not_true, Bool.not_false, Option.map_none, Int.reduceToNat, Int.toNat_zero, Int.toNat_one, lkV_false, lkV_true, f1, f3, f5, f6, f7, f8, f9, hbx, hl', hr', hs, hrdS, hceS])
              · exact ⟨k3 - 1, by omega, i + 1, -1, by omega, .inl ⟨rfl, fun hh => by have := hh s hmem2 (by omega); omega⟩, rfl, rfl⟩
              · have hcn := costN_pos (natAt l2) (costOf (natAt l2) (p.2.take i)) s (by omega)
                rw [← hsno, hnat] at hcn
                have e1 : ((costOf (natAt l2) (p.2.take i) : Nat) : Int) + y = ((costOf (natAt l2) (p.2.take i) + y.toNat : Nat) : Int) := by omega
                refine Br_if (fun h3 => ?_) (fun h3' => ?_) <;> (try simp (disch := first | omega | assumption | (simp only [O1, World.size_alloc, World.size_setCell, World.size_drew]; first | done | omega)) only [O1, D2, ↓H0, S0, ↓S1, ↓S2, ↓S3, ↓S4, S5, S5b, S5c, ↓S6, S6b, M0, E0, ty, tl, te, tc, i64_wrap, u64_wrap, iaV_sl, iaV_arr, faV_pa, nck_pa, heap_new, heap_old, heap_set, ↓reduceIte, Nat.reduceEqDiff, Nat.reduceLT, Nat.reduceAdd, Int.reduceLT, Int.reduceLE, decide_false, decide_true, dec_true, dec_false, true_and, and_true, true_imp_iff, Bool.not_true, Bool.not_false, Option.map_none, Int.reduceToNat, Int.toNat_zero, Int.toNat_one, lkV_false, lkV_true, f1, f3, f5, f6, f7, f8, f9, hbx, hl', hr'])
                · rw [if_pos (by omega)] at hcn
                  exact ⟨k3 - 1, by omega, i + 1, _, by omega, .inr ⟨rfl, hstep.2 (by rw [hgD]; omega)⟩, by rw [hcn], rfl⟩
                · rw [if_neg (by omega), ← e1] at hcn
                  exact ⟨k3 - 1, by omega, i + 1, _, by omega, .inr ⟨rfl, hstep.2 (by rw [hgD]; omega)⟩, by rw [hcn], rfl⟩
        · have hti : p.2.take i = p.2 := List.take_of_length_le (by omega)
          rw [hti] at f7 hK hcle hge
          have hp1' : p.1.toNat < l2.length := by rw [hI.1]; omega
          have hrdG := hO.rd p.1.toNat hp1'
          have hceG := hO.cell p.1.toNat hp1'
          have hgD : l2.getD p.1.toNat (-1) = l2[p.1.toNat] := by simp [List.getD_eq_getElem?_getD, List.getElem?_eq_getElem hp1']
          have hold : l2[p.1.toNat]? = some l2[p.1.toNat] := List.getElem?_eq_getElem hp1'
          generalize hco : costOf (natAt l2) p.2 = n at *
          have upd' : (l2[p.1.toNat] < 0 ∨ (n : Int) < l2[p.1.toNat]) → ShortI g.names.length g.prods (l2.set p.1.toNat (n : Nat)) ∧ left (l2.set p.1.toNat (n : Nat)) < left l2 := fun h => ⟨hco ▸ hI.set hmem hp0 hK hin, left_set hold hcle h⟩
          have hst := Own.sto (P := Try.prog) (t := 3) hO (by simp only [ty]) p.1.toNat hp1' (n : Int) rfl
          have hO3 := hO.set p.1.toNat (n : Int)
          have hGU := hO.lt
          have hx3 : Ext w (U'.setCell ⟨G, p.1.toNat, none⟩ (.int .i64 (n : Int))) := hx.st (by omega) _
          generalize hy : l2[p.1.toNat] = y at *
          simp (disch := first | omega | assumption | (simp only [O1, World.size_alloc, World.size_setCell, World.size_drew]; first | done | omega)) only [O1, D2, ↓H0, S0, ↓S1, ↓S2, ↓S3, ↓S4, S5, S5b, S5c, ↓S6, S6b, M0, E0, ty, tl, te, tc, i64_wrap, u64_wrap, iaV_sl, iaV_arr, faV_pa, nck_pa, heap_new, heap_old, heap_set, ↓reduceIte, Nat.reduceEqDiff, Nat.reduceLT, Nat.reduceAdd, Int.reduceLT, Int.reduceLE, decide_false, decide_true, dec_true, dec_false, true_and, and_true, true_imp_iff, Bool.not_true, Bool.not_false, Option.map_none, Int.reduceToNat, Int.toNat_zero, Int.toNat_one, lkV_false, lkV_true, f1, f3, f5, f6, f7, f8, f9, hbx, hl', hr', hrdG, hceG]
          refine Br_if (fun h1 => ?_) (fun h1' => ?_) <;> (try simp (disch := first | omega | assumption | (simp only [O1, World.size_alloc, World.size_setCell, World.size_drew]; first | done | omega)) only [O1, D2, ↓H0, S0, ↓S1, ↓S2, ↓S3, ↓S4, S5, S5b, S5c, ↓S6, S6b, M0, E0, ty, tl, te, tc, i64_wrap, u64_wrap, iaV_sl, iaV_arr, faV_pa, nck_pa, heap_new, heap_old, heap_set, ↓reduceIte, Nat.reduceEqDiff, Nat.reduceLT, Nat.reduceAdd, Int.reduceLT, Int.reduceLE, decide_false, decide_true, dec_true, dec_false, true_and, and_true, true_imp_iff, Bool.not_true, Bool.not_false, Option.map_none, Int.reduceToNat, Int.toNat_zero, Int.toNat_one, lkV_false, lkV_true, f1, f3, f5, f6, f7, f8, f9, hbx, hl', hr', hrdG, hceG, hst])
          · obtain ⟨i1, i2⟩ := upd' (.inl h1)
            exact ⟨k2 - 1, by omega, j + 1, _, true, by omega, fun _ => by omega, by omega, i1, by simp, hx3, hO3, rfl, rfl⟩
          · refine Br_if (fun h2 => ?_) (fun h2' => ?_) <;> (try simp (disch := first | omega | assumption | (simp only [O1, World.size_alloc, World.size_setCell, World.size_drew]; first | done | omega)) only [O1, D2, ↓H0, S0, ↓S1, ↓S2, ↓S3, ↓S4, S5, S5b, S5c, ↓S6, S6b, M0, E0, ty, tl, te, tc, i64_wrap, u64_wrap, iaV_sl, iaV_arr, faV_pa, nck_pa, heap_new, heap_old, heap_set, ↓reduceIte, Nat.reduceEqDiff, Nat.reduceLT, Nat.reduceAdd, Int.reduceLT, Int.reduceLE, decide_false, decide_true, dec_true, dec_false, true_and, and_true, true_imp_iff, Bool.not_true, Bool.not_false, Option.map_none, Int.reduceToNat, Int.toNat_zero, Int.toNat_one, lkV_false, lkV_true, f1, f3, f5, f6, f7, f8, f9, hbx, hl', hr', hrdG, hceG, hst])
            · obtain ⟨i1, i2⟩ := upd' (.inr h2)
              exact ⟨k2 - 1, by omega, j + 1, _, true, by omega, fun _ => by omega, by omega, i1, by simp, hx3, hO3, rfl, rfl⟩
            · refine ⟨k2 - 1, by omega, j + 1, l2, m, by omega, hm1, hm2, hI, stay fun _ => ?_, hx, hO, rfl, rfl⟩
              rw [hgD, hco]; omega
    · have hj : j = g.prods.length := by omega
      refine ⟨2 * left l2 + (if m then 1 else 0), ?_, l2, m, rfl, hI, fun hm p hp => ?_, hx, hO, rfl⟩
      · cases m with
        | true => have := hm1 rfl; simp; omega
        | false => simp; omega
      · obtain ⟨i, hi, rfl⟩ := List.mem_iff_getElem.1 hp
        exact hcl hm i hi (by omega)
/-- All symbols are known to derive the empty word. -/
def NulK (l : List Bool) (r : List Int) : Prop := ∀ s ∈ r, 0 ≤ s ∧ l[s.toNat]? = some true
set_option maxHeartbeats 4000000 in
theorem rnull_ok (v : Value) (g : PG) (w : World) (hg : RepPG w v g) (hS : SoundP g) (hs : SmallP g) :
    Ok Try.prog 38 #[v] w fun v w' => (∃ l, Bools w' v l ∧ Tells g.names.length (Gen false g.prods) l) ∧ Ext w w' := by
  obtain ⟨nv, tv, pv, rfl, hN, hT, hp⟩ := hg
  obtain ⟨A, a, rfl, ha, hA⟩ := hN
  obtain ⟨C, c, rfl, hc, hC⟩ := hp
  obtain ⟨s1, s2, s3, s4⟩ := hs
  have hin := hS.inR
  (refine Ok.enter Try.func38 rfl (by kernel_rfl) (Nat.le_of_ble_eq_true rfl) ?_; simp only [Try.f38, S7])
  simp (disch := first | omega | assumption | (simp only [O1, World.size_alloc, World.size_setCell, World.size_drew]; first | done | omega)) only [O1, D2, ↓H0, S0, ↓S1, ↓S2, ↓S3, ↓S4, S5, S5b, S5c, ↓S6, S6b, M0, E0, ty, tl, te, tc, i64_wrap, u64_wrap, iaV_sl, iaV_arr, faV_pa, nck_pa, heap_new, heap_old, heap_set, ↓reduceIte, Nat.reduceEqDiff, Nat.reduceLT, Nat.reduceAdd, Int.reduceLT, Int.reduceLE, decide_false, decide_true, dec_true, dec_false, true_and, and_true, true_imp_iff, Bool.not_true, Bool.not_false, Option.map_none, Int.reduceToNat, Int.toNat_zero, Int.toNat_one, lkV_false, lkV_true]
  have hx0 := (Ext.rfl' w).al (.cells #[.int .i64 g.start, .int .i64 g.rules, .slice A g.names.length a, tv, .slice C g.prods.length c] 49)
  have hb0 := heap_new (w := w) (.cells #[.int .i64 g.start, .int .i64 g.rules, .slice A g.names.length a, tv, .slice C g.prods.length c] 49) rfl
  refine RunM_own (enc := Value.bool) (z := false) sl53 rfl (by omega) (by omega) ?_
  intro W hWs hx1 hO
  obtain ⟨G, hG⟩ : ∃ G, G = w.heap.size + 1 := ⟨_, rfl⟩
  simp only [World.size_alloc] at hO hWs
  rw [← hG] at hO hWs
  have hb1 := hx1.hp hb0
  have hxW := hx0.tr hx1
  clear hx0 hb0 hx1
  rw [World.size_alloc, ← hG]
  simp (disch := first | omega | assumption | (simp only [O1, World.size_alloc, World.size_setCell, World.size_drew]; first | done | omega)) only [O1, D2, ↓H0, S0, ↓S1, ↓S2, ↓S3, ↓S4, S5, S5b, S5c, ↓S6, S6b, M0, E0, ty, tl, te, tc, i64_wrap, u64_wrap, iaV_sl, iaV_arr, faV_pa, nck_pa, heap_new, heap_old, heap_set, ↓reduceIte, Nat.reduceEqDiff, Nat.reduceLT, Nat.reduceAdd, Int.reduceLT, Int.reduceLE, decide_false, decide_true, dec_true, dec_false, true_and, and_true, true_imp_iff, Bool.not_true, Bool.not_false, Option.map_none, Int.reduceToNat, Int.toNat_zero, Int.toNat_one, lkV_false, lkV_true, sl]
  refine ⟨fun k t U => ∃ (l : List Bool) (m : Bool), k = 2 * falses l + (if m then 1 else 0) ∧ l.length = g.names.length ∧ (∀ i : Nat, i < g.names.length → l[i]? = some true → Gen false g.prods i) ∧ (m = false → ∀ p ∈ g.prods, NulK l p.2 → l[p.1.toNat]? = some true) ∧ Ext w U ∧ Own .bool 4 U G l ∧ U.heap[w.heap.size]? = some (.cells #[.int .i64 g.start, .int .i64 g.rules, .slice A g.names.length a, tv, .slice C g.prods.length c] 49 (0, 0)) ∧
    t 1 = pa (some ⟨w.heap.size, 0, none⟩) 0 ∧ t 3 = .slice (some ⟨G, 0, none⟩) g.names.length g.names.length ∧ t 4 = .bool m, ⟨_, List.replicate g.names.length false, true, rfl, by simp, fun i hi h => by simp [List.getElem?_replicate] at h, by simp, hxW, hO, hb1, ?_⟩, ?_⟩
  · simp (disch := first | omega | assumption | (simp only [O1, World.size_alloc, World.size_setCell, World.size_drew]; first | done | omega)) only [O1, D2, ↓H0, S0, ↓S1, ↓S2, ↓S3, ↓S4, S5, S5b, S5c, ↓S6, S6b, M0, E0, ty, tl, te, tc, i64_wrap, u64_wrap, iaV_sl, iaV_arr, faV_pa, nck_pa, heap_new, heap_old, heap_set, ↓reduceIte, Nat.reduceEqDiff, Nat.reduceLT, Nat.reduceAdd, Int.reduceLT, Int.reduceLE, decide_false, decide_true, dec_true, dec_false, true_and, and_true, true_imp_iff, Bool.not_true, Bool.not_false, Option.map_none, Int.reduceToNat, Int.toNat_zero, Int.toNat_one, lkV_false, lkV_true] <;> rfl
  clear hO hb1 hxW hWs
  rintro k t U ⟨l, m, rfl, hl, hI, hcl, hx, hO, hbx, f1, f3, f4⟩
  simp (disch := first | omega | assumption | (simp only [O1, World.size_alloc, World.size_setCell, World.size_drew]; first | done | omega)) only [O1, D2, ↓H0, S0, ↓S1, ↓S2, ↓S3, ↓S4, S5, S5b, S5c, ↓S6, S6b, M0, E0, ty, tl, te, tc, i64_wrap, u64_wrap, iaV_sl, iaV_arr, faV_pa, nck_pa, heap_new, heap_old, heap_set, ↓reduceIte, Nat.reduceEqDiff, Nat.reduceLT, Nat.reduceAdd, Int.reduceLT, Int.reduceLE, decide_false, decide_true, dec_true, dec_false, true_and, and_true, true_imp_iff, Bool.not_true, Bool.not_false, Option.map_none, Int.reduceToNat, Int.toNat_zero, Int.toNat_one, lkV_false, lkV_true, f1, f3, f4]
  cases m with
  | false =>
    simp (disch := first | omega | assumption | (simp only [O1, World.size_alloc, World.size_setCell, World.size_drew]; first | done | omega)) only [O1, D2, ↓H0, S0, ↓S1, ↓S2, ↓S3, ↓S4, S5, S5b, S5c, ↓S6, S6b, M0, E0, ty, tl, te, tc, i64_wrap, u64_wrap, iaV_sl, iaV_arr, faV_pa, nck_pa, heap_new, heap_old, heap_set, ↓reduceIte, Nat.reduceEqDiff, Nat.reduceLT, Nat.reduceAdd, Int.reduceLT, Int.reduceLE, decide_false, decide_true, dec_true, dec_false, true_and, and_true, true_imp_iff, Bool.not_true, Bool.not_false, Option.map_none, Int.reduceToNat, Int.toNat_zero, Int.toNat_one, lkV_false, lkV_true, f1, f3, f4]
    have := hO.sq
    rw [hl] at this
    exact ⟨⟨l, this, tells_gen hl hI fun p hp h => hcl rfl p hp fun s hs => by
      obtain ⟨h1, h2⟩ := h s hs
      rcases Int.lt_or_le s 0 with h3 | h3
      · have := h1 h3; cases this
      · exact ⟨h3, h2 h3⟩⟩, hx⟩
  | true =>
    simp (disch := first | omega | assumption | (simp only [O1, World.size_alloc, World.size_setCell, World.size_drew]; first | done | omega)) only [O1, D2, ↓H0, S0, ↓S1, ↓S2, ↓S3, ↓S4, S5, S5b, S5c, ↓S6, S6b, M0, E0, ty, tl, te, tc, i64_wrap, u64_wrap, iaV_sl, iaV_arr, faV_pa, nck_pa, heap_new, heap_old, heap_set, ↓reduceIte, Nat.reduceEqDiff, Nat.reduceLT, Nat.reduceAdd, Int.reduceLT, Int.reduceLE, decide_false, decide_true, dec_true, dec_false, true_and, and_true, true_imp_iff, Bool.not_true, Bool.not_false, Option.map_none, Int.reduceToNat, Int.toNat_zero, Int.toNat_one, lkV_false, lkV_true, f1, f3, f4]
    refine ⟨fun k2 t U => ∃ (j : Nat) (l2 : List Bool) (m : Bool), k2 + j = g.prods.length ∧ (m = true → falses l2 < falses l) ∧ falses l2 ≤ falses l ∧ l2.length = g.names.length ∧ (∀ i : Nat, i < g.names.length → l2[i]? = some true → Gen false g.prods i) ∧ (m = false → ∀ i (h : i < g.prods.length), i < j → NulK l2 g.prods[i].2 → l2[g.prods[i].1.toNat]? = some true) ∧ Ext w U ∧ Own .bool 4 U G l2 ∧ U.heap[w.heap.size]? = some (.cells #[.int .i64 g.start, .int .i64 g.rules, .slice A g.names.length a, tv, .slice C g.prods.length c] 49 (0, 0)) ∧
      t 1 = pa (some ⟨w.heap.size, 0, none⟩) 0 ∧ t 3 = .slice (some ⟨G, 0, none⟩) g.names.length g.names.length ∧ t 4 = .bool m ∧ t 5 = .int .i64 j,
      ⟨g.prods.length, 0, l, false, by omega, by simp, Nat.le_refl _, hl, hI, fun _ i _ h => by omega, hx, hO, hbx, ?_⟩, ?_⟩
    · simp (disch := first | omega | assumption | (simp only [O1, World.size_alloc, World.size_setCell, World.size_drew]; first | done | omega)) only [O1, D2, ↓H0, S0, ↓S1, ↓S2, ↓S3, ↓S4, S5, S5b, S5c, ↓S6, S6b, M0, E0, ty, tl, te, tc, i64_wrap, u64_wrap, iaV_sl, iaV_arr, faV_pa, nck_pa, heap_new, heap_old, heap_set, ↓reduceIte, Nat.reduceEqDiff, Nat.reduceLT, Nat.reduceAdd, Int.reduceLT, Int.reduceLE, decide_false, decide_true, dec_true, dec_false, true_and, and_true, true_imp_iff, Bool.not_true, Bool.not_false, Option.map_none, Int.reduceToNat, Int.toNat_zero, Int.toNat_one, lkV_false, lkV_true, f1, f3, f4] <;> rfl
    clear hI hcl hx hO hbx f1 f3 f4 hl
    rintro k2 t U ⟨j, l2, m, hk2, hm1, hm2, hl, hI, hcl, hx, hO, hbx, f1, f3, f4, f5⟩
    simp (disch := first | omega | assumption | (simp only [O1, World.size_alloc, World.size_setCell, World.size_drew]; first | done | omega)) only [O1, D2, ↓H0, S0, ↓S1, ↓S2, ↓S3, ↓S4, S5, S5b, S5c, ↓S6, S6b, M0, E0, ty, tl, te, tc, i64_wrap, u64_wrap, iaV_sl, iaV_arr, faV_pa, nck_pa, heap_new, heap_old, heap_set, ↓reduceIte, Nat.reduceEqDiff, Nat.reduceLT, Nat.reduceAdd, Int.reduceLT, Int.reduceLE, decide_false, decide_true, dec_true, dec_false, true_and, and_true, true_imp_iff, Bool.not_true, Bool.not_false, Option.map_none, Int.reduceToNat, Int.toNat_zero, Int.toNat_one, lkV_false, lkV_true, f1, f3, f4, f5, hbx]
    refine Br_if (fun h => ?_) (fun h' => ?_) <;> (try simp (disch := first | omega | assumption | (simp only [O1, World.size_alloc, World.size_setCell, World.size_drew]; first | done | omega)) only [O1, D2, ↓H0, S0, ↓S1, ↓S2, ↓S3, ↓S4, S5, S5b, S5c, ↓S6, S6b, M0, E0, ty, tl, te, tc, i64_wrap, u64_wrap, iaV_sl, iaV_arr, faV_pa, nck_pa, heap_new, heap_old, heap_set, ↓reduceIte, Nat.reduceEqDiff, Nat.reduceLT, Nat.reduceAdd, Int.reduceLT, Int.reduceLE, decide_false, decide_true, dec_true, dec_false, true_and, and_true, true_imp_iff, Bool.not_true, Bool.not_false, Option.map_none, Int.reduceToNat, Int.toNat_zero, Int.toNat_one, lkV_false, lkV_true, f1, f3, f4, f5, hbx])
    · have hj : j < g.prods.length := by omega
      obtain ⟨hl', r, hr, hR⟩ := hC j hj
      obtain ⟨D, d, rfl, hd, hD⟩ := hR
      have hl' := hx.rd hl'
      have hr' := hx.rd hr
      have hAs := rd_isSome hl'
      have hmem : g.prods[j] ∈ g.prods := List.getElem_mem _
      generalize hp : g.prods[j] = p at *
      obtain ⟨⟨hp0, hp1⟩, hps⟩ := hin p hmem
      have hlen := s4 p hmem
      simp (disch := first | omega | assumption | (simp only [O1, World.size_alloc, World.size_setCell, World.size_drew]; first | done | omega)) only [O1, D2, ↓H0, S0, ↓S1, ↓S2, ↓S3, ↓S4, S5, S5b, S5c, ↓S6, S6b, M0, E0, ty, tl, te, tc, i64_wrap, u64_wrap, iaV_sl, iaV_arr, faV_pa, nck_pa, heap_new, heap_old, heap_set, ↓reduceIte, Nat.reduceEqDiff, Nat.reduceLT, Nat.reduceAdd, Int.reduceLT, Int.reduceLE, decide_false, decide_true, dec_true, dec_false, true_and, and_true, true_imp_iff, Bool.not_true, Bool.not_false, Option.map_none, Int.reduceToNat, Int.toNat_zero, Int.toNat_one, lkV_false, lkV_true, f1, f3, f4, f5, hbx, hl', hr']
      have stay : (NulK l2 p.2 → l2[p.1.toNat]? = some true) → m = false → ∀ i (h : i < g.prods.length), i < j + 1 → NulK l2 g.prods[i].2 → l2[g.prods[i].1.toNat]? = some true := fun hc hm i hi hij => by
        by_cases e : i = j
        · subst e; rw [hp]; exact hc
        · exact hcl hm i hi (by omega)
      refine ⟨fun k3 t V => ∃ (i : Nat) (b : Bool), k3 + i = p.2.length ∧ V = U ∧ (b = true ↔ NulK l2 (p.2.take i)) ∧
        t 1 = pa (some ⟨w.heap.size, 0, none⟩) 0 ∧ t 3 = .slice (some ⟨G, 0, none⟩) g.names.length g.names.length ∧ t 4 = .bool m ∧ t 5 = .int .i64 j ∧ t 6 = .bool b ∧ t 7 = .slice D p.2.length d ∧ t 8 = .int .i64 i,
        ⟨p.2.length, 0, true, by omega, rfl, by simp [NulK], ?_⟩, ?_⟩
      · simp (disch := first | omega | assumption | (simp only [O1, World.size_alloc, World.size_setCell, World.size_drew]; first | done | omega)) only [O1, D2, ↓H0, S0, ↓S1, ↓S2, ↓S3, ↓S4, S5, S5b, S5c, ↓S6, S6b, M0, E0, ty, tl, te, tc, i64_wrap, u64_wrap, iaV_sl, iaV_arr, faV_pa, nck_pa, heap_new, heap_old, heap_set, ↓reduceIte, Nat.reduceEqDiff, Nat.reduceLT, Nat.reduceAdd, Int.reduceLT, Int.reduceLE, decide_false, decide_true, dec_true, dec_false, true_and, and_true, true_imp_iff, Bool.not_true, Bool.not_false, Option.map_none, Int.reduceToNat, Int.toNat_zero, Int.toNat_one, lkV_false, lkV_true, f1, f3, f4, f5] <;> rfl
      clear f1 f3 f4 f5
      rintro k3 t U' ⟨i, b, hk3, rfl, hK, f1, f3, f4, f5, f6, f7, f8⟩
      simp (disch := first | omega | assumption | (simp only [O1, World.size_alloc, World.size_setCell, World.size_drew]; first | done | omega)) only [O1, D2, ↓H0, S0, ↓S1, ↓S2, ↓S3, ↓S4, S5, S5b, S5c, ↓S6, S6b, M0, E0, ty, tl, te, tc, i64_wrap, u64_wrap, iaV_sl, iaV_arr, faV_pa, nck_pa, heap_new, heap_old, heap_set, ↓reduceIte, Nat.reduceEqDiff, Nat.reduceLT, Nat.reduceAdd, Int.reduceLT, Int.reduceLE, decide_false, decide_true, dec_true, dec_false, true_and, and_true, true_imp_iff, Bool.not_true, Bool.not_false, Option.map_none, Int.reduceToNat, Int.toNat_zero, Int.toNat_one, lkV_false, lkV_true, f1, f3, f4, f5, f6, f7, f8, hbx, hl', hr']
      refine Br_if (fun q => ?_) (fun q' => ?_) <;> (try simp (disch := first | omega | assumption | (simp only [O1, World.size_alloc, World.size_setCell, World.size_drew]; first | done | omega)) only [O1, D2, ↓H0, S0, ↓S1, ↓S2, ↓S3, ↓S4, S5, S5b, S5c, ↓S6, S6b, M0, E0, ty, tl, te, tc, i64_wrap, u64_wrap, iaV_sl, iaV_arr, faV_pa, nck_pa, heap_new, heap_old, heap_set, ↓reduceIte, Nat.reduceEqDiff, Nat.reduceLT, Nat.reduceAdd, Int.reduceLT, Int.reduceLE, decide_false, decide_true, dec_true, dec_false, true_and, and_true, true_imp_iff, Bool.not_true, Bool.not_false, Option.map_none, Int.reduceToNat, Int.toNat_zero, Int.toNat_one, lkV_false, lkV_true, f1, f3, f4, f5, f6, f7, f8, hbx, hl', hr'])
      · have hi : i < p.2.length := by omega
        have hs := hx.rd (hD i hi)
        have hDs := rd_isSome hs
        have htk : p.2.take (i + 1) = p.2.take i ++ [p.2[i]] := List.take_succ_eq_append_getElem hi
        have hmem2 : p.2[i] ∈ p.2 := List.getElem_mem _
        generalize hse : p.2[i] = s at *
        have hsn := hps s hmem2
        have hstep : NulK l2 (p.2.take (i + 1)) ↔ b = true ∧ 0 ≤ s ∧ l2[s.toNat]? = some true := by
          rw [htk, hK]
          unfold NulK
          simp [or_imp, forall_and]
          exact ⟨fun ⟨⟨a, b⟩, c, d⟩ => ⟨⟨a, c⟩, b, d⟩, fun ⟨⟨a, c⟩, b, d⟩ => ⟨⟨a, b⟩, c, d⟩⟩
        cases b with
        | false =>
          simp (disch := first | omega | assumption | (simp only [O1, World.size_alloc, World.size_setCell, World.size_drew]; first | done | omega)) only [O1, D2, ↓H0, S0, ↓S1, ↓S2, ↓S3, ↓S4, S5, S5b, S5c, ↓S6, S6b, M0, E0, ty, tl, te, tc, i64_wrap, u64_wrap, iaV_sl, iaV_arr, faV_pa, nck_pa, heap_new, heap_old, heap_set, ↓reduceIte, Nat.reduceEqDiff, Nat.reduceLT, Nat.reduceAdd, Int.reduceLT, Int.reduceLE, decide_false, decide_true, dec_true, dec_false, true_and, and_true, true_imp_iff, Bool.not_true, Bool.not_false, Option.map_none, Int.reduceToNat, Int.toNat_zero, Int.toNat_one, lkV_false, lkV_true, f1, f3, f4, f5, f6, f7, f8, hbx, hl', hr']
          exact ⟨k3 - 1, by omega, i + 1, false, by omega, by rw [hstep]; simp, rfl, rfl⟩
        | true =>
          simp (disch := first | omega | assumption | (simp only [O1, World.size_alloc, World.size_setCell, World.size_drew]; first | done | omega)) only [O1, D2, ↓H0, S0, ↓S1, ↓S2, ↓S3, ↓S4, S5, S5b, S5c, ↓S6, S6b, M0, E0, ty, tl, te, tc, i64_wrap, u64_wrap, iaV_sl, iaV_arr, faV_pa, nck_pa, heap_new, heap_old, heap_set, ↓reduceIte, Nat.reduceEqDiff, Nat.reduceLT, Nat.reduceAdd, Int.reduceLT, Int.reduceLE, decide_false, decide_true, dec_true, dec_false, true_and, and_true, true_imp_iff, Bool.not_true, Bool.not_false, Option.map_none, Int.reduceToNat, Int.toNat_zero, Int.toNat_one, lkV_false, lkV_true, f1, f3, f4, f5, f6, f7, f8, hbx, hl', hr', hs]
          refine Br_if (fun h1 => ?_) (fun h1' => ?_) <;> (try simp (disch := first | omega | assumption | (simp only [O1, World.size_alloc, World.size_setCell, World.size_drew]; first | done | omega)) only [O1, D2, ↓H0, S0, ↓S1, ↓S2, ↓S3, ↓S4, S5, S5b, S5c, ↓S6, S6b, M0, E0, ty, tl, te, tc, i64_wrap, u64_wrap, iaV_sl, iaV_arr, faV_pa, nck_pa, heap_new, heap_old, heap_set, ↓reduceIte, Nat.reduceEqDiff, Nat.reduceLT, Nat.reduceAdd, Int.reduceLT, Int.reduceLE, decide_false, decide_true, dec_true, dec_false, true_and, and_true, true_imp_iff, Bool.not_true, Bool.not_false, Option.map_none, Int.reduceToNat, Int.toNat_zero, Int.toNat_one, lkV_false, lkV_true, f1, f3, f4, f5, f6, f7, f8, hbx, hl', hr', hs])
          · have hsl : s.toNat < l2.length := by omega
            have hrdS := hO.rd s.toNat hsl
            have hceS := hO.cell s.toNat hsl
            have hq : l2[s.toNat]? = some l2[s.toNat] := List.getElem?_eq_getElem hsl
            generalize l2[s.toNat] = y at *
            simp (disch := first | omega | assumption | (simp only [O1, World.size_alloc, World.size_setCell, World.size_drew]; first | done | omega)) only [O1, D2, ↓H0, S0, ↓S1, ↓S2, ↓S3, ↓S4, S5, S5b, S5c, ↓S6, S6b, M0, E0, ty, tl, te, tc, i64_wrap, u64_wrap, iaV_sl, iaV_arr, faV_pa, nck_pa, heap_new, heap_old, heap_set, ↓reduceIte, Nat.reduceEqDiff, Nat.reduceLT, Nat.reduceAdd, Int.reduceLT, Int.reduceLE, decide_false, decide_true, dec_true, dec_false, true_and, and_true, true_imp_iff, Bool.not_true, Bool.not_false, Option.map_none, Int.reduceToNat, Int.toNat_zero, Int.toNat_one, lkV_false, lkV_true, f1, f3, f4, f5, f6, f7, f8, hbx, hl', hr', hs, hrdS, hceS]
            exact ⟨k3 - 1, by omega, i + 1, y, by omega, by rw [hstep, hq]; simp [h1], rfl, rfl⟩
          · exact ⟨k3 - 1, by omega, i + 1, false, by omega, by rw [hstep]; simp [h1'], rfl, rfl⟩
      · have hti : p.2.take i = p.2 := List.take_of_length_le (by omega)
        rw [hti] at hK
        cases b with
        | false =>
          simp (disch := first | omega | assumption | (simp only [O1, World.size_alloc, World.size_setCell, World.size_drew]; first | done | omega)) only [O1, D2, ↓H0, S0, ↓S1, ↓S2, ↓S3, ↓S4, S5, S5b, S5c, ↓S6, S6b, M0, E0, ty, tl, te, tc, i64_wrap, u64_wrap, iaV_sl, iaV_arr, faV_pa, nck_pa, heap_new, heap_old, heap_set, ↓reduceIte, Nat.reduceEqDiff, Nat.reduceLT, Nat.reduceAdd, Int.reduceLT, Int.reduceLE, decide_false, decide_true, dec_true, dec_false, true_and, and_true, true_imp_iff, Bool.not_true, Bool.not_false, Option.map_none, Int.reduceToNat, Int.toNat_zero, Int.toNat_one, lkV_false, lkV_true, f1, f3, f4, f5, f6, f7, f8, hbx, hl', hr']
          exact ⟨k2 - 1, by omega, j + 1, l2, m, by omega, hm1, hm2, hl, hI, stay (fun h => absurd (hK.2 h) (by simp)), hx, hO, rfl, rfl⟩
        | true =>
          have hN := hK.1 rfl
          have hp1' : p.1.toNat < l2.length := by omega
          have hrdG := hO.rd p.1.toNat hp1'
          have hceG := hO.cell p.1.toNat hp1'
          have hq : l2[p.1.toNat]? = some l2[p.1.toNat] := List.getElem?_eq_getElem hp1'
          generalize l2[p.1.toNat] = y at *
          cases y with
          | true =>
            simp (disch := first | omega | assumption | (simp only [O1, World.size_alloc, World.size_setCell, World.size_drew]; first | done | omega)) only [O1, D2, ↓H0, S0, ↓S1, ↓S2, ↓S3, ↓S4, S5, S5b, S5c, ↓S6, S6b, M0, E0, ty, tl, te, tc, i64_wrap, u64_wrap, iaV_sl, iaV_arr, faV_pa, nck_pa, heap_new, heap_old, heap_set, ↓reduceIte, Nat.reduceEqDiff, Nat.reduceLT, Nat.reduceAdd, Int.reduceLT, Int.reduceLE, decide_false, decide_true, dec_true, dec_false, true_and, and_true, true_imp_iff, Bool.not_true, Bool.not_false, Option.map_none, Int.reduceToNat, Int.toNat_zero, Int.toNat_one, lkV_false, lkV_true, f1, f3, f4, f5, f6, f7, f8, hbx, hl', hr', hrdG, hceG]
            exact ⟨k2 - 1, by omega, j + 1, l2, m, by omega, hm1, hm2, hl, hI, stay fun _ => hq, hx, hO, rfl, rfl⟩
          | false =>
            have hst := hO.sto (P := Try.prog) (t := 4) (by simp only [ty]) p.1.toNat hp1' true rfl
            have hO3 := hO.set p.1.toNat true
            have hGU := hO.lt
            have hx3 : Ext w (U'.setCell ⟨G, p.1.toNat, none⟩ (.bool true)) := hx.st (by omega) _
            have hfs := falses_set hq
            have hG1 : Gen false g.prods p.1 := .mk p hmem (fun s hs h => by have := (hN s hs).1; omega) fun s hs h => by
              have h2 := (hN s hs).2
              have := hI s.toNat (by rw [← hl]; exact (List.getElem?_eq_some_iff.1 h2).1) h2
              rwa [Int.toNat_of_nonneg h] at this
            simp (disch := first | omega | assumption | (simp only [O1, World.size_alloc, World.size_setCell, World.size_drew]; first | done | omega)) only [O1, D2, ↓H0, S0, ↓S1, ↓S2, ↓S3, ↓S4, S5, S5b, S5c, ↓S6, S6b, M0, E0, ty, tl, te, tc, i64_wrap, u64_wrap, iaV_sl, iaV_arr, faV_pa, nck_pa, heap_new, heap_old, heap_set, ↓reduceIte, Nat.reduceEqDiff, Nat.reduceLT, Nat.reduceAdd, Int.reduceLT, Int.reduceLE, decide_false, decide_true, dec_true, dec_false, true_and, and_true, true_imp_iff, Bool.not_true, Bool.not_false, Option.map_none, Int.reduceToNat, Int.toNat_zero, Int.toNat_one, lkV_false, lkV_true, f1, f3, f4, f5, f6, f7, f8, hbx, hl', hr', hrdG, hceG, hst]
            refine ⟨k2 - 1, by omega, j + 1, _, true, by omega, fun _ => by omega, by omega, by simpa using hl, fun i hi h => ?_, by simp, hx3, hO3, rfl, rfl⟩
            rw [List.getElem?_set] at h
            by_cases e : p.1.toNat = i
            · have : ((i : Nat) : Int) = p.1 := by omega
              rw [this]; exact hG1
            · rw [if_neg e] at h; exact hI i hi h
    · have hj : j = g.prods.length := by omega
      refine ⟨2 * falses l2 + (if m then 1 else 0), ?_, l2, m, rfl, hl, hI, fun hm p hp => ?_, hx, hO, rfl⟩
      · cases m with
        | true => have := hm1 rfl; simp; omega
        | false => simp; omega
      · obtain ⟨i, hi, rfl⟩ := List.mem_iff_getElem.1 hp
        exact hcl hm i hi (by omega)
end Go.Proofs.Ytgioklmpnbnplaa
namespace Go.Proofs.Ytgioklmpnbnplaa
open Go.V

/-- Closed under a production, for the symbols given. -/
def ClosR (l : List Bool) (a : Int) (r : List Int) : Prop := l[a.toNat]? = some true → ∀ s ∈ r, 0 ≤ s → l[s.toNat]? = some true
theorem reach_closed {ps : List (Int × List Int)} {l : List Bool} {st : Int} (h0 : l[st.toNat]? = some true) (hc : ∀ p ∈ ps, ClosR l p.1 p.2) {a : Int} (h : Reach (EdP ps) [st] a) : l[a.toNat]? = some true := by
  induction h with
  | base hb => simp at hb; subst hb; exact h0
  | step h h2 ih =>
    obtain ⟨p, hp, rfl, hm, hz⟩ := h2
    exact hc p hp ih _ hm hz
set_option maxHeartbeats 4000000 in
theorem rreach_ok (v : Value) (g : PG) (w : World) (hg : RepPG w v g) (hS : SoundP g) (hs : SmallP g) :
    Ok Try.prog 53 #[v] w fun v w' => (∃ l, Bools w' v l ∧ Tells g.names.length (Reach (EdP g.prods) [g.start]) l) ∧ Ext w w' := by
  obtain ⟨nv, tv, pv, rfl, hN, hT, hp⟩ := hg
  obtain ⟨A, a, rfl, ha, hA⟩ := hN
  obtain ⟨C, c, rfl, hc, hC⟩ := hp
  obtain ⟨s1, s2, s3, s4⟩ := hs
  have hin := hS.inR
  obtain ⟨hst0, hst1⟩ := hS.2.1.2.2.2
  (refine Ok.enter Try.func53 rfl (by kernel_rfl) (Nat.le_of_ble_eq_true rfl) ?_; simp only [Try.f53, S7])
  simp (disch := first | omega | assumption | (simp only [O1, World.size_alloc, World.size_setCell, World.size_drew]; first | done | omega)) only [O1, D2, ↓H0, S0, ↓S1, ↓S2, ↓S3, ↓S4, S5, S5b, S5c, ↓S6, S6b, M0, E0, ty, tl, te, tc, i64_wrap, u64_wrap, iaV_sl, iaV_arr, faV_pa, nck_pa, heap_new, heap_old, heap_set, ↓reduceIte, Nat.reduceEqDiff, Nat.reduceLT, Nat.reduceAdd, Int.reduceLT, Int.reduceLE, decide_false, decide_true, dec_true, dec_false, true_and, and_true, true_imp_iff, Bool.not_true, Bool.not_false, Option.map_none, Int.reduceToNat, Int.toNat_zero, Int.toNat_one, lkV_false, lkV_true]
  have hx0 := (Ext.rfl' w).al (.cells #[.int .i64 g.start, .int .i64 g.rules, .slice A g.names.length a, tv, .slice C g.prods.length c] 49)
  have hb0 := heap_new (w := w) (.cells #[.int .i64 g.start, .int .i64 g.rules, .slice A g.names.length a, tv, .slice C g.prods.length c] 49) rfl
  refine RunM_own (enc := Value.bool) (z := false) sl53 rfl (by omega) (by omega) ?_
  intro W hWs hx1 hO
  obtain ⟨G, hG⟩ : ∃ G, G = w.heap.size + 1 := ⟨_, rfl⟩
  simp only [World.size_alloc] at hO hWs
  rw [← hG] at hO hWs
  have hb1 := hx1.hp hb0
  have hxW := hx0.tr hx1
  clear hx0 hb0 hx1
  rw [World.size_alloc, ← hG]
  have hsl : g.start.toNat < (List.replicate g.names.length false).length := by simp; omega
  have hst := hO.sto (P := Try.prog) (t := 4) (by simp only [ty]) g.start.toNat hsl true rfl
  simp (disch := first | omega | assumption | (simp only [O1, World.size_alloc, World.size_setCell, World.size_drew]; first | done | omega)) only [O1, D2, ↓H0, S0, ↓S1, ↓S2, ↓S3, ↓S4, S5, S5b, S5c, ↓S6, S6b, M0, E0, ty, tl, te, tc, i64_wrap, u64_wrap, iaV_sl, iaV_arr, faV_pa, nck_pa, heap_new, heap_old, heap_set, ↓reduceIte, Nat.reduceEqDiff, Nat.reduceLT, Nat.reduceAdd, Int.reduceLT, Int.reduceLE, decide_false, decide_true, dec_true, dec_false, true_and, and_true, true_imp_iff, Bool.not_true, Bool.not_false, Option.map_none, Int.reduceToNat, Int.toNat_zero, Int.toNat_one, lkV_false, lkV_true, sl, hb1, hst]
  have hO2 := hO.set g.start.toNat true
  have hx2 : Ext w (W.setCell ⟨G, g.start.toNat, none⟩ (.bool true)) := hxW.st (by omega) _
  have hb2 : (W.setCell ⟨G, g.start.toNat, none⟩ (.bool true)).heap[w.heap.size]? = _ := (heap_set _ (by omega)).trans hb1
  refine ⟨fun k t U => ∃ (l : List Bool) (m : Bool), k = 2 * falses l + (if m then 1 else 0) ∧ l.length = g.names.length ∧ (∀ i : Nat, i < g.names.length → l[i]? = some true → Reach (EdP g.prods) [g.start] i) ∧ l[g.start.toNat]? = some true ∧ (m = false → ∀ p ∈ g.prods, ClosR l p.1 p.2) ∧ Ext w U ∧ Own .bool 4 U G l ∧ U.heap[w.heap.size]? = some (.cells #[.int .i64 g.start, .int .i64 g.rules, .slice A g.names.length a, tv, .slice C g.prods.length c] 49 (0, 0)) ∧
    t 1 = pa (some ⟨w.heap.size, 0, none⟩) 0 ∧ t 3 = .slice (some ⟨G, 0, none⟩) g.names.length g.names.length ∧ t 4 = .bool m, ⟨_, _, true, rfl, by simp, fun i hi h => ?_, ?_, by simp, hx2, hO2, hb2, ?_⟩, ?_⟩
  · rw [List.getElem?_set] at h
    by_cases e : g.start.toNat = i
    · have : ((i : Nat) : Int) = g.start := by omega
      rw [this]; exact .base (by simp)
    · rw [if_neg e] at h; simp [List.getElem?_replicate] at h
  · rw [List.getElem?_set, if_pos rfl, if_pos hsl]
  · simp (disch := first | omega | assumption | (simp only [O1, World.size_alloc, World.size_setCell, World.size_drew]; first | done | omega)) only [O1, D2, ↓H0, S0, ↓S1, ↓S2, ↓S3, ↓S4, S5, S5b, S5c, ↓S6, S6b, M0, E0, ty, tl, te, tc, i64_wrap, u64_wrap, iaV_sl, iaV_arr, faV_pa, nck_pa, heap_new, heap_old, heap_set, ↓reduceIte, Nat.reduceEqDiff, Nat.reduceLT, Nat.reduceAdd, Int.reduceLT, Int.reduceLE, decide_false, decide_true, dec_true, dec_false, true_and, and_true, true_imp_iff, Bool.not_true, Bool.not_false, Option.map_none, Int.reduceToNat, Int.toNat_zero, Int.toNat_one, lkV_false, lkV_true] <;> rfl
  clear hO hb1 hxW hWs hst hO2 hx2 hb2 hsl
  rintro k t U ⟨l, m, rfl, hl, hI, hst, hcl, hx, hO, hbx, f1, f3, f4⟩
  simp (disch := first | omega | assumption | (simp only [O1, World.size_alloc, World.size_setCell, World.size_drew]; first | done | omega)) only [O1, D2, ↓H0, S0, ↓S1, ↓S2, ↓S3, ↓S4, S5, S5b, S5c, ↓S6, S6b, M0, E0, ty, tl, te, tc, i64_wrap, u64_wrap, iaV_sl, iaV_arr, faV_pa, nck_pa, heap_new, heap_old, heap_set, ↓reduceIte, Nat.reduceEqDiff, Nat.reduceLT, Nat.reduceAdd, Int.reduceLT, Int.reduceLE, decide_false, decide_true, dec_true, dec_false, true_and, and_true, true_imp_iff, Bool.not_true, Bool.not_false, Option.map_none, Int.reduceToNat, Int.toNat_zero, Int.toNat_one, lkV_false, lkV_true, f1, f3, f4]
  cases m with
  | false =>
    simp (disch := first | omega | assumption | (simp only [O1, World.size_alloc, World.size_setCell, World.size_drew]; first | done | omega)) only [O1, D2, ↓H0, S0, ↓S1, ↓S2, ↓S3, ↓S4, S5, S5b, S5c, ↓S6, S6b, M0, E0, ty, tl, te, tc, i64_wrap, u64_wrap, iaV_sl, iaV_arr, faV_pa, nck_pa, heap_new, heap_old, heap_set, ↓reduceIte, Nat.reduceEqDiff, Nat.reduceLT, Nat.reduceAdd, Int.reduceLT, Int.reduceLE, decide_false, decide_true, dec_true, dec_false, true_and, and_true, true_imp_iff, Bool.not_true, Bool.not_false, Option.map_none, Int.reduceToNat, Int.toNat_zero, Int.toNat_one, lkV_false, lkV_true, f1, f3, f4]
    have := hO.sq
    rw [hl] at this
    exact ⟨⟨l, this, hl, fun i hi => ⟨hI i hi, fun h => by have := reach_closed hst (hcl rfl) h; simpa using this⟩⟩, hx⟩
  | true =>
    simp (disch := first | omega | assumption | (simp only [O1, World.size_alloc, World.size_setCell, World.size_drew]; first | done | omega)) only [O1, D2, ↓H0, S0, ↓S1, ↓S2, ↓S3, ↓S4, S5, S5b, S5c, ↓S6, S6b, M0, E0, ty, tl, te, tc, i64_wrap, u64_wrap, iaV_sl, iaV_arr, faV_pa, nck_pa, heap_new, heap_old, heap_set, ↓reduceIte, Nat.reduceEqDiff, Nat.reduceLT, Nat.reduceAdd, Int.reduceLT, Int.reduceLE, decide_false, decide_true, dec_true, dec_false, true_and, and_true, true_imp_iff, Bool.not_true, Bool.not_false, Option.map_none, Int.reduceToNat, Int.toNat_zero, Int.toNat_one, lkV_false, lkV_true, f1, f3, f4]
    refine ⟨fun k2 t U => ∃ (j : Nat) (l2 : List Bool) (m : Bool), k2 + j = g.prods.length ∧ (m = true → falses l2 < falses l) ∧ falses l2 ≤ falses l ∧ l2.length = g.names.length ∧ (∀ i : Nat, i < g.names.length → l2[i]? = some true → Reach (EdP g.prods) [g.start] i) ∧ l2[g.start.toNat]? = some true ∧ (m = false → ∀ i (h : i < g.prods.length), i < j → ClosR l2 g.prods[i].1 g.prods[i].2) ∧ Ext w U ∧ Own .bool 4 U G l2 ∧ U.heap[w.heap.size]? = some (.cells #[.int .i64 g.start, .int .i64 g.rules, .slice A g.names.length a, tv, .slice C g.prods.length c] 49 (0, 0)) ∧
      t 1 = pa (some ⟨w.heap.size, 0, none⟩) 0 ∧ t 3 = .slice (some ⟨G, 0, none⟩) g.names.length g.names.length ∧ t 4 = .bool m ∧ t 5 = .int .i64 j,
      ⟨g.prods.length, 0, l, false, by omega, by simp, Nat.le_refl _, hl, hI, hst, fun _ i _ h => by omega, hx, hO, hbx, ?_⟩, ?_⟩
    · simp (disch := first | omega | assumption | (simp only [O1, World.size_alloc, World.size_setCell, World.size_drew]; first | done | omega)) only [O1, D2, ↓H0, S0, ↓S1, ↓S2, ↓S3, ↓S4, S5, S5b, S5c, ↓S6, S6b, M0, E0, ty, tl, te, tc, i64_wrap, u64_wrap, iaV_sl, iaV_arr, faV_pa, nck_pa, heap_new, heap_old, heap_set, ↓reduceIte, Nat.reduceEqDiff, Nat.reduceLT, Nat.reduceAdd, Int.reduceLT, Int.reduceLE, decide_false, decide_true, dec_true, dec_false, true_and, and_true, true_imp_iff, Bool.not_true, Bool.not_false, Option.map_none, Int.reduceToNat, Int.toNat_zero, Int.toNat_one, lkV_false, lkV_true, f1, f3, f4] <;> rfl
    clear hI hcl hx hO hbx f1 f3 f4 hl hst
    rintro k2 t U ⟨j, l2, m, hk2, hm1, hm2, hl, hI, hst, hcl, hx, hO, hbx, f1, f3, f4, f5⟩
    simp (disch := first | omega | assumption | (simp only [O1, World.size_alloc, World.size_setCell, World.size_drew]; first | done | omega)) only [O1, D2, ↓H0, S0, ↓S1, ↓S2, ↓S3, ↓S4, S5, S5b, S5c, ↓S6, S6b, M0, E0, ty, tl, te, tc, i64_wrap, u64_wrap, iaV_sl, iaV_arr, faV_pa, nck_pa, heap_new, heap_old, heap_set, ↓reduceIte, Nat.reduceEqDiff, Nat.reduceLT, Nat.reduceAdd, Int.reduceLT, Int.reduceLE, decide_false, decide_true, dec_true, dec_false, true_and, and_true, true_imp_iff, Bool.not_true, Bool.not_false, Option.map_none, Int.reduceToNat, Int.toNat_zero, Int.toNat_one, lkV_false, lkV_true, f1, f3, f4, f5, hbx]
    refine Br_if (fun h => ?_) (fun h' => ?_) <;> (try simp (disch := first | omega | assumption | (simp only [O1, World.size_alloc, World.size_setCell, World.size_drew]; first | done | omega)) only [O1, D2, ↓H0, S0, ↓S1, ↓S2, ↓S3, ↓S4, S5, S5b, S5c, ↓S6, S6b, M0, E0, ty, tl, te, tc, i64_wrap, u64_wrap, iaV_sl, iaV_arr, faV_pa, nck_pa, heap_new, heap_old, heap_set, ↓reduceIte, Nat.reduceEqDiff, Nat.reduceLT, Nat.reduceAdd, Int.reduceLT, Int.reduceLE, decide_false, decide_true, dec_true, dec_false, true_and, and_true, true_imp_iff, Bool.not_true, Bool.not_false, Option.map_none, Int.reduceToNat, Int.toNat_zero, Int.toNat_one, lkV_false, lkV_true, f1, f3, f4, f5, hbx])
    · have hj : j < g.prods.length := by omega
      obtain ⟨hl', r, hr, hR⟩ := hC j hj
      obtain ⟨D, d, rfl, hd, hD⟩ := hR
      have hl0 := hl'
      have hr0 := hr
      have hl' := hx.rd hl'
      have hr' := hx.rd hr
      have hAs := rd_isSome hl'
      have hmem : g.prods[j] ∈ g.prods := List.getElem_mem _
      generalize hp : g.prods[j] = p at *
      obtain ⟨⟨hp0, hp1⟩, hps⟩ := hin p hmem
      have hlen := s4 p hmem
      simp (disch := first | omega | assumption | (simp only [O1, World.size_alloc, World.size_setCell, World.size_drew]; first | done | omega)) only [O1, D2, ↓H0, S0, ↓S1, ↓S2, ↓S3, ↓S4, S5, S5b, S5c, ↓S6, S6b, M0, E0, ty, tl, te, tc, i64_wrap, u64_wrap, iaV_sl, iaV_arr, faV_pa, nck_pa, heap_new, heap_old, heap_set, ↓reduceIte, Nat.reduceEqDiff, Nat.reduceLT, Nat.reduceAdd, Int.reduceLT, Int.reduceLE, decide_false, decide_true, dec_true, dec_false, true_and, and_true, true_imp_iff, Bool.not_true, Bool.not_false, Option.map_none, Int.reduceToNat, Int.toNat_zero, Int.toNat_one, lkV_false, lkV_true, f1, f3, f4, f5, hbx, hl', hr']
      refine ⟨fun k3 t U => ∃ (i : Nat) (l3 : List Bool) (m : Bool), k3 + i = p.2.length ∧ (m = true → falses l3 < falses l) ∧ falses l3 ≤ falses l ∧ l3.length = g.names.length ∧ (∀ i : Nat, i < g.names.length → l3[i]? = some true → Reach (EdP g.prods) [g.start] i) ∧ l3[g.start.toNat]? = some true ∧ (m = false → ∀ i (h : i < g.prods.length), i < j → ClosR l3 g.prods[i].1 g.prods[i].2) ∧ (m = false → ClosR l3 p.1 (p.2.take i)) ∧ Ext w U ∧ Own .bool 4 U G l3 ∧ U.heap[w.heap.size]? = some (.cells #[.int .i64 g.start, .int .i64 g.rules, .slice A g.names.length a, tv, .slice C g.prods.length c] 49 (0, 0)) ∧
        t 1 = pa (some ⟨w.heap.size, 0, none⟩) 0 ∧ t 3 = .slice (some ⟨G, 0, none⟩) g.names.length g.names.length ∧ t 4 = .bool m ∧ t 5 = .int .i64 j ∧ t 6 = .slice D p.2.length d ∧ t 7 = .int .i64 i,
        ⟨p.2.length, 0, l2, m, by omega, hm1, hm2, hl, hI, hst, hcl, fun _ _ s hs => by simp at hs, hx, hO, hbx, ?_⟩, ?_⟩
      · simp (disch := first | omega | assumption | (simp only [O1, World.size_alloc, World.size_setCell, World.size_drew]; first | done | omega)) only [O1, D2, ↓H0, S0, ↓S1, ↓S2, ↓S3, ↓S4, S5, S5b, S5c, ↓S6, S6b, M0, E0, ty, tl, te, tc, i64_wrap, u64_wrap, iaV_sl, iaV_arr, faV_pa, nck_pa, heap_new, heap_old, heap_set, ↓reduceIte, Nat.reduceEqDiff, Nat.reduceLT, Nat.reduceAdd, Int.reduceLT, Int.reduceLE, decide_false, decide_true, dec_true, dec_false, true_and, and_true, true_imp_iff, Bool.not_true, Bool.not_false, Option.map_none, Int.reduceToNat, Int.toNat_zero, Int.toNat_one, lkV_false, lkV_true, f1, f3, f4, f5] <;> rfl
      clear f1 f3 f4 f5 hm1 hm2 hl hI hst hcl hx hO hbx hl' hr'
      rintro k3 t U ⟨i, l3, m, hk3, hm1, hm2, hl, hI, hst, hcl, hcp, hx, hO, hbx, f1, f3, f4, f5, f6, f7⟩
      have hl' := hx.rd hl0
      have hr' := hx.rd hr0
      simp (disch := first | omega | assumption | (simp only [O1, World.size_alloc, World.size_setCell, World.size_drew]; first | done | omega)) only [O1, D2, ↓H0, S0, ↓S1, ↓S2, ↓S3, ↓S4, S5, S5b, S5c, ↓S6, S6b, M0, E0, ty, tl, te, tc, i64_wrap, u64_wrap, iaV_sl, iaV_arr, faV_pa, nck_pa, heap_new, heap_old, heap_set, ↓reduceIte, Nat.reduceEqDiff, Nat.reduceLT, Nat.reduceAdd, Int.reduceLT, Int.reduceLE, decide_false, decide_true, dec_true, dec_false, true_and, and_true, true_imp_iff, Bool.not_true, Bool.not_false, Option.map_none, Int.reduceToNat, Int.toNat_zero, Int.toNat_one, lkV_false, lkV_true, f1, f3, f4, f5, f6, f7, hbx, hl', hr']
      refine Br_if (fun q => ?_) (fun q' => ?_) <;> (try simp (disch := first | omega | assumption | (simp only [O1, World.size_alloc, World.size_setCell, World.size_drew]; first | done | omega)) only [O1, D2, ↓H0, S0, ↓S1, ↓S2, ↓S3, ↓S4, S5, S5b, S5c, ↓S6, S6b, M0, E0, ty, tl, te, tc, i64_wrap, u64_wrap, iaV_sl, iaV_arr, faV_pa, nck_pa, heap_new, heap_old, heap_set, ↓reduceIte, Nat.reduceEqDiff, Nat.reduceLT, Nat.reduceAdd, Int.reduceLT, Int.reduceLE, decide_false, decide_true, dec_true, dec_false, true_and, and_true, true_imp_iff, Bool.not_true, Bool.not_false, Option.map_none, Int.reduceToNat, Int.toNat_zero, Int.toNat_one, lkV_false, lkV_true, f1, f3, f4, f5, f6, f7, hbx, hl', hr'])
      · have hi : i < p.2.length := by omega
        have hs := hx.rd (hD i hi)
        have hDs := rd_isSome hs
        have htk : p.2.take (i + 1) = p.2.take i ++ [p.2[i]] := List.take_succ_eq_append_getElem hi
        have hmem2 : p.2[i] ∈ p.2 := List.getElem_mem _
        generalize hse : p.2[i] = s at *
        have hsn := hps s hmem2
        have hp1' : p.1.toNat < l3.length := by omega
        have hrdG := hO.rd p.1.toNat hp1'
        have hceG := hO.cell p.1.toNat hp1'
        have hq : l3[p.1.toNat]? = some l3[p.1.toNat] := List.getElem?_eq_getElem hp1'
        have stay : (l3[p.1.toNat]? = some true → 0 ≤ s → l3[s.toNat]? = some true) → m = false → ClosR l3 p.1 (p.2.take (i + 1)) := fun hh hm hl x hx h0 => by
          rw [htk] at hx
          rcases List.mem_append.1 hx with hx | hx
          · exact hcp hm hl x hx h0
          · simp at hx; subst hx; exact hh hl h0
        generalize l3[p.1.toNat] = y at *
        cases y with
        | false =>
          simp (disch := first | omega | assumption | (simp only [O1, World.size_alloc, World.size_setCell, World.size_drew]; first | done | omega)) only [O1, D2, ↓H0, S0, ↓S1, ↓S2, ↓S3, ↓S4, S5, S5b, S5c, ↓S6, S6b, M0, E0, ty, tl, te, tc, i64_wrap, u64_wrap, iaV_sl, iaV_arr, faV_pa, nck_pa, heap_new, heap_old, heap_set, ↓reduceIte, Nat.reduceEqDiff, Nat.reduceLT, Nat.reduceAdd, Int.reduceLT, Int.reduceLE, decide_false, decide_true, dec_true, dec_false, true_and, and_true, true_imp_iff, Bool.not_true, Bool.not_false, Option.map_none, Int.reduceToNat, Int.toNat_zero, Int.toNat_one, lkV_false, lkV_true, f1, f3, f4, f5, f6, f7, hbx, hl', hr', hrdG, hceG]
          exact ⟨k3 - 1, by omega, i + 1, l3, m, by omega, hm1, hm2, hl, hI, hst, hcl, stay (fun h => by rw [hq] at h; cases h), hx, hO, rfl, rfl⟩
        | true =>
          simp (disch := first | omega | assumption | (simp only [O1, World.size_alloc, World.size_setCell, World.size_drew]; first | done | omega)) only [O1, D2, ↓H0, S0, ↓S1, ↓S2, ↓S3, ↓S4, S5, S5b, S5c, ↓S6, S6b, M0, E0, ty, tl, te, tc, i64_wrap, u64_wrap, iaV_sl, iaV_arr, faV_pa, nck_pa, heap_new, heap_old, heap_set, ↓reduceIte, Nat.reduceEqDiff, Nat.reduceLT, Nat.reduceAdd, Int.reduceLT, Int.reduceLE, decide_false, decide_true, dec_true, dec_false, true_and, and_true, true_imp_iff, Bool.not_true, Bool.not_false, Option.map_none, Int.reduceToNat, Int.toNat_zero, Int.toNat_one, lkV_false, lkV_true, f1, f3, f4, f5, f6, f7, hbx, hl', hr', hrdG, hceG, hs]
          refine Br_if (fun h1 => ?_) (fun h1' => ?_) <;> (try simp (disch := first | omega | assumption | (simp only [O1, World.size_alloc, World.size_setCell, World.size_drew]; first | done | omega)) only [O1, D2, ↓H0, S0, ↓S1, ↓S2, ↓S3, ↓S4, S5, S5b, S5c, ↓S6, S6b, M0, E0, ty, tl, te, tc, i64_wrap, u64_wrap, iaV_sl, iaV_arr, faV_pa, nck_pa, heap_new, heap_old, heap_set, ↓reduceIte, Nat.reduceEqDiff, Nat.reduceLT, Nat.reduceAdd, Int.reduceLT, Int.reduceLE, decide_false, decide_true, dec_true, dec_false, true_and, and_true, true_imp_iff, Bool.not_true, Bool.not_false, Option.map_none, Int.reduceToNat, Int.toNat_zero, Int.toNat_one, lkV_false, lkV_true, f1, f3, f4, f5, f6, f7, hbx, hl', hr', hrdG, hceG, hs])
          · have hsl : s.toNat < l3.length := by omega
            have hrdS := hO.rd s.toNat hsl
            have hceS := hO.cell s.toNat hsl
            have hq2 : l3[s.toNat]? = some l3[s.toNat] := List.getElem?_eq_getElem hsl
            generalize l3[s.toNat] = z at *
            cases z with
            | true =>
              simp (disch := first | omega | assumption | (simp only [O1, World.size_alloc, World.size_setCell, World.size_drew]; first | done | omega)) only [O1, D2, ↓H0, S0, ↓S1, ↓S2, ↓S3, ↓S4, S5, S5b, S5c, ↓S6, S6b, M0, E0, ty, tl, te, tc, i64_wrap, u64_wrap, iaV_sl, iaV_arr, faV_pa, nck_pa, heap_new, heap_old, heap_set, ↓reduceIte, Nat.reduceEqDiff, Nat.reduceLT, Nat.reduceAdd, Int.reduceLT, Int.reduceLE, decide_false, decide_true, dec_true, dec_false, true_and, and_true, true_imp_iff, Bool.not_true, Bool.not_false, Option.map_none, Int.reduceToNat, Int.toNat_zero, Int.toNat_one, lkV_false, lkV_true, f1, f3, f4, f5, f6, f7, hbx, hl', hr', hrdG, hceG, hs, hrdS, hceS]
              exact ⟨k3 - 1, by omega, i + 1, l3, m, by omega, hm1, hm2, hl, hI, hst, hcl, stay (fun _ _ => hq2), hx, hO, rfl, rfl⟩
            | false =>
              have hst2 := hO.sto (P := Try.prog) (t := 4) (by simp only [ty]) s.toNat hsl true rfl
              have hO3 := hO.set s.toNat true
              have hGU := hO.lt
              have hx3 : Ext w (U.setCell ⟨G, s.toNat, none⟩ (.bool true)) := hx.st (by omega) _
              have hfs := falses_set hq2
              simp (disch := first | omega | assumption | (simp only [O1, World.size_alloc, World.size_setCell, World.size_drew]; first | done | omega)) only [O1, D2, ↓H0, S0, ↓S1, ↓S2, ↓S3, ↓S4, S5, S5b, S5c, ↓S6, S6b, M0, E0, ty, tl, te, tc, i64_wrap, u64_wrap, iaV_sl, iaV_arr, faV_pa, nck_pa, heap_new, heap_old, heap_set, ↓reduceIte, Nat.reduceEqDiff, Nat.reduceLT, Nat.reduceAdd, Int.reduceLT, Int.reduceLE, decide_false, decide_true, dec_true, dec_false, true_and, and_true, true_imp_iff, Bool.not_true, Bool.not_false, Option.map_none, Int.reduceToNat, Int.toNat_zero, Int.toNat_one, lkV_false, lkV_true, f1, f3, f4, f5, f6, f7, hbx, hl', hr', hrdG, hceG, hs, hrdS, hceS, hst2]
              refine ⟨k3 - 1, by omega, i + 1, _, true, by omega, fun _ => by omega, by omega, by simpa using hl, fun x hx hh => ?_, ?_, by simp, by simp, hx3, hO3, rfl, rfl⟩
              · rw [List.getElem?_set] at hh
                by_cases e : s.toNat = x
                · have e2 : ((x : Nat) : Int) = s := by omega
                  have hR := hI p.1.toNat (by omega) hq
                  rw [Int.toNat_of_nonneg hp0] at hR
                  rw [e2]
                  exact .step hR ⟨p, hmem, rfl, hmem2, h1⟩
                · rw [if_neg e] at hh; exact hI x hx hh
              · rw [List.getElem?_set]; split
                · first | rfl | rw [if_pos hsl]
                · exact hst
          · exact ⟨k3 - 1, by omega, i + 1, l3, m, by omega, hm1, hm2, hl, hI, hst, hcl, stay (fun _ h0 => absurd h0 h1'), hx, hO, rfl, rfl⟩
      · have hti : p.2.take i = p.2 := List.take_of_length_le (by omega)
        rw [hti] at hcp
        refine ⟨k2 - 1, by omega, j + 1, l3, m, by omega, hm1, hm2, hl, hI, hst, fun hm x hx hxj => ?_, hx, hO, rfl, rfl⟩
        by_cases e : x = j
        · subst e; rw [hp]; exact hcp hm
        · exact hcl hm x hx (by omega)
    · have hj : j = g.prods.length := by omega
      refine ⟨2 * falses l2 + (if m then 1 else 0), ?_, l2, m, rfl, hl, hI, hst, fun hm p hp => ?_, hx, hO, rfl⟩
      · cases m with
        | true => have := hm1 rfl; simp; omega
        | false => simp; omega
      · obtain ⟨i, hi, rfl⟩ := List.mem_iff_getElem.1 hp
        exact hcl hm i hi (by omega)
end Go.Proofs.Ytgioklmpnbnplaa
namespace Go.Proofs.Ytgioklmpnbnplaa
open Go.V

/-- The symbol may be empty, as the row tells. -/
def NulS (nl : List Bool) (s : Int) : Prop := 0 ≤ s ∧ nl[s.toNat]? = some true
/-- The place k of a right side goes over to b. -/
def AtK (nl : List Bool) (r : List Int) (b : Int) (k : Nat) : Prop := r[k]? = some b ∧ ∀ j x, r[j]? = some x → j ≠ k → NulS nl x
theorem stepP_iff {nl : List Bool} {n : Nat} {ps : List (Int × List Int)} (hT : Tells n (Gen false ps) nl) (hr : InR n ps) {a b : Int} (hb : 0 ≤ b) : StepP ps a b ↔ ∃ i : Nat, ∃ h : i < ps.length, ps[i].1 = a ∧ ∃ k, AtK nl ps[i].2 b k := by
  have hN : ∀ p ∈ ps, ∀ x ∈ p.2, NulS nl x ↔ 0 ≤ x ∧ Gen false ps x := by
    intro p hp x hx
    have := (hr p hp).2 x hx
    unfold NulS
    constructor
    · rintro ⟨h0, h1⟩
      have := (hT.2 x.toNat (by omega)).1 h1
      exact ⟨h0, by rwa [Int.toNat_of_nonneg h0] at this⟩
    · rintro ⟨h0, h1⟩
      exact ⟨h0, (hT.2 x.toNat (by omega)).2 (by rwa [Int.toNat_of_nonneg h0])⟩
  constructor
  · rintro ⟨p, hp, h1, k, hk, h2, _, h3⟩
    obtain ⟨i, hi, rfl⟩ := List.mem_iff_getElem.1 hp
    refine ⟨i, hi, h1, k, by rw [List.getElem?_eq_getElem hk, h2], fun j x hj hne => ?_⟩
    obtain ⟨hjl, rfl⟩ := List.getElem?_eq_some_iff.1 hj
    exact (hN _ hp _ (List.getElem_mem _)).2 (h3 j hjl hne)
  · rintro ⟨i, hi, h1, k, h2, h3⟩
    obtain ⟨hk, h4⟩ := List.getElem?_eq_some_iff.1 h2
    exact ⟨ps[i], List.getElem_mem _, h1, k, hk, h4, hb, fun j hj hne => (hN _ (List.getElem_mem _) _ (List.getElem_mem _)).1 (h3 j _ (List.getElem?_eq_getElem hj) hne)⟩
set_option maxHeartbeats 4000000 in
theorem rstep_ok (v nlv : Value) (g : PG) (nl : List Bool) (a b : Int) (w : World) (hg : RepPG w v g) (hS : SoundP g) (hs : SmallP g) (hnl : Bools w nlv nl) (hTl : Tells g.names.length (Gen false g.prods) nl) (hb : 0 ≤ b) :
    Ok Try.prog 108 #[v, nlv, .int .i64 a, .int .i64 b] w fun v w' => (∃ q : Bool, v = .bool q ∧ (q = true ↔ StepP g.prods a b)) ∧ Ext w w' := by
  obtain ⟨nv, tv, pv, rfl, hN, hT, hp⟩ := hg
  obtain ⟨C, c, rfl, hc, hC⟩ := hp
  obtain ⟨NA, nc, rfl, hnc, hNA⟩ := hnl
  obtain ⟨s1, s2, s3, s4⟩ := hs
  have hin := hS.inR
  rw [stepP_iff hTl hin hb]
  (refine Ok.enter Try.func108 rfl (by kernel_rfl) (Nat.le_of_ble_eq_true rfl) ?_; simp only [Try.f108, S7])
  simp (disch := first | omega | assumption | (simp only [O1, World.size_alloc, World.size_setCell, World.size_drew]; first | done | omega)) only [O1, D2, ↓H0, S0, ↓S1, ↓S2, ↓S3, ↓S4, S5, S5b, S5c, ↓S6, S6b, M0, E0, ty, tl, te, tc, i64_wrap, u64_wrap, iaV_sl, iaV_arr, faV_pa, nck_pa, heap_new, heap_old, heap_set, ↓reduceIte, Nat.reduceEqDiff, Nat.reduceLT, Nat.reduceAdd, Int.reduceLT, Int.reduceLE, decide_false, decide_true, dec_true, dec_false, true_and, and_true, true_imp_iff, Bool.not_true, Bool.not_false, Option.map_none, Int.reduceToNat, Int.toNat_zero, Int.toNat_one, lkV_false, lkV_true]
  have hx0 := (Ext.rfl' w).al (.cells #[.int .i64 g.start, .int .i64 g.rules, nv, tv, .slice C g.prods.length c] 49)
  have hb0 := heap_new (w := w) (.cells #[.int .i64 g.start, .int .i64 g.rules, nv, tv, .slice C g.prods.length c] 49) rfl
  generalize w.alloc (.cells #[.int .i64 g.start, .int .i64 g.rules, nv, tv, .slice C g.prods.length c] 49) = W at hx0 hb0 ⊢
  refine ⟨fun k t U => ∃ i : Nat, k + i = g.prods.length ∧ U = W ∧ (∀ x (h : x < g.prods.length), x < i → ¬ (g.prods[x].1 = a ∧ ∃ k, AtK nl g.prods[x].2 b k)) ∧ t 1 = .slice NA nl.length nc ∧ t 2 = .int .i64 a ∧ t 3 = .int .i64 b ∧ t 4 = pa (some ⟨w.heap.size, 0, none⟩) 0 ∧ t 9 = .int .i64 i, ⟨g.prods.length, 0, by omega, rfl, fun x _ h => by omega, ?_⟩, ?_⟩
  · simp (disch := first | omega | assumption | (simp only [O1, World.size_alloc, World.size_setCell, World.size_drew]; first | done | omega)) only [O1, D2, ↓H0, S0, ↓S1, ↓S2, ↓S3, ↓S4, S5, S5b, S5c, ↓S6, S6b, M0, E0, ty, tl, te, tc, i64_wrap, u64_wrap, iaV_sl, iaV_arr, faV_pa, nck_pa, heap_new, heap_old, heap_set, ↓reduceIte, Nat.reduceEqDiff, Nat.reduceLT, Nat.reduceAdd, Int.reduceLT, Int.reduceLE, decide_false, decide_true, dec_true, dec_false, true_and, and_true, true_imp_iff, Bool.not_true, Bool.not_false, Option.map_none, Int.reduceToNat, Int.toNat_zero, Int.toNat_one, lkV_false, lkV_true] <;> rfl
  rintro k t U ⟨i, hk, rfl, hno, f1, f2, f3, f4, f9⟩
  simp (disch := first | omega | assumption | (simp only [O1, World.size_alloc, World.size_setCell, World.size_drew]; first | done | omega)) only [O1, D2, ↓H0, S0, ↓S1, ↓S2, ↓S3, ↓S4, S5, S5b, S5c, ↓S6, S6b, M0, E0, ty, tl, te, tc, i64_wrap, u64_wrap, iaV_sl, iaV_arr, faV_pa, nck_pa, heap_new, heap_old, heap_set, ↓reduceIte, Nat.reduceEqDiff, Nat.reduceLT, Nat.reduceAdd, Int.reduceLT, Int.reduceLE, decide_false, decide_true, dec_true, dec_false, true_and, and_true, true_imp_iff, Bool.not_true, Bool.not_false, Option.map_none, Int.reduceToNat, Int.toNat_zero, Int.toNat_one, lkV_false, lkV_true, f1, f2, f3, f4, f9, hb0]
  refine Br_if (fun h => ?_) (fun h' => ?_) <;> (try simp (disch := first | omega | assumption | (simp only [O1, World.size_alloc, World.size_setCell, World.size_drew]; first | done | omega)) only [O1, D2, ↓H0, S0, ↓S1, ↓S2, ↓S3, ↓S4, S5, S5b, S5c, ↓S6, S6b, M0, E0, ty, tl, te, tc, i64_wrap, u64_wrap, iaV_sl, iaV_arr, faV_pa, nck_pa, heap_new, heap_old, heap_set, ↓reduceIte, Nat.reduceEqDiff, Nat.reduceLT, Nat.reduceAdd, Int.reduceLT, Int.reduceLE, decide_false, decide_true, dec_true, dec_false, true_and, and_true, true_imp_iff, Bool.not_true, Bool.not_false, Option.map_none, Int.reduceToNat, Int.toNat_zero, Int.toNat_one, lkV_false, lkV_true, f1, f2, f3, f4, f9, hb0])
  · have hi : i < g.prods.length := by omega
    obtain ⟨hl, r, hr, hR⟩ := hC i hi
    obtain ⟨D, d, rfl, hd, hD⟩ := hR
    have hl := hx0.rd hl
    have hr := hx0.rd hr
    have hAs := rd_isSome hl
    have hmem : g.prods[i] ∈ g.prods := List.getElem_mem _
    have hno1 : ¬ (g.prods[i].1 = a ∧ ∃ k, AtK nl g.prods[i].2 b k) → ∀ x (h : x < g.prods.length), x < i + 1 → ¬ (g.prods[x].1 = a ∧ ∃ k, AtK nl g.prods[x].2 b k) := fun hh x hx hxi => by
      by_cases e : x = i
      · subst e; exact hh
      · exact hno x hx (by omega)
    have hyes : (g.prods[i].1 = a ∧ ∃ k, AtK nl g.prods[i].2 b k) → ∃ i : Nat, ∃ h : i < g.prods.length, g.prods[i].1 = a ∧ ∃ k, AtK nl g.prods[i].2 b k := fun hh => ⟨i, hi, hh⟩
    generalize hp : g.prods[i] = p at *
    obtain ⟨⟨hp0, hp1⟩, hps⟩ := hin p hmem
    have hlen := s4 p hmem
    simp (disch := first | omega | assumption | (simp only [O1, World.size_alloc, World.size_setCell, World.size_drew]; first | done | omega)) only [O1, D2, ↓H0, S0, ↓S1, ↓S2, ↓S3, ↓S4, S5, S5b, S5c, ↓S6, S6b, M0, E0, ty, tl, te, tc, i64_wrap, u64_wrap, iaV_sl, iaV_arr, faV_pa, nck_pa, heap_new, heap_old, heap_set, ↓reduceIte, Nat.reduceEqDiff, Nat.reduceLT, Nat.reduceAdd, Int.reduceLT, Int.reduceLE, decide_false, decide_true, dec_true, dec_false, true_and, and_true, true_imp_iff, Bool.not_true, Bool.not_false, Option.map_none, Int.reduceToNat, Int.toNat_zero, Int.toNat_one, lkV_false, lkV_true, f1, f2, f3, f4, f9, hb0, hl, hr]
    refine ⟨fun k2 t V => ∃ m : Nat, k2 + m = p.2.length ∧ V = U ∧ (∀ x, x < m → ¬ AtK nl p.2 b x) ∧ t 1 = .slice NA nl.length nc ∧ t 2 = .int .i64 a ∧ t 3 = .int .i64 b ∧ t 4 = pa (some ⟨w.heap.size, 0, none⟩) 0 ∧ t 9 = .int .i64 i ∧ t 10 = .slice D p.2.length d ∧ t 11 = .int .i64 m, ⟨p.2.length, 0, by omega, rfl, fun x h => by omega, ?_⟩, ?_⟩
    · simp (disch := first | omega | assumption | (simp only [O1, World.size_alloc, World.size_setCell, World.size_drew]; first | done | omega)) only [O1, D2, ↓H0, S0, ↓S1, ↓S2, ↓S3, ↓S4, S5, S5b, S5c, ↓S6, S6b, M0, E0, ty, tl, te, tc, i64_wrap, u64_wrap, iaV_sl, iaV_arr, faV_pa, nck_pa, heap_new, heap_old, heap_set, ↓reduceIte, Nat.reduceEqDiff, Nat.reduceLT, Nat.reduceAdd, Int.reduceLT, Int.reduceLE, decide_false, decide_true, dec_true, dec_false, true_and, and_true, true_imp_iff, Bool.not_true, Bool.not_false, Option.map_none, Int.reduceToNat, Int.toNat_zero, Int.toNat_one, lkV_false, lkV_true, f1, f2, f3, f4, f9] <;> rfl
    clear f1 f2 f3 f4 f9
    rintro k2 t V ⟨m, hk2, rfl, hnk, f1, f2, f3, f4, f9, f10, f11⟩
    simp (disch := first | omega | assumption | (simp only [O1, World.size_alloc, World.size_setCell, World.size_drew]; first | done | omega)) only [O1, D2, ↓H0, S0, ↓S1, ↓S2, ↓S3, ↓S4, S5, S5b, S5c, ↓S6, S6b, M0, E0, ty, tl, te, tc, i64_wrap, u64_wrap, iaV_sl, iaV_arr, faV_pa, nck_pa, heap_new, heap_old, heap_set, ↓reduceIte, Nat.reduceEqDiff, Nat.reduceLT, Nat.reduceAdd, Int.reduceLT, Int.reduceLE, decide_false, decide_true, dec_true, dec_false, true_and, and_true, true_imp_iff, Bool.not_true, Bool.not_false, Option.map_none, Int.reduceToNat, Int.toNat_zero, Int.toNat_one, lkV_false, lkV_true, f1, f2, f3, f4, f9, f10, f11, hb0, hl, hr]
    refine Br_if (fun q1 => ?_) (fun q1' => ?_) <;> (try simp (disch := first | omega | assumption | (simp only [O1, World.size_alloc, World.size_setCell, World.size_drew]; first | done | omega)) only [O1, D2, ↓H0, S0, ↓S1, ↓S2, ↓S3, ↓S4, S5, S5b, S5c, ↓S6, S6b, M0, E0, ty, tl, te, tc, i64_wrap, u64_wrap, iaV_sl, iaV_arr, faV_pa, nck_pa, heap_new, heap_old, heap_set, ↓reduceIte, Nat.reduceEqDiff, Nat.reduceLT, Nat.reduceAdd, Int.reduceLT, Int.reduceLE, decide_false, decide_true, dec_true, dec_false, true_and, and_true, true_imp_iff, Bool.not_true, Bool.not_false, Option.map_none, Int.reduceToNat, Int.toNat_zero, Int.toNat_one, lkV_false, lkV_true, f1, f2, f3, f4, f9, f10, f11, hb0, hl, hr])
    · refine Br_if (fun q2 => ?_) (fun q2' => ?_) <;> (try simp (disch := first | omega | assumption | (simp only [O1, World.size_alloc, World.size_setCell, World.size_drew]; first | done | omega)) only [O1, D2, ↓H0, S0, ↓S1, ↓S2, ↓S3, ↓S4, S5, S5b, S5c, ↓S6, S6b, M0, E0, ty, tl, te, tc, i64_wrap, u64_wrap, iaV_sl, iaV_arr, faV_pa, nck_pa, heap_new, heap_old, heap_set, ↓reduceIte, Nat.reduceEqDiff, Nat.reduceLT, Nat.reduceAdd, Int.reduceLT, Int.reduceLE, decide_false, decide_true, dec_true, dec_false, true_and, and_true, true_imp_iff, Bool.not_true, Bool.not_false, Option.map_none, Int.reduceToNat, Int.toNat_zero, Int.toNat_one, lkV_false, lkV_true, f1, f2, f3, f4, f9, f10, f11, hb0, hl, hr])
      · have hm : m < p.2.length := by omega
        have hs := hx0.rd (hD m hm)
        have hDs := rd_isSome hs
        have hgm : p.2[m]? = some p.2[m] := List.getElem?_eq_getElem hm
        simp (disch := first | omega | assumption | (simp only [O1, World.size_alloc, World.size_setCell, World.size_drew]; first | done | omega)) only [O1, D2, ↓H0, S0, ↓S1, ↓S2, ↓S3, ↓S4, S5, S5b, S5c, ↓S6, S6b, M0, E0, ty, tl, te, tc, i64_wrap, u64_wrap, iaV_sl, iaV_arr, faV_pa, nck_pa, heap_new, heap_old, heap_set, ↓reduceIte, Nat.reduceEqDiff, Nat.reduceLT, Nat.reduceAdd, Int.reduceLT, Int.reduceLE, decide_false, decide_true, dec_true, dec_false, true_and, and_true, true_imp_iff, Bool.not_true, Bool.not_false, Option.map_none, Int.reduceToNat, Int.toNat_zero, Int.toNat_one, lkV_false, lkV_true, f1, f2, f3, f4, f9, f10, f11, hb0, hl, hr, hs]
        refine ⟨fun k3 t Y => ∃ (j : Nat) (ok : Bool), k3 + j = p.2.length ∧ Y = V ∧ (ok = true ↔ p.2[m]? = some b ∧ ∀ x y, p.2[x]? = some y → x < j → x ≠ m → NulS nl y) ∧ t 1 = .slice NA nl.length nc ∧ t 2 = .int .i64 a ∧ t 3 = .int .i64 b ∧ t 4 = pa (some ⟨w.heap.size, 0, none⟩) 0 ∧ t 9 = .int .i64 i ∧ t 10 = .slice D p.2.length d ∧ t 11 = .int .i64 m ∧ t 12 = .bool ok ∧ t 13 = .int .i64 j, ⟨p.2.length, 0, decide (p.2[m] = b), by omega, rfl, by rw [hgm]; simp, ?_⟩, ?_⟩
        · simp (disch := first | omega | assumption | (simp only [O1, World.size_alloc, World.size_setCell, World.size_drew]; first | done | omega)) only [O1, D2, ↓H0, S0, ↓S1, ↓S2, ↓S3, ↓S4, S5, S5b, S5c, ↓S6, S6b, M0, E0, ty, tl, te, tc, i64_wrap, u64_wrap, iaV_sl, iaV_arr, faV_pa, nck_pa, heap_new, heap_old, heap_set, ↓reduceIte, Nat.reduceEqDiff, Nat.reduceLT, Nat.reduceAdd, Int.reduceLT, Int.reduceLE, decide_false, decide_true, dec_true, dec_false, true_and, and_true, true_imp_iff, Bool.not_true, Bool.not_false, Option.map_none, Int.reduceToNat, Int.toNat_zero, Int.toNat_one, lkV_false, lkV_true, f1, f2, f3, f4, f9, f10, f11] <;> rfl
        clear f1 f2 f3 f4 f9 f10 f11
        rintro k3 t Y ⟨j, ok, hk3, rfl, hok, f1, f2, f3, f4, f9, f10, f11, f12, f13⟩
        simp (disch := first | omega | assumption | (simp only [O1, World.size_alloc, World.size_setCell, World.size_drew]; first | done | omega)) only [O1, D2, ↓H0, S0, ↓S1, ↓S2, ↓S3, ↓S4, S5, S5b, S5c, ↓S6, S6b, M0, E0, ty, tl, te, tc, i64_wrap, u64_wrap, iaV_sl, iaV_arr, faV_pa, nck_pa, heap_new, heap_old, heap_set, ↓reduceIte, Nat.reduceEqDiff, Nat.reduceLT, Nat.reduceAdd, Int.reduceLT, Int.reduceLE, decide_false, decide_true, dec_true, dec_false, true_and, and_true, true_imp_iff, Bool.not_true, Bool.not_false, Option.map_none, Int.reduceToNat, Int.toNat_zero, Int.toNat_one, lkV_false, lkV_true, f1, f2, f3, f4, f9, f10, f11, f12, f13, hb0, hl, hr]
        refine Br_if (fun q3 => ?_) (fun q3' => ?_) <;> (try simp (disch := first | omega | assumption | (simp only [O1, World.size_alloc, World.size_setCell, World.size_drew]; first | done | omega)) only [O1, D2, ↓H0, S0, ↓S1, ↓S2, ↓S3, ↓S4, S5, S5b, S5c, ↓S6, S6b, M0, E0, ty, tl, te, tc, i64_wrap, u64_wrap, iaV_sl, iaV_arr, faV_pa, nck_pa, heap_new, heap_old, heap_set, ↓reduceIte, Nat.reduceEqDiff, Nat.reduceLT, Nat.reduceAdd, Int.reduceLT, Int.reduceLE, decide_false, decide_true, dec_true, dec_false, true_and, and_true, true_imp_iff, Bool.not_true, Bool.not_false, Option.map_none, Int.reduceToNat, Int.toNat_zero, Int.toNat_one, lkV_false, lkV_true, f1, f2, f3, f4, f9, f10, f11, f12, f13, hb0, hl, hr])
        · have hj : j < p.2.length := by omega
          have hs2 := hx0.rd (hD j hj)
          have hgj : p.2[j]? = some p.2[j] := List.getElem?_eq_getElem hj
          have hstep : (p.2[m]? = some b ∧ ∀ x y, p.2[x]? = some y → x < j + 1 → x ≠ m → NulS nl y) ↔ (ok = true ∧ (j = m ∨ NulS nl p.2[j])) := by
            rw [hok]
            constructor
            · rintro ⟨h1, h2⟩
              refine ⟨⟨h1, fun x y hx hxj => h2 x y hx (by omega)⟩, ?_⟩
              by_cases e : j = m
              · exact .inl e
              · exact .inr (h2 j _ hgj (by omega) e)
            · rintro ⟨⟨h1, h2⟩, h3⟩
              refine ⟨h1, fun x y hx hxj hne => ?_⟩
              by_cases e : x = j
              · subst e
                rw [hgj] at hx
                simp only [Option.some.injEq] at hx
                subst hx
                rcases h3 with h3 | h3
                · exact absurd h3 hne
                · exact h3
              · exact h2 x y hx (by omega) hne
          have hmem2 : p.2[j] ∈ p.2 := List.getElem_mem _
          generalize hse : p.2[j] = s at *
          have hsn := hps s hmem2
          cases ok with
          | false =>
            simp (disch := first | omega | assumption | (simp only [O1, World.size_alloc, World.size_setCell, World.size_drew]; first | done | omega)) only [O1, D2, ↓H0, S0, ↓S1, ↓S2, ↓S3, ↓S4, S5, S5b, S5c, ↓S6, S6b, M0, E0, ty, tl, te, tc, i64_wrap, u64_wrap, iaV_sl, iaV_arr, faV_pa, nck_pa, heap_new, heap_old, heap_set, ↓reduceIte, Nat.reduceEqDiff, Nat.reduceLT, Nat.reduceAdd, Int.reduceLT, Int.reduceLE, decide_false, decide_true, dec_true, dec_false, true_and, and_true, true_imp_iff, Bool.not_true, Bool.not_false, Option.map_none, Int.reduceToNat, Int.toNat_zero, Int.toNat_one, lkV_false, lkV_true, f1, f2, f3, f4, f9, f10, f11, f12, f13, hb0, hl, hr]
            exact ⟨k3 - 1, by omega, j + 1, false, by omega, by rw [hstep]; simp, rfl, rfl⟩
          | true =>
            simp (disch := first | omega | assumption | (simp only [O1, World.size_alloc, World.size_setCell, World.size_drew]; first | done | omega)) only [O1, D2, ↓H0, S0, ↓S1, ↓S2, ↓S3, ↓S4, S5, S5b, S5c, ↓S6, S6b, M0, E0, ty, tl, te, tc, i64_wrap, u64_wrap, iaV_sl, iaV_arr, faV_pa, nck_pa, heap_new, heap_old, heap_set, ↓reduceIte, Nat.reduceEqDiff, Nat.reduceLT, Nat.reduceAdd, Int.reduceLT, Int.reduceLE, decide_false, decide_true, dec_true, dec_false, true_and, and_true, true_imp_iff, Bool.not_true, Bool.not_false, Option.map_none, Int.reduceToNat, Int.toNat_zero, Int.toNat_one, lkV_false, lkV_true, f1, f2, f3, f4, f9, f10, f11, f12, f13, hb0, hl, hr]
            refine Br_if (fun q4 => ?_) (fun q4' => ?_) <;> (try simp (disch := first | omega | assumption | (simp only [O1, World.size_alloc, World.size_setCell, World.size_drew]; first | done | omega)) only [O1, D2, ↓H0, S0, ↓S1, ↓S2, ↓S3, ↓S4, S5, S5b, S5c, ↓S6, S6b, M0, E0, ty, tl, te, tc, i64_wrap, u64_wrap, iaV_sl, iaV_arr, faV_pa, nck_pa, heap_new, heap_old, heap_set, ↓reduceIte, Nat.reduceEqDiff, Nat.reduceLT, Nat.reduceAdd, Int.reduceLT, Int.reduceLE, decide_false, decide_true, dec_true, dec_false, true_and, and_true, true_imp_iff, Bool.not_true, Bool.not_false, Option.map_none, Int.reduceToNat, Int.toNat_zero, Int.toNat_one, lkV_false, lkV_true, f1, f2, f3, f4, f9, f10, f11, f12, f13, hb0, hl, hr, hs2])
            · exact ⟨k3 - 1, by omega, j + 1, true, by omega, by rw [hstep]; simp; left; omega, rfl, rfl⟩
            · refine Br_if (fun q5 => ?_) (fun q5' => ?_) <;> (try simp (disch := first | omega | assumption | (simp only [O1, World.size_alloc, World.size_setCell, World.size_drew]; first | done | omega)) only [O1, D2, ↓H0, S0, ↓S1, ↓S2, ↓S3, ↓S4, S5, S5b, S5c, ↓S6, S6b, M0, E0, ty, tl, te, tc, i64_wrap, u64_wrap, iaV_sl, iaV_arr, faV_pa, nck_pa, heap_new, heap_old, heap_set, ↓reduceIte, Nat.reduceEqDiff, Nat.reduceLT, Nat.reduceAdd, Int.reduceLT, Int.reduceLE, decide_false, decide_true, dec_true, dec_false, true_and, and_true, true_imp_iff, Bool.not_true, Bool.not_false, Option.map_none, Int.reduceToNat, Int.toNat_zero, Int.toNat_one, lkV_false, lkV_true, f1, f2, f3, f4, f9, f10, f11, f12, f13, hb0, hl, hr, hs2])
              · have hsl : s.toNat < nl.length := by rw [hTl.1]; omega
                have hrn := hx0.rd (hNA s.toNat hsl)
                have hNs := rd_isSome hrn
                have hqn : nl[s.toNat]? = some nl[s.toNat] := List.getElem?_eq_getElem hsl
                generalize nl[s.toNat] = y at *
                simp (disch := first | omega | assumption | (simp only [O1, World.size_alloc, World.size_setCell, World.size_drew]; first | done | omega)) only [O1, D2, ↓H0, S0, ↓S1, ↓S2, ↓S3, ↓S4, S5, S5b, S5c, ↓S6, S6b, M0, E0, ty, tl, te, tc, i64_wrap, u64_wrap, iaV_sl, iaV_arr, faV_pa, nck_pa, heap_new, heap_old, heap_set, ↓reduceIte, Nat.reduceEqDiff, Nat.reduceLT, Nat.reduceAdd, Int.reduceLT, Int.reduceLE, decide_false, decide_true, dec_true, dec_false, true_and, and_true, true_imp_iff, Bool.not_true, Bool.not_false, Option.map_none, Int.reduceToNat, Int.toNat_zero, Int.toNat_one, lkV_false, lkV_true, f1, f2, f3, f4, f9, f10, f11, f12, f13, hb0, hl, hr, hs2, hrn]
                have hjm : ¬ j = m := by omega
                exact ⟨k3 - 1, by omega, j + 1, y, by omega, by rw [hstep]; simp [hjm, NulS, hqn, q5], rfl, rfl⟩
              · have hjm : ¬ j = m := by omega
                exact ⟨k3 - 1, by omega, j + 1, false, by omega, by rw [hstep]; simp [hjm, NulS]; intro h; omega, rfl, rfl⟩
        · have hj : j = p.2.length := by omega
          have hok2 : ok = true ↔ AtK nl p.2 b m := by
            rw [hok]
            exact ⟨fun ⟨h1, h2⟩ => ⟨h1, fun x y hx hne => h2 x y hx (by have := (List.getElem?_eq_some_iff.1 hx).1; omega) hne⟩, fun ⟨h1, h2⟩ => ⟨h1, fun x y hx _ hne => h2 x y hx hne⟩⟩
          cases ok with
          | true =>
            simp (disch := first | omega | assumption | (simp only [O1, World.size_alloc, World.size_setCell, World.size_drew]; first | done | omega)) only [O1, D2, ↓H0, S0, ↓S1, ↓S2, ↓S3, ↓S4, S5, S5b, S5c, ↓S6, S6b, M0, E0, ty, tl, te, tc, i64_wrap, u64_wrap, iaV_sl, iaV_arr, faV_pa, nck_pa, heap_new, heap_old, heap_set, ↓reduceIte, Nat.reduceEqDiff, Nat.reduceLT, Nat.reduceAdd, Int.reduceLT, Int.reduceLE, decide_false, decide_true, dec_true, dec_false, true_and, and_true, true_imp_iff, Bool.not_true, Bool.not_false, Option.map_none, Int.reduceToNat, Int.toNat_zero, Int.toNat_one, lkV_false, lkV_true, f1, f2, f3, f4, f9, f10, f11, f12, f13, hb0, hl, hr]
            exact ⟨⟨true, rfl, by simpa using hyes ⟨by omega, m, hok2.1 rfl⟩⟩, hx0⟩
          | false =>
            simp (disch := first | omega | assumption | (simp only [O1, World.size_alloc, World.size_setCell, World.size_drew]; first | done | omega)) only [O1, D2, ↓H0, S0, ↓S1, ↓S2, ↓S3, ↓S4, S5, S5b, S5c, ↓S6, S6b, M0, E0, ty, tl, te, tc, i64_wrap, u64_wrap, iaV_sl, iaV_arr, faV_pa, nck_pa, heap_new, heap_old, heap_set, ↓reduceIte, Nat.reduceEqDiff, Nat.reduceLT, Nat.reduceAdd, Int.reduceLT, Int.reduceLE, decide_false, decide_true, dec_true, dec_false, true_and, and_true, true_imp_iff, Bool.not_true, Bool.not_false, Option.map_none, Int.reduceToNat, Int.toNat_zero, Int.toNat_one, lkV_false, lkV_true, f1, f2, f3, f4, f9, f10, f11, f12, f13, hb0, hl, hr]
            refine ⟨k2 - 1, by omega, m + 1, by omega, fun x hx => ?_, rfl⟩
            by_cases e : x = m
            · subst e; exact fun hh => by have := hok2.2 hh; cases this
            · exact hnk x (by omega)
      · have hno2 := hno1 fun ⟨_, x, hx⟩ => hnk x (by have := (List.getElem?_eq_some_iff.1 hx.1).1; omega) hx
        exact ⟨k - 1, by omega, i + 1, by omega, hno2, rfl⟩
    · exact ⟨k - 1, by omega, i + 1, by omega, hno1 fun hh => q1' (by omega), rfl⟩
  · have hi : i = g.prods.length := by omega
    exact ⟨⟨false, rfl, by
      constructor
      · intro h; cases h
      · rintro ⟨x, hx, hh⟩; exact absurd hh (hno x hx (by omega))⟩, hx0⟩
end Go.Proofs.Ytgioklmpnbnplaa
namespace Go.Proofs.Ytgioklmpnbnplaa
open Go.V

theorem Tg.rng {ps : List (Int × List Int)} {n : Nat} (hr : InR n ps) {a b : Int} (h : StepP ps a b) : (0 ≤ a ∧ a < n) ∧ (0 ≤ b ∧ b < n) := by
  obtain ⟨p, hp, rfl, k, hk, rfl, h0, _⟩ := h
  exact ⟨(hr p hp).1, h0, (hr p hp).2 _ (List.getElem_mem _)⟩
theorem tg_closed {ps : List (Int × List Int)} {n : Nat} (hr : InR n ps) {kn : List Bool} {a : Int} (hb : ∀ s : Nat, s < n → StepP ps a s → kn[s]? = some true) (hc : ∀ f : Nat, f < n → kn[f]? = some true → ∀ s : Nat, s < n → StepP ps f s → kn[s]? = some true) {x : Int} (h : Tg (StepP ps) a x) : kn[x.toNat]? = some true := by
  induction h with
  | one h =>
    obtain ⟨_, h0, h1⟩ := Tg.rng hr h
    exact hb _ (by omega) (by rwa [Int.toNat_of_nonneg h0])
  | more h h2 ih =>
    obtain ⟨⟨a0, a1⟩, h0, h1⟩ := Tg.rng hr h2
    exact hc _ (by omega) ih _ (by omega) (by rwa [Int.toNat_of_nonneg h0, Int.toNat_of_nonneg a0])
set_option maxHeartbeats 4000000 in
theorem rloops_ok (v : Value) (g : PG) (w : World) (hg : RepPG w v g) (hS : SoundP g) (hs : SmallP g) :
    Ok Try.prog 55 #[v] w fun v w' => (∃ l, Bools w' v l ∧ Tells g.names.length (fun a => Tg (StepP g.prods) a a) l) ∧ Ext w w' := by
  have hg0 := hg
  have hs0 := hs
  obtain ⟨nv, tv, pv, rfl, hN, hT, hp⟩ := hg
  obtain ⟨A, a, rfl, ha, hA⟩ := hN
  obtain ⟨s1, s2, s3, s4⟩ := hs
  have hin := hS.inR
  (refine Ok.enter Try.func55 rfl (by kernel_rfl) (Nat.le_of_ble_eq_true rfl) ?_; simp only [Try.f55, S7])
  simp (disch := first | omega | assumption | (simp only [O1, World.size_alloc, World.size_setCell, World.size_drew]; first | done | omega)) only [O1, D2, ↓H0, S0, ↓S1, ↓S2, ↓S3, ↓S4, S5, S5b, S5c, ↓S6, S6b, M0, E0, ty, tl, te, tc, i64_wrap, u64_wrap, iaV_sl, iaV_arr, faV_pa, nck_pa, heap_new, heap_old, heap_set, ↓reduceIte, Nat.reduceEqDiff, Nat.reduceLT, Nat.reduceAdd, Int.reduceLT, Int.reduceLE, decide_false, decide_true, dec_true, dec_false, true_and, and_true, true_imp_iff, Bool.not_true, Bool.not_false, Option.map_none, Int.reduceToNat, Int.toNat_zero, Int.toNat_one, lkV_false, lkV_true, ldA5]
  obtain ⟨nv, hnv⟩ : ∃ nv, nv = Value.slice A g.names.length a := ⟨_, rfl⟩
  have hx0 := (Ext.rfl' w).al (.cells #[.int .i64 g.start, .int .i64 g.rules, nv, tv, pv] 49)
  have hb0 := heap_new (w := w) (.cells #[.int .i64 g.start, .int .i64 g.rules, nv, tv, pv] 49) rfl
  rw [hnv] at hx0 hb0
  refine (rnull_ok _ g _ (hg0.ext hx0) hS hs0).then ?_
  rintro _ W0 ⟨⟨nl, ⟨NA, nc, rfl, hnc, hNA⟩, hTl⟩, hx1⟩
  have hb1 := hx1.hp hb0
  have hxW := hx0.tr hx1
  have hws := lt_heap hb1
  simp (disch := first | omega | assumption | (simp only [O1, World.size_alloc, World.size_setCell, World.size_drew]; first | done | omega)) only [O1, D2, ↓H0, S0, ↓S1, ↓S2, ↓S3, ↓S4, S5, S5b, S5c, ↓S6, S6b, M0, E0, ty, tl, te, tc, i64_wrap, u64_wrap, iaV_sl, iaV_arr, faV_pa, nck_pa, heap_new, heap_old, heap_set, ↓reduceIte, Nat.reduceEqDiff, Nat.reduceLT, Nat.reduceAdd, Int.reduceLT, Int.reduceLE, decide_false, decide_true, dec_true, dec_false, true_and, and_true, true_imp_iff, Bool.not_true, Bool.not_false, Option.map_none, Int.reduceToNat, Int.toNat_zero, Int.toNat_one, lkV_false, lkV_true, hb1]
  refine RunM_own (enc := Value.bool) (z := false) sl53 rfl (by omega) (by omega) ?_
  intro W hWs hx2 hO
  have hgW : RepPG W0 (.agg #[.int .i64 g.start, .int .i64 g.rules, nv, tv, pv]) g := hnv ▸ hg0.ext hxW
  have hbW : W0.heap[w.heap.size]? = some (.cells #[.int .i64 g.start, .int .i64 g.rules, nv, tv, pv] 49 (0, 0)) := hnv ▸ hb1
  have hNW : Bools W0 (.slice NA nl.length nc) nl := ⟨NA, nc, rfl, hnc, hNA⟩
  obtain ⟨G, hG⟩ : ∃ G, G = W0.heap.size := ⟨_, rfl⟩
  rw [← hG] at hO hWs ⊢
  clear hx0 hb0 hx1 hb1 hNA
  simp (disch := first | omega | assumption | (simp only [O1, World.size_alloc, World.size_setCell, World.size_drew]; first | done | omega)) only [O1, D2, ↓H0, S0, ↓S1, ↓S2, ↓S3, ↓S4, S5, S5b, S5c, ↓S6, S6b, M0, E0, ty, tl, te, tc, i64_wrap, u64_wrap, iaV_sl, iaV_arr, faV_pa, nck_pa, heap_new, heap_old, heap_set, ↓reduceIte, Nat.reduceEqDiff, Nat.reduceLT, Nat.reduceAdd, Int.reduceLT, Int.reduceLE, decide_false, decide_true, dec_true, dec_false, true_and, and_true, true_imp_iff, Bool.not_true, Bool.not_false, Option.map_none, Int.reduceToNat, Int.toNat_zero, Int.toNat_one, lkV_false, lkV_true, sl]
  refine ⟨fun k t U => ∃ (i : Nat) (l : List Bool), k + i = g.names.length ∧ Ext W0 U ∧ Own .bool 4 U G l ∧ l.length = g.names.length ∧ (∀ s : Nat, s < i → (l[s]? = some true ↔ Tg (StepP g.prods) s s)) ∧ t 1 = pa (some ⟨w.heap.size, 0, none⟩) 0 ∧ t 3 = .slice NA nl.length nc ∧ t 4 = .int .i64 g.names.length ∧ t 5 = .slice (some ⟨G, 0, none⟩) g.names.length g.names.length ∧ t 6 = .int .i64 i,
    ⟨g.names.length, 0, _, by omega, hx2, hO, by simp, fun s h => by omega, ?_⟩, ?_⟩
  · simp (disch := first | omega | assumption | (simp only [O1, World.size_alloc, World.size_setCell, World.size_drew]; first | done | omega)) only [O1, D2, ↓H0, S0, ↓S1, ↓S2, ↓S3, ↓S4, S5, S5b, S5c, ↓S6, S6b, M0, E0, ty, tl, te, tc, i64_wrap, u64_wrap, iaV_sl, iaV_arr, faV_pa, nck_pa, heap_new, heap_old, heap_set, ↓reduceIte, Nat.reduceEqDiff, Nat.reduceLT, Nat.reduceAdd, Int.reduceLT, Int.reduceLE, decide_false, decide_true, dec_true, dec_false, true_and, and_true, true_imp_iff, Bool.not_true, Bool.not_false, Option.map_none, Int.reduceToNat, Int.toNat_zero, Int.toNat_one, lkV_false, lkV_true] <;> rfl
  clear hO hWs hx2
  rintro k t U ⟨i, l, hk, hx, hO, hl, hli, f1, f3, f4, f5, f6⟩
  simp (disch := first | omega | assumption | (simp only [O1, World.size_alloc, World.size_setCell, World.size_drew]; first | done | omega)) only [O1, D2, ↓H0, S0, ↓S1, ↓S2, ↓S3, ↓S4, S5, S5b, S5c, ↓S6, S6b, M0, E0, ty, tl, te, tc, i64_wrap, u64_wrap, iaV_sl, iaV_arr, faV_pa, nck_pa, heap_new, heap_old, heap_set, ↓reduceIte, Nat.reduceEqDiff, Nat.reduceLT, Nat.reduceAdd, Int.reduceLT, Int.reduceLE, decide_false, decide_true, dec_true, dec_false, true_and, and_true, true_imp_iff, Bool.not_true, Bool.not_false, Option.map_none, Int.reduceToNat, Int.toNat_zero, Int.toNat_one, lkV_false, lkV_true, f1, f3, f4, f5, f6]
  have hgU := hgW.ext hx
  have hNU := hNW.ext hx
  have hbx := hx.hp hbW
  have hGU := hO.lt
  refine Br_if (fun h => ?_) (fun h' => ?_) <;> (try simp (disch := first | omega | assumption | (simp only [O1, World.size_alloc, World.size_setCell, World.size_drew]; first | done | omega)) only [O1, D2, ↓H0, S0, ↓S1, ↓S2, ↓S3, ↓S4, S5, S5b, S5c, ↓S6, S6b, M0, E0, ty, tl, te, tc, i64_wrap, u64_wrap, iaV_sl, iaV_arr, faV_pa, nck_pa, heap_new, heap_old, heap_set, ↓reduceIte, Nat.reduceEqDiff, Nat.reduceLT, Nat.reduceAdd, Int.reduceLT, Int.reduceLE, decide_false, decide_true, dec_true, dec_false, true_and, and_true, true_imp_iff, Bool.not_true, Bool.not_false, Option.map_none, Int.reduceToNat, Int.toNat_zero, Int.toNat_one, lkV_false, lkV_true, f1, f3, f4, f5, f6])
  · have hi : i < g.names.length := by omega
    refine RunM_own (enc := Value.bool) (z := false) sl53 rfl (by omega) (by omega) ?_
    intro V hVs hxV hOQ
    obtain ⟨Q, hQ⟩ : ∃ Q, Q = U.heap.size := ⟨_, rfl⟩
    rw [← hQ] at hOQ hVs ⊢
    simp (disch := first | omega | assumption | (simp only [O1, World.size_alloc, World.size_setCell, World.size_drew]; first | done | omega)) only [O1, D2, ↓H0, S0, ↓S1, ↓S2, ↓S3, ↓S4, S5, S5b, S5c, ↓S6, S6b, M0, E0, ty, tl, te, tc, i64_wrap, u64_wrap, iaV_sl, iaV_arr, faV_pa, nck_pa, heap_new, heap_old, heap_set, ↓reduceIte, Nat.reduceEqDiff, Nat.reduceLT, Nat.reduceAdd, Int.reduceLT, Int.reduceLE, decide_false, decide_true, dec_true, dec_false, true_and, and_true, true_imp_iff, Bool.not_true, Bool.not_false, Option.map_none, Int.reduceToNat, Int.toNat_zero, Int.toNat_one, lkV_false, lkV_true, sl, f1, f3, f4, f5, f6]
    refine ⟨fun k2 t X => ∃ (j : Nat) (kn : List Bool), k2 + j = g.names.length ∧ Ext U X ∧ Own .bool 4 X Q kn ∧ kn.length = g.names.length ∧ (∀ s : Nat, s < g.names.length → kn[s]? = some true → StepP g.prods i s) ∧ (∀ s : Nat, s < j → StepP g.prods i s → kn[s]? = some true) ∧ t 1 = pa (some ⟨w.heap.size, 0, none⟩) 0 ∧ t 3 = .slice NA nl.length nc ∧ t 4 = .int .i64 g.names.length ∧ t 5 = .slice (some ⟨G, 0, none⟩) g.names.length g.names.length ∧ t 6 = .int .i64 i ∧ t 7 = .slice (some ⟨Q, 0, none⟩) g.names.length g.names.length ∧ t 8 = .int .i64 j,
      ⟨g.names.length, 0, _, by omega, hxV, hOQ, by simp, fun s hs h => by simp [List.getElem?_replicate] at h, fun s h => by omega, ?_⟩, ?_⟩
    · simp (disch := first | omega | assumption | (simp only [O1, World.size_alloc, World.size_setCell, World.size_drew]; first | done | omega)) only [O1, D2, ↓H0, S0, ↓S1, ↓S2, ↓S3, ↓S4, S5, S5b, S5c, ↓S6, S6b, M0, E0, ty, tl, te, tc, i64_wrap, u64_wrap, iaV_sl, iaV_arr, faV_pa, nck_pa, heap_new, heap_old, heap_set, ↓reduceIte, Nat.reduceEqDiff, Nat.reduceLT, Nat.reduceAdd, Int.reduceLT, Int.reduceLE, decide_false, decide_true, dec_true, dec_false, true_and, and_true, true_imp_iff, Bool.not_true, Bool.not_false, Option.map_none, Int.reduceToNat, Int.toNat_zero, Int.toNat_one, lkV_false, lkV_true, f1, f3, f4, f5, f6] <;> rfl
    clear hOQ hxV hVs f1 f3 f4 f5 f6
    rintro k2 t X ⟨j, kn, hk2, hxX, hOX, hkl, hk1, hk3, f1, f3, f4, f5, f6, f7, f8⟩
    simp (disch := first | omega | assumption | (simp only [O1, World.size_alloc, World.size_setCell, World.size_drew]; first | done | omega)) only [O1, D2, ↓H0, S0, ↓S1, ↓S2, ↓S3, ↓S4, S5, S5b, S5c, ↓S6, S6b, M0, E0, ty, tl, te, tc, i64_wrap, u64_wrap, iaV_sl, iaV_arr, faV_pa, nck_pa, heap_new, heap_old, heap_set, ↓reduceIte, Nat.reduceEqDiff, Nat.reduceLT, Nat.reduceAdd, Int.reduceLT, Int.reduceLE, decide_false, decide_true, dec_true, dec_false, true_and, and_true, true_imp_iff, Bool.not_true, Bool.not_false, Option.map_none, Int.reduceToNat, Int.toNat_zero, Int.toNat_one, lkV_false, lkV_true, f1, f3, f4, f5, f6, f7, f8]
    refine Br_if (fun q => ?_) (fun q' => ?_) <;> (try simp (disch := first | omega | assumption | (simp only [O1, World.size_alloc, World.size_setCell, World.size_drew]; first | done | omega)) only [O1, D2, ↓H0, S0, ↓S1, ↓S2, ↓S3, ↓S4, S5, S5b, S5c, ↓S6, S6b, M0, E0, ty, tl, te, tc, i64_wrap, u64_wrap, iaV_sl, iaV_arr, faV_pa, nck_pa, heap_new, heap_old, heap_set, ↓reduceIte, Nat.reduceEqDiff, Nat.reduceLT, Nat.reduceAdd, Int.reduceLT, Int.reduceLE, decide_false, decide_true, dec_true, dec_false, true_and, and_true, true_imp_iff, Bool.not_true, Bool.not_false, Option.map_none, Int.reduceToNat, Int.toNat_zero, Int.toNat_one, lkV_false, lkV_true, f1, f3, f4, f5, f6, f7, f8])
    · have hj : j < g.names.length := by omega
      have hbX := hxX.hp hbx
      simp (disch := first | omega | assumption | (simp only [O1, World.size_alloc, World.size_setCell, World.size_drew]; first | done | omega)) only [O1, D2, ↓H0, S0, ↓S1, ↓S2, ↓S3, ↓S4, S5, S5b, S5c, ↓S6, S6b, M0, E0, ty, tl, te, tc, i64_wrap, u64_wrap, iaV_sl, iaV_arr, faV_pa, nck_pa, heap_new, heap_old, heap_set, ↓reduceIte, Nat.reduceEqDiff, Nat.reduceLT, Nat.reduceAdd, Int.reduceLT, Int.reduceLE, decide_false, decide_true, dec_true, dec_false, true_and, and_true, true_imp_iff, Bool.not_true, Bool.not_false, Option.map_none, Int.reduceToNat, Int.toNat_zero, Int.toNat_one, lkV_false, lkV_true, f1, f3, f4, f5, f6, f7, f8, hbX, ldA5]
      refine (rstep_ok _ _ g nl i j X (hgU.ext hxX) hS hs0 (hNU.ext hxX) hTl (by omega)).then ?_
      rintro _ Y ⟨⟨o, rfl, ho⟩, hxY⟩
      have hOY := hOX.ext hxY
      have hst := hOY.sto (P := Try.prog) (t := 4) (by simp only [ty]) j (by omega) o rfl
      have hOY2 := hOY.set j o
      simp (disch := first | omega | assumption | (simp only [O1, World.size_alloc, World.size_setCell, World.size_drew]; first | done | omega)) only [O1, D2, ↓H0, S0, ↓S1, ↓S2, ↓S3, ↓S4, S5, S5b, S5c, ↓S6, S6b, M0, E0, ty, tl, te, tc, i64_wrap, u64_wrap, iaV_sl, iaV_arr, faV_pa, nck_pa, heap_new, heap_old, heap_set, ↓reduceIte, Nat.reduceEqDiff, Nat.reduceLT, Nat.reduceAdd, Int.reduceLT, Int.reduceLE, decide_false, decide_true, dec_true, dec_false, true_and, and_true, true_imp_iff, Bool.not_true, Bool.not_false, Option.map_none, Int.reduceToNat, Int.toNat_zero, Int.toNat_one, lkV_false, lkV_true, f1, f3, f4, f5, f6, f7, f8, hst]
      refine ⟨k2 - 1, by omega, j + 1, _, by omega, (hxX.tr hxY).st (by omega) _, hOY2, by simpa using hkl, fun s hs hh => ?_, fun s hs hh => ?_, rfl⟩
      · rw [List.getElem?_set] at hh
        by_cases e : j = s
        · subst e
          rw [if_pos rfl, if_pos (by omega)] at hh
          simp only [Option.some.injEq] at hh
          exact ho.1 hh
        · rw [if_neg e] at hh; exact hk1 s hs hh
      · rw [List.getElem?_set]
        by_cases e : j = s
        · subst e; rw [if_pos rfl, if_pos (by omega), ho.2 hh]
        · rw [if_neg e]; exact hk3 s (by omega) hh
    have hjn : j = g.names.length := by omega
    subst hjn
    refine ⟨fun k2 t X => ∃ (kn : List Bool) (m : Bool), k2 = 2 * falses kn + (if m then 1 else 0) ∧ Ext U X ∧ Own .bool 4 X Q kn ∧ kn.length = g.names.length ∧ (∀ s : Nat, s < g.names.length → kn[s]? = some true → Tg (StepP g.prods) i s) ∧ (∀ s : Nat, s < g.names.length → StepP g.prods i s → kn[s]? = some true) ∧
      (m = false → ∀ f : Nat, f < g.names.length → kn[f]? = some true → ∀ s : Nat, s < g.names.length → StepP g.prods f s → kn[s]? = some true) ∧ t 1 = pa (some ⟨w.heap.size, 0, none⟩) 0 ∧ t 3 = .slice NA nl.length nc ∧ t 4 = .int .i64 g.names.length ∧ t 5 = .slice (some ⟨G, 0, none⟩) g.names.length g.names.length ∧ t 6 = .int .i64 i ∧ t 7 = .slice (some ⟨Q, 0, none⟩) g.names.length g.names.length ∧ t 9 = .bool m,
      ⟨_, kn, true, rfl, hxX, hOX, hkl, fun s hs hh => .one (hk1 s hs hh), hk3, by simp, ?_⟩, ?_⟩
    · simp (disch := first | omega | assumption | (simp only [O1, World.size_alloc, World.size_setCell, World.size_drew]; first | done | omega)) only [O1, D2, ↓H0, S0, ↓S1, ↓S2, ↓S3, ↓S4, S5, S5b, S5c, ↓S6, S6b, M0, E0, ty, tl, te, tc, i64_wrap, u64_wrap, iaV_sl, iaV_arr, faV_pa, nck_pa, heap_new, heap_old, heap_set, ↓reduceIte, Nat.reduceEqDiff, Nat.reduceLT, Nat.reduceAdd, Int.reduceLT, Int.reduceLE, decide_false, decide_true, dec_true, dec_false, true_and, and_true, true_imp_iff, Bool.not_true, Bool.not_false, Option.map_none, Int.reduceToNat, Int.toNat_zero, Int.toNat_one, lkV_false, lkV_true, f1, f3, f4, f5, f6, f7] <;> rfl
    clear hOX hxX hkl hk1 hk3 f1 f3 f4 f5 f6 f7 f8
    rintro k2 t X ⟨kn, m, rfl, hxX, hOX, hkl, hk1, hk3, hcl, f1, f3, f4, f5, f6, f7, f9⟩
    simp (disch := first | omega | assumption | (simp only [O1, World.size_alloc, World.size_setCell, World.size_drew]; first | done | omega)) only [O1, D2, ↓H0, S0, ↓S1, ↓S2, ↓S3, ↓S4, S5, S5b, S5c, ↓S6, S6b, M0, E0, ty, tl, te, tc, i64_wrap, u64_wrap, iaV_sl, iaV_arr, faV_pa, nck_pa, heap_new, heap_old, heap_set, ↓reduceIte, Nat.reduceEqDiff, Nat.reduceLT, Nat.reduceAdd, Int.reduceLT, Int.reduceLE, decide_false, decide_true, dec_true, dec_false, true_and, and_true, true_imp_iff, Bool.not_true, Bool.not_false, Option.map_none, Int.reduceToNat, Int.toNat_zero, Int.toNat_one, lkV_false, lkV_true, f1, f3, f4, f5, f6, f7, f9]
    cases m with
    | false =>
      have hil : i < kn.length := by omega
      have hrdK := hOX.rd i hil
      have hceK := hOX.cell i hil
      have hqi : kn[i]? = some kn[i] := List.getElem?_eq_getElem hil
      have hOG := hO.ext hxX
      generalize hz : kn[i] = z at *
      have hst := hOG.sto (P := Try.prog) (t := 4) (by simp only [ty]) i (by omega) z rfl
      have hOG2 := hOG.set i z
      simp (disch := first | omega | assumption | (simp only [O1, World.size_alloc, World.size_setCell, World.size_drew]; first | done | omega)) only [O1, D2, ↓H0, S0, ↓S1, ↓S2, ↓S3, ↓S4, S5, S5b, S5c, ↓S6, S6b, M0, E0, ty, tl, te, tc, i64_wrap, u64_wrap, iaV_sl, iaV_arr, faV_pa, nck_pa, heap_new, heap_old, heap_set, ↓reduceIte, Nat.reduceEqDiff, Nat.reduceLT, Nat.reduceAdd, Int.reduceLT, Int.reduceLE, decide_false, decide_true, dec_true, dec_false, true_and, and_true, true_imp_iff, Bool.not_true, Bool.not_false, Option.map_none, Int.reduceToNat, Int.toNat_zero, Int.toNat_one, lkV_false, lkV_true, f1, f3, f4, f5, f6, f7, f9, hrdK, hceK, hst]
      have hxs := hxX.size
      refine ⟨k - 1, by omega, i + 1, _, by omega, (hx.tr hxX).st (by omega) _, hOG2, by simpa using hl, fun s hs => ?_, rfl⟩
      rw [List.getElem?_set]
      by_cases e : i = s
      · subst e
        rw [if_pos rfl, if_pos (by omega)]
        constructor
        · intro h1; exact hk1 i hi (by rw [hqi]; exact h1)
        · intro h1
          have h2 := tg_closed hin hk3 (hcl rfl) h1
          rw [Int.toNat_natCast, hqi] at h2
          exact h2
      · rw [if_neg e]; exact hli s (by omega)
    | true =>
      simp (disch := first | omega | assumption | (simp only [O1, World.size_alloc, World.size_setCell, World.size_drew]; first | done | omega)) only [O1, D2, ↓H0, S0, ↓S1, ↓S2, ↓S3, ↓S4, S5, S5b, S5c, ↓S6, S6b, M0, E0, ty, tl, te, tc, i64_wrap, u64_wrap, iaV_sl, iaV_arr, faV_pa, nck_pa, heap_new, heap_old, heap_set, ↓reduceIte, Nat.reduceEqDiff, Nat.reduceLT, Nat.reduceAdd, Int.reduceLT, Int.reduceLE, decide_false, decide_true, dec_true, dec_false, true_and, and_true, true_imp_iff, Bool.not_true, Bool.not_false, Option.map_none, Int.reduceToNat, Int.toNat_zero, Int.toNat_one, lkV_false, lkV_true, f1, f3, f4, f5, f6, f7, f9]
      refine ⟨fun k3 t X => ∃ (fr : Nat) (K2 : List Bool) (m : Bool), k3 + fr = g.names.length ∧ (m = true → falses K2 < falses kn) ∧ falses K2 ≤ falses kn ∧ Ext U X ∧ Own .bool 4 X Q K2 ∧ K2.length = g.names.length ∧ (∀ s : Nat, s < g.names.length → K2[s]? = some true → Tg (StepP g.prods) i s) ∧ (∀ s : Nat, s < g.names.length → StepP g.prods i s → K2[s]? = some true) ∧
        (m = false → ∀ f : Nat, f < fr → K2[f]? = some true → ∀ s : Nat, s < g.names.length → StepP g.prods f s → K2[s]? = some true) ∧ t 1 = pa (some ⟨w.heap.size, 0, none⟩) 0 ∧ t 3 = .slice NA nl.length nc ∧ t 4 = .int .i64 g.names.length ∧ t 5 = .slice (some ⟨G, 0, none⟩) g.names.length g.names.length ∧ t 6 = .int .i64 i ∧ t 7 = .slice (some ⟨Q, 0, none⟩) g.names.length g.names.length ∧ t 9 = .bool m ∧ t 10 = .int .i64 fr,
        ⟨g.names.length, 0, kn, false, by omega, by simp, Nat.le_refl _, hxX, hOX, hkl, hk1, hk3, fun _ f h => by omega, ?_⟩, ?_⟩
      · simp (disch := first | omega | assumption | (simp only [O1, World.size_alloc, World.size_setCell, World.size_drew]; first | done | omega)) only [O1, D2, ↓H0, S0, ↓S1, ↓S2, ↓S3, ↓S4, S5, S5b, S5c, ↓S6, S6b, M0, E0, ty, tl, te, tc, i64_wrap, u64_wrap, iaV_sl, iaV_arr, faV_pa, nck_pa, heap_new, heap_old, heap_set, ↓reduceIte, Nat.reduceEqDiff, Nat.reduceLT, Nat.reduceAdd, Int.reduceLT, Int.reduceLE, decide_false, decide_true, dec_true, dec_false, true_and, and_true, true_imp_iff, Bool.not_true, Bool.not_false, Option.map_none, Int.reduceToNat, Int.toNat_zero, Int.toNat_one, lkV_false, lkV_true, f1, f3, f4, f5, f6, f7] <;> rfl
      clear hxX hOX hkl hk1 hk3 hcl f1 f3 f4 f5 f6 f7 f9
      rintro k3 t X ⟨fr, K2, m, hkk, hm1, hm2, hxX, hOX, hkl, hk1, hk3, hcl, f1, f3, f4, f5, f6, f7, f9, f10⟩
      simp (disch := first | omega | assumption | (simp only [O1, World.size_alloc, World.size_setCell, World.size_drew]; first | done | omega)) only [O1, D2, ↓H0, S0, ↓S1, ↓S2, ↓S3, ↓S4, S5, S5b, S5c, ↓S6, S6b, M0, E0, ty, tl, te, tc, i64_wrap, u64_wrap, iaV_sl, iaV_arr, faV_pa, nck_pa, heap_new, heap_old, heap_set, ↓reduceIte, Nat.reduceEqDiff, Nat.reduceLT, Nat.reduceAdd, Int.reduceLT, Int.reduceLE, decide_false, decide_true, dec_true, dec_false, true_and, and_true, true_imp_iff, Bool.not_true, Bool.not_false, Option.map_none, Int.reduceToNat, Int.toNat_zero, Int.toNat_one, lkV_false, lkV_true, f1, f3, f4, f5, f6, f7, f9, f10]
      refine Br_if (fun q => ?_) (fun q' => ?_) <;> (try simp (disch := first | omega | assumption | (simp only [O1, World.size_alloc, World.size_setCell, World.size_drew]; first | done | omega)) only [O1, D2, ↓H0, S0, ↓S1, ↓S2, ↓S3, ↓S4, S5, S5b, S5c, ↓S6, S6b, M0, E0, ty, tl, te, tc, i64_wrap, u64_wrap, iaV_sl, iaV_arr, faV_pa, nck_pa, heap_new, heap_old, heap_set, ↓reduceIte, Nat.reduceEqDiff, Nat.reduceLT, Nat.reduceAdd, Int.reduceLT, Int.reduceLE, decide_false, decide_true, dec_true, dec_false, true_and, and_true, true_imp_iff, Bool.not_true, Bool.not_false, Option.map_none, Int.reduceToNat, Int.toNat_zero, Int.toNat_one, lkV_false, lkV_true, f1, f3, f4, f5, f6, f7, f9, f10])
      · have hfr : fr < g.names.length := by omega
        refine ⟨fun k4 t X => ∃ (to : Nat) (K2 : List Bool) (m : Bool), k4 + to = g.names.length ∧ (m = true → falses K2 < falses kn) ∧ falses K2 ≤ falses kn ∧ Ext U X ∧ Own .bool 4 X Q K2 ∧ K2.length = g.names.length ∧ (∀ s : Nat, s < g.names.length → K2[s]? = some true → Tg (StepP g.prods) i s) ∧ (∀ s : Nat, s < g.names.length → StepP g.prods i s → K2[s]? = some true) ∧
          (m = false → ∀ f : Nat, f < fr → K2[f]? = some true → ∀ s : Nat, s < g.names.length → StepP g.prods f s → K2[s]? = some true) ∧ (m = false → K2[fr]? = some true → ∀ s : Nat, s < to → StepP g.prods fr s → K2[s]? = some true) ∧ t 1 = pa (some ⟨w.heap.size, 0, none⟩) 0 ∧ t 3 = .slice NA nl.length nc ∧ t 4 = .int .i64 g.names.length ∧ t 5 = .slice (some ⟨G, 0, none⟩) g.names.length g.names.length ∧ t 6 = .int .i64 i ∧ t 7 = .slice (some ⟨Q, 0, none⟩) g.names.length g.names.length ∧ t 9 = .bool m ∧ t 10 = .int .i64 fr ∧ t 11 = .int .i64 to,
          ⟨g.names.length, 0, K2, m, by omega, hm1, hm2, hxX, hOX, hkl, hk1, hk3, hcl, fun _ _ s h => by omega, ?_⟩, ?_⟩
        · simp (disch := first | omega | assumption | (simp only [O1, World.size_alloc, World.size_setCell, World.size_drew]; first | done | omega)) only [O1, D2, ↓H0, S0, ↓S1, ↓S2, ↓S3, ↓S4, S5, S5b, S5c, ↓S6, S6b, M0, E0, ty, tl, te, tc, i64_wrap, u64_wrap, iaV_sl, iaV_arr, faV_pa, nck_pa, heap_new, heap_old, heap_set, ↓reduceIte, Nat.reduceEqDiff, Nat.reduceLT, Nat.reduceAdd, Int.reduceLT, Int.reduceLE, decide_false, decide_true, dec_true, dec_false, true_and, and_true, true_imp_iff, Bool.not_true, Bool.not_false, Option.map_none, Int.reduceToNat, Int.toNat_zero, Int.toNat_one, lkV_false, lkV_true, f1, f3, f4, f5, f6, f7, f9, f10] <;> rfl
        clear hm1 hm2 hxX hOX hkl hk1 hk3 hcl f1 f3 f4 f5 f6 f7 f9 f10
        rintro k4 t X ⟨to, K2, m, hkk4, hm1, hm2, hxX, hOX, hkl, hk1, hk3, hcl, hcf, f1, f3, f4, f5, f6, f7, f9, f10, f11⟩
        have hfl : fr < K2.length := by omega
        have hrdF := hOX.rd fr hfl
        have hceF := hOX.cell fr hfl
        have hqf : K2[fr]? = some K2[fr] := List.getElem?_eq_getElem hfl
        generalize hz : K2[fr] = z at *
        simp (disch := first | omega | assumption | (simp only [O1, World.size_alloc, World.size_setCell, World.size_drew]; first | done | omega)) only [O1, D2, ↓H0, S0, ↓S1, ↓S2, ↓S3, ↓S4, S5, S5b, S5c, ↓S6, S6b, M0, E0, ty, tl, te, tc, i64_wrap, u64_wrap, iaV_sl, iaV_arr, faV_pa, nck_pa, heap_new, heap_old, heap_set, ↓reduceIte, Nat.reduceEqDiff, Nat.reduceLT, Nat.reduceAdd, Int.reduceLT, Int.reduceLE, decide_false, decide_true, dec_true, dec_false, true_and, and_true, true_imp_iff, Bool.not_true, Bool.not_false, Option.map_none, Int.reduceToNat, Int.toNat_zero, Int.toNat_one, lkV_false, lkV_true, f1, f3, f4, f5, f6, f7, f9, f10, f11, hrdF, hceF]
        have close : ¬ (z = true ∧ to < g.names.length) → m = false → ∀ f : Nat, f < fr + 1 → K2[f]? = some true → ∀ s : Nat, s < g.names.length → StepP g.prods f s → K2[s]? = some true := fun hh hm f hf hK s hs hS2 => by
          by_cases e : f = fr
          · subst e
            have hz1 : z = true := by rw [hqf] at hK; simpa using hK
            exact hcf hm hK s (by
              have : ¬ to < g.names.length := fun h => hh ⟨hz1, h⟩
              omega) hS2
          · exact hcl hm f (by omega) hK s hs hS2
        cases z with
        | false =>
          simp (disch := first | omega | assumption | (simp only [O1, World.size_alloc, World.size_setCell, World.size_drew]; first | done | omega)) only [O1, D2, ↓H0, S0, ↓S1, ↓S2, ↓S3, ↓S4, S5, S5b, S5c, ↓S6, S6b, M0, E0, ty, tl, te, tc, i64_wrap, u64_wrap, iaV_sl, iaV_arr, faV_pa, nck_pa, heap_new, heap_old, heap_set, ↓reduceIte, Nat.reduceEqDiff, Nat.reduceLT, Nat.reduceAdd, Int.reduceLT, Int.reduceLE, decide_false, decide_true, dec_true, dec_false, true_and, and_true, true_imp_iff, Bool.not_true, Bool.not_false, Option.map_none, Int.reduceToNat, Int.toNat_zero, Int.toNat_one, lkV_false, lkV_true, f1, f3, f4, f5, f6, f7, f9, f10, f11, hrdF, hceF]
          exact ⟨k3 - 1, by omega, fr + 1, K2, m, by omega, hm1, hm2, hxX, hOX, hkl, hk1, hk3, close (by simp), rfl, rfl⟩
        | true =>
          simp (disch := first | omega | assumption | (simp only [O1, World.size_alloc, World.size_setCell, World.size_drew]; first | done | omega)) only [O1, D2, ↓H0, S0, ↓S1, ↓S2, ↓S3, ↓S4, S5, S5b, S5c, ↓S6, S6b, M0, E0, ty, tl, te, tc, i64_wrap, u64_wrap, iaV_sl, iaV_arr, faV_pa, nck_pa, heap_new, heap_old, heap_set, ↓reduceIte, Nat.reduceEqDiff, Nat.reduceLT, Nat.reduceAdd, Int.reduceLT, Int.reduceLE, decide_false, decide_true, dec_true, dec_false, true_and, and_true, true_imp_iff, Bool.not_true, Bool.not_false, Option.map_none, Int.reduceToNat, Int.toNat_zero, Int.toNat_one, lkV_false, lkV_true, f1, f3, f4, f5, f6, f7, f9, f10, f11, hrdF, hceF]
          refine Br_if (fun q1 => ?_) (fun q1' => ?_) <;> (try simp (disch := first | omega | assumption | (simp only [O1, World.size_alloc, World.size_setCell, World.size_drew]; first | done | omega)) only [O1, D2, ↓H0, S0, ↓S1, ↓S2, ↓S3, ↓S4, S5, S5b, S5c, ↓S6, S6b, M0, E0, ty, tl, te, tc, i64_wrap, u64_wrap, iaV_sl, iaV_arr, faV_pa, nck_pa, heap_new, heap_old, heap_set, ↓reduceIte, Nat.reduceEqDiff, Nat.reduceLT, Nat.reduceAdd, Int.reduceLT, Int.reduceLE, decide_false, decide_true, dec_true, dec_false, true_and, and_true, true_imp_iff, Bool.not_true, Bool.not_false, Option.map_none, Int.reduceToNat, Int.toNat_zero, Int.toNat_one, lkV_false, lkV_true, f1, f3, f4, f5, f6, f7, f9, f10, f11, hrdF, hceF])
          · have hto : to < g.names.length := by omega
            have htl : to < K2.length := by omega
            have hrdT := hOX.rd to htl
            have hceT := hOX.cell to htl
            have hqt : K2[to]? = some K2[to] := List.getElem?_eq_getElem htl
            have hnext : (StepP g.prods fr to → K2[to]? = some true) → m = false → K2[fr]? = some true → ∀ s : Nat, s < to + 1 → StepP g.prods fr s → K2[s]? = some true := fun hh hm hK s hs hS2 => by
              by_cases e : s = to
              · subst e; exact hh hS2
              · exact hcf hm hK s (by omega) hS2
            generalize hz2 : K2[to] = z2 at *
            cases z2 with
            | true =>
              simp (disch := first | omega | assumption | (simp only [O1, World.size_alloc, World.size_setCell, World.size_drew]; first | done | omega)) only [O1, D2, ↓H0, S0, ↓S1, ↓S2, ↓S3, ↓S4, S5, S5b, S5c, ↓S6, S6b, M0, E0, ty, tl, te, tc, i64_wrap, u64_wrap, iaV_sl, iaV_arr, faV_pa, nck_pa, heap_new, heap_old, heap_set, ↓reduceIte, Nat.reduceEqDiff, Nat.reduceLT, Nat.reduceAdd, Int.reduceLT, Int.reduceLE, decide_false, decide_true, dec_true, dec_false, true_and, and_true, true_imp_iff, Bool.not_true, Bool.not_false, Option.map_none, Int.reduceToNat, Int.toNat_zero, Int.toNat_one, lkV_false, lkV_true, f1, f3, f4, f5, f6, f7, f9, f10, f11, hrdF, hceF, hrdT, hceT]
              exact ⟨k4 - 1, by omega, to + 1, K2, m, by omega, hm1, hm2, hxX, hOX, hkl, hk1, hk3, hcl, hnext (fun _ => hqt), rfl, rfl⟩
            | false =>
              have hbX := hxX.hp hbx
              simp (disch := first | omega | assumption | (simp only [O1, World.size_alloc, World.size_setCell, World.size_drew]; first | done | omega)) only [O1, D2, ↓H0, S0, ↓S1, ↓S2, ↓S3, ↓S4, S5, S5b, S5c, ↓S6, S6b, M0, E0, ty, tl, te, tc, i64_wrap, u64_wrap, iaV_sl, iaV_arr, faV_pa, nck_pa, heap_new, heap_old, heap_set, ↓reduceIte, Nat.reduceEqDiff, Nat.reduceLT, Nat.reduceAdd, Int.reduceLT, Int.reduceLE, decide_false, decide_true, dec_true, dec_false, true_and, and_true, true_imp_iff, Bool.not_true, Bool.not_false, Option.map_none, Int.reduceToNat, Int.toNat_zero, Int.toNat_one, lkV_false, lkV_true, f1, f3, f4, f5, f6, f7, f9, f10, f11, hrdF, hceF, hrdT, hceT, hbX, ldA5]
              refine (rstep_ok _ _ g nl fr to X (hgU.ext hxX) hS hs0 (hNU.ext hxX) hTl (by omega)).then ?_
              rintro _ Y ⟨⟨o, rfl, ho⟩, hxY⟩
              cases o with
              | false =>
                simp (disch := first | omega | assumption | (simp only [O1, World.size_alloc, World.size_setCell, World.size_drew]; first | done | omega)) only [O1, D2, ↓H0, S0, ↓S1, ↓S2, ↓S3, ↓S4, S5, S5b, S5c, ↓S6, S6b, M0, E0, ty, tl, te, tc, i64_wrap, u64_wrap, iaV_sl, iaV_arr, faV_pa, nck_pa, heap_new, heap_old, heap_set, ↓reduceIte, Nat.reduceEqDiff, Nat.reduceLT, Nat.reduceAdd, Int.reduceLT, Int.reduceLE, decide_false, decide_true, dec_true, dec_false, true_and, and_true, true_imp_iff, Bool.not_true, Bool.not_false, Option.map_none, Int.reduceToNat, Int.toNat_zero, Int.toNat_one, lkV_false, lkV_true, f1, f3, f4, f5, f6, f7, f9, f10, f11]
                exact ⟨k4 - 1, by omega, to + 1, K2, m, by omega, hm1, hm2, hxX.tr hxY, hOX.ext hxY, hkl, hk1, hk3, hcl, hnext (fun h => by have := ho.2 h; cases this), rfl, rfl⟩
              | true =>
                have hOY := hOX.ext hxY
                have hst := hOY.sto (P := Try.prog) (t := 4) (by simp only [ty]) to htl true rfl
                have hOY2 := hOY.set to true
                have hfs := falses_set hqt
                simp (disch := first | omega | assumption | (simp only [O1, World.size_alloc, World.size_setCell, World.size_drew]; first | done | omega)) only [O1, D2, ↓H0, S0, ↓S1, ↓S2, ↓S3, ↓S4, S5, S5b, S5c, ↓S6, S6b, M0, E0, ty, tl, te, tc, i64_wrap, u64_wrap, iaV_sl, iaV_arr, faV_pa, nck_pa, heap_new, heap_old, heap_set, ↓reduceIte, Nat.reduceEqDiff, Nat.reduceLT, Nat.reduceAdd, Int.reduceLT, Int.reduceLE, decide_false, decide_true, dec_true, dec_false, true_and, and_true, true_imp_iff, Bool.not_true, Bool.not_false, Option.map_none, Int.reduceToNat, Int.toNat_zero, Int.toNat_one, lkV_false, lkV_true, f1, f3, f4, f5, f6, f7, f9, f10, f11, hst]
                have get : ∀ s : Nat, (K2.set to true)[s]? = if to = s then some true else K2[s]? := fun s => by rw [List.getElem?_set]; split <;> simp_all
                refine ⟨k4 - 1, by omega, to + 1, _, true, by omega, fun _ => by omega, by omega, (hxX.tr hxY).st (by omega) _, hOY2, by simpa using hkl, fun s hs hh => ?_, fun s hs hh => ?_, by simp, by simp, rfl, rfl⟩
                · rw [get] at hh
                  by_cases e : to = s
                  · subst e
                    exact .more (hk1 fr hfr hqf) (ho.1 rfl)
                  · rw [if_neg e] at hh; exact hk1 s hs hh
                · rw [get]; split
                  · rfl
                  · exact hk3 s hs hh
          · exact ⟨k3 - 1, by omega, fr + 1, K2, m, by omega, hm1, hm2, hxX, hOX, hkl, hk1, hk3, close (fun h => q1' (by omega)), rfl, rfl⟩
      · have hfn : fr = g.names.length := by omega
        subst hfn
        refine ⟨2 * falses K2 + (if m then 1 else 0), ?_, K2, m, rfl, hxX, hOX, hkl, hk1, hk3, hcl, rfl⟩
        cases m with
        | true => have := hm1 rfl; simp; omega
        | false => simp; omega
  · have hsq := hO.sq
    rw [hl] at hsq
    exact ⟨⟨l, hsq, hl, fun s hs => hli s (by omega)⟩, hxW.tr hx⟩
end Go.Proofs.Ytgioklmpnbnplaa
namespace Go.Proofs.Ytgioklmpnbnplaa
open Go.V

theorem RowW.push2 {w U : World} {bx : Array Value} {B0 G base : Nat} {F : List (List Int)} (h : RowW w U bx B0 G base F) (s : Nat) (hs : s < F.length) (hl : F[s].length < 1000000000000) (x : Int) :
    ∃ u, rd U (some ⟨G, 0, none⟩) s = some u ∧ cellO (U.heap[G]?) s = some u ∧ G ∉ u.ownBlock.toList ∧ (∀ (q T : Nat) (cs : Array Value) (f : Nat × Nat), T ≠ 3 → U.heap[q]? = some (.cells cs T f) → q ∉ u.ownBlock.toList) ∧
      ∀ (rt : TypeId) (K : KV), (∀ v' Y, Keep u.ownBlock.toList (U.alloc (.cells #[IV x] 3)) Y → U.heap.size < Y.heap.size → Ext w Y → (∀ b, b < G → Y.heap[b]? = U.heap[b]?) → stoT Try.prog 23 Y (pa (some ⟨G, 0, none⟩) s) v' = some (Y.setCell ⟨G, s, none⟩ v') → RowW w (Y.setCell ⟨G, s, none⟩ v') bx B0 G base (F.set s (F[s] ++ [x])) →
          (∀ (q : Nat) (o : Obj), (∀ cs f, o ≠ .cells cs 3 f) → (∀ cs f, o ≠ .cells cs 23 f) → U.heap[q]? = some o → Y.heap[q]? = some o ∧ (Y.setCell ⟨G, s, none⟩ v').heap[q]? = some o) → K.out v' Y) →
        @RunA Try.prog #[23, 23] rt #[u, .slice (some ⟨U.heap.size, 0, none⟩) 1 1] (U.alloc (.cells #[IV x] 3)) K := by
  obtain ⟨u, hu, hRu, hug, hput⟩ := h.rows.at (by decide) s hs
  have hu' := hu
  rw [rd_own, Nat.zero_add] at hu'
  have hno : ∀ (q T : Nat) (cs : Array Value) (f : Nat × Nat), T ≠ 3 → U.heap[q]? = some (.cells cs T f) → u.ownBlock ≠ some q := fun q T cs f hT hq => hRu.ne hq hT
  refine ⟨u, hu, hu', by simpa [Option.mem_toList] using hug, fun q T cs f hT hq => by simpa [Option.mem_toList] using hno q T cs f hT hq, fun rt K hK => ?_⟩
  refine RunA_row2 (enc := IV) (x := x) sl23 hRu rfl hl (by omega) h.le ?_
  intro v' Y hR' hg2 hsz hv hg3
  obtain ⟨cs, hY, hcs, hO2, hone⟩ := hput v' Y _ hR' hg2 hv
  have hst := sto_own (P := Try.prog) (T := 23) (w := Y) (g := G) (o := 0) (k := s) (x := v') (by simp only [ty]) hY (by simpa using hcs) hone
  rw [Nat.zero_add] at hst
  have keepq : ∀ (q : Nat) (o : Obj), (∀ cs f, o ≠ .cells cs 3 f) → (∀ cs f, o ≠ .cells cs 23 f) → U.heap[q]? = some o → Y.heap[q]? = some o ∧ (Y.setCell ⟨G, s, none⟩ v').heap[q]? = some o := by
    intro q o ho3 ho23 hq
    have h1 : Y.heap[q]? = some o := (hg2.block q (Array.getElem?_eq_some_iff.1 hq).1 (fun e => by
      obtain ⟨cs, f, hc⟩ := hRu.typed e.symm
      rw [hq] at hc; cases hc; exact ho3 _ _ rfl)).trans hq
    refine ⟨h1, (heap_set _ fun e => ?_).trans h1⟩
    subst e
    obtain ⟨vs, hv1, _⟩ := h.rows
    rw [hq] at hv1; cases hv1; exact ho23 _ _ rfl
  have hxY : Ext w Y := h.ext.grown' hg2 (fun k hk => by have := (hRu.lt k hk).1; have := h.bw; omega)
  have hle := h.le
  exact hK v' Y (Keep.of_grown hg3 fun g hg => by simp [Option.mem_toList, hg]) hsz hxY (fun b hb => hg2.block b (by have := h.rows.lt; omega) fun e => by have := (hRu.lt b e.symm).1; have := h.gb; omega) hst ⟨hxY.st h.gw _, (keepq _ _ (fun _ _ e => by cases e) (fun _ _ e => by cases e) h.box).2, hO2, h.gb, by simp; omega, h.gw, h.bw⟩ keepq
end Go.Proofs.Ytgioklmpnbnplaa
